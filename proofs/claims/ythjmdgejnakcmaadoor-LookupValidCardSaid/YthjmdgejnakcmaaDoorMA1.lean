/- Texts that the claims share: Shelf, ShelfI, Lib, Region, Open, RegionX, RegionZ. -/
import Derived.Shelf.Strings.Builder1
import Derived.Shelf.Small.Bits
import Derived.Shelf.Small.Wraps
import Derived.Shelf.Strings.BuilderF
import Derived.Shelf.Strings.BuilderK
import Derived.Shelf.Strconv.Itoa0
import Derived.Shelf.Strconv.Itoa1
import Derived.Shelf.LaysM
import Derived.Shelf.Strconv.Itoa2
import Derived.Shelf.Strconv.Itoa3
import Derived.Shelf.Strings.Prefix
import Derived.Shelf.Slices.Clone
import Derived.Shelf.Slices.SearchI
import Derived.Shelf.SlicesE.Clone
import Derived.Shelf.SortM.Plain
import Derived.Shelf.SortM.SortNone
import Derived.Test.YthjmdgejnakcmaaDoorProg
import Derived.Shelf.SlIterI.Nil
import Derived.WalkKit
import Derived.Lib.Hide
import Derived.WalkLawsBesides
import Derived.WalkSpells
import Derived.Handy
import Derived.CellFam
import Derived.Orders
import Derived.ProofKit
import Derived.OpenShut
import Derived.ShutString
import Derived.ChangeOld
import Derived.Deep.Slices
import Derived.IntWalk
namespace Go.Proofs
open Go.Shelf
def Tryd.lays169_ren:Go.Shelf.Ren:=⟨fun | 169=>39 | n=>n,fun | 70=>98 | 9=>9 | 0=>0 | 72=>100 | 37=>22 | 127=>115 | 3=>3 | 5=>5 | n=>n,fun | n=>n⟩
theorem Tryd.lays169:Go.Proofs.Lays.n169 Tryd.prog Tryd.lays169_ren:={
 mixed:=by kernel_rfl
 f169:=Tryd.func39.trans (congrArg some (by kernel_rfl))
 t0:=Tryd.underlying0
 a0:=Tryd.isAgg0
 z0:=Tryd.sizeOf0
 v0:=Tryd.zeroValue0
 t3:=Tryd.underlying3
 a3:=Tryd.isAgg3
 z3:=Tryd.sizeOf3
 v3:=Tryd.zeroValue3
 t9:=Tryd.underlying9
 a9:=Tryd.isAgg9
 z9:=Tryd.sizeOf9
 v9:=Tryd.zeroValue9
 t37:=Tryd.underlying22
 a37:=Tryd.isAgg22
 z37:=Tryd.sizeOf22
 v37:=Tryd.zeroValue22
 t70:=Tryd.underlying98
 a70:=Tryd.isAgg98
 z70:=Tryd.sizeOf98
 v70:=Tryd.zeroValue98
 t72:=Tryd.underlying100
 a72:=Tryd.isAgg100
 z72:=Tryd.sizeOf100
 v72:=Tryd.zeroValue100
 t127:=Tryd.underlying115
 a127:=Tryd.isAgg115
 z127:=Tryd.sizeOf115
 v127:=Tryd.zeroValue115 }
theorem Tryd.Builder_Extra_169:Builder.Extra Tryd.prog Tryd.lays169_ren:={
 sizeBuilder:=by kernel_rfl
 liesBuilder:=by kernel_rfl
 t5:=Tryd.underlying5
 a5:=Tryd.isAgg5
 z5:=Tryd.sizeOf5
 v5:=Tryd.zeroValue5
 infoByte:=by kernel_rfl
 cellsByte:=by kernel_rfl
 sizeByte:=by kernel_rfl
 neB5:=by decide }
def Tryd.lays214_ren:Go.Shelf.Ren:=⟨fun | 214=>49 | n=>n,fun | 4=>4 | 9=>9 | n=>n,fun | n=>n⟩
def Tryd.lays121_ren:Go.Shelf.Ren:=⟨fun | 121=>37 | 214=>49 | n=>n,fun | 4=>4 | 9=>9 | n=>n,fun | n=>n⟩
theorem Tryd.lays121:Go.Proofs.Lays.n121 Tryd.prog Tryd.lays121_ren:={
 mixed:=by kernel_rfl
 f121:=Tryd.func37.trans (congrArg some (by kernel_rfl))
 f214:=Tryd.func49.trans (congrArg some (by kernel_rfl))
 t4:=Tryd.underlying4
 a4:=Tryd.isAgg4
 z4:=Tryd.sizeOf4
 v4:=Tryd.zeroValue4
 t9:=Tryd.underlying9
 a9:=Tryd.isAgg9
 z9:=Tryd.sizeOf9
 v9:=Tryd.zeroValue9 }
open Go.RowKit in
theorem Tryd.strconv_FormatBool (b:Bool) (w:World) :
  Calls Tryd.prog 37 #[.bool b] w fun e w'=>e=.returned (.string ⟨(Lib.formatBool b).toArray⟩)∧w'=w:=Any.strconv_FormatBool Tryd.lays121 b w
open Go.RowKit in
theorem Tryd.Builder_String_any_k (B b:Nat) (l:List UInt8) (w:World) (h:Lib.IsBuilderF 100 5 B b (Lib.byteCells l) w) (hBw:B≤w.heap.size) :
  Calls Tryd.prog 39 #[.pointer (some ⟨b,0,none⟩)] w fun e w'=>e=.returned (.string ⟨l.toArray⟩)∧(Lib.IsBuilderF 100 5 B b (Lib.byteCells l) w'∧Below B w w'∧Lib.OthersKept 5 (some b) w w'):=Any.Builder_String_any_k Tryd.lays169 Tryd.Builder_Extra_169 B b l w h hBw
def Tryd.laysM246_ren:Go.Shelf.Ren:=⟨fun | 246=>58 | 283=>72 | 284=>73 | 285=>74 | 286=>75 | 129=>71 | 317=>82 | 318=>83 | 319=>84 | 320=>85 | 337=>87 | 338=>88 | n=>n,fun | 2=>2 | 3=>3 | 9=>9 | 4=>4 | 171=>142 | 0=>0 | 53=>141 | 37=>22 | 5=>5 | 173=>144 | 212=>153 | 51=>139 | 20=>20 | 213=>154 | 46=>124 | 232=>158 | 233=>159 | n=>n,fun | 17=>0 | 18=>1 | 19=>2 | n=>n⟩
def Tryd.laysM243_ren:Go.Shelf.Ren:=⟨fun | 243=>50 | 246=>58 | 283=>72 | 284=>73 | 285=>74 | 286=>75 | 129=>71 | 317=>82 | 318=>83 | 319=>84 | 320=>85 | 337=>87 | 338=>88 | n=>n,fun | 3=>3 | 9=>9 | 2=>2 | 4=>4 | 171=>142 | 0=>0 | 53=>141 | 37=>22 | 5=>5 | 173=>144 | 212=>153 | 51=>139 | 20=>20 | 213=>154 | 46=>124 | 232=>158 | 233=>159 | n=>n,fun | 17=>0 | 18=>1 | 19=>2 | n=>n⟩
def Tryd.laysM171_ren:Go.Shelf.Ren:=⟨fun | 171=>38 | 243=>50 | 246=>58 | 283=>72 | 284=>73 | 285=>74 | 286=>75 | 129=>71 | 317=>82 | 318=>83 | 319=>84 | 320=>85 | 337=>87 | 338=>88 | n=>n,fun | 3=>3 | 9=>9 | 2=>2 | 4=>4 | 171=>142 | 0=>0 | 53=>141 | 37=>22 | 5=>5 | 173=>144 | 212=>153 | 51=>139 | 20=>20 | 213=>154 | 46=>124 | 232=>158 | 233=>159 | n=>n,fun | 17=>0 | 18=>1 | 19=>2 | n=>n⟩
theorem Tryd.laysM171:Go.Proofs.LaysM.n171 Tryd.prog Tryd.laysM171_ren:={
 mixed:=by kernel_rfl
 f129:=Tryd.func71.trans (congrArg some (by kernel_rfl))
 f171:=Tryd.func38.trans (congrArg some (by kernel_rfl))
 f243:=Tryd.func50.trans (congrArg some (by kernel_rfl))
 f246:=Tryd.func58.trans (congrArg some (by kernel_rfl))
 f283:=Tryd.func72.trans (congrArg some (by kernel_rfl))
 f284:=Tryd.func73.trans (congrArg some (by kernel_rfl))
 f285:=Tryd.func74.trans (congrArg some (by kernel_rfl))
 f286:=Tryd.func75.trans (congrArg some (by kernel_rfl))
 f317:=Tryd.func82.trans (congrArg some (by kernel_rfl))
 f318:=Tryd.func83.trans (congrArg some (by kernel_rfl))
 f319:=Tryd.func84.trans (congrArg some (by kernel_rfl))
 f320:=Tryd.func85.trans (congrArg some (by kernel_rfl))
 f337:=Tryd.func87.trans (congrArg some (by kernel_rfl))
 f338:=Tryd.func88.trans (congrArg some (by kernel_rfl))
 t0:=Tryd.underlying0
 a0:=Tryd.isAgg0
 z0:=Tryd.sizeOf0
 v0:=Tryd.zeroValue0
 t2:=Tryd.underlying2
 a2:=Tryd.isAgg2
 z2:=Tryd.sizeOf2
 v2:=Tryd.zeroValue2
 t3:=Tryd.underlying3
 a3:=Tryd.isAgg3
 z3:=Tryd.sizeOf3
 v3:=Tryd.zeroValue3
 t4:=Tryd.underlying4
 a4:=Tryd.isAgg4
 z4:=Tryd.sizeOf4
 v4:=Tryd.zeroValue4
 t5:=Tryd.underlying5
 a5:=Tryd.isAgg5
 z5:=Tryd.sizeOf5
 v5:=Tryd.zeroValue5
 t9:=Tryd.underlying9
 a9:=Tryd.isAgg9
 z9:=Tryd.sizeOf9
 v9:=Tryd.zeroValue9
 t20:=Tryd.underlying20
 a20:=Tryd.isAgg20
 z20:=Tryd.sizeOf20
 v20:=Tryd.zeroValue20
 t37:=Tryd.underlying22
 a37:=Tryd.isAgg22
 z37:=Tryd.sizeOf22
 v37:=Tryd.zeroValue22
 t46:=Tryd.underlying124
 a46:=Tryd.isAgg124
 z46:=Tryd.sizeOf124
 v46:=Tryd.zeroValue124
 t51:=Tryd.underlying139
 a51:=Tryd.isAgg139
 z51:=Tryd.sizeOf139
 v51:=Tryd.zeroValue139
 t53:=Tryd.underlying141
 a53:=Tryd.isAgg141
 z53:=Tryd.sizeOf141
 v53:=Tryd.zeroValue141
 t171:=Tryd.underlying142
 a171:=Tryd.isAgg142
 z171:=Tryd.sizeOf142
 v171:=Tryd.zeroValue142
 t173:=Tryd.underlying144
 a173:=Tryd.isAgg144
 z173:=Tryd.sizeOf144
 v173:=Tryd.zeroValue144
 t212:=Tryd.underlying153
 a212:=Tryd.isAgg153
 z212:=Tryd.sizeOf153
 v212:=Tryd.zeroValue153
 t213:=Tryd.underlying154
 a213:=Tryd.isAgg154
 z213:=Tryd.sizeOf154
 t232:=Tryd.underlying158
 a232:=Tryd.isAgg158
 z232:=Tryd.sizeOf158
 v232:=Tryd.zeroValue158
 t233:=Tryd.underlying159
 a233:=Tryd.isAgg159
 z233:=Tryd.sizeOf159
 v233:=Tryd.zeroValue159
 g17:=by kernel_rfl
 g18:=by kernel_rfl
 g19:=by kernel_rfl
 i0:=by kernel_rfl
 i2:=by kernel_rfl
 i3:=by kernel_rfl
 i4:=by kernel_rfl
 i5:=by kernel_rfl
 i9:=by kernel_rfl
 i20:=by kernel_rfl
 i37:=by kernel_rfl
 i46:=by kernel_rfl
 i51:=by kernel_rfl
 i53:=by kernel_rfl
 i171:=by kernel_rfl
 i173:=by kernel_rfl
 i212:=by kernel_rfl
 i232:=by kernel_rfl
 i233:=by kernel_rfl
 m17:=by kernel_rfl
 m18:=by kernel_rfl
 m19:=by kernel_rfl }
open Go.RowKit Go.Sort Go.Lib in
theorem Tryd.strconv_Itoa (n:Int) (h0:-9223372036854775808≤n) (h1:n≤9223372036854775807) (w:World) (htab:Lib.TabIs Tryd.prog w "internal/strconv.uint64pow10" .u64 Lib.pow10Tab) :
  Calls Tryd.prog 38 #[.int .i64 n] w fun e w'=>e=.returned (.string ⟨(Lib.itoa n).toArray⟩)∧∃ k os,w'=grow (w.drewN k) os:=Any.strconv_Itoa Tryd.laysM171 n h0 h1 w htab
end Go.Proofs
namespace Go.Proofs
open Go.Shelf
def Tryd.keysA_ren:Go.Shelf.Ren:=⟨fun | 7=>34 | 10=>46 | n=>n,fun | 23=>75 | 26=>3 | 3=>3 | 28=>96 | 0=>0 | 27=>95 | 33=>113 | 4=>4 | n=>n,fun | n=>n⟩
theorem Tryd.keysA:Go.Proofs.SlLaysZI.n7 Tryd.prog Tryd.keysA_ren:={
 mixed:=by kernel_rfl
 f7:=⟨Tryd.f34.name,by decide,Tryd.func34.trans (congrArg some (by kernel_rfl))⟩
 f10:=⟨Tryd.f46.name,by decide,Tryd.func46.trans (congrArg some (by kernel_rfl))⟩
 t0:=Tryd.underlying0
 a0:=Tryd.isAgg0
 z0:=Tryd.sizeOf0
 v0:=Tryd.zeroValue0
 t4:=Tryd.underlying4
 a4:=Tryd.isAgg4
 z4:=Tryd.sizeOf4
 v4:=Tryd.zeroValue4
 t23:=Tryd.underlying75
 a23:=Tryd.isAgg75
 z23:=Tryd.sizeOf75
 v23:=Tryd.zeroValue75
 t26:=Tryd.underlying3
 a26:=Tryd.isAgg3
 z26:=Tryd.sizeOf3
 v26:=Tryd.zeroValue3
 t27:=Tryd.underlying95
 a27:=Tryd.isAgg95
 z27:=Tryd.sizeOf95
 v27:=Tryd.zeroValue95
 t28:=Tryd.underlying96
 a28:=Tryd.isAgg96
 z28:=Tryd.sizeOf96
 v28:=Tryd.zeroValue96
 t33:=Tryd.underlying113
 a33:=Tryd.isAgg113
 z33:=Tryd.sizeOf113
 v33:=Tryd.zeroValue113 }
def Tryd.sortedA_ren:Go.Shelf.Ren:=⟨fun | 6=>33 | 8=>44 | 9=>45 | 11=>54 | 13=>56 | 12=>55 | 23=>70 | 24=>71 | 14=>61 | 15=>62 | 16=>63 | 17=>64 | 18=>65 | 19=>66 | 20=>67 | 21=>68 | 22=>69 | 25=>76 | 26=>77 | 27=>78 | 28=>79 | 29=>80 | 30=>81 | 31=>86 | n=>n,fun | 26=>3 | 28=>96 | 24=>93 | 0=>0 | 3=>3 | 37=>124 | 48=>139 | 50=>141 | 4=>4 | 40=>132 | 39=>131 | 45=>74 | 5=>5 | 9=>9 | 51=>146 | 55=>150 | 57=>155 | 58=>156 | 33=>113 | n=>n,fun | n=>n⟩
theorem Tryd.sortedA:Go.Proofs.SlLaysZI.n6 Tryd.prog Tryd.sortedA_ren:={
 mixed:=by kernel_rfl
 f6:=⟨Tryd.f33.name,by decide,Tryd.func33.trans (congrArg some (by kernel_rfl))⟩
 f8:=⟨Tryd.f44.name,by decide,Tryd.func44.trans (congrArg some (by kernel_rfl))⟩
 f11:=⟨Tryd.f54.name,by decide,Tryd.func54.trans (congrArg some (by kernel_rfl))⟩
 t0:=Tryd.underlying0
 a0:=Tryd.isAgg0
 z0:=Tryd.sizeOf0
 v0:=Tryd.zeroValue0
 t24:=Tryd.underlying93
 a24:=Tryd.isAgg93
 z24:=Tryd.sizeOf93
 v24:=Tryd.zeroValue93
 t26:=Tryd.underlying3
 a26:=Tryd.isAgg3
 z26:=Tryd.sizeOf3
 v26:=Tryd.zeroValue3
 t28:=Tryd.underlying96
 a28:=Tryd.isAgg96
 z28:=Tryd.sizeOf96
 v28:=Tryd.zeroValue96
 i26:=by kernel_rfl }
def Tryd.sortA_ren:Go.Shelf.Ren:=⟨fun | 5=>45 | 8=>56 | 7=>55 | 19=>70 | 20=>71 | 10=>61 | 11=>62 | 12=>63 | 13=>64 | 14=>65 | 15=>66 | 16=>67 | 17=>68 | 18=>69 | 30=>76 | 31=>77 | 32=>78 | 33=>79 | 34=>80 | 35=>81 | 40=>86 | n=>n,fun | 23=>93 | 25=>3 | 3=>3 | 32=>124 | 22=>93 | 0=>0 | 44=>139 | 46=>141 | 4=>4 | 36=>132 | 35=>131 | 41=>74 | 5=>5 | 9=>9 | 53=>146 | 57=>150 | 63=>155 | 64=>156 | n=>n,fun | n=>n⟩
theorem Tryd.sortA:Go.Proofs.SlLaysM.n5 Tryd.prog Tryd.sortA_ren:={
 mixed:=by kernel_rfl
 f5:=⟨Tryd.f45.name,by decide,Tryd.func45.trans (congrArg some (by kernel_rfl))⟩
 f7:=⟨Tryd.f55.name,by decide,Tryd.func55.trans (congrArg some (by kernel_rfl))⟩
 f8:=Tryd.func56.trans (congrArg some (by kernel_rfl))
 f10:=⟨Tryd.f61.name,by decide,Tryd.func61.trans (congrArg some (by kernel_rfl))⟩
 f11:=⟨Tryd.f62.name,by decide,Tryd.func62.trans (congrArg some (by kernel_rfl))⟩
 f12:=⟨Tryd.f63.name,by decide,Tryd.func63.trans (congrArg some (by kernel_rfl))⟩
 f13:=⟨Tryd.f64.name,by decide,Tryd.func64.trans (congrArg some (by kernel_rfl))⟩
 f14:=⟨Tryd.f65.name,by decide,Tryd.func65.trans (congrArg some (by kernel_rfl))⟩
 f15:=⟨Tryd.f66.name,by decide,Tryd.func66.trans (congrArg some (by kernel_rfl))⟩
 f16:=⟨Tryd.f67.name,by decide,Tryd.func67.trans (congrArg some (by kernel_rfl))⟩
 f17:=⟨Tryd.f68.name,by decide,Tryd.func68.trans (congrArg some (by kernel_rfl))⟩
 f18:=⟨Tryd.f69.name,by decide,Tryd.func69.trans (congrArg some (by kernel_rfl))⟩
 f19:=Tryd.func70.trans (congrArg some (by kernel_rfl))
 f20:=Tryd.func71.trans (congrArg some (by kernel_rfl))
 f30:=⟨Tryd.f76.name,by decide,Tryd.func76.trans (congrArg some (by kernel_rfl))⟩
 f31:=Tryd.func77.trans (congrArg some (by kernel_rfl))
 f32:=Tryd.func78.trans (congrArg some (by kernel_rfl))
 f33:=⟨Tryd.f79.name,by decide,Tryd.func79.trans (congrArg some (by kernel_rfl))⟩
 f34:=⟨Tryd.f80.name,by decide,Tryd.func80.trans (congrArg some (by kernel_rfl))⟩
 f35:=⟨Tryd.f81.name,by decide,Tryd.func81.trans (congrArg some (by kernel_rfl))⟩
 f40:=⟨Tryd.f86.name,by decide,Tryd.func86.trans (congrArg some (by kernel_rfl))⟩
 t0:=Tryd.underlying0
 a0:=Tryd.isAgg0
 z0:=Tryd.sizeOf0
 v0:=Tryd.zeroValue0
 t3:=Tryd.underlying3
 a3:=Tryd.isAgg3
 z3:=Tryd.sizeOf3
 v3:=Tryd.zeroValue3
 t4:=Tryd.underlying4
 a4:=Tryd.isAgg4
 z4:=Tryd.sizeOf4
 v4:=Tryd.zeroValue4
 t5:=Tryd.underlying5
 a5:=Tryd.isAgg5
 z5:=Tryd.sizeOf5
 v5:=Tryd.zeroValue5
 t9:=Tryd.underlying9
 a9:=Tryd.isAgg9
 z9:=Tryd.sizeOf9
 v9:=Tryd.zeroValue9
 t22:=Tryd.underlying93
 a22:=Tryd.isAgg93
 z22:=Tryd.sizeOf93
 v22:=Tryd.zeroValue93
 t23:=Tryd.underlying93
 a23:=Tryd.isAgg93
 z23:=Tryd.sizeOf93
 v23:=Tryd.zeroValue93
 t25:=Tryd.underlying3
 a25:=Tryd.isAgg3
 z25:=Tryd.sizeOf3
 v25:=Tryd.zeroValue3
 t32:=Tryd.underlying124
 a32:=Tryd.isAgg124
 z32:=Tryd.sizeOf124
 v32:=Tryd.zeroValue124
 t35:=Tryd.underlying131
 a35:=Tryd.isAgg131
 z35:=Tryd.sizeOf131
 v35:=Tryd.zeroValue131
 t36:=Tryd.underlying132
 a36:=Tryd.isAgg132
 z36:=Tryd.sizeOf132
 v36:=Tryd.zeroValue132
 t41:=Tryd.underlying74
 a41:=Tryd.isAgg74
 z41:=Tryd.sizeOf74
 v41:=Tryd.zeroValue74
 t44:=Tryd.underlying139
 a44:=Tryd.isAgg139
 z44:=Tryd.sizeOf139
 v44:=Tryd.zeroValue139
 t46:=Tryd.underlying141
 a46:=Tryd.isAgg141
 z46:=Tryd.sizeOf141
 v46:=Tryd.zeroValue141
 t53:=Tryd.underlying146
 a53:=Tryd.isAgg146
 z53:=Tryd.sizeOf146
 v53:=Tryd.zeroValue146
 t57:=Tryd.underlying150
 a57:=Tryd.isAgg150
 z57:=Tryd.sizeOf150
 v57:=Tryd.zeroValue150
 t63:=Tryd.underlying155
 a63:=Tryd.isAgg155
 z63:=Tryd.sizeOf155
 v63:=Tryd.zeroValue155
 t64:=Tryd.underlying156
 a64:=Tryd.isAgg156
 z64:=Tryd.sizeOf156
 v64:=Tryd.zeroValue156 }
end Go.Proofs
namespace Go.Proofs.YthjmdgejnakcmaaDoor
set_option linter.unusedVariables false
set_option linter.unusedSimpArgs false
open Go.RowKit
theorem lt_of_addr {n N:Nat} (h:(⟨n+1 - N,0,none⟩:Addr)=⟨0,0,none⟩):n<N:=by
 have:=congrArg Addr.block h;simp only at this;omega
@[go_sem] theorem cell_past1 (w:World) (o:Obj) (n i:Nat) (hn:(⟨n+1 - w.heap.size,0,none⟩:Addr)=⟨0,0,none⟩):(w.alloc o).cell? ⟨n,i,none⟩=w.cell? ⟨n,i,none⟩ :=
 World.cell?_alloc_past o n i (lt_of_addr hn)
theorem ret_int {k:IntKind} {a b:Int} (h:a=b):Ending.returned (.int k a)=.returned (.int k b):=by rw [h]
theorem ret_bool {a b:Bool} (h:a=b):Ending.returned (.bool a)=.returned (.bool b):=by rw [h]
end Go.Proofs.YthjmdgejnakcmaaDoor
namespace Go.Proofs.YthjmdgejnakcmaaDoor
open Go.RowKit
set_option linter.unusedVariables false
set_option linter.unusedSimpArgs false
def Ext (w w':World):Prop:=Below w.heap.size w w'
theorem Ext.refl (w:World):Ext w w:=Below.refl _ _
theorem Ext.trans {a b c:World} (h:Ext a b) (h2:Ext b c):Ext a c:=Below.trans h (h2.mono h.size)
def cntU:Nat→(Nat→Bool)→Nat
 | 0,_=>0
 | n+1,f=>cntU n f+if f n then 0 else 1
theorem cntU_le (f:Nat→Bool):∀ n,cntU n f≤n
 | 0=>Nat.le_refl _
 | n+1=>by have:=cntU_le f n;simp only [cntU];split <;> omega
theorem cntU_mono {f g:Nat→Bool} (h:∀ i,f i=true→g i=true):∀ n,cntU n g≤cntU n f
 | 0=>Nat.le_refl _
 | n+1=>by
  have:=cntU_mono h n
  simp only [cntU]
  cases hf:f n with
  | false=>split <;> simp <;> omega
  | true=>rw [h n hf];simp;exact this
theorem cntU_lt {f g:Nat→Bool} (h:∀ i,f i=true→g i=true) {j:Nat} (hj:g j=true) (hf:f j=false):∀ n,j<n→cntU n g<cntU n f
 | n
   + 1,hn=>by
  simp only [cntU]
  by_cases e:j=n
  ·
   subst e
   have:=cntU_mono h j
   rw [hj,hf];simp;omega
  ·
   have:=cntU_lt h hj hf n (by omega)
   cases hfn:f n with
   | false=>split <;> simp <;> omega
   | true=>rw [h n hfn];simp;exact this
theorem cntU_zero {f:Nat→Bool}:∀ {n:Nat},cntU n f=0→∀ i,i<n→f i=true
 | n
   + 1,h,i,hi=>by
  simp only [cntU] at h
  by_cases e:i=n
  ·
   subst e;cases hf:f i with
   | true=>rfl
   | false=>rw [hf] at h;simp at h
  · exact cntU_zero (n:=n) (by omega) i (by omega)
section
variable (P:Program) (ops:Array Oper) (V:Nat→Value→World→Prop) (S:World→Prop) (a0:Act)
def
  rvOk (n:Nat):Bool :=
 (List.range ops.size).all fun i=>match ops[i]? with
  | none=>true
  | some o=>(match o.dst with
   | none=>false
   | some d=>decide (d<n) && (List.range ops.size).all fun j=>decide (i=j) || (match ops[j]? with | some o'=>o'.dst != some d | none=>true)) &&
   o.after.all fun e=>!Region.binds .any e || decide (e.on<i)
def OpRes (a:Act) (o:Oper) (w:World) (R:Value→World→Prop):Prop :=
 (∃ v w',(execOp a.eval o).run P w=.ok (.value v) w'∧R v w') ∨
 (∃ f args w',(execOp a.eval o).run P w=.ok (.enter f args) w'∧Calls P f args w' (fun e w''=>∃ v,e=.returned v∧R v w''))
def slotOf (a:Act) (j:Nat):Value:=match ops[j]? with | some o=>(match o.dst with | some d=>a.tmps.getD d undef | none=>undef) | none=>undef
def OpOk (i:Nat) (o:Oper):Prop:=∀ a w,a.tmps.size=a0.tmps.size→S w →
 (∀ e∈o.after,Region.binds .any e=true→V e.on (slotOf ops a e.on) w) →
 (∀ t,(ops.all fun o'=>o'.dst != some t)=true→a.tmps.getD t undef=a0.tmps.getD t undef) →
 (Region.wanted o (yielded ops a.tmps)=true→OpRes P a o w (fun v w'=>V i v w'∧Ext w w'))∧(Region.wanted o (yielded ops a.tmps)=false→V i undef w)
structure RvAt (listed:Array Bool) (a:Act) (w:World):Prop where
 ls:listed.size=ops.size
 size:a.tmps.size=a0.tmps.size
 df:a.defers=a0.defers
 s:S w
 done:∀ i,i<ops.size→listed.getD i true=true→V i (slotOf ops a i) w
 base:∀ t,(ops.all fun o'=>o'.dst != some t)=true→a.tmps.getD t undef=a0.tmps.getD t undef
end
section
variable {P:Program} {ops:Array Oper} {V:Nat→Value→World→Prop} {S:World→Prop} {a0:Act} {Q:Exit→Act→World→Prop}
theorem rvOk_at {n:Nat} (h:rvOk ops n=true) {i:Nat} {o:Oper} (ho:ops[i]? = some o):∃ d,o.dst=some d∧d<n∧(∀ j o',ops[j]? = some o'→i≠j→o'.dst≠some d)∧∀ e∈o.after,Region.binds .any e=true→e.on<i:=by
 have hi:i<ops.size:=(Array.getElem?_eq_some_iff.1 ho).1
 unfold rvOk at h
 rw [List.all_eq_true] at h
 have h1:=h i (by simpa using hi)
 rw [ho] at h1
 simp only [Bool.and_eq_true] at h1
 obtain ⟨h2,h3⟩:=h1
 cases hd:o.dst with
 | none=>rw [hd] at h2;cases h2
 | some d =>
  rw [hd] at h2
  simp only [Bool.and_eq_true,decide_eq_true_eq,List.all_eq_true] at h2
  refine ⟨d,rfl,h2.1,fun j o' hj hne=>?_,fun e he hb=>?_⟩
  ·
   have hjs:j<ops.size:=(Array.getElem?_eq_some_iff.1 hj).1
   have:=h2.2 j (by simpa using hjs)
   rw [hj] at this
   simp only [Bool.or_eq_true,decide_eq_true_eq,bne_iff_ne] at this
   exact this.resolve_left hne
  ·
   rw [Array.all_eq_true'] at h3
   have:=h3 e he
   rw [hb] at this
   simpa using this
theorem ready_mem {md:Region.Mode} {listed:Array Bool} {i:Nat}:i∈Region.ready md ops listed↔i<ops.size∧listed.getD i true=false∧∃ o,ops[i]? = some o∧∀ e∈o.after,Region.binds md e=true→listed.getD e.on false=true:=by
 unfold Region.ready
 rw [List.mem_filter,List.mem_range]
 constructor
 ·
  rintro ⟨hi,h⟩
  simp only [Bool.and_eq_true,Bool.not_eq_true'] at h
  refine ⟨hi,h.1,?_⟩
  cases ho:ops[i]? with
  | none=>rw [ho] at h;simp at h
  | some o =>
   rw [ho] at h
   refine ⟨o,rfl,fun e he hb=>?_⟩
   have h2:=h.2
   simp only [Option.map_some,Option.getD_some,Array.all_eq_true',Bool.or_eq_true,Bool.not_eq_true'] at h2
   rcases h2 e he with h3 | h3
   · rw [hb] at h3;cases h3
   · exact h3
 ·
  rintro ⟨hi,h1,o,ho,h2⟩
  refine ⟨hi,?_⟩
  simp only [Bool.and_eq_true,Bool.not_eq_true']
  refine ⟨h1,?_⟩
  rw [ho]
  simp only [Option.map_some,Option.getD_some,Array.all_eq_true',Bool.or_eq_true,Bool.not_eq_true']
  intro e he
  cases hb:Region.binds md e with
  | false=>exact .inl rfl
  | true=>exact .inr (h2 e he hb)
theorem
    all_done {n:Nat} (hok:rvOk ops n=true) {listed:Array Bool} (hl:listed.size=ops.size) (h:Region.ready .any ops listed=[]):∀ i,i<ops.size→listed.getD i true=true:=by
 intro i
 induction i using Nat.strongRecOn with
 | _
   i
    ih =>
  intro hi
  cases hb:listed.getD i true with
  | true=>rfl
  | false =>
   have ho:ops[i]? = some ops[i]:=Array.getElem?_eq_getElem hi
   obtain ⟨d,hd,_,_,hdep⟩:=rvOk_at hok ho
   have:i∈Region.ready .any ops listed:=ready_mem.2 ⟨hi,hb,_,ho,fun e he hbe=>by
    have h1:=hdep e he hbe
    have h2:=ih e.on h1 (by omega)
    rw [Array.getD_eq_getD_getElem?,Array.getElem?_eq_getElem (by omega)] at h2 ⊢
    exact h2⟩
   rw [h] at this;cases this
theorem getD_set_self {listed:Array Bool} {i:Nat} (h:i<listed.size):(listed.setIfInBounds i true).getD i true=true:=by
 rw [Array.getD_eq_getD_getElem?,Array.getElem?_setIfInBounds_self];simp [h]
theorem getD_set_ne {listed:Array Bool} {i j:Nat} (h:i≠j):(listed.setIfInBounds i true).getD j true=listed.getD j true:=by
 rw [Array.getD_eq_getD_getElem?,Array.getElem?_setIfInBounds_ne h,← Array.getD_eq_getD_getElem?]
theorem
    rvAt_put (hVx:∀ i v w w',V i v w→Ext w w'→V i v w') (hSx:∀ w w',S w→Ext w w'→S w') {n:Nat} (hok:rvOk ops n=true) (hn:a0.tmps.size=n) {listed:Array Bool} {a:Act} {w w':World} {i:Nat} {o:Oper} {v:Value}
  (h:RvAt ops V S a0 listed a w) (ho:ops[i]? = some o) (hv:V i v w') (hx:Ext w w'):RvAt ops V S a0 (listed.setIfInBounds i true) (a.put o.dst v) w':=by
 obtain ⟨d,hd,hdn,huniq,hdep⟩:=rvOk_at hok ho
 have hi:i<ops.size:=(Array.getElem?_eq_some_iff.1 ho).1
 have hput:a.put o.dst v={ a with tmps:=a.tmps.setIfInBounds d v }:=by rw [hd];rfl
 rw [hput]
 refine ⟨by simp [h.ls],by simp [h.size],h.df,hSx _ _ h.s hx,fun j hj hl=>?_,fun t ht=>?_⟩
 ·
  by_cases e:i=j
  ·
   subst e
   have:slotOf ops { a with tmps:=a.tmps.setIfInBounds d v } i=v:=by
    unfold slotOf
    rw [ho];simp only [hd]
    rw [Array.getD_eq_getD_getElem?,Array.getElem?_setIfInBounds_self,if_pos (by rw [h.size,hn];exact hdn)];rfl
   rw [this];exact hv
  ·
   rw [getD_set_ne e] at hl
   have:slotOf ops { a with tmps:=a.tmps.setIfInBounds d v } j=slotOf ops a j:=by
    unfold slotOf
    cases hoj:ops[j]? with
    | none=>rfl
    | some o' =>
     simp only
     cases hdj:o'.dst with
     | none=>rfl
     | some d' =>
      simp only
      have hne:d≠d':=fun e2=>huniq j o' hoj e (by rw [hdj,e2])
      rw [Array.getD_eq_getD_getElem?,Array.getElem?_setIfInBounds_ne hne,← Array.getD_eq_getD_getElem?]
   rw [this]
   exact hVx _ _ _ _ (h.done j hj hl) hx
 ·
  have hne:d≠t:=fun e=>by
   rw [Array.all_eq_true'] at ht
   have:=ht o (Array.mem_of_getElem? ho)
   rw [hd,e] at this;simp at this
  show (a.tmps.setIfInBounds d v).getD t undef=_
  rw [Array.getD_eq_getD_getElem?,Array.getElem?_setIfInBounds_ne hne,← Array.getD_eq_getD_getElem?]
  exact h.base t ht
theorem
    rv_any (hVx:∀ i v w w',V i v w→Ext w w'→V i v w') (hSx:∀ w w',S w→Ext w w'→S w') {n:Nat} (hok:rvOk ops n=true) (hn:a0.tmps.size=n)
  (hop:∀ i o,ops[i]? = some o→OpOk P ops V S a0 i o)
  (hfin:∀ a w,a.tmps.size=a0.tmps.size→a.defers=a0.defers→S w→(∀ i,i<ops.size→V i (slotOf ops a i) w)→(∀ t,(ops.all fun o'=>o'.dst != some t)=true→a.tmps.getD t undef=a0.tmps.getD t undef)→Q .normal a w) :
  ∀ (fuel:Nat) (listed:Array Bool) (a:Act) (w:World),RvAt ops V S a0 listed a w→cntU ops.size (fun i=>listed.getD i true)≤fuel→wpAny P .any ops Q fuel listed a w:=by
 have fin:∀ listed a w,RvAt ops V S a0 listed a w→Region.ready .any ops listed=[]→Q .normal a w:=fun listed a w h hr =>
  hfin a w h.size h.df h.s (fun i hi=>h.done i hi (all_done hok h.ls hr i hi)) h.base
 intro fuel
 induction fuel with
 | zero =>
  intro listed a w h hc
  have hall:=cntU_zero (f:=fun i=>listed.getD i true) (Nat.le_zero.1 hc)
  have hr:Region.ready .any ops listed=[]:=by
   rw [List.eq_nil_iff_forall_not_mem]
   intro i hi
   obtain ⟨h1,h2,_⟩:=ready_mem.1 hi
   rw [hall i h1] at h2;cases h2
  exact ⟨hr,fin _ _ _ h hr⟩
 | succ fuel ih =>
  intro listed a w h hc
  refine ⟨fin _ _ _ h,fun i hi=>?_⟩
  obtain ⟨h1,h2,o,ho,h3⟩:=ready_mem.1 hi
  have hlt:cntU ops.size (fun j=>(listed.setIfInBounds i true).getD j true)≤fuel:=by
   have:=cntU_lt (f:=fun j=>listed.getD j true) (g:=fun j=>(listed.setIfInBounds i true).getD j true) (fun j hj=>by
    by_cases e:i=j
    · subst e;exact getD_set_self (by rw [h.ls];exact h1)
    ·
     show (listed.setIfInBounds i true).getD j true=true
     rw [getD_set_ne e];exact hj) (j:=i) (getD_set_self (by rw [h.ls];exact h1)) h2 ops.size h1
   omega
  have hO:=hop i o ho a w h.size h.s (fun e he hb=>by
   have hb2:=h3 e he hb
   obtain ⟨d,hd,_,_,hdep⟩:=rvOk_at hok ho
   have hlt2:=hdep e he hb
   refine h.done e.on (by omega) ?_
   rw [Array.getD_eq_getD_getElem?,Array.getElem?_eq_getElem (by rw [h.ls];omega)] at hb2 ⊢
   exact hb2) h.base
  unfold wpOp
  rw [ho]
  simp only
  cases hw:Region.wanted o (yielded ops a.tmps) with
  | false =>
   rw [if_neg (by simp)]
   exact ih _ _ _ (rvAt_put hVx hSx hok hn h ho (hO.2 hw) (Ext.refl _)) hlt
  | true =>
   rw [if_pos rfl]
   refine .inl ?_
   rcases hO.1 hw with ⟨v,w',hr,hv,hx⟩ | ⟨f,args,w',hr,hC⟩
   ·
    unfold Oper.wp
    rw [hr]
    exact ih _ _ _ (rvAt_put hVx hSx hok hn h ho hv hx) hlt
   ·
    unfold Oper.wp
    rw [hr]
    refine hC.mono ?_
    rintro e w'' ⟨v,rfl,hv,hx⟩
    exact ih _ _ _ (rvAt_put hVx hSx hok hn h ho hv hx) hlt
def OpsOk (P:Program) (ops:Array Oper) (V:Nat→Value→World→Prop) (S:World→Prop) (a0:Act):Nat→List Oper→Prop
 | _,[]=>True
 | i,o :: l=>OpOk P ops V S a0 i o∧OpsOk P ops V S a0 (i+1) l
theorem opsOk_at:∀ (l:List Oper) (k:Nat),OpsOk P ops V S a0 k l→∀ i o,l[i]? = some o→OpOk P ops V S a0 (k+i) o:=by
 intro l
 induction l with
 | nil=>intro k _ i o ho;simp at ho
 | cons x l ih =>
  intro k h i o ho
  cases i with
  | zero =>
   have:x=o:=by simpa using ho
   subst this
   exact h.1
  | succ i =>
   have h2:=ih (k+1) h.2 i o (by simpa using ho)
   have e:k+(i+1)=k+1+i:=by omega
   rw [e];exact h2
theorem opsOk_all (h:OpsOk P ops V S a0 0 ops.toList):∀ i o,ops[i]? = some o→OpOk P ops V S a0 i o:=fun i o ho=>by
 have:=opsOk_at _ _ h i o (by rw [Array.getElem?_toList];exact ho)
 rwa [Nat.zero_add] at this
def Vs (l:List (Value→World→Prop)) (i:Nat) (v:Value) (w:World):Prop:=(l.getD i fun _ _=>True) v w
def Stays (p:Value→World→Prop):Prop:=∀ v w w',p v w→Ext w w'→p v w'
theorem vs_stays {l:List (Value→World→Prop)} (h:∀ p∈l,Stays p):∀ i v w w',Vs l i v w→Ext w w'→Vs l i v w':=by
 intro i v w w' hv hx
 unfold Vs at *
 by_cases hi:i<l.length
 ·
  rw [List.getD_eq_getElem?_getD,List.getElem?_eq_getElem hi] at hv ⊢
  exact h _ (List.getElem_mem hi) v w w' hv hx
 · rw [List.getD_eq_getElem?_getD,List.getElem?_eq_none (by omega)];trivial
theorem stays_const (c:Value):Stays (fun v _=>v=c):=fun _ _ _ h _=>h
abbrev vq (x v:Value) (_:World):Prop:=v=x
theorem yield_of {ops:Array Oper} {A:Act} {j d:Nat} {b:Bool} (hd:(ops[j]?).bind (·.dst)=some d) (h:A.tmps[d]?.getD undef=.bool b):yielded ops A.tmps j=some b:=by
 unfold yielded
 rw [hd]
 simp only [Option.bind_some]
 cases hx:A.tmps[d]? with
 | none=>rw [hx] at h;cases h
 | some v=>rw [hx] at h;simp only [Option.getD_some] at h;subst h;rfl
theorem opOk_skip {o:Oper} {ops:Array Oper} {A:Act} {j d:Nat} {want b:Bool} {X Y:Prop} (hg:o.guard=some (j,want)) (hd:(ops[j]?).bind (·.dst)=some d) (h:A.tmps[d]?.getD undef=.bool b) (hne:(b == want)=false) (hY:Y) :
  (Region.wanted o (yielded ops A.tmps)=true→X)∧(Region.wanted o (yielded ops A.tmps)=false→Y):=by
 have:Region.wanted o (yielded ops A.tmps)=false:=by
  unfold Region.wanted;rw [hg];simp only [yield_of hd h]
  cases b <;> cases want <;> first | rfl | cases hne
 rw [this];exact ⟨fun h=>(by cases h),fun _=>hY⟩
theorem opOk_runG {o:Oper} {ops:Array Oper} {A:Act} {j d:Nat} {want b:Bool} {X Y:Prop} (hg:o.guard=some (j,want)) (hd:(ops[j]?).bind (·.dst)=some d) (h:A.tmps[d]?.getD undef=.bool b) (hne:(b == want)=true) (hX:X) :
  (Region.wanted o (yielded ops A.tmps)=true→X)∧(Region.wanted o (yielded ops A.tmps)=false→Y):=by
 have:Region.wanted o (yielded ops A.tmps)=true:=by
  unfold Region.wanted;rw [hg];simp only [yield_of hd h]
  cases b <;> cases want <;> first | rfl | cases hne
 rw [this];exact ⟨fun _=>hX,fun h=>(by cases h)⟩
theorem opOk_run {o:Oper} {ops:Array Oper} {A:Act} {X Y:Prop} (hg:o.guard=none) (hX:X) :
  (Region.wanted o (yielded ops A.tmps)=true→X)∧(Region.wanted o (yielded ops A.tmps)=false→Y):=by
 have:Region.wanted o (yielded ops A.tmps)=true:=by unfold Region.wanted;rw [hg]
 rw [this];exact ⟨fun _=>hX,fun h=>(by cases h)⟩
theorem gdA (a:Act) (s:Nat) (v:Value) (h:a.tmps.getD s undef=v):a.tmps[s]?.getD undef=v:=by rw [Array.getD_eq_getD_getElem?] at h;exact h
theorem wp_region_rv {id:Nat} (hm:P.follows .mixedOrders=true) {w:World} (V:Nat→Value→World→Prop) (S:World→Prop) (n:Nat) (hok:rvOk ops n=true) (hn:a0.tmps.size=n)
  (hVx:∀ i v w w',V i v w→Ext w w'→V i v w') (hSx:∀ w w',S w→Ext w w'→S w') (hS:S w)
  (hop:∀ i o,ops[i]? = some o→OpOk P ops V S a0 i o)
  (hfin:∀ a w,a.tmps.size=a0.tmps.size→a.defers=a0.defers→S w→(∀ i,i<ops.size→V i (slotOf ops a i) w)→(∀ t,(ops.all fun o'=>o'.dst != some t)=true→a.tmps.getD t undef=a0.tmps.getD t undef)→Q .normal a w) :
  (Code.region id ops true).wp P Q a0 w:=by
 have hx:Ext w { w with drawn:=w.drawn+1 }:=⟨rfl,rfl,rfl,Nat.le_refl _,fun _ _=>rfl⟩
 have h0:RvAt ops V S a0 (Array.replicate ops.size false) a0 { w with drawn:=w.drawn+1 }:=by
  refine ⟨by simp,rfl,rfl,hSx _ _ hS hx,fun i hi h=>?_,fun _ _=>rfl⟩
  rw [Array.getD_eq_getD_getElem?,Array.getElem?_replicate,if_pos hi] at h
  cases h
 exact wp_region_any hm (rv_any hVx hSx hok hn hop hfin ops.size (Array.replicate ops.size false) a0 _ h0 (cntU_le _ _))
end
end Go.Proofs.YthjmdgejnakcmaaDoor
namespace Go.Proofs.YthjmdgejnakcmaaDoor
set_option linter.unusedVariables false
set_option linter.unusedSimpArgs false
open Go.ChangeShapes Go.WideShapes Go.ChangeAt Go.RowKit
section
variable {H:Type} {enc:TypeId × Value→H} {P:Program} {w:World} {base:Nat} {spare:Nat→Bool} {held:Bool} {fuel:Nat} {cs:List Value} {x:DataW H × List MemPlace}
theorem addr_add (b o n:Nat):(⟨b,o,none⟩:Addr).add n=⟨b,o+n,none⟩:=by
 unfold Addr.add;split <;> simp_all
theorem addr_block (a:Addr) (n:Nat):(a.add n).block=a.block:=by unfold Addr.add;split <;> rfl
theorem addr_off (a:Addr) (n:Nat):(a.add n).off=a.off+n:=by
 unfold Addr.add;split
 · rename_i h;rw [h];rfl
 · rfl
theorem addr_spot (a:Addr) (n:Nat) (h:(a.add n).spot=none):a.add n=⟨a.block,a.off+n,none⟩:=by
 rw [← addr_block a n,← addr_off a n,← h]
theorem args_back (hl:laidOutB P=true) {W W':World} (hb:Below W.heap.size W W'):∀ (ts:List TypeId) (vs:List Value) (ds:List (DataW H)) (ps:List MemPlace),
  (∀ t∈ts,P.readableRec t=true∧t<P.types.size)→DataW.TrodAll enc P W 0 (fun _=>true) true ts vs ds ps→(∀ x∈ps,x.block<W.heap.size) →
   DataW.TrodAll enc P W' 0 (fun b=>decide (b<W.heap.size)) true ts vs ds ps
 | [],[],[],_,_,h,_=>h
 | t :: ts,v :: vs,d :: ds,ps,ht,h,hlt=>by
  obtain ⟨p,q,h0,h1,rfl⟩:=h
  exact ⟨p,q,Below.trod hl (ht t (by simp)).1 (ht t (by simp)).2 h0 hb (fun x hx=>hlt x (by simp [hx])),args_back hl hb ts vs ds q (fun t' h'=>ht t' (by simp [h'])) h1 (fun x hx=>hlt x (by simp [hx])),rfl⟩
 | [],[],_ :: _,_,_,h,_=>h.elim
 | [],_ :: _,_,_,_,h,_=>h.elim
 | _ :: _,[],_,_,_,h,_=>h.elim
 | _ :: _,_ :: _,[],_,_,h,_=>h.elim
theorem trodAll_lt:∀ (ts:List TypeId) (vs:List Value) (ds:List (DataW H)) (ps:List MemPlace),
  DataW.TrodAll enc P w base spare held ts vs ds ps→∀ x∈ps,x.block<w.heap.size
 | [],[],[],_,h,x,hx=>by
  have:_=[]:=h
  subst this;cases hx
 | t :: ts,v :: vs,d :: ds,ps,h,x,hx=>by
  obtain ⟨p,q,⟨m,h0⟩,h1,rfl⟩:=h
  rcases List.mem_append.1 hx with hx | hx
  · exact DataW.trod_lt m _ _ _ h0 x hx
  · exact trodAll_lt ts vs ds q h1 x hx
 | [],[],_ :: _,_,h,_,_=>h.elim
 | [],_ :: _,_,_,h,_,_=>h.elim
 | _ :: _,[],_,_,h,_,_=>h.elim
 | _ :: _,_ :: _,[],_,h,_,_=>h.elim
end
end Go.Proofs.YthjmdgejnakcmaaDoor
namespace Go.Proofs.YthjmdgejnakcmaaDoor
open Go.RowKit
set_option linter.unusedVariables false
set_option linter.unusedSimpArgs false
section
variable (P:Program) (ops:Array Oper) (V:Nat→Value→World→Prop) (S:Bool→World→Prop) (XM:World→World→Prop) (M:Nat) (a0:Act)
end
section
variable {P:Program} {ops:Array Oper} {V:Nat→Value→World→Prop} {S:Bool→World→Prop} {XM:World→World→Prop} {M:Nat} {a0:Act} {Q:Exit→Act→World→Prop}
theorem getD_true_of {listed:Array Bool} {i n:Nat} (hs:listed.size=n) (hi:i<n) (h:listed.getD i false=true):listed.getD i true=true:=by
 rw [Array.getD_eq_getD_getElem?,Array.getElem?_eq_getElem (by omega)] at h ⊢
 exact h
theorem getD_false_of {listed:Array Bool} {i n:Nat} (hs:listed.size=n) (hi:i<n) (h:listed.getD i true=true):listed.getD i false=true:=by
 rw [Array.getD_eq_getD_getElem?,Array.getElem?_eq_getElem (by omega)] at h ⊢
 exact h
theorem wpAny_end {listed:Array Bool} (h:Region.ready .any ops listed=[]) {a:Act} {w:World} (hq:Q .normal a w):∀ fuel,wpAny P .any ops Q fuel listed a w
 | 0=>⟨h,hq⟩
 | fuel+1=>⟨fun _=>hq,fun i hi=>by rw [h] at hi;cases hi⟩
end
theorem wpOp_store {P:Program} {ops:Array Oper} {Q:Exit→Act→World→Prop} {L:Nat} {K:Act→World→Prop} {o:Oper} {A:Act} {W:World} {ty:TypeId} {p v:Operand} {ad:Addr} {a:Option Addr} {n c:Nat} {y:Value}
  (ho:ops[L]? = some o) (hg:o.guard=none) (hop:o.op=.store ty p v) (hd:o.dst=none) (hp:A.eval p=.pointer (some ad)) (hv:A.eval v=.slice a n c) (hf:W.frozen? ad=false) (hc:W.cell? ad=some y) (hsz:(sizeOf ty).run P W=.ok 1 W) (hK:K A (W.setCell ad (.slice a n c))):wpOp P ops Q L K A W:=by
 unfold wpOp
 rw [ho]
 have hw:Region.wanted o (yielded ops A.tmps)=true:=by unfold Region.wanted;rw [hg]
 simp only [hw,if_pos]
 refine .inl ?_
 unfold Oper.wp execOp
 simp only [hop,hp,hv]
 simp [go_sem,hf,hc,hsz]
 rw [hd]
 exact hK
def dstsOf (ops:Array Oper):List Nat:=ops.toList.filterMap (·.dst)
theorem dsts_all {ops:Array Oper} {t:Nat} (h:t ∉ dstsOf ops):(ops.all fun o'=>o'.dst != some t)=true:=by
 rw [Array.all_eq_true']
 intro o ho
 have:o.dst≠some t:=fun e=>h (List.mem_filterMap.2 ⟨o,by simpa using ho,e⟩)
 simpa using this
theorem getD_put {A:Act} {d t:Nat} {v:Value}:(A.put (some d) v).tmps.getD t undef=if d=t∧d<A.tmps.size then v else A.tmps.getD t undef:=by
 simp only [Act.put]
 by_cases h:d=t
 ·
  subst h
  by_cases h2:d<A.tmps.size
  · rw [if_pos ⟨rfl,h2⟩,Array.getD_eq_getD_getElem?,Array.getElem?_setIfInBounds_self,if_pos h2];rfl
  · rw [if_neg (by simp [h2]),Array.setIfInBounds_eq_of_size_le (by omega)]
 · rw [if_neg (by simp [h]),Array.getD_eq_getD_getElem?,Array.getElem?_setIfInBounds_ne h,← Array.getD_eq_getD_getElem?]
theorem puts_size (x:Nat→Value):∀ (ds:List Nat) (a:Act),(ds.foldl (fun a d=>a.put (some d) (x d)) a).tmps.size=a.tmps.size∧(ds.foldl (fun a d=>a.put (some d) (x d)) a).defers=a.defers
 | [],a=>⟨rfl,rfl⟩
 | d :: ds,a=>by
  have:=puts_size x ds (a.put (some d) (x d))
  rw [List.foldl_cons]
  exact ⟨this.1.trans (by simp [Act.put]),this.2⟩
theorem
    puts_get (x:Nat→Value):∀ (ds:List Nat) (a:Act) (t:Nat),t<a.tmps.size→(ds.foldl (fun a d=>a.put (some d) (x d)) a).tmps.getD t undef=if t∈ds then x t else a.tmps.getD t undef
 | [],a,t,_=>by simp
 | d
   :: ds,a,t,ht=>by
  rw [List.foldl_cons,puts_get x ds _ t (by simpa [Act.put] using ht),getD_put]
  by_cases h1:t∈ds
  · simp [h1]
  ·
   by_cases h2:d=t
   · subst h2;simp [h1,ht]
   ·
    have h3:¬ t=d:=fun e=>h2 e.symm
    simp [h1,h2,h3]
theorem act_ext {A B:Act} (h1:A.tmps.size=B.tmps.size) (h2:A.defers=B.defers) (h3:∀ t,t<A.tmps.size→A.tmps.getD t undef=B.tmps.getD t undef):A=B:=by
 obtain ⟨ta,da⟩:=A
 obtain ⟨tb,db⟩:=B
 simp only at h1 h2 h3
 subst h2
 congr 1
 apply Array.ext h1
 intro i hi hi2
 have:=h3 i hi
 rw [Array.getD_eq_getD_getElem?,Array.getD_eq_getD_getElem?,Array.getElem?_eq_getElem hi,Array.getElem?_eq_getElem hi2] at this
 simpa using this
theorem act_puts {A a0:Act} {ops:Array Oper} (ds:List Nat) (hds:dstsOf ops=ds) (hsz:A.tmps.size=a0.tmps.size) (hdf:A.defers=a0.defers) (hb:∀ t,(ops.all fun o'=>o'.dst != some t)=true→A.tmps.getD t undef=a0.tmps.getD t undef) :
  ∃ x:Nat→Value,(∀ t,x t=A.tmps.getD t undef)∧A=ds.foldl (fun a d=>a.put (some d) (x d)) a0:=by
 refine ⟨fun d=>A.tmps.getD d undef,fun _=>rfl,?_⟩
 have h:=puts_size (fun d=>A.tmps.getD d undef) ds a0
 refine act_ext (hsz.trans h.1.symm) (hdf.trans h.2.symm) fun t ht=>?_
 rw [puts_get _ _ _ _ (by omega)]
 by_cases hm:t∈ds
 · rw [if_pos hm]
 ·
  rw [if_neg hm]
  exact hb t (dsts_all (by rw [hds];exact hm))
theorem eval_tmp {A:Act} {t:Nat} {v:Value} (h:A.tmps.getD t undef=v):A.eval (.tmp t)=v:=by
 rw [Array.getD_eq_getD_getElem?] at h;simpa [go_sem,Act.eval] using h
end Go.Proofs.YthjmdgejnakcmaaDoor
namespace Go.Proofs.YthjmdgejnakcmaaDoor
open Go.RowKit
theorem opOk_skip_undef {o:Oper} {ops:Array Oper} {A:Act} {j d:Nat} {want:Bool} {X Y:Prop} (hg:o.guard=some (j,want)) (hd:(ops[j]?).bind (·.dst)=some d) (h:A.tmps[d]?.getD undef=undef) (hY:Y) :
  (Region.wanted o (yielded ops A.tmps)=true→X)∧(Region.wanted o (yielded ops A.tmps)=false→Y):=by
 have hy:yielded ops A.tmps j=none:=by
  unfold yielded
  rw [hd]
  simp only [Option.bind_some]
  cases hx:A.tmps[d]? with
  | none=>rfl
  | some v=>rw [hx] at h;simp only [Option.getD_some] at h;subst h;rfl
 have:Region.wanted o (yielded ops A.tmps)=false:=by unfold Region.wanted;rw [hg];simp only [hy];rfl
 rw [this];exact ⟨fun h=>(by cases h),fun _=>hY⟩
end Go.Proofs.YthjmdgejnakcmaaDoor
namespace Go.Proofs.YthjmdgejnakcmaaDoor
open Go.RowKit
set_option linter.unusedVariables false
set_option linter.unusedSimpArgs false
def upd (f:Nat→Bool) (i:Nat):Nat→Bool:=fun j=>if j=i then true else f j
section
variable (P:Program) (ops:Array Oper) (V:Nat→Value→World→Prop) (X:Nat→World→World→Prop) (S:(Nat→Bool)→World→Prop) (ms:List Nat) (a0:Act) (L:Nat)
def OpOkS (i:Nat) (o:Oper):Prop:=∀ a w f,a.tmps.size=a0.tmps.size→f i=false→(∀ j,(ms.getD i 0).testBit j=true→f j=true)→(∀ j,j<ms.length→(ms.getD j 0).testBit i=true→f j=false)→S f w →
 (∀ j,(ms.getD i 0).testBit j=true→V j (slotOf ops a j) w) →
 (∀ t,(ops.all fun o'=>o'.dst != some t)=true→a.tmps.getD t undef=a0.tmps.getD t undef) →
 (∀ j d,j<ms.length→f j=false→(ops[j]?).bind (·.dst)=some d→a.tmps.getD d undef=a0.tmps.getD d undef) →
 (Region.wanted o (yielded ops a.tmps)=true→OpRes P a o w (fun v w'=>V i v w'∧X i w w'∧S (upd f i) w'))∧(Region.wanted o (yielded ops a.tmps)=false→V i undef w∧S (upd f i) w)
def OpsOkS:Nat→List Oper→Prop
 | _,[]=>True
 | i,o :: l=>(if i=L then True else OpOkS P ops V X S ms a0 i o)∧OpsOkS (i+1) l
def OpOkT (i:Nat) (o:Oper):Prop:=∀ a w f,a.tmps.size=a0.tmps.size→f i=false→(∀ j,(ms.getD i 0).testBit j=true→f j=true)→(∀ j,j<ms.length→(ms.getD j 0).testBit i=true→f j=false)→S f w →
 (∀ j,(ms.getD i 0).testBit j=true→V j (slotOf ops a j) w) →
 (∀ t,(ops.all fun o'=>o'.dst != some t)=true→a.tmps.getD t undef=a0.tmps.getD t undef) →
 (∀ j d,j<ms.length→f j=false→(ops[j]?).bind (·.dst)=some d→a.tmps.getD d undef=a0.tmps.getD d undef) →
 (Region.wanted o (yielded ops a.tmps)=true→(OpRes P a o w (fun v w'=>V i v w'∧X i w w'∧S (upd f i) w')∨(o.dst=none∧∃ w',(execOp a.eval o).run P w=.ok .skip w'∧V i undef w'∧X i w w'∧S (upd f i) w')))∧(Region.wanted o (yielded ops a.tmps)=false→V i undef w∧S (upd f i) w)
def OpsOkT:Nat→List Oper→Prop
 | _,[]=>True
 | i,o :: l=>(if i=L then True else OpOkT P ops V X S ms a0 i o)∧OpsOkT (i+1) l
theorem okT_of {i:Nat} {o:Oper} (h:OpOkS P ops V X S ms a0 i o):OpOkT P ops V X S ms a0 i o:=fun a w f h1 h2 h3 h4 h5 h6 h7 h8 =>
 ⟨fun hw=>.inl ((h a w f h1 h2 h3 h4 h5 h6 h7 h8).1 hw),(h a w f h1 h2 h3 h4 h5 h6 h7 h8).2⟩
theorem opsT_of:∀ (l:List Oper) (i:Nat),OpsOkS P ops V X S ms a0 L i l→OpsOkT P ops V X S ms a0 L i l
 | [],_,_=>trivial
 | o
   :: l,i,h=>⟨by
   have h1:=h.1
   split
   · trivial
   · rename_i e;rw [if_neg e] at h1;exact okT_of P ops V X S ms a0 h1,opsT_of l (i+1) h.2⟩
def
  rvOkS (b:Bool) (n L:Nat):Bool :=
 ((
  List.range L).all fun i=>match ops[i]? with
  | none=>false
  | some o=>(match o.dst with
   | none=>b
   | some d=>decide (d<n) && (List.range ops.size).all fun j=>decide (i=j) || (match ops[j]? with | some o'=>o'.dst != some d | none=>true)) &&
   (o.after.all fun e=>!Region.binds .any e || decide (e.on<i)) &&
   (List.range ops.size).all fun j=>!(ms.getD i 0).testBit j || o.after.any fun e=>Region.binds .any e && (e.on == j || (ms.getD e.on 0).testBit j)) &&
 ((List.range L).all fun i=>decide (ms.getD i 0<2 ^ i)) && decide (ms.length=L) &&
 (decide (ops.size=L) || (decide (ops.size=L+1) && match ops[L]? with
  | none=>false
  | some o=>((List.range L).all fun j=>o.after.any fun e=>Region.binds .any e && (e.on == j || (ms.getD e.on 0).testBit j)) && o.after.all fun e=>!Region.binds .any e || decide (e.on<L)))
structure RvAtS (listed:Array Bool) (a:Act) (w:World):Prop where
 ls:listed.size=ops.size
 last:L<ops.size→listed.getD L true=false
 size:a.tmps.size=a0.tmps.size
 df:a.defers=a0.defers
 s:S (fun i=>listed.getD i true) w
 closed:∀ i o,i<L→listed.getD i true=true→ops[i]? = some o→∀ e∈o.after,Region.binds .any e=true→listed.getD e.on true=true
 done:∀ i,i<L→listed.getD i true=true→V i (slotOf ops a i) w
 base:∀ t,(ops.all fun o'=>o'.dst != some t)=true→a.tmps.getD t undef=a0.tmps.getD t undef
 und:∀ j d,j<L→listed.getD j true=false→(ops[j]?).bind (·.dst)=some d→a.tmps.getD d undef=a0.tmps.getD d undef
end
section
variable {P:Program} {ops:Array Oper} {V:Nat→Value→World→Prop} {X:Nat→World→World→Prop} {S:(Nat→Bool)→World→Prop} {ms:List Nat} {a0:Act} {Q:Exit→Act→World→Prop} {L:Nat} {bn:Bool}
theorem rvOkS_at {n:Nat} (h:rvOkS ops ms bn n L=true) {i:Nat} (hL:i<L):∃ o,ops[i]? = some o∧(o.dst=none→bn=true)∧(∀ d,o.dst=some d→d<n∧∀ j o',ops[j]? = some o'→i≠j→o'.dst≠some d)∧(∀ e∈o.after,Region.binds .any e=true→e.on<i) ∧
  ∀ j,j<ops.size→(ms.getD i 0).testBit j=true→∃ e∈o.after,Region.binds .any e=true∧(e.on=j∨(ms.getD e.on 0).testBit j=true):=by
 unfold rvOkS at h
 simp only [Bool.and_eq_true] at h
 have h1:=(List.all_eq_true.1 h.1.1.1) i (by simpa using hL)
 cases ho:ops[i]? with
 | none=>rw [ho] at h1;cases h1
 | some o =>
  rw [ho] at h1
  simp only [Bool.and_eq_true] at h1
  obtain ⟨⟨h2,h3⟩,h4⟩:=h1
  refine ⟨o,rfl,fun hd=>?_,fun d hd=>?_,fun e he hb=>?_,fun j hj hm=>?_⟩
  · rw [hd] at h2;exact h2
  ·
   rw [hd] at h2
   simp only [Bool.and_eq_true,decide_eq_true_eq,List.all_eq_true] at h2
   refine ⟨h2.1,fun j o' hj hne=>?_⟩
   have hjs:j<ops.size:=(Array.getElem?_eq_some_iff.1 hj).1
   have:=h2.2 j (by simpa using hjs)
   rw [hj] at this
   simp only [Bool.or_eq_true,decide_eq_true_eq,bne_iff_ne] at this
   exact this.resolve_left hne
  ·
   rw [Array.all_eq_true'] at h3
   have:=h3 e he
   rw [hb] at this
   simpa using this
  ·
   have:=(List.all_eq_true.1 h4) j (by simpa using hj)
   rw [hm] at this
   simp only [Bool.not_true,Bool.false_or,Array.any_eq_true',Bool.and_eq_true,Bool.or_eq_true,beq_iff_eq] at this
   obtain ⟨e,he,h5,h6⟩:=this
   exact ⟨e,he,h5,h6⟩
theorem rvOkS_ms {n:Nat} (h:rvOkS ops ms bn n L=true) {i j:Nat} (hL:i<L) (hb:(ms.getD i 0).testBit j=true):j<i:=by
 unfold rvOkS at h
 simp only [Bool.and_eq_true] at h
 have h1:=(List.all_eq_true.1 h.1.1.2) i (by simpa using hL)
 simp only [decide_eq_true_eq] at h1
 rcases Nat.lt_or_ge j i with h2 | h2
 · exact h2
 ·
  have h3:2 ^ i≤2 ^ j:=Nat.pow_le_pow_right (by decide) h2
  rw [Nat.testBit_lt_two_pow (by omega)] at hb;cases hb
theorem rvOkS_len {n:Nat} (h:rvOkS ops ms bn n L=true):ms.length=L:=by
 unfold rvOkS at h
 simp only [Bool.and_eq_true,decide_eq_true_eq] at h
 exact h.1.2
theorem
    rvOkS_size {n:Nat} (h:rvOkS ops ms bn n L=true):ops.size=L∨ops.size=L+1∧∃ o,ops[L]? = some o∧(∀ j,j<L→∃ e∈o.after,Region.binds .any e=true∧(e.on=j∨(ms.getD e.on 0).testBit j=true))∧∀ e∈o.after,Region.binds .any e=true→e.on<L:=by
 unfold rvOkS at h
 simp only [Bool.and_eq_true,Bool.or_eq_true,decide_eq_true_eq] at h
 rcases h.2 with h1 | ⟨h1,h2⟩
 · exact .inl h1
 ·
  refine .inr ⟨h1,?_⟩
  cases ho:ops[L]? with
  | none=>rw [ho] at h2;cases h2
  | some o =>
   rw [ho] at h2
   simp only [Bool.and_eq_true] at h2
   refine ⟨o,rfl,fun j hj=>?_,fun e he hb=>?_⟩
   ·
    have:=(List.all_eq_true.1 h2.1) j (by simpa using hj)
    rw [Array.any_eq_true'] at this
    obtain ⟨e,he,h3⟩:=this
    simp only [Bool.and_eq_true,Bool.or_eq_true,beq_iff_eq] at h3
    exact ⟨e,he,h3.1,h3.2⟩
   ·
    have:=(Array.all_eq_true'.1 h2.2) e he
    rw [hb] at this
    simpa using this
theorem opsOkS_at:∀ (l:List Oper) (k:Nat),OpsOkT P ops V X S ms a0 L k l→∀ i o,l[i]? = some o→k+i≠L→OpOkT P ops V X S ms a0 (k+i) o:=by
 intro l
 induction l with
 | nil=>intro k _ i o ho;simp at ho
 | cons x l ih =>
  intro k h i o ho hne
  cases i with
  | zero =>
   have:x=o:=by simpa using ho
   subst this
   have h1:=h.1
   rw [if_neg (by omega)] at h1
   exact h1
  | succ i =>
   have e:k+(i+1)=k+1+i:=by omega
   rw [e]
   exact ih (k+1) h.2 i o (by simpa using ho) (by omega)
theorem ms_listed {n:Nat} (hok:rvOkS ops ms bn n L=true) {listed:Array Bool} {a:Act} {w:World} (h:RvAtS ops V S a0 L listed a w):∀ i,i<L→(∀ o,ops[i]? = some o→∀ e∈o.after,Region.binds .any e=true→listed.getD e.on true=true) →
  ∀ j,(ms.getD i 0).testBit j=true→listed.getD j true=true:=by
 intro i
 induction i using Nat.strongRecOn with
 | _
   i ih =>
  intro hi hd j hj
  obtain ⟨o,ho,_,_,hlt,hm⟩:=rvOkS_at hok hi
  have hji:=rvOkS_ms hok hi hj
  have hsz:i<ops.size:=(Array.getElem?_eq_some_iff.1 ho).1
  obtain ⟨e,he,hb,h1⟩:=hm j (by omega) hj
  rcases h1 with rfl | h1
  · exact hd o ho e he hb
  ·
   have hei:=hlt e he hb
   exact ih e.on hei (by omega) (fun o' ho' e' he' hb'=>h.closed e.on o' (by omega) (hd o ho e he hb) ho' e' he' hb') j h1
theorem
    rvAtS_put {n:Nat} (hok:rvOkS ops ms bn n L=true) (hn:a0.tmps.size=n) {listed:Array Bool} {a:Act} {w w':World} {i:Nat} {o:Oper} {v:Value}
  (h:RvAtS ops V S a0 L listed a w) (hiL:i<L) (ho:ops[i]? = some o) (hdeps:∀ e∈o.after,Region.binds .any e=true→listed.getD e.on true=true) (hv:V i v w') (hvn:o.dst=none→V i undef w') (hx:∀ j,j<L→j≠i→listed.getD j true=true→∀ v,V j v w→V j v w') (hs:S (upd (fun i=>listed.getD i true) i) w') :
  RvAtS ops V S a0 L (listed.setIfInBounds i true) (a.put o.dst v) w':=by
 obtain ⟨o2,ho2,_,huq,hdep,_⟩:=rvOkS_at hok hiL
 rw [ho] at ho2;cases ho2
 have hi:i<ops.size:=(Array.getElem?_eq_some_iff.1 ho).1
 have hA
     : (a.put o.dst v).tmps.size=a.tmps.size∧(a.put o.dst v).defers=a.defers∧V i (slotOf ops (a.put o.dst v) i) w'∧∀ t,o.dst≠some t→(a.put o.dst v).tmps.getD t undef=a.tmps.getD t undef:=by
  cases hd:o.dst with
  | none =>
   refine ⟨rfl,rfl,?_,fun _ _=>rfl⟩
   have:slotOf ops (a.put none v) i=undef:=by unfold slotOf;rw [ho];simp only [hd]
   rw [this];exact hvn hd
  | some d =>
   have hput:a.put (some d) v={ a with tmps:=a.tmps.setIfInBounds d v }:=rfl
   rw [hput]
   refine ⟨by simp,rfl,?_,fun t ht=>?_⟩
   ·
    have:slotOf ops { a with tmps:=a.tmps.setIfInBounds d v } i=v:=by
     unfold slotOf
     rw [ho];simp only [hd]
     rw [Array.getD_eq_getD_getElem?,Array.getElem?_setIfInBounds_self,if_pos (by rw [h.size,hn];exact (huq d hd).1)];rfl
    rw [this];exact hv
   ·
    have hne:d≠t:=fun e=>ht (by rw [e])
    show (a.tmps.setIfInBounds d v).getD t undef=_
    rw [Array.getD_eq_getD_getElem?,Array.getElem?_setIfInBounds_ne hne,← Array.getD_eq_getD_getElem?]
 obtain ⟨hA1,hA2,hA3,hA4⟩:=hA
 have huniq:∀ j o' t,ops[j]? = some o'→i≠j→o'.dst=some t→o.dst≠some t:=fun j o' t hj hne ht e=>(huq t e).2 j o' hj hne ht
 have hf:(fun j=>(listed.setIfInBounds i true).getD j true)=upd (fun i=>listed.getD i true) i:=by
  funext j
  unfold upd
  by_cases e:j=i
  · subst e;rw [if_pos rfl];exact getD_set_self (by rw [h.ls];exact hi)
  · rw [if_neg e];exact getD_set_ne (Ne.symm e)
 refine ⟨by simp [h.ls],fun hl=>by rw [getD_set_ne (by omega)];exact h.last hl,hA1.trans h.size,hA2.trans h.df,by rw [hf];exact hs,fun j oj hjL hl hoj e he hb=>?_,fun j hj hl=>?_,fun t ht=>?_,fun j dj hj hl hdj=>?_⟩
 ·
  by_cases e2:i=j
  ·
   subst e2
   rw [ho] at hoj;cases hoj
   by_cases e3:i=e.on
   · rw [← e3];exact getD_set_self (by rw [h.ls];exact hi)
   · rw [getD_set_ne e3];exact hdeps e he hb
  ·
   rw [getD_set_ne e2] at hl
   by_cases e3:i=e.on
   · rw [← e3];exact getD_set_self (by rw [h.ls];exact hi)
   · rw [getD_set_ne e3];exact h.closed j oj hjL hl hoj e he hb
 ·
  by_cases e:i=j
  · subst e;exact hA3
  ·
   rw [getD_set_ne e] at hl
   have:slotOf ops (a.put o.dst v) j=slotOf ops a j:=by
    unfold slotOf
    cases hoj:ops[j]? with
    | none=>rfl
    | some o' =>
     simp only
     cases hdj:o'.dst with
     | none=>rfl
     | some d'=>exact hA4 d' (huniq j o' d' hoj e hdj)
   rw [this]
   exact hx _ hj (Ne.symm e) hl _ (h.done j hj hl)
 ·
  have hne:o.dst≠some t:=fun e=>by
   rw [Array.all_eq_true'] at ht
   have:=ht o (Array.mem_of_getElem? ho)
   rw [e] at this;simp at this
  rw [hA4 t hne]
  exact h.base t ht
 ·
  have hij:i≠j:=fun e=>by
   subst e
   rw [getD_set_self (by rw [h.ls];exact hi)] at hl;cases hl
  rw [getD_set_ne hij] at hl
  cases hoj:ops[j]? with
  | none=>rw [hoj] at hdj;cases hdj
  | some o' =>
   have hdj2:=hdj
   rw [hoj] at hdj2
   rw [hA4 dj (huniq j o' dj hoj hij hdj2)]
   exact h.und j dj hj hl hdj
theorem
    allS {n:Nat} (hok:rvOkS ops ms bn n L=true) {listed:Array Bool} (hl:listed.size=ops.size) (h:Region.ready .any ops listed=[]):∀ i,i<L→listed.getD i true=true:=by
 intro i
 induction i using Nat.strongRecOn with
 | _
   i
    ih =>
  intro hi
  cases hb:listed.getD i true with
  | true=>rfl
  | false =>
   obtain ⟨o,ho,_,_,hdep,_⟩:=rvOkS_at hok hi
   have hsz:i<ops.size:=(Array.getElem?_eq_some_iff.1 ho).1
   have:i∈Region.ready .any ops listed:=ready_mem.2 ⟨hsz,hb,_,ho,fun e he hbe=>by
    have h1:=hdep e he hbe
    exact getD_false_of hl (by omega) (ih e.on h1 (by omega))⟩
   rw [h] at this;cases this
theorem
    rvS_any (hVn:bn=true→∀ i o v w,ops[i]? = some o→o.dst=none→V i v w→V i undef w) (hV:∀ i j v w w',i<L→j<L→i≠j→(ms.getD j 0).testBit i=false→V j v w→X i w w'→V j v w') {n:Nat} (hok:rvOkS ops ms bn n L=true) (hn:a0.tmps.size=n)
  (hop:OpsOkT P ops V X S ms a0 L 0 ops.toList)
  (hfin:ops.size=L→∀ a w,a.tmps.size=a0.tmps.size→a.defers=a0.defers→(∀ f:Nat→Bool,(∀ i,i<L→f i=true)→S f w→(∀ i,i<L→V i (slotOf ops a i) w)→(∀ t,(ops.all fun o'=>o'.dst != some t)=true→a.tmps.getD t undef=a0.tmps.getD t undef)→Q .normal a w))
  (hlast:ops.size≠L→∀ a w,a.tmps.size=a0.tmps.size→a.defers=a0.defers→(∀ f:Nat→Bool,(∀ i,i<L→f i=true)→S f w→(∀ i,i<L→V i (slotOf ops a i) w)→(∀ t,(ops.all fun o'=>o'.dst != some t)=true→a.tmps.getD t undef=a0.tmps.getD t undef)→wpOp P ops Q L (fun a' w'=>Q .normal a' w') a w)) :
  ∀ (fuel:Nat) (listed:Array Bool) (a:Act) (w:World),RvAtS ops V S a0 L listed a w→cntU ops.size (fun i=>listed.getD i true)≤fuel→wpAny P .any ops Q fuel listed a w:=by
 have hs:=rvOkS_size hok
 have hend:∀ (listed:Array Bool) (a:Act) (w:World),RvAtS ops V S a0 L listed a w→Region.ready .any ops listed=[]→Q .normal a w:=by
  intro listed a w h hr
  have hall:=allS hok h.ls hr
  rcases hs with hs | ⟨hs,o,ho,hd,hd2⟩
  · exact hfin hs a w h.size h.df _ hall h.s (fun i hi=>h.done i hi (hall i hi)) h.base
  ·
   exfalso
   have hL:=h.last (by omega)
   have:L∈Region.ready .any ops listed:=ready_mem.2 ⟨by omega,hL,o,ho,fun e he hb=>by
    have h1:=hd2 e he hb
    exact getD_false_of h.ls (by omega) (hall e.on h1)⟩
   rw [hr] at this;cases this
 intro fuel
 induction fuel with
 | zero =>
  intro listed a w h hc
  have hall:=cntU_zero (f:=fun i=>listed.getD i true) (Nat.le_zero.1 hc)
  have hr:Region.ready .any ops listed=[]:=by
   rw [List.eq_nil_iff_forall_not_mem]
   intro j hj
   obtain ⟨g1,g2,_⟩:=ready_mem.1 hj
   rw [hall j g1] at g2;cases g2
  exact ⟨hr,hend listed a w h hr⟩
 | succ fuel ih =>
  intro listed a w h hc
  refine ⟨fun hr=>hend listed a w h hr,fun i hi=>?_⟩
  obtain ⟨h1,h2,o,ho,h3⟩:=ready_mem.1 hi
  by_cases hiL:i<L
  ·
   have hlt:cntU ops.size (fun j=>(listed.setIfInBounds i true).getD j true)≤fuel:=by
    have:=cntU_lt (f:=fun j=>listed.getD j true) (g:=fun j=>(listed.setIfInBounds i true).getD j true) (fun j hj=>by
     by_cases e:i=j
     · subst e;exact getD_set_self (by rw [h.ls];exact h1)
     ·
      show (listed.setIfInBounds i true).getD j true=true
      rw [getD_set_ne e];exact hj) (j:=i) (getD_set_self (by rw [h.ls];exact h1)) h2 ops.size h1
    omega
   obtain ⟨o2,ho2,hbn,_,hdep,_⟩:=rvOkS_at hok hiL
   rw [ho] at ho2;cases ho2
   have hvn:∀ v w',V i v w'→o.dst=none→V i undef w':=fun v w' hv hd=>hVn (hbn hd) i o v w' ho hd hv
   have hdl:∀ e∈o.after,Region.binds .any e=true→listed.getD e.on true=true:=fun e he hb=>by
    have hlt2:=hdep e he hb
    exact getD_true_of h.ls (by omega) (h3 e he hb)
   have hms:=ms_listed hok h i hiL (fun o' ho' e he hb=>by rw [ho] at ho';cases ho';exact hdl e he hb)
   have hO:=opsOkS_at _ _ hop i o (by rw [Array.getElem?_toList];exact ho) (by omega)
   rw [Nat.zero_add] at hO
   have hdn:∀ j,j<ms.length→(ms.getD j 0).testBit i=true→listed.getD j true=false:=fun j hj hb=>by
    rw [rvOkS_len hok] at hj
    cases hl:listed.getD j true with
    | false=>rfl
    | true =>
     have:=ms_listed hok h j hj (fun o' ho' e he hb'=>h.closed j o' hj hl ho' e he hb') i hb
     rw [h2] at this;cases this
   have hO:=hO a w _ h.size h2 hms hdn h.s (fun j hj=>h.done j (by have:=rvOkS_ms hok hiL hj;omega) (hms j hj)) h.base (fun j d hj hf=>h.und j d (by rw [rvOkS_len hok] at hj;exact hj) hf)
   have hkeep:∀ w',X i w w'→∀ j,j<L→j≠i→listed.getD j true=true→∀ v,V j v w→V j v w':=fun w' hx j hj hne hl v hv=>by
    refine hV i j v w w' hiL hj (Ne.symm hne) ?_ hv hx
    cases hb:(ms.getD j 0).testBit i with
    | false=>rfl
    | true =>
     have:=ms_listed hok h j hj (fun o' ho' e he hb'=>h.closed j o' hj hl ho' e he hb') i hb
     rw [h2] at this;cases this
   unfold wpOp
   rw [ho]
   simp only
   cases hw:Region.wanted o (yielded ops a.tmps) with
   | false =>
    rw [if_neg (by simp)]
    obtain ⟨hv,hs1⟩:=hO.2 hw
    exact ih _ _ _ (rvAtS_put hok hn h hiL ho hdl hv (hvn _ _ hv) (fun _ _ _ _ _ h=>h) hs1) hlt
   | true =>
    rw [if_pos rfl]
    refine .inl ?_
    rcases hO.1 hw with (⟨v,w',hr,hv,hx,hs1⟩ | ⟨g,args,w',hr,hC⟩) | ⟨hd,w',hr,hv,hx,hs1⟩
    ·
     unfold Oper.wp
     rw [hr]
     exact ih _ _ _ (rvAtS_put hok hn h hiL ho hdl hv (hvn _ _ hv) (hkeep w' hx) hs1) hlt
    ·
     unfold Oper.wp
     rw [hr]
     refine hC.mono ?_
     rintro e w'' ⟨v,rfl,hv,hx,hs1⟩
     exact ih _ _ _ (rvAtS_put hok hn h hiL ho hdl hv (hvn _ _ hv) (hkeep w'' hx) hs1) hlt
    ·
     unfold Oper.wp
     rw [hr]
     exact ih _ _ _ (rvAtS_put (v:=undef) hok hn h hiL ho hdl hv (fun _=>hv) (hkeep w' hx) hs1) hlt
  ·
   rcases hs with hs | ⟨hs,oL,hoL,hdeps,hltL⟩
   · omega
   ·
    obtain rfl:i=L:=by omega
    rw [ho] at hoL;cases hoL
    have hall:∀ j,j<i→listed.getD j true=true:=fun j hj=>by
     obtain ⟨e,he,hb,h4⟩:=hdeps j hj
     have hel:=hltL e he hb
     have hle:listed.getD e.on true=true:=getD_true_of h.ls (by omega) (h3 e he hb)
     rcases h4 with rfl | h4
     · exact hle
     · exact ms_listed hok h e.on hel (fun o' ho' e' he' hb'=>h.closed e.on o' hel hle ho' e' he' hb') j h4
    refine wpOp_mono (fun a' w' hq=>wpAny_end ?_ hq fuel) (hlast (by omega) a w h.size h.df _ hall h.s (fun j hj=>h.done j hj (hall j hj)) h.base)
    rw [List.eq_nil_iff_forall_not_mem]
    intro j hj
    obtain ⟨g1,g2,_⟩:=ready_mem.1 hj
    by_cases e:i=j
    · subst e;rw [getD_set_self (by rw [h.ls];exact h1)] at g2;cases g2
    · rw [getD_set_ne e,hall j (by omega)] at g2;cases g2
theorem wp_region_sb {bn:Bool} {id:Nat} (hm:P.follows .mixedOrders=true) {w:World} (V:Nat→Value→World→Prop) (X:Nat→World→World→Prop) (S:(Nat→Bool)→World→Prop) (ms:List Nat) (n L:Nat) (hok:rvOkS ops ms bn n L=true) (hn:a0.tmps.size=n) (hVn:bn=true→∀ i o v w,ops[i]? = some o→o.dst=none→V i v w→V i undef w)
  (hV:∀ i j v w w',i<L→j<L→i≠j→(ms.getD j 0).testBit i=false→V j v w→X i w w'→V j v w') (hS:∀ f:Nat→Bool,(∀ i,i<L→f i=false)→S f { w with drawn:=w.drawn+1 })
  (hop:OpsOkT P ops V X S ms a0 L 0 ops.toList)
  (hfin:ops.size=L→∀ a w,a.tmps.size=a0.tmps.size→a.defers=a0.defers→(∀ f:Nat→Bool,(∀ i,i<L→f i=true)→S f w→(∀ i,i<L→V i (slotOf ops a i) w)→(∀ t,(ops.all fun o'=>o'.dst != some t)=true→a.tmps.getD t undef=a0.tmps.getD t undef)→Q .normal a w))
  (hlast:ops.size≠L→∀ a w,a.tmps.size=a0.tmps.size→a.defers=a0.defers→(∀ f:Nat→Bool,(∀ i,i<L→f i=true)→S f w→(∀ i,i<L→V i (slotOf ops a i) w)→(∀ t,(ops.all fun o'=>o'.dst != some t)=true→a.tmps.getD t undef=a0.tmps.getD t undef)→wpOp P ops Q L (fun a' w'=>Q .normal a' w') a w)) :
  (Code.region id ops true).wp P Q a0 w:=by
 have hs:=rvOkS_size hok
 have hf:∀ i,i<ops.size→(Array.replicate ops.size false).getD i true=false:=fun i hi=>by rw [Array.getD_eq_getD_getElem?,Array.getElem?_replicate,if_pos hi];rfl
 have h0:RvAtS ops V S a0 L (Array.replicate ops.size false) a0 { w with drawn:=w.drawn+1 }:=by
  refine ⟨by simp,fun hl=>hf L hl,rfl,rfl,hS _ fun i hi=>hf i (by omega),fun i o hi h=>?_,fun i hi h=>?_,fun _ _=>rfl,fun _ _ _ _ _=>rfl⟩
  · rw [hf i (by omega)] at h;cases h
  · rw [hf i (by omega)] at h;cases h
 exact wp_region_any hm (rvS_any hVn hV hok hn hop hfin hlast ops.size (Array.replicate ops.size false) a0 _ h0 (cntU_le _ _))
theorem wp_region_st {id:Nat} (hm:P.follows .mixedOrders=true) {w:World} (V:Nat→Value→World→Prop) (X:Nat→World→World→Prop) (S:(Nat→Bool)→World→Prop) (ms:List Nat) (n L:Nat) (hok:rvOkS ops ms false n L=true) (hn:a0.tmps.size=n)
  (hV:∀ i j v w w',i<L→j<L→i≠j→(ms.getD j 0).testBit i=false→V j v w→X i w w'→V j v w') (hS:∀ f:Nat→Bool,(∀ i,i<L→f i=false)→S f { w with drawn:=w.drawn+1 })
  (hop:OpsOkS P ops V X S ms a0 L 0 ops.toList)
  (hfin:ops.size=L→∀ a w,a.tmps.size=a0.tmps.size→a.defers=a0.defers→(∀ f:Nat→Bool,(∀ i,i<L→f i=true)→S f w→(∀ i,i<L→V i (slotOf ops a i) w)→(∀ t,(ops.all fun o'=>o'.dst != some t)=true→a.tmps.getD t undef=a0.tmps.getD t undef)→Q .normal a w))
  (hlast:ops.size≠L→∀ a w,a.tmps.size=a0.tmps.size→a.defers=a0.defers→(∀ f:Nat→Bool,(∀ i,i<L→f i=true)→S f w→(∀ i,i<L→V i (slotOf ops a i) w)→(∀ t,(ops.all fun o'=>o'.dst != some t)=true→a.tmps.getD t undef=a0.tmps.getD t undef)→wpOp P ops Q L (fun a' w'=>Q .normal a' w') a w)) :
  (Code.region id ops true).wp P Q a0 w :=
 wp_region_sb hm V X S ms n L hok hn (fun e=>by cases e) hV hS (opsT_of P ops V X S ms a0 L _ _ hop) hfin hlast
end
end Go.Proofs.YthjmdgejnakcmaaDoor
namespace Go.Proofs.YthjmdgejnakcmaaDoor
open Go.RowKit
set_option linter.unusedVariables false
def Xs (l:List (World→World→Prop)) (i:Nat):World→World→Prop:=l.getD i Ext
def StaysM (X:World→World→Prop) (m:Nat) (ms:List Nat):Nat→List (Value→World→Prop)→Prop
 | _,[]=>True
 | j,p :: l=>(j≠m→(ms.getD j 0).testBit m=false→∀ v w w',p v w→X w w'→p v w')∧StaysM X m ms (j+1) l
theorem staysM_at {X:World→World→Prop} {m:Nat} {ms:List Nat}:∀ (l:List (Value→World→Prop)) (k:Nat),StaysM X m ms k l→∀ i p,l[i]? = some p→k+i≠m→(ms.getD (k+i) 0).testBit m=false→∀ v w w',p v w→X w w'→p v w'
 | [],_,_,i,p,h=>by simp at h
 | q :: l,k,h,0,p,hp=>by
  have:q=p:=by simpa using hp
  subst this
  exact h.1
 | q :: l,k,h,i+1,p,hp=>by
  have e:k+(i+1)=k+1+i:=by omega
  rw [e]
  exact staysM_at l (k+1) h.2 i p (by simpa using hp)
theorem staysM_all {X:World→World→Prop} {m:Nat} {ms:List Nat} {l:List (Value→World→Prop)} (h:StaysM X m ms 0 l):∀ j v w w',m≠j→(ms.getD j 0).testBit m=false→Vs l j v w→X w w'→Vs l j v w':=by
 intro j v w w' hne hb hv hx
 unfold Vs at *
 by_cases hj:j<l.length
 ·
  rw [List.getD_eq_getElem?_getD,List.getElem?_eq_getElem hj] at hv ⊢
  exact staysM_at l 0 h j _ (List.getElem?_eq_getElem hj) (by omega) (by rw [Nat.zero_add];exact hb) v w w' hv hx
 · rw [List.getD_eq_getElem?_getD,List.getElem?_eq_none (by omega)];trivial
def XsOk (l:List (Value→World→Prop)) (ms:List Nat):Nat→List (World→World→Prop)→Prop
 | _,[]=>True
 | i,X :: r=>(X=Ext∨∀ j v w w',i≠j→(ms.getD j 0).testBit i=false→Vs l j v w→X w w'→Vs l j v w')∧XsOk l ms (i+1) r
theorem xsOk_at {l:List (Value→World→Prop)} {ms:List Nat}:∀ (r:List (World→World→Prop)) (k:Nat),XsOk l ms k r→∀ i X,r[i]? = some X→X=Ext∨∀ j v w w',k+i≠j→(ms.getD j 0).testBit (k+i)=false→Vs l j v w→X w w'→Vs l j v w'
 | [],_,_,i,X,h=>by simp at h
 | q :: r,k,h,0,X,hp=>by
  have:q=X:=by simpa using hp
  subst this
  exact h.1
 | q :: r,k,h,i+1,X,hp=>by
  have e:k+(i+1)=k+1+i:=by omega
  rw [e]
  exact xsOk_at r (k+1) h.2 i X (by simpa using hp)
theorem xs_stays {l:List (Value→World→Prop)} {r:List (World→World→Prop)} {ms:List Nat} {L:Nat} (hx:∀ i v w w',Vs l i v w→Ext w w'→Vs l i v w') (h:XsOk l ms 0 r) :
  ∀ i j v w w',i<L→j<L→i≠j→(ms.getD j 0).testBit i=false→Vs l j v w→Xs r i w w'→Vs l j v w':=by
 intro i j v w w' _ _ hne hb hv hX
 unfold Xs at hX
 by_cases hi:i<r.length
 ·
  rw [List.getD_eq_getElem?_getD,List.getElem?_eq_getElem hi] at hX
  rcases xsOk_at r 0 h i _ (List.getElem?_eq_getElem hi) with h1 | h1
  ·
   simp only [Option.getD_some] at hX
   rw [h1] at hX
   exact hx _ _ _ _ hv hX
  ·
   rw [Nat.zero_add] at h1
   exact h1 j v w w' hne hb hv hX
 ·
  rw [List.getD_eq_getElem?_getD,List.getElem?_eq_none (by omega)] at hX
  exact hx _ _ _ _ hv hX
def DepL (ops:Array Oper) (a:Act) (w:World):Nat→Nat→List (Value→World→Prop)→Prop
 | _,_,[]=>True
 | m,k,p :: l=>(m % 2=1→p (slotOf ops a k) w)∧DepL ops a w (m / 2) (k+1) l
theorem depL_at {ops:Array Oper} {a:Act} {w:World}:∀ (l:List (Value→World→Prop)) (m k:Nat),(∀ j,m.testBit j=true→Vs l j (slotOf ops a (k+j)) w)→DepL ops a w m k l
 | [],_,_,_=>trivial
 | p
   :: l,m,k,h=>⟨fun h1=>h 0 (by simp [Nat.testBit_zero,h1]),depL_at l (m / 2) (k+1) fun j hj=>by
   have h2:=h (j+1) (by rw [Nat.testBit_add_one];exact hj)
   rw [show k+1+j=k+(j+1) by omega]
   exact h2⟩
theorem depL {ops:Array Oper} {a:Act} {w:World} {l:List (Value→World→Prop)} {m:Nat} (h:∀ j,m.testBit j=true→Vs l j (slotOf ops a j) w):DepL ops a w m 0 l:=depL_at l m 0 fun j hj=>by rw [Nat.zero_add];exact h j hj
end Go.Proofs.YthjmdgejnakcmaaDoor
