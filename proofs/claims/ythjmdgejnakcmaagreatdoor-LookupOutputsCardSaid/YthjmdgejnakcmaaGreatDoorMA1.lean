/- Texts that the claims share: Shelf, ShelfI, Lib, Region, Open, RegionX, RegionZ. -/
import Derived.Shelf.Strings.Builder1
import Derived.Shelf.Small.Bits
import Derived.Shelf.Small.Wraps
import Derived.Shelf.Strings.BuilderF
import Derived.Shelf.Strings.BuilderK
import Derived.Shelf.Strconv.Itoa0
import Derived.Shelf.Strconv.Itoa1
import Derived.Shelf.LaysM
import Derived.Shelf.Strconv.Itoa2
import Derived.Shelf.Strconv.Itoa3
import Derived.Shelf.Strings.Prefix
import Derived.Shelf.Slices.Clone
import Derived.Shelf.Slices.SearchI
import Derived.Shelf.SlicesE.Clone
import Derived.Shelf.SortM.Plain
import Derived.Shelf.SortM.SortNone
import Derived.Test.YthjmdgejnakcmaaGreatDoorProg
import Derived.Shelf.SlIterI.Nil
import Derived.WalkKit
import Derived.Lib.Hide
import Derived.WalkLawsBesides
import Derived.WalkSpells
import Derived.Handy
import Derived.CellFam
import Derived.Orders
import Derived.ProofKit
import Derived.OpenShut
import Derived.ShutString
import Derived.ChangeOld
import Derived.Deep.Slices
import Derived.IntWalk
set_option linter.unusedVariables false
set_option linter.unusedSimpArgs false
namespace Go.Proofs.YthjmdgejnakcmaaGreatDoor
abbrev A6:=@Lib.hid
abbrev A7:=@Nat.le_refl
abbrev A8:=@Array.getD_eq_getD_getElem?
abbrev A9:=@Array.getElem?_eq_some_iff
abbrev AA:=@World.size_alloc
abbrev AB:=@Nat.lt_of_lt_of_le
abbrev AC:=@Nat.le_trans
abbrev AD:=@List.mem_cons_self
abbrev AE:=@List.getElem?_eq_getElem
abbrev AF:=@List.length_append
abbrev AI:=@List.length_singleton
abbrev AJ:=@List.mem_singleton
abbrev AK:=@List.drop_eq_getElem_cons
abbrev AM:=@List.take_of_length_le
abbrev AO:=@List.getElem_mem
abbrev AP:=@List.mem_map
abbrev AQ:=@List.getElem?_append_left
abbrev AR:=@List.getElem?_append_right
abbrev AU:=@Array.getElem?_eq_getElem
abbrev AV:=@List.length_take
abbrev AW:=@List.length_map
abbrev AZ:=@List.take_succ_eq_append_getElem
abbrev Ab:=@List.getD_eq_getElem?_getD
abbrev Ac:=@List.getElem?_eq_none
abbrev Ah:=@List.pairwise_cons
abbrev Ai:=@List.pairwise_map
abbrev Aj:=@List.mem_cons
abbrev Ak:=@List.mem_append
abbrev Al:=@List.mem_filter
abbrev Am:=@List.mem_range
end Go.Proofs.YthjmdgejnakcmaaGreatDoor
namespace Go.Proofs
open Go.Shelf
def Tryz.lays169_ren:Go.Shelf.Ren:=⟨fun | 169=>108 | n=>n,fun | 70=>177 | 9=>9 | 0=>0 | 72=>179 | 37=>26 | 127=>207 | 3=>3 | 5=>5 | n=>n,fun | n=>n⟩
theorem Tryz.lays169:Go.Proofs.Lays.n169 Tryz.prog Tryz.lays169_ren:={
 mixed:=by kernel_rfl
 f169:=Tryz.func108.trans (congrArg some (by kernel_rfl))
 t0:=Tryz.underlying0
 a0:=Tryz.isAgg0
 z0:=Tryz.sizeOf0
 v0:=Tryz.zeroValue0
 t3:=Tryz.underlying3
 a3:=Tryz.isAgg3
 z3:=Tryz.sizeOf3
 v3:=Tryz.zeroValue3
 t9:=Tryz.underlying9
 a9:=Tryz.isAgg9
 z9:=Tryz.sizeOf9
 v9:=Tryz.zeroValue9
 t37:=Tryz.underlying26
 a37:=Tryz.isAgg26
 z37:=Tryz.sizeOf26
 v37:=Tryz.zeroValue26
 t70:=Tryz.underlying177
 a70:=Tryz.isAgg177
 z70:=Tryz.sizeOf177
 v70:=Tryz.zeroValue177
 t72:=Tryz.underlying179
 a72:=Tryz.isAgg179
 z72:=Tryz.sizeOf179
 v72:=Tryz.zeroValue179
 t127:=Tryz.underlying207
 a127:=Tryz.isAgg207
 z127:=Tryz.sizeOf207
 v127:=Tryz.zeroValue207 }
theorem Tryz.Builder_Extra_169:Builder.Extra Tryz.prog Tryz.lays169_ren:={
 sizeBuilder:=by kernel_rfl
 liesBuilder:=by kernel_rfl
 t5:=Tryz.underlying5
 a5:=Tryz.isAgg5
 z5:=Tryz.sizeOf5
 v5:=Tryz.zeroValue5
 infoByte:=by kernel_rfl
 cellsByte:=by kernel_rfl
 sizeByte:=by kernel_rfl
 neB5:=by decide }
def Tryz.lays214_ren:Go.Shelf.Ren:=⟨fun | 214=>125 | n=>n,fun | 4=>4 | 9=>9 | n=>n,fun | n=>n⟩
def Tryz.lays121_ren:Go.Shelf.Ren:=⟨fun | 121=>106 | 214=>125 | n=>n,fun | 4=>4 | 9=>9 | n=>n,fun | n=>n⟩
theorem Tryz.lays121:Go.Proofs.Lays.n121 Tryz.prog Tryz.lays121_ren:={
 mixed:=by kernel_rfl
 f121:=Tryz.func106.trans (congrArg some (by kernel_rfl))
 f214:=Tryz.func125.trans (congrArg some (by kernel_rfl))
 t4:=Tryz.underlying4
 a4:=Tryz.isAgg4
 z4:=Tryz.sizeOf4
 v4:=Tryz.zeroValue4
 t9:=Tryz.underlying9
 a9:=Tryz.isAgg9
 z9:=Tryz.sizeOf9
 v9:=Tryz.zeroValue9 }
open Go.RowKit in
theorem Tryz.strconv_FormatBool (b:Bool) (w:World) :
  Calls Tryz.prog 106 #[.bool b] w fun e w'=>e=.returned (.string ⟨(Lib.formatBool b).toArray⟩)∧w'=w:=Any.strconv_FormatBool Tryz.lays121 b w
open Go.RowKit in
theorem Tryz.Builder_String_any_k (B b:Nat) (l:List UInt8) (w:World) (h:Lib.IsBuilderF 179 5 B b (Lib.byteCells l) w) (ja:B≤w.heap.size) :
  Calls Tryz.prog 108 #[.pointer (some ⟨b,0,none⟩)] w fun e w'=>e=.returned (.string ⟨l.toArray⟩)∧(Lib.IsBuilderF 179 5 B b (Lib.byteCells l) w'∧Below B w w'∧Lib.OthersKept 5 (some b) w w'):=Any.Builder_String_any_k Tryz.lays169 Tryz.Builder_Extra_169 B b l w h ja
def Tryz.laysM246_ren:Go.Shelf.Ren:=⟨fun | 246=>145 | 283=>154 | 284=>155 | 285=>156 | 286=>157 | 129=>139 | 317=>159 | 318=>160 | 319=>161 | 320=>162 | 337=>163 | 338=>164 | n=>n,fun | 2=>2 | 3=>3 | 9=>9 | 4=>4 | 171=>237 | 0=>0 | 53=>221 | 37=>26 | 5=>5 | 173=>239 | 212=>245 | 51=>219 | 20=>20 | 213=>246 | 46=>203 | 232=>247 | 233=>248 | n=>n,fun | 17=>0 | 18=>1 | 19=>2 | n=>n⟩
def Tryz.laysM243_ren:Go.Shelf.Ren:=⟨fun | 243=>126 | 246=>145 | 283=>154 | 284=>155 | 285=>156 | 286=>157 | 129=>139 | 317=>159 | 318=>160 | 319=>161 | 320=>162 | 337=>163 | 338=>164 | n=>n,fun | 3=>3 | 9=>9 | 2=>2 | 4=>4 | 171=>237 | 0=>0 | 53=>221 | 37=>26 | 5=>5 | 173=>239 | 212=>245 | 51=>219 | 20=>20 | 213=>246 | 46=>203 | 232=>247 | 233=>248 | n=>n,fun | 17=>0 | 18=>1 | 19=>2 | n=>n⟩
def Tryz.laysM171_ren:Go.Shelf.Ren:=⟨fun | 171=>107 | 243=>126 | 246=>145 | 283=>154 | 284=>155 | 285=>156 | 286=>157 | 129=>139 | 317=>159 | 318=>160 | 319=>161 | 320=>162 | 337=>163 | 338=>164 | n=>n,fun | 3=>3 | 9=>9 | 2=>2 | 4=>4 | 171=>237 | 0=>0 | 53=>221 | 37=>26 | 5=>5 | 173=>239 | 212=>245 | 51=>219 | 20=>20 | 213=>246 | 46=>203 | 232=>247 | 233=>248 | n=>n,fun | 17=>0 | 18=>1 | 19=>2 | n=>n⟩
theorem Tryz.laysM171:Go.Proofs.LaysM.n171 Tryz.prog Tryz.laysM171_ren:={
 mixed:=by kernel_rfl
 f129:=Tryz.func139.trans (congrArg some (by kernel_rfl))
 f171:=Tryz.func107.trans (congrArg some (by kernel_rfl))
 f243:=Tryz.func126.trans (congrArg some (by kernel_rfl))
 f246:=Tryz.func145.trans (congrArg some (by kernel_rfl))
 f283:=Tryz.func154.trans (congrArg some (by kernel_rfl))
 f284:=Tryz.func155.trans (congrArg some (by kernel_rfl))
 f285:=Tryz.func156.trans (congrArg some (by kernel_rfl))
 f286:=Tryz.func157.trans (congrArg some (by kernel_rfl))
 f317:=Tryz.func159.trans (congrArg some (by kernel_rfl))
 f318:=Tryz.func160.trans (congrArg some (by kernel_rfl))
 f319:=Tryz.func161.trans (congrArg some (by kernel_rfl))
 f320:=Tryz.func162.trans (congrArg some (by kernel_rfl))
 f337:=Tryz.func163.trans (congrArg some (by kernel_rfl))
 f338:=Tryz.func164.trans (congrArg some (by kernel_rfl))
 t0:=Tryz.underlying0
 a0:=Tryz.isAgg0
 z0:=Tryz.sizeOf0
 v0:=Tryz.zeroValue0
 t2:=Tryz.underlying2
 a2:=Tryz.isAgg2
 z2:=Tryz.sizeOf2
 v2:=Tryz.zeroValue2
 t3:=Tryz.underlying3
 a3:=Tryz.isAgg3
 z3:=Tryz.sizeOf3
 v3:=Tryz.zeroValue3
 t4:=Tryz.underlying4
 a4:=Tryz.isAgg4
 z4:=Tryz.sizeOf4
 v4:=Tryz.zeroValue4
 t5:=Tryz.underlying5
 a5:=Tryz.isAgg5
 z5:=Tryz.sizeOf5
 v5:=Tryz.zeroValue5
 t9:=Tryz.underlying9
 a9:=Tryz.isAgg9
 z9:=Tryz.sizeOf9
 v9:=Tryz.zeroValue9
 t20:=Tryz.underlying20
 a20:=Tryz.isAgg20
 z20:=Tryz.sizeOf20
 v20:=Tryz.zeroValue20
 t37:=Tryz.underlying26
 a37:=Tryz.isAgg26
 z37:=Tryz.sizeOf26
 v37:=Tryz.zeroValue26
 t46:=Tryz.underlying203
 a46:=Tryz.isAgg203
 z46:=Tryz.sizeOf203
 v46:=Tryz.zeroValue203
 t51:=Tryz.underlying219
 a51:=Tryz.isAgg219
 z51:=Tryz.sizeOf219
 v51:=Tryz.zeroValue219
 t53:=Tryz.underlying221
 a53:=Tryz.isAgg221
 z53:=Tryz.sizeOf221
 v53:=Tryz.zeroValue221
 t171:=Tryz.underlying237
 a171:=Tryz.isAgg237
 z171:=Tryz.sizeOf237
 v171:=Tryz.zeroValue237
 t173:=Tryz.underlying239
 a173:=Tryz.isAgg239
 z173:=Tryz.sizeOf239
 v173:=Tryz.zeroValue239
 t212:=Tryz.underlying245
 a212:=Tryz.isAgg245
 z212:=Tryz.sizeOf245
 v212:=Tryz.zeroValue245
 t213:=Tryz.underlying246
 a213:=Tryz.isAgg246
 z213:=Tryz.sizeOf246
 t232:=Tryz.underlying247
 a232:=Tryz.isAgg247
 z232:=Tryz.sizeOf247
 v232:=Tryz.zeroValue247
 t233:=Tryz.underlying248
 a233:=Tryz.isAgg248
 z233:=Tryz.sizeOf248
 v233:=Tryz.zeroValue248
 g17:=by kernel_rfl
 g18:=by kernel_rfl
 g19:=by kernel_rfl
 i0:=by kernel_rfl
 i2:=by kernel_rfl
 i3:=by kernel_rfl
 i4:=by kernel_rfl
 i5:=by kernel_rfl
 i9:=by kernel_rfl
 i20:=by kernel_rfl
 i37:=by kernel_rfl
 i46:=by kernel_rfl
 i51:=by kernel_rfl
 i53:=by kernel_rfl
 i171:=by kernel_rfl
 i173:=by kernel_rfl
 i212:=by kernel_rfl
 i232:=by kernel_rfl
 i233:=by kernel_rfl
 m17:=by kernel_rfl
 m18:=by kernel_rfl
 m19:=by kernel_rfl }
open Go.RowKit Go.Sort Go.Lib in
theorem Tryz.strconv_Itoa (n:Int) (h0:-9223372036854775808≤n) (h1:n≤9223372036854775807) (w:World) (ja:Lib.TabIs Tryz.prog w "internal/strconv.uint64pow10" .u64 Lib.pow10Tab) :
  Calls Tryz.prog 107 #[.int .i64 n] w fun e w'=>e=.returned (.string ⟨(Lib.itoa n).toArray⟩)∧∃ k os,w'=grow (w.drewN k) os:=Any.strconv_Itoa Tryz.laysM171 n h0 h1 w ja
def Tryz.keysA_ren:Go.Shelf.Ren:=⟨fun | 7=>68 | 10=>97 | n=>n,fun | 23=>130 | 26=>3 | 3=>3 | 28=>136 | 0=>0 | 27=>135 | 33=>172 | 4=>4 | n=>n,fun | n=>n⟩
theorem Tryz.keysA:Go.Proofs.SlLaysZI.n7 Tryz.prog Tryz.keysA_ren:={
 mixed:=by kernel_rfl
 f7:=⟨Tryz.f68.name,by decide,Tryz.func68.trans (congrArg some (by kernel_rfl))⟩
 f10:=⟨Tryz.f97.name,by decide,Tryz.func97.trans (congrArg some (by kernel_rfl))⟩
 t0:=Tryz.underlying0
 a0:=Tryz.isAgg0
 z0:=Tryz.sizeOf0
 v0:=Tryz.zeroValue0
 t4:=Tryz.underlying4
 a4:=Tryz.isAgg4
 z4:=Tryz.sizeOf4
 v4:=Tryz.zeroValue4
 t23:=Tryz.underlying130
 a23:=Tryz.isAgg130
 z23:=Tryz.sizeOf130
 v23:=Tryz.zeroValue130
 t26:=Tryz.underlying3
 a26:=Tryz.isAgg3
 z26:=Tryz.sizeOf3
 v26:=Tryz.zeroValue3
 t27:=Tryz.underlying135
 a27:=Tryz.isAgg135
 z27:=Tryz.sizeOf135
 v27:=Tryz.zeroValue135
 t28:=Tryz.underlying136
 a28:=Tryz.isAgg136
 z28:=Tryz.sizeOf136
 v28:=Tryz.zeroValue136
 t33:=Tryz.underlying172
 a33:=Tryz.isAgg172
 z33:=Tryz.sizeOf172
 v33:=Tryz.zeroValue172 }
def Tryz.sortedA_ren:Go.Shelf.Ren:=⟨fun | 6=>67 | 8=>95 | 9=>96 | 11=>116 | 13=>118 | 12=>117 | 23=>138 | 24=>139 | 14=>129 | 15=>130 | 16=>131 | 17=>132 | 18=>133 | 19=>134 | 20=>135 | 21=>136 | 22=>137 | 25=>146 | 26=>147 | 27=>148 | 28=>149 | 29=>150 | 30=>151 | 31=>158 | n=>n,fun | 26=>3 | 28=>136 | 24=>79 | 0=>0 | 3=>3 | 37=>203 | 48=>219 | 50=>221 | 4=>4 | 40=>212 | 39=>211 | 45=>128 | 5=>5 | 9=>9 | 51=>229 | 55=>233 | 57=>241 | 58=>242 | 33=>172 | n=>n,fun | n=>n⟩
theorem Tryz.sortedA:Go.Proofs.SlLaysZI.n6 Tryz.prog Tryz.sortedA_ren:={
 mixed:=by kernel_rfl
 f6:=⟨Tryz.f67.name,by decide,Tryz.func67.trans (congrArg some (by kernel_rfl))⟩
 f8:=⟨Tryz.f95.name,by decide,Tryz.func95.trans (congrArg some (by kernel_rfl))⟩
 f11:=⟨Tryz.f116.name,by decide,Tryz.func116.trans (congrArg some (by kernel_rfl))⟩
 t0:=Tryz.underlying0
 a0:=Tryz.isAgg0
 z0:=Tryz.sizeOf0
 v0:=Tryz.zeroValue0
 t24:=Tryz.underlying79
 a24:=Tryz.isAgg79
 z24:=Tryz.sizeOf79
 v24:=Tryz.zeroValue79
 t26:=Tryz.underlying3
 a26:=Tryz.isAgg3
 z26:=Tryz.sizeOf3
 v26:=Tryz.zeroValue3
 t28:=Tryz.underlying136
 a28:=Tryz.isAgg136
 z28:=Tryz.sizeOf136
 v28:=Tryz.zeroValue136
 i26:=by kernel_rfl }
def Tryz.sortA_ren:Go.Shelf.Ren:=⟨fun | 5=>96 | 8=>118 | 7=>117 | 19=>138 | 20=>139 | 10=>129 | 11=>130 | 12=>131 | 13=>132 | 14=>133 | 15=>134 | 16=>135 | 17=>136 | 18=>137 | 30=>146 | 31=>147 | 32=>148 | 33=>149 | 34=>150 | 35=>151 | 40=>158 | n=>n,fun | 23=>79 | 25=>3 | 3=>3 | 32=>203 | 22=>79 | 0=>0 | 44=>219 | 46=>221 | 4=>4 | 36=>212 | 35=>211 | 41=>128 | 5=>5 | 9=>9 | 53=>229 | 57=>233 | 63=>241 | 64=>242 | n=>n,fun | n=>n⟩
theorem Tryz.sortA:Go.Proofs.SlLaysM.n5 Tryz.prog Tryz.sortA_ren:={
 mixed:=by kernel_rfl
 f5:=⟨Tryz.f96.name,by decide,Tryz.func96.trans (congrArg some (by kernel_rfl))⟩
 f7:=⟨Tryz.f117.name,by decide,Tryz.func117.trans (congrArg some (by kernel_rfl))⟩
 f8:=Tryz.func118.trans (congrArg some (by kernel_rfl))
 f10:=⟨Tryz.f129.name,by decide,Tryz.func129.trans (congrArg some (by kernel_rfl))⟩
 f11:=⟨Tryz.f130.name,by decide,Tryz.func130.trans (congrArg some (by kernel_rfl))⟩
 f12:=⟨Tryz.f131.name,by decide,Tryz.func131.trans (congrArg some (by kernel_rfl))⟩
 f13:=⟨Tryz.f132.name,by decide,Tryz.func132.trans (congrArg some (by kernel_rfl))⟩
 f14:=⟨Tryz.f133.name,by decide,Tryz.func133.trans (congrArg some (by kernel_rfl))⟩
 f15:=⟨Tryz.f134.name,by decide,Tryz.func134.trans (congrArg some (by kernel_rfl))⟩
 f16:=⟨Tryz.f135.name,by decide,Tryz.func135.trans (congrArg some (by kernel_rfl))⟩
 f17:=⟨Tryz.f136.name,by decide,Tryz.func136.trans (congrArg some (by kernel_rfl))⟩
 f18:=⟨Tryz.f137.name,by decide,Tryz.func137.trans (congrArg some (by kernel_rfl))⟩
 f19:=Tryz.func138.trans (congrArg some (by kernel_rfl))
 f20:=Tryz.func139.trans (congrArg some (by kernel_rfl))
 f30:=⟨Tryz.f146.name,by decide,Tryz.func146.trans (congrArg some (by kernel_rfl))⟩
 f31:=Tryz.func147.trans (congrArg some (by kernel_rfl))
 f32:=Tryz.func148.trans (congrArg some (by kernel_rfl))
 f33:=⟨Tryz.f149.name,by decide,Tryz.func149.trans (congrArg some (by kernel_rfl))⟩
 f34:=⟨Tryz.f150.name,by decide,Tryz.func150.trans (congrArg some (by kernel_rfl))⟩
 f35:=⟨Tryz.f151.name,by decide,Tryz.func151.trans (congrArg some (by kernel_rfl))⟩
 f40:=⟨Tryz.f158.name,by decide,Tryz.func158.trans (congrArg some (by kernel_rfl))⟩
 t0:=Tryz.underlying0
 a0:=Tryz.isAgg0
 z0:=Tryz.sizeOf0
 v0:=Tryz.zeroValue0
 t3:=Tryz.underlying3
 a3:=Tryz.isAgg3
 z3:=Tryz.sizeOf3
 v3:=Tryz.zeroValue3
 t4:=Tryz.underlying4
 a4:=Tryz.isAgg4
 z4:=Tryz.sizeOf4
 v4:=Tryz.zeroValue4
 t5:=Tryz.underlying5
 a5:=Tryz.isAgg5
 z5:=Tryz.sizeOf5
 v5:=Tryz.zeroValue5
 t9:=Tryz.underlying9
 a9:=Tryz.isAgg9
 z9:=Tryz.sizeOf9
 v9:=Tryz.zeroValue9
 t22:=Tryz.underlying79
 a22:=Tryz.isAgg79
 z22:=Tryz.sizeOf79
 v22:=Tryz.zeroValue79
 t23:=Tryz.underlying79
 a23:=Tryz.isAgg79
 z23:=Tryz.sizeOf79
 v23:=Tryz.zeroValue79
 t25:=Tryz.underlying3
 a25:=Tryz.isAgg3
 z25:=Tryz.sizeOf3
 v25:=Tryz.zeroValue3
 t32:=Tryz.underlying203
 a32:=Tryz.isAgg203
 z32:=Tryz.sizeOf203
 v32:=Tryz.zeroValue203
 t35:=Tryz.underlying211
 a35:=Tryz.isAgg211
 z35:=Tryz.sizeOf211
 v35:=Tryz.zeroValue211
 t36:=Tryz.underlying212
 a36:=Tryz.isAgg212
 z36:=Tryz.sizeOf212
 v36:=Tryz.zeroValue212
 t41:=Tryz.underlying128
 a41:=Tryz.isAgg128
 z41:=Tryz.sizeOf128
 v41:=Tryz.zeroValue128
 t44:=Tryz.underlying219
 a44:=Tryz.isAgg219
 z44:=Tryz.sizeOf219
 v44:=Tryz.zeroValue219
 t46:=Tryz.underlying221
 a46:=Tryz.isAgg221
 z46:=Tryz.sizeOf221
 v46:=Tryz.zeroValue221
 t53:=Tryz.underlying229
 a53:=Tryz.isAgg229
 z53:=Tryz.sizeOf229
 v53:=Tryz.zeroValue229
 t57:=Tryz.underlying233
 a57:=Tryz.isAgg233
 z57:=Tryz.sizeOf233
 v57:=Tryz.zeroValue233
 t63:=Tryz.underlying241
 a63:=Tryz.isAgg241
 z63:=Tryz.sizeOf241
 v63:=Tryz.zeroValue241
 t64:=Tryz.underlying242
 a64:=Tryz.isAgg242
 z64:=Tryz.sizeOf242
 v64:=Tryz.zeroValue242 }
end Go.Proofs
namespace Go.Proofs.YthjmdgejnakcmaaGreatDoor
open Go.RowKit
theorem BB {W w1:World} {N:Nat} (hb:Below W.heap.size W w1) (hN:W.heap.size=N) :
  N
   ≤ w1.heap.size∧(∀ b o,(⟨b+1 - N,0,none⟩:Addr)=⟨0,0,none⟩→w1.cell? ⟨b,o,none⟩=W.cell? ⟨b,o,none⟩) ∧
   (∀ b o,(⟨b+1 - N,0,none⟩:Addr)=⟨0,0,none⟩→w1.frozen? ⟨b,o,none⟩=W.frozen? ⟨b,o,none⟩):=by
 subst hN;refine ⟨hb.size,fun b o h=>hb.cell (p:=⟨b,o,none⟩) ?_,fun b o h=>hb.frozen (p:=⟨b,o,none⟩) ?_⟩
 · have:=congrArg Addr.block h;simp only at this;show b<_;omega
 · have:=congrArg Addr.block h;simp only at this;show b<_;omega
theorem BE {W w1:World} {B N:Nat} (hb:Below B W w1) (hN:B=N) :
  W.heap.size≤w1.heap.size∧(∀ b o,(⟨b+1 - N,0,none⟩:Addr)=⟨0,0,none⟩→w1.cell? ⟨b,o,none⟩=W.cell? ⟨b,o,none⟩) ∧
   (∀ b o,(⟨b+1 - N,0,none⟩:Addr)=⟨0,0,none⟩→w1.frozen? ⟨b,o,none⟩=W.frozen? ⟨b,o,none⟩):=by
 subst hN;refine ⟨hb.size,fun b o h=>hb.cell (p:=⟨b,o,none⟩) ?_,fun b o h=>hb.frozen (p:=⟨b,o,none⟩) ?_⟩
 · have:=congrArg Addr.block h;simp only at this;show b<_;omega
 · have:=congrArg Addr.block h;simp only at this;show b<_;omega
theorem Ge {n N:Nat} (h:(⟨n+1 - N,0,none⟩:Addr)=⟨0,0,none⟩):n<N:=by
 have:=congrArg Addr.block h;simp only at this;omega
@[go_sem] theorem Ts (w:World) (o:Obj) (n i:Nat) (hn:(⟨n+1 - w.heap.size,0,none⟩:Addr)=⟨0,0,none⟩):(w.alloc o).cell? ⟨n,i,none⟩=w.cell? ⟨n,i,none⟩ :=
 World.cell?_alloc_past o n i (Ge hn)
@[go_sem] theorem Tt (w:World) (o o2:Obj) (n i:Nat) (hn:(⟨n+1 - w.heap.size,0,none⟩:Addr)=⟨0,0,none⟩):((w.alloc o).alloc o2).cell? ⟨n,i,none⟩=w.cell? ⟨n,i,none⟩:=by
 have:=Ge hn;rw [World.cell?_alloc_past o2 n i (by simp;omega),World.cell?_alloc_past o n i this]
@[go_sem] theorem Sj (w:World) (o:Obj) (n i:Nat) (hn:(⟨n+1 - w.heap.size,0,none⟩:Addr)=⟨0,0,none⟩):(w.alloc o).frozen? ⟨n,i,none⟩=w.frozen? ⟨n,i,none⟩ :=
 World.frozen?_alloc_past o n i (Ge hn)
theorem Ap {B:Nat} {w W w1:World} (hg:Below B w W) (hb:Below W.heap.size W w1) (hB:B≤w.heap.size):Below B w w1 :=
 hg.trans (hb.mono (AC hB hg.size))
theorem BY {k:IntKind} {a b:Int} (h:a=b):Ending.returned (.int k a)=.returned (.int k b):=by rw [h]
theorem Au {a b:Bool} (h:a=b):Ending.returned (.bool a)=.returned (.bool b):=by rw [h]
def Ext (w w':World):Prop:=Below w.heap.size w w'
theorem Ext.refl (w:World):Ext w w:=Below.refl _ _
theorem Ext.trans {a b c:World} (h:Ext a b) (h2:Ext b c):Ext a c:=Below.trans h (h2.mono h.size)
def FX:Nat→(Nat→Bool)→Nat
 | 0,_=>0
 | n+1,f=>FX n f+if f n then 0 else 1
theorem JA (f:Nat→Bool):∀ n,FX n f≤n
 | 0=>A7 _
 | n+1=>by have:=JA f n;simp only [FX];split <;> omega
theorem Kj {f g:Nat→Bool} (h:∀ i,f i=true→g i=true):∀ n,FX n g≤FX n f
 | 0=>A7 _
 | n+1=>by
  have:=Kj h n;simp only [FX];cases hf:f n with
  | false=>split <;> simp <;> omega
  | true=>rw [h n hf];simp;exact this
theorem JB {f g:Nat→Bool} (h:∀ i,f i=true→g i=true) {j:Nat} (hj:g j=true) (hf:f j=false):∀ n,j<n→FX n g<FX n f
 | n
   + 1,hn=>by
  simp only [FX];by_cases e:j=n
  ·subst e;have:=Kj h j;rw [hj,hf];simp;omega
  ·have:=JB h hj hf n (by omega);cases ja:f n with
   | false=>split <;> simp <;> omega
   | true=>rw [h n ja];simp;exact this
theorem G4 {f:Nat→Bool}:∀ {n:Nat},FX n f=0→∀ i,i<n→f i=true
 | n
   + 1,h,i,hi=>by
  simp only [FX] at h;by_cases e:i=n
  ·subst e;cases hf:f i with
   | true=>rfl
   | false=>rw [hf] at h;simp at h
  · exact G4 (n:=n) (by omega) i (by omega)
section
variable (P:Program) (ops:Array Oper) (V:Nat→Value→World→Prop) (S:World→Prop) (a0:Act)
def
  rvOk (n:Nat):Bool :=
 (List.range ops.size).all fun i=>match ops[i]? with
  | none=>true
  | some o=>(match o.dst with
   | none=>false
   | some d=>decide (d<n) && (List.range ops.size).all fun j=>decide (i=j) || (match ops[j]? with | some o'=>o'.dst != some d | none=>true)) &&
   o.after.all fun e=>!Region.binds .any e || decide (e.on<i)
def FP (a:Act) (o:Oper) (w:World) (R:Value→World→Prop):Prop :=
 (∃ v w',(execOp a.eval o).run P w=.ok (.value v) w'∧R v w') ∨
 (∃ f args w',(execOp a.eval o).run P w=.ok (.enter f args) w'∧Calls P f args w' (fun e w''=>∃ v,e=.returned v∧R v w''))
def Aq (a:Act) (j:Nat):Value:=match ops[j]? with | some o=>(match o.dst with | some d=>a.tmps.getD d undef | none=>undef) | none=>undef
def Qj (i:Nat) (o:Oper):Prop:=∀ a w,a.tmps.size=a0.tmps.size→S w →
 (∀ e∈o.after,Region.binds .any e=true→V e.on (Aq ops a e.on) w) →
 (∀ t,(ops.all fun o'=>o'.dst != some t)=true→a.tmps.getD t undef=a0.tmps.getD t undef) →
 (Region.wanted o (yielded ops a.tmps)=true→FP P a o w (fun v w'=>V i v w'∧Ext w w'))∧(Region.wanted o (yielded ops a.tmps)=false→V i undef w)
structure Qk (listed:Array Bool) (a:Act) (w:World):Prop where
 ls:listed.size=ops.size
 size:a.tmps.size=a0.tmps.size
 df:a.defers=a0.defers
 s:S w
 done:∀ i,i<ops.size→listed.getD i true=true→V i (Aq ops a i) w
 base:∀ t,(ops.all fun o'=>o'.dst != some t)=true→a.tmps.getD t undef=a0.tmps.getD t undef
end
section
variable {P:Program} {ops:Array Oper} {V:Nat→Value→World→Prop} {S:World→Prop} {a0:Act} {Q:Exit→Act→World→Prop}
theorem LZ {n:Nat} (h:rvOk ops n=true) {i:Nat} {o:Oper} (ho:ops[i]? = some o):∃ d,o.dst=some d∧d<n∧(∀ j o',ops[j]? = some o'→i≠j→o'.dst≠some d)∧∀ e∈o.after,Region.binds .any e=true→e.on<i:=by
 have hi:i<ops.size:=(A9.1 ho).1;unfold rvOk at h;rw [List.all_eq_true] at h;have h1:=h i (by simpa using hi);rw [ho] at h1;simp only [Bool.and_eq_true] at h1;obtain ⟨h2,h3⟩:=h1;cases hd:o.dst with
 | none=>rw [hd] at h2;cases h2
 | some d =>
  rw [hd] at h2;simp only [Bool.and_eq_true,decide_eq_true_eq,List.all_eq_true] at h2;refine ⟨d,rfl,h2.1,fun j o' hj jb=>?_,fun e he hb=>?_⟩
  ·have ja:j<ops.size:=(A9.1 hj).1;have:=h2.2 j (by simpa using ja);rw [hj] at this;simp only [Bool.or_eq_true,decide_eq_true_eq,bne_iff_ne] at this;exact this.resolve_left jb
  ·rw [Array.all_eq_true'] at h3;have:=h3 e he;rw [hb] at this;simpa using this
theorem CE {md:Region.Mode} {listed:Array Bool} {i:Nat}:i∈Region.ready md ops listed↔i<ops.size∧listed.getD i true=false∧∃ o,ops[i]? = some o∧∀ e∈o.after,Region.binds md e=true→listed.getD e.on false=true:=by
 unfold Region.ready;rw [Al,Am];constructor
 ·rintro ⟨hi,h⟩;simp only [Bool.and_eq_true,Bool.not_eq_true'] at h;refine ⟨hi,h.1,?_⟩;cases ho:ops[i]? with
  | none=>rw [ho] at h;simp at h
  | some o =>
   rw [ho] at h;refine ⟨o,rfl,fun e he hb=>?_⟩;have h2:=h.2;simp only [Option.map_some,Option.getD_some,Array.all_eq_true',Bool.or_eq_true,Bool.not_eq_true'] at h2;rcases h2 e he with h3 | h3
   · rw [hb] at h3;cases h3
   · exact h3
 ·rintro ⟨hi,h1,o,ho,h2⟩;refine ⟨hi,?_⟩;simp only [Bool.and_eq_true,Bool.not_eq_true'];refine ⟨h1,?_⟩;rw [ho];simp only [Option.map_some,Option.getD_some,Array.all_eq_true',Bool.or_eq_true,Bool.not_eq_true'];intro e he;cases hb:Region.binds md e with
  | false=>exact .inl rfl
  | true=>exact .inr (h2 e he hb)
theorem all_done {n:Nat} (jc:rvOk ops n=true) {listed:Array Bool} (hl:listed.size=ops.size) (h:Region.ready .any ops listed=[]):∀ i,i<ops.size→listed.getD i true=true:=by
 intro i
 induction i using Nat.strongRecOn with
 | _
   i
    ih =>
  intro hi;cases hb:listed.getD i true with
  | true=>rfl
  | false =>
   have ho:ops[i]? = some ops[i]:=AU hi;obtain ⟨d,hd,_,_,ja⟩:=LZ jc ho;have:i∈Region.ready .any ops listed:=CE.2 ⟨hi,hb,_,ho,fun e he jb=>by
    have h1:=ja e he jb;have h2:=ih e.on h1 (by omega);rw [A8,AU (by omega)] at h2 ⊢;exact h2⟩
   rw [h] at this;cases this
theorem BM {listed:Array Bool} {i:Nat} (h:i<listed.size):(listed.setIfInBounds i true).getD i true=true:=by
 rw [A8,Array.getElem?_setIfInBounds_self];simp [h]
theorem getD_set_ne {listed:Array Bool} {i j:Nat} (h:i≠j):(listed.setIfInBounds i true).getD j true=listed.getD j true:=by
 rw [A8,Array.getElem?_setIfInBounds_ne h,← A8]
theorem rvAt_put (je:∀ i v w w',V i v w→Ext w w'→V i v w') (jd:∀ w w',S w→Ext w w'→S w') {n:Nat} (ji:rvOk ops n=true) (hn:a0.tmps.size=n) {listed:Array Bool} {a:Act} {w w':World} {i:Nat} {o:Oper} {v:Value}
  (h:Qk ops V S a0 listed a w) (ho:ops[i]? = some o) (hv:V i v w') (hx:Ext w w'):Qk ops V S a0 (listed.setIfInBounds i true) (a.put o.dst v) w':=by
 obtain ⟨d,hd,jg,ja,hdep⟩:=LZ ji ho;have hi:i<ops.size:=(A9.1 ho).1;have jc:a.put o.dst v={ a with tmps:=a.tmps.setIfInBounds d v }:=by rw [hd];rfl
 rw [jc];refine ⟨by simp [h.ls],by simp [h.size],h.df,jd _ _ h.s hx,fun j hj hl=>?_,fun t ht=>?_⟩
 ·by_cases e:i=j
  ·subst e;have:Aq ops { a with tmps:=a.tmps.setIfInBounds d v } i=v:=by
    unfold Aq;rw [ho];simp only [hd];rw [A8,Array.getElem?_setIfInBounds_self,if_pos (by rw [h.size,hn];exact jg)];rfl
   rw [this];exact hv
  ·rw [getD_set_ne e] at hl;have:Aq ops { a with tmps:=a.tmps.setIfInBounds d v } j=Aq ops a j:=by
    unfold Aq;cases jh:ops[j]? with
    | none=>rfl
    | some o' =>
     simp only;cases jf:o'.dst with
     | none=>rfl
     | some d' =>
      simp only;have jb:d≠d':=fun e2=>ja j o' jh e (by rw [jf,e2]);rw [A8,Array.getElem?_setIfInBounds_ne jb,← A8]
   rw [this];exact je _ _ _ _ (h.done j hj hl) hx
 ·have jb:d≠t:=fun e=>by
   rw [Array.all_eq_true'] at ht;have:=ht o (Array.mem_of_getElem? ho);rw [hd,e] at this;simp at this
  show (a.tmps.setIfInBounds d v).getD t undef=_;rw [A8,Array.getElem?_setIfInBounds_ne jb,← A8];exact h.base t ht
theorem rv_any (jc:∀ i v w w',V i v w→Ext w w'→V i v w') (jb:∀ w w',S w→Ext w w'→S w') {n:Nat} (ja:rvOk ops n=true) (hn:a0.tmps.size=n)
  (ji:∀ i o,ops[i]? = some o→Qj P ops V S a0 i o)
  (jf:∀ a w,a.tmps.size=a0.tmps.size→a.defers=a0.defers→S w→(∀ i,i<ops.size→V i (Aq ops a i) w)→(∀ t,(ops.all fun o'=>o'.dst != some t)=true→a.tmps.getD t undef=a0.tmps.getD t undef)→Q .normal a w) :
  ∀ (fuel:Nat) (listed:Array Bool) (a:Act) (w:World),Qk ops V S a0 listed a w→FX ops.size (fun i=>listed.getD i true)≤fuel→wpAny P .any ops Q fuel listed a w:=by
 have fin:∀ listed a w,Qk ops V S a0 listed a w→Region.ready .any ops listed=[]→Q .normal a w:=fun listed a w h hr =>
  jf a w h.size h.df h.s (fun i hi=>h.done i hi (all_done ja h.ls hr i hi)) h.base
 intro fuel
 induction fuel with
 | zero =>
  intro listed a w h hc;have jd:=G4 (f:=fun i=>listed.getD i true) (Nat.le_zero.1 hc);have hr:Region.ready .any ops listed=[]:=by
   rw [List.eq_nil_iff_forall_not_mem];intro i hi;obtain ⟨h1,h2,_⟩:=CE.1 hi;rw [jd i h1] at h2;cases h2
  exact ⟨hr,fin _ _ _ h hr⟩
 | succ fuel ih =>
  intro listed a w h hc;refine ⟨fin _ _ _ h,fun i hi=>?_⟩;obtain ⟨h1,h2,o,ho,h3⟩:=CE.1 hi;have jg:FX ops.size (fun j=>(listed.setIfInBounds i true).getD j true)≤fuel:=by
   have:=JB (f:=fun j=>listed.getD j true) (g:=fun j=>(listed.setIfInBounds i true).getD j true) (fun j hj=>by
    by_cases e:i=j
    · subst e;exact BM (by rw [h.ls];exact h1)
    ·show (listed.setIfInBounds i true).getD j true=true;rw [getD_set_ne e];exact hj) (j:=i) (BM (by rw [h.ls];exact h1)) h2 ops.size h1
   omega
  have hO:=ji i o ho a w h.size h.s (fun e he hb=>by
   have jh:=h3 e he hb;obtain ⟨d,hd,_,_,je⟩:=LZ ja ho;have hlt2:=je e he hb;refine h.done e.on (by omega) ?_;rw [A8,AU (by rw [h.ls];omega)] at jh ⊢;exact jh) h.base
  unfold wpOp;rw [ho];simp only;cases hw:Region.wanted o (yielded ops a.tmps) with
  | false =>
   rw [if_neg (by simp)];exact ih _ _ _ (rvAt_put jc jb ja hn h ho (hO.2 hw) (Ext.refl _)) jg
  | true =>
   rw [if_pos rfl];refine .inl ?_;rcases hO.1 hw with ⟨v,w',hr,hv,hx⟩ | ⟨f,args,w',hr,hC⟩
   ·unfold Oper.wp;rw [hr];exact ih _ _ _ (rvAt_put jc jb ja hn h ho hv hx) jg
   ·unfold Oper.wp;rw [hr];refine hC.mono ?_;rintro e w'' ⟨v,rfl,hv,hx⟩;exact ih _ _ _ (rvAt_put jc jb ja hn h ho hv hx) jg
def Ql (P:Program) (ops:Array Oper) (V:Nat→Value→World→Prop) (S:World→Prop) (a0:Act):Nat→List Oper→Prop
 | _,[]=>True
 | i,o :: l=>Qj P ops V S a0 i o∧Ql P ops V S a0 (i+1) l
theorem Qm:∀ (l:List Oper) (k:Nat),Ql P ops V S a0 k l→∀ i o,l[i]? = some o→Qj P ops V S a0 (k+i) o:=by
 intro l
 induction l with
 | nil=>intro k _ i o ho;simp at ho
 | cons x l ih =>
  intro k h i o ho;cases i with
  | zero =>
   have:x=o:=by simpa using ho
   subst this;exact h.1
  | succ i =>
   have h2:=ih (k+1) h.2 i o (by simpa using ho);have e:k+(i+1)=k+1+i:=by omega
   rw [e];exact h2
theorem BN (h:Ql P ops V S a0 0 ops.toList):∀ i o,ops[i]? = some o→Qj P ops V S a0 i o:=fun i o ho=>by
 have:=Qm _ _ h i o (by rw [Array.getElem?_toList];exact ho)
 rwa [Nat.zero_add] at this
def Vs (l:List (Value→World→Prop)) (i:Nat) (v:Value) (w:World):Prop:=(l.getD i fun _ _=>True) v w
def CQ (p:Value→World→Prop):Prop:=∀ v w w',p v w→Ext w w'→p v w'
theorem Av {l:List (Value→World→Prop)} (h:∀ p∈l,CQ p):∀ i v w w',Vs l i v w→Ext w w'→Vs l i v w':=by
 intro i v w w' hv hx;unfold Vs at *;by_cases hi:i<l.length
 ·rw [Ab,AE hi] at hv ⊢;exact h _ (AO hi) v w w' hv hx
 · rw [Ab,Ac (by omega)];trivial
theorem An (c:Value):CQ (fun v _=>v=c):=fun _ _ _ h _=>h
abbrev vq (x v:Value) (_:World):Prop:=v=x
theorem Nk (p:Value→Prop):CQ (fun v _=>p v):=fun _ _ _ h _=>h
theorem MN {ops:Array Oper} {A:Act} {j d:Nat} {b:Bool} (hd:(ops[j]?).bind (·.dst)=some d) (h:A.tmps[d]?.getD undef=.bool b):yielded ops A.tmps j=some b:=by
 unfold yielded;rw [hd];simp only [Option.bind_some];cases hx:A.tmps[d]? with
 | none=>rw [hx] at h;cases h
 | some v=>rw [hx] at h;simp only [Option.getD_some] at h;subst h;rfl
theorem C2 {o:Oper} {ops:Array Oper} {A:Act} {j d:Nat} {want b:Bool} {X Y:Prop} (hg:o.guard=some (j,want)) (hd:(ops[j]?).bind (·.dst)=some d) (h:A.tmps[d]?.getD undef=.bool b) (ja:(b == want)=false) (hY:Y) :
  (Region.wanted o (yielded ops A.tmps)=true→X)∧(Region.wanted o (yielded ops A.tmps)=false→Y):=by
 have:Region.wanted o (yielded ops A.tmps)=false:=by
  unfold Region.wanted;rw [hg];simp only [MN hd h];cases b <;> cases want <;> first | rfl | cases ja
 rw [this];exact ⟨fun h=>(by cases h),fun _=>hY⟩
theorem B2 {o:Oper} {ops:Array Oper} {A:Act} {j d:Nat} {want b:Bool} {X Y:Prop} (hg:o.guard=some (j,want)) (hd:(ops[j]?).bind (·.dst)=some d) (h:A.tmps[d]?.getD undef=.bool b) (ja:(b == want)=true) (hX:X) :
  (Region.wanted o (yielded ops A.tmps)=true→X)∧(Region.wanted o (yielded ops A.tmps)=false→Y):=by
 have:Region.wanted o (yielded ops A.tmps)=true:=by
  unfold Region.wanted;rw [hg];simp only [MN hd h];cases b <;> cases want <;> first | rfl | cases ja
 rw [this];exact ⟨fun _=>hX,fun h=>(by cases h)⟩
theorem Ao {o:Oper} {ops:Array Oper} {A:Act} {X Y:Prop} (hg:o.guard=none) (hX:X) :
  (Region.wanted o (yielded ops A.tmps)=true→X)∧(Region.wanted o (yielded ops A.tmps)=false→Y):=by
 have:Region.wanted o (yielded ops A.tmps)=true:=by unfold Region.wanted;rw [hg]
 rw [this];exact ⟨fun _=>hX,fun h=>(by cases h)⟩
theorem gdA (a:Act) (s:Nat) (v:Value) (h:a.tmps.getD s undef=v):a.tmps[s]?.getD undef=v:=by rw [A8] at h;exact h
theorem MO {A:Act} {n:Nat} (jb:A.tmps.size=n) (ja:A.defers=[]):A=⟨((List.range n).map fun i=>A.tmps.getD i undef).toArray,[]⟩:=by
 obtain ⟨⟨l⟩,d⟩:=A;simp only at ja;subst ja;congr 1;apply congrArg Array.mk;have hl:l.length=n:=jb;apply List.ext_getElem
 · simp [hl]
 ·intro i h1 h2;simp only [List.getElem_map,List.getElem_range];show l[i]=(Array.mk l).getD i undef;rw [A8];simp [h1]
theorem B6 {id:Nat} (hm:P.follows .mixedOrders=true) {w:World} (V:Nat→Value→World→Prop) (S:World→Prop) (n:Nat) (jd:rvOk ops n=true) (hn:a0.tmps.size=n)
  (jc:∀ i v w w',V i v w→Ext w w'→V i v w') (jb:∀ w w',S w→Ext w w'→S w') (hS:S w)
  (je:∀ i o,ops[i]? = some o→Qj P ops V S a0 i o)
  (ja:∀ a w,a.tmps.size=a0.tmps.size→a.defers=a0.defers→S w→(∀ i,i<ops.size→V i (Aq ops a i) w)→(∀ t,(ops.all fun o'=>o'.dst != some t)=true→a.tmps.getD t undef=a0.tmps.getD t undef)→Q .normal a w) :
  (Code.region id ops true).wp P Q a0 w:=by
 have hx:Ext w { w with drawn:=w.drawn+1 }:=⟨rfl,rfl,rfl,A7 _,fun _ _=>rfl⟩
 have h0:Qk ops V S a0 (Array.replicate ops.size false) a0 { w with drawn:=w.drawn+1 }:=by
  refine ⟨by simp,rfl,rfl,jb _ _ hS hx,fun i hi h=>?_,fun _ _=>rfl⟩;rw [A8,Array.getElem?_replicate,if_pos hi] at h;cases h
 exact wp_region_any hm (rv_any jc jb jd hn je ja ops.size (Array.replicate ops.size false) a0 _ h0 (JA _ _))
end
open Go.ChangeShapes Go.WideShapes Go.ChangeAt Go.RowKit
section
variable {H:Type} {enc:TypeId × Value→H} {P:Program} {w:World} {base:Nat} {spare:Nat→Bool} {held:Bool} {fuel:Nat} {cs:List Value} {x:DataW H × List MemPlace}
theorem addr_add (b o n:Nat):(⟨b,o,none⟩:Addr).add n=⟨b,o+n,none⟩:=by
 unfold Addr.add;split <;> simp_all
theorem Di (a:Addr) (n:Nat):(a.add n).block=a.block:=by unfold Addr.add;split <;> rfl
theorem MP (a:Addr) (n:Nat):(a.add n).off=a.off+n:=by
 unfold Addr.add;split
 · rename_i h;rw [h];rfl
 · rfl
theorem PU (a:Addr) (n:Nat) (h:(a.add n).spot=none):a.add n=⟨a.block,a.off+n,none⟩:=by
 rw [← Di a n,← MP a n,← h]
theorem Kk (hl:laidOutB P=true) {W W':World} (hb:Below W.heap.size W W'):∀ (ts:List TypeId) (vs:List Value) (ds:List (DataW H)) (ps:List MemPlace),
  (∀ t∈ts,P.readableRec t=true∧t<P.types.size)→DataW.TrodAll enc P W 0 (fun _=>true) true ts vs ds ps→(∀ x∈ps,x.block<W.heap.size) →
   DataW.TrodAll enc P W' 0 (fun b=>decide (b<W.heap.size)) true ts vs ds ps
 | [],[],[],_,_,h,_=>h
 | t :: ts,v :: vs,d :: ds,ps,ht,h,hlt=>by
  obtain ⟨p,q,h0,h1,rfl⟩:=h;exact ⟨p,q,Below.trod hl (ht t (by simp)).1 (ht t (by simp)).2 h0 hb (fun x hx=>hlt x (by simp [hx])),Kk hl hb ts vs ds q (fun t' h'=>ht t' (by simp [h'])) h1 (fun x hx=>hlt x (by simp [hx])),rfl⟩
 | [],[],_ :: _,_,_,h,_=>h.elim
 | [],_ :: _,_,_,_,h,_=>h.elim
 | _ :: _,[],_,_,_,h,_=>h.elim
 | _ :: _,_ :: _,[],_,_,h,_=>h.elim
theorem JM:∀ (ts:List TypeId) (vs:List Value) (ds:List (DataW H)) (ps:List MemPlace),
  DataW.TrodAll enc P w base spare held ts vs ds ps→∀ x∈ps,x.block<w.heap.size
 | [],[],[],_,h,x,hx=>by
  have:_=[]:=h;subst this;cases hx
 | t :: ts,v :: vs,d :: ds,ps,h,x,hx=>by
  obtain ⟨p,q,⟨m,h0⟩,h1,rfl⟩:=h;rcases Ak.1 hx with hx | hx
  · exact DataW.trod_lt m _ _ _ h0 x hx
  · exact JM ts vs ds q h1 x hx
 | [],[],_ :: _,_,h,_,_=>h.elim
 | [],_ :: _,_,_,h,_,_=>h.elim
 | _ :: _,[],_,_,h,_,_=>h.elim
 | _ :: _,_ :: _,[],_,h,_,_=>h.elim
end
section
variable (P:Program) (ops:Array Oper) (V:Nat→Value→World→Prop) (S:Bool→World→Prop) (XM:World→World→Prop) (M:Nat) (a0:Act)
def Th (i:Nat) (o:Oper):Prop:=∀ a w b,a.tmps.size=a0.tmps.size→S b w →
 (∀ e∈o.after,Region.binds .any e=true→V e.on (Aq ops a e.on) w) →
 (∀ t,(ops.all fun o'=>o'.dst != some t)=true→a.tmps.getD t undef=a0.tmps.getD t undef) →
 (Region.wanted o (yielded ops a.tmps)=true→FP P a o w (fun v w'=>V i v w'∧Ext w w'))∧(Region.wanted o (yielded ops a.tmps)=false→V i undef w)
def Ti (o:Oper):Prop:=∀ a w,a.tmps.size=a0.tmps.size→S false w →
 (∀ e∈o.after,Region.binds .any e=true→V e.on (Aq ops a e.on) w) →
 (∀ t,(ops.all fun o'=>o'.dst != some t)=true→a.tmps.getD t undef=a0.tmps.getD t undef)→Region.wanted o (yielded ops a.tmps)=true ∧
 FP P a o w (fun v w'=>V M v w'∧XM w w'∧S true w')
def Lc (L:Nat):Nat→List Oper→Prop
 | _,[]=>True
 | i,o :: l=>(if i=M then Ti P ops V S XM M a0 o else if i=L then True else Th P ops V S a0 i o)∧Lc L (i+1) l
def
  rvOkX (n L:Nat):Bool :=
 decide (ops.size=L+1) && ((List.range L).all fun i=>match ops[i]? with
  | none=>true
  | some o=>(match o.dst with
   | none=>false
   | some d=>decide (d<n) && (List.range ops.size).all fun j=>decide (i=j) || (match ops[j]? with | some o'=>o'.dst != some d | none=>true)) &&
   o.after.all fun e=>!Region.binds .any e || decide (e.on<i)) &&
 (match ops[L]? with
  | none=>false
  | some o=>((List.range L).all fun j=>o.after.any fun e=>e.on == j && Region.binds .any e) && o.after.all fun e=>!Region.binds .any e || decide (e.on<L))
structure Or (L:Nat) (listed:Array Bool) (a:Act) (w:World):Prop where
 ls:listed.size=ops.size
 last:listed.getD L true=false
 size:a.tmps.size=a0.tmps.size
 df:a.defers=a0.defers
 s:S (listed.getD M true) w
 done:∀ i,i<L→listed.getD i true=true→V i (Aq ops a i) w
 base:∀ t,(ops.all fun o'=>o'.dst != some t)=true→a.tmps.getD t undef=a0.tmps.getD t undef
end
section
variable {P:Program} {ops:Array Oper} {V:Nat→Value→World→Prop} {S:Bool→World→Prop} {XM:World→World→Prop} {M:Nat} {a0:Act} {Q:Exit→Act→World→Prop}
theorem JN {n L:Nat} (h:rvOkX ops n L=true) {i:Nat} {o:Oper} (hL:i<L) (ho:ops[i]? = some o):∃ d,o.dst=some d∧d<n∧(∀ j o',ops[j]? = some o'→i≠j→o'.dst≠some d)∧∀ e∈o.after,Region.binds .any e=true→e.on<i:=by
 unfold rvOkX at h;simp only [Bool.and_eq_true] at h;have h1:=(List.all_eq_true.1 h.1.2) i (by simpa using hL);rw [ho] at h1;simp only [Bool.and_eq_true] at h1;obtain ⟨h2,h3⟩:=h1;cases hd:o.dst with
 | none=>rw [hd] at h2;cases h2
 | some d =>
  rw [hd] at h2;simp only [Bool.and_eq_true,decide_eq_true_eq,List.all_eq_true] at h2;refine ⟨d,rfl,h2.1,fun j o' hj jb=>?_,fun e he hb=>?_⟩
  ·have ja:j<ops.size:=(A9.1 hj).1;have:=h2.2 j (by simpa using ja);rw [hj] at this;simp only [Bool.or_eq_true,decide_eq_true_eq,bne_iff_ne] at this;exact this.resolve_left jb
  ·rw [Array.all_eq_true'] at h3;have:=h3 e he;rw [hb] at this;simpa using this
theorem Gf {n L:Nat} (h:rvOkX ops n L=true):ops.size=L+1:=by
 unfold rvOkX at h;simp only [Bool.and_eq_true,decide_eq_true_eq] at h;exact h.1.1
theorem JO {n L:Nat} (h:rvOkX ops n L=true):∃ o,ops[L]? = some o∧(∀ j,j<L→∃ e∈o.after,e.on=j∧Region.binds .any e=true)∧∀ e∈o.after,Region.binds .any e=true→e.on<L:=by
 unfold rvOkX at h;simp only [Bool.and_eq_true] at h;cases ho:ops[L]? with
 | none=>rw [ho] at h;cases h.2
 | some o =>
  rw [ho] at h;simp only [Bool.and_eq_true] at h;refine ⟨o,rfl,fun j hj=>?_,fun e he hb=>?_⟩
  ·have:=(List.all_eq_true.1 h.2.1) j (by simpa using hj);rw [Array.any_eq_true'] at this;obtain ⟨e,he,h2⟩:=this;simp only [Bool.and_eq_true,beq_iff_eq] at h2;exact ⟨e,he,h2.1,h2.2⟩
  ·have:=(Array.all_eq_true'.1 h.2.2) e he;rw [hb] at this;simpa using this
theorem rvAtX_put {n L:Nat} (jh:rvOkX ops n L=true) (hn:a0.tmps.size=n) {listed:Array Bool} {a:Act} {w w':World} {i:Nat} {o:Oper} {v:Value}
  (h:Or ops V S M a0 L listed a w) (jf:i<L) (ho:ops[i]? = some o) (hv:V i v w') (hx:∀ j,j≠i→∀ v,V j v w→V j v w') (hs:S ((listed.setIfInBounds i true).getD M true) w'):Or ops V S M a0 L (listed.setIfInBounds i true) (a.put o.dst v) w':=by
 obtain ⟨d,hd,je,ja,hdep⟩:=JN jh jf ho;have hi:i<ops.size:=(A9.1 ho).1;have jc:a.put o.dst v={ a with tmps:=a.tmps.setIfInBounds d v }:=by rw [hd];rfl
 rw [jc];refine ⟨by simp [h.ls],by rw [getD_set_ne (by omega)];exact h.last,by simp [h.size],h.df,hs,fun j hj hl=>?_,fun t ht=>?_⟩
 ·by_cases e:i=j
  ·subst e;have:Aq ops { a with tmps:=a.tmps.setIfInBounds d v } i=v:=by
    unfold Aq;rw [ho];simp only [hd];rw [A8,Array.getElem?_setIfInBounds_self,if_pos (by rw [h.size,hn];exact je)];rfl
   rw [this];exact hv
  ·rw [getD_set_ne e] at hl;have:Aq ops { a with tmps:=a.tmps.setIfInBounds d v } j=Aq ops a j:=by
    unfold Aq;cases jg:ops[j]? with
    | none=>rfl
    | some o' =>
     simp only;cases jd:o'.dst with
     | none=>rfl
     | some d' =>
      simp only;have jb:d≠d':=fun e2=>ja j o' jg e (by rw [jd,e2]);rw [A8,Array.getElem?_setIfInBounds_ne jb,← A8]
   rw [this];exact hx _ (Ne.symm e) _ (h.done j hj hl)
 ·have jb:d≠t:=fun e=>by
   rw [Array.all_eq_true'] at ht;have:=ht o (Array.mem_of_getElem? ho);rw [hd,e] at this;simp at this
  show (a.tmps.setIfInBounds d v).getD t undef=_;rw [A8,Array.getElem?_setIfInBounds_ne jb,← A8];exact h.base t ht
theorem EE {listed:Array Bool} {i n:Nat} (hs:listed.size=n) (hi:i<n) (h:listed.getD i false=true):listed.getD i true=true:=by
 rw [A8,AU (by omega)] at h ⊢;exact h
theorem Dq {listed:Array Bool} {i n:Nat} (hs:listed.size=n) (hi:i<n) (h:listed.getD i true=true):listed.getD i false=true:=by
 rw [A8,AU (by omega)] at h ⊢;exact h
theorem some_ready {n L:Nat} (jd:rvOkX ops n L=true) {listed:Array Bool} (hl:listed.size=ops.size) (hL:listed.getD L true=false):Region.ready .any ops listed≠[]:=by
 intro h;have hs:=Gf jd;have jb:∀ i,i<L→listed.getD i true=true:=by
  intro i
  induction i using Nat.strongRecOn with
  | _
    i
     ih =>
   intro hi;cases hb:listed.getD i true with
   | true=>rfl
   | false =>
    have ho:ops[i]? = some (ops[i]'(by omega)):=AU (by omega);obtain ⟨d,hd,_,_,ja⟩:=JN jd hi ho;have:i∈Region.ready .any ops listed:=CE.2 ⟨by omega,hb,_,ho,fun e he jc=>by
     have h1:=ja e he jc;exact Dq hl (by omega) (ih e.on h1 (by omega))⟩
    rw [h] at this;cases this
 obtain ⟨o,ho,_,ja⟩:=JO jd;have:L∈Region.ready .any ops listed:=CE.2 ⟨by omega,hL,o,ho,fun e he jc=>by
  have h1:=ja e he jc;exact Dq hl (by omega) (jb e.on h1)⟩
 rw [h] at this;cases this
theorem Kl {listed:Array Bool} (h:Region.ready .any ops listed=[]) {a:Act} {w:World} (hq:Q .normal a w):∀ fuel,wpAny P .any ops Q fuel listed a w
 | 0=>⟨h,hq⟩
 | fuel+1=>⟨fun _=>hq,fun i hi=>by rw [h] at hi;cases hi⟩
theorem PW {L:Nat}:∀ (l:List Oper) (k:Nat),Lc P ops V S XM M a0 L k l→∀ i o,l[i]? = some o→(if k+i=M then Ti P ops V S XM M a0 o else if k+i=L then True else Th P ops V S a0 (k+i) o):=by
 intro l
 induction l with
 | nil=>intro k _ i o ho;simp at ho
 | cons x l ih =>
  intro k h i o ho;cases i with
  | zero =>
   have:x=o:=by simpa using ho
   subst this;exact h.1
  | succ i =>
   have h2:=ih (k+1) h.2 i o (by simpa using ho);have e:k+(i+1)=k+1+i:=by omega
   rw [e];exact h2
theorem rvX_any (jm:∀ i v w w',V i v w→Ext w w'→V i v w') (jl:∀ i v w w',i≠M→V i v w→XM w w'→V i v w') (jk:∀ b w w',S b w→Ext w w'→S b w') {n L:Nat} (jc:rvOkX ops n L=true) (hn:a0.tmps.size=n) (jp:M<L)
  (jr:Lc P ops V S XM M a0 L 0 ops.toList)
  (jh:∀ a w,a.tmps.size=a0.tmps.size→a.defers=a0.defers→S true w→(∀ i,i<L→V i (Aq ops a i) w)→(∀ t,(ops.all fun o'=>o'.dst != some t)=true→a.tmps.getD t undef=a0.tmps.getD t undef)→wpOp P ops Q L (fun a' w'=>Q .normal a' w') a w) :
  ∀ (fuel:Nat) (listed:Array Bool) (a:Act) (w:World),Or ops V S M a0 L listed a w→FX ops.size (fun i=>listed.getD i true)≤fuel→wpAny P .any ops Q fuel listed a w:=by
 have hs:=Gf jc;intro fuel
 induction fuel with
 | zero =>
  intro listed a w h hc;have jb:=G4 (f:=fun i=>listed.getD i true) (Nat.le_zero.1 hc);have:=jb L (by omega);rw [h.last] at this;cases this
 | succ fuel ih =>
  intro listed a w h hc;refine ⟨fun hr=>absurd hr (some_ready jc h.ls h.last),fun i hi=>?_⟩;obtain ⟨h1,h2,o,ho,h3⟩:=CE.1 hi;by_cases je:i<L
  ·have ji:FX ops.size (fun j=>(listed.setIfInBounds i true).getD j true)≤fuel:=by
    have:=JB (f:=fun j=>listed.getD j true) (g:=fun j=>(listed.setIfInBounds i true).getD j true) (fun j hj=>by
     by_cases e:i=j
     · subst e;exact BM (by rw [h.ls];exact h1)
     ·show (listed.setIfInBounds i true).getD j true=true;rw [getD_set_ne e];exact hj) (j:=i) (BM (by rw [h.ls];exact h1)) h2 ops.size h1
    omega
   have ja:∀ e∈o.after,Region.binds .any e=true→V e.on (Aq ops a e.on) w:=fun e he hb=>by
    have jq:=h3 e he hb;obtain ⟨d,hd,_,_,jj⟩:=JN jc je ho;have hlt2:=jj e he hb;exact h.done e.on (by omega) (EE h.ls (by omega) jq)
   have hO:=PW _ _ jr i o (by rw [Array.getElem?_toList];exact ho);rw [Nat.zero_add] at hO;unfold wpOp;rw [ho];simp only;by_cases jd:i=M
   ·rw [if_pos jd] at hO;have jo:=h.s;rw [← jd,h2] at jo;obtain ⟨hw,hO⟩:=hO a w h.size jo ja h.base;rw [hw,if_pos rfl];refine .inl ?_;have jg:∀ w',S true w'→S ((listed.setIfInBounds i true).getD M true) w':=fun w' hh=>by
     rw [← jd,BM (by rw [h.ls];exact h1)];exact hh
    rcases hO with ⟨v,w',hr,hv,hx,jf⟩ | ⟨f,args,w',hr,hC⟩
    ·unfold Oper.wp;rw [hr];exact ih _ _ _ (rvAtX_put jc hn h je ho (by rw [jd];exact hv) (fun j hj v hv=>jl _ _ _ _ (by omega) hv hx) (jg _ jf)) ji
    ·unfold Oper.wp;rw [hr];refine hC.mono ?_;rintro e w'' ⟨v,rfl,hv,hx,jf⟩;exact ih _ _ _ (rvAtX_put jc hn h je ho (by rw [jd];exact hv) (fun j hj v hv=>jl _ _ _ _ (by omega) hv hx) (jg _ jf)) ji
   ·rw [if_neg jd,if_neg (by omega)] at hO;have hO:=hO a w _ h.size h.s ja h.base;have jg:∀ w',S (listed.getD M true) w'→S ((listed.setIfInBounds i true).getD M true) w':=fun w' hh=>by
     rw [getD_set_ne jd];exact hh
    cases hw:Region.wanted o (yielded ops a.tmps) with
    | false =>
     rw [if_neg (by simp)];exact ih _ _ _ (rvAtX_put jc hn h je ho (hO.2 hw) (fun _ _ _ h=>h) (jg _ h.s)) ji
    | true =>
     rw [if_pos rfl];refine .inl ?_;rcases hO.1 hw with ⟨v,w',hr,hv,hx⟩ | ⟨f,args,w',hr,hC⟩
     ·unfold Oper.wp;rw [hr];exact ih _ _ _ (rvAtX_put jc hn h je ho hv (fun j hj v hv=>jm _ _ _ _ hv hx) (jg _ (jk _ _ _ h.s hx))) ji
     ·unfold Oper.wp;rw [hr];refine hC.mono ?_;rintro e w'' ⟨v,rfl,hv,hx⟩;exact ih _ _ _ (rvAtX_put jc hn h je ho hv (fun j hj v hv=>jm _ _ _ _ hv hx) (jg _ (jk _ _ _ h.s hx))) ji
  ·obtain rfl:i=L:=by omega
   obtain ⟨o2,jn,ja,_⟩:=JO jc;have jb:∀ j,j<i→listed.getD j true=true:=fun j hj=>by
    obtain ⟨e,he,rfl,hb⟩:=ja j hj;rw [ho] at jn;cases jn;exact EE h.ls (by omega) (h3 e he hb)
   have jf:=h.s;rw [jb M jp] at jf;refine wpOp_mono (fun a' w' hq=>Kl ?_ hq fuel) (jh a w h.size h.df jf (fun j hj=>h.done j hj (jb j hj)) h.base);rw [List.eq_nil_iff_forall_not_mem];intro j hj;obtain ⟨g1,g2,_⟩:=CE.1 hj;by_cases e:i=j
   · subst e;rw [BM (by rw [h.ls];exact h1)] at g2;cases g2
   · rw [getD_set_ne e,jb j (by omega)] at g2;cases g2
theorem Co {id:Nat} (hm:P.follows .mixedOrders=true) {w:World} (V:Nat→Value→World→Prop) (S:Bool→World→Prop) (XM:World→World→Prop) (n M L:Nat) (jc:rvOkX ops n L=true) (hn:a0.tmps.size=n) (jd:M<L)
  (jf:∀ i v w w',V i v w→Ext w w'→V i v w') (je:∀ i v w w',i≠M→V i v w→XM w w'→V i v w') (jb:∀ b w w',S b w→Ext w w'→S b w') (hS:S false w)
  (jg:Lc P ops V S XM M a0 L 0 ops.toList)
  (ja:∀ a w,a.tmps.size=a0.tmps.size→a.defers=a0.defers→S true w→(∀ i,i<L→V i (Aq ops a i) w)→(∀ t,(ops.all fun o'=>o'.dst != some t)=true→a.tmps.getD t undef=a0.tmps.getD t undef)→wpOp P ops Q L (fun a' w'=>Q .normal a' w') a w) :
  (Code.region id ops true).wp P Q a0 w:=by
 have hs:=Gf jc;have hx:Ext w { w with drawn:=w.drawn+1 }:=⟨rfl,rfl,rfl,A7 _,fun _ _=>rfl⟩
 have h0:Or ops V S M a0 L (Array.replicate ops.size false) a0 { w with drawn:=w.drawn+1 }:=by
  refine ⟨by simp,?_,rfl,rfl,?_,fun i hi h=>?_,fun _ _=>rfl⟩
  · rw [A8,Array.getElem?_replicate,if_pos (by omega)];rfl
  ·have:(Array.replicate ops.size false).getD M true=false:=by rw [A8,Array.getElem?_replicate,if_pos (by omega)];rfl
   rw [this];exact jb _ _ _ hS hx
  ·rw [A8,Array.getElem?_replicate,if_pos (by omega)] at h;cases h
 exact wp_region_any hm (rvX_any jf je jb jc hn jd jg ja ops.size (Array.replicate ops.size false) a0 _ h0 (JA _ _))
def Nl (X:World→World→Prop) (M:Nat):Nat→List (Value→World→Prop)→Prop
 | _,[]=>True
 | i,p :: l=>(i≠M→∀ v w w',p v w→X w w'→p v w')∧Nl X M (i+1) l
theorem Km {X:World→World→Prop} {M:Nat}:∀ (l:List (Value→World→Prop)) (k:Nat),Nl X M k l→∀ i p,l[i]? = some p→k+i≠M→∀ v w w',p v w→X w w'→p v w'
 | [],_,_,i,p,h=>by simp at h
 | q :: l,k,h,0,p,hp=>by
  have:q=p:=by simpa using hp
  subst this;exact h.1
 | q :: l,k,h,i+1,p,hp=>fun hne=>Km l (k+1) h.2 i p (by simpa using hp) (by omega)
theorem Nm {X:World→World→Prop} {M:Nat} {l:List (Value→World→Prop)} (h:Nl X M 0 l):∀ i v w w',i≠M→Vs l i v w→X w w'→Vs l i v w':=by
 intro i v w w' hne hv hx;unfold Vs at *;by_cases hi:i<l.length
 ·rw [Ab,AE hi] at hv ⊢;exact Km l 0 h i _ (AE hi) (by omega) v w w' hv hx
 · rw [Ab,Ac (by omega)];trivial
end
theorem C3 {P:Program} {ops:Array Oper} {Q:Exit→Act→World→Prop} {L:Nat} {K:Act→World→Prop} {o:Oper} {A:Act} {W:World} {ty:TypeId} {p v:Operand} {ad:Addr} {a:Option Addr} {n c:Nat} {y:Value}
  (ho:ops[L]? = some o) (hg:o.guard=none) (ja:o.op=.store ty p v) (hd:o.dst=none) (hp:A.eval p=.pointer (some ad)) (hv:A.eval v=.slice a n c) (hf:W.frozen? ad=false) (hc:W.cell? ad=some y) (jb:(sizeOf ty).run P W=.ok 1 W) (hK:K A (W.setCell ad (.slice a n c))):wpOp P ops Q L K A W:=by
 unfold wpOp;rw [ho];have hw:Region.wanted o (yielded ops A.tmps)=true:=by unfold Region.wanted;rw [hg]
 simp only [hw,if_pos];refine .inl ?_;unfold Oper.wp execOp;simp only [ja,hp,hv];simp [go_sem,hf,hc,jb];rw [hd];exact hK
def Qn (ops:Array Oper):List Nat:=ops.toList.filterMap (·.dst)
theorem Qo {ops:Array Oper} {t:Nat} (h:t ∉ Qn ops):(ops.all fun o'=>o'.dst != some t)=true:=by
 rw [Array.all_eq_true'];intro o ho;have:o.dst≠some t:=fun e=>h (List.mem_filterMap.2 ⟨o,by simpa using ho,e⟩);simpa using this
theorem Qp {A:Act} {d t:Nat} {v:Value}:(A.put (some d) v).tmps.getD t undef=if d=t∧d<A.tmps.size then v else A.tmps.getD t undef:=by
 simp only [Act.put];by_cases h:d=t
 ·subst h;by_cases h2:d<A.tmps.size
  · rw [if_pos ⟨rfl,h2⟩,A8,Array.getElem?_setIfInBounds_self,if_pos h2];rfl
  · rw [if_neg (by simp [h2]),Array.setIfInBounds_eq_of_size_le (by omega)]
 · rw [if_neg (by simp [h]),A8,Array.getElem?_setIfInBounds_ne h,← A8]
theorem Kn (x:Nat→Value):∀ (ds:List Nat) (a:Act),(ds.foldl (fun a d=>a.put (some d) (x d)) a).tmps.size=a.tmps.size∧(ds.foldl (fun a d=>a.put (some d) (x d)) a).defers=a.defers
 | [],a=>⟨rfl,rfl⟩
 | d :: ds,a=>by
  have:=Kn x ds (a.put (some d) (x d));rw [List.foldl_cons];exact ⟨this.1.trans (by simp [Act.put]),this.2⟩
theorem puts_get (x:Nat→Value):∀ (ds:List Nat) (a:Act) (t:Nat),t<a.tmps.size→(ds.foldl (fun a d=>a.put (some d) (x d)) a).tmps.getD t undef=if t∈ds then x t else a.tmps.getD t undef
 | [],a,t,_=>by simp
 | d
   :: ds,a,t,ht=>by
  rw [List.foldl_cons,puts_get x ds _ t (by simpa [Act.put] using ht),Qp];by_cases h1:t∈ds
  · simp [h1]
  ·by_cases h2:d=t
   · subst h2;simp [h1,ht]
   ·have h3:¬ t=d:=fun e=>h2 e.symm;simp [h1,h2,h3]
theorem Sk {A B:Act} (h1:A.tmps.size=B.tmps.size) (h2:A.defers=B.defers) (h3:∀ t,t<A.tmps.size→A.tmps.getD t undef=B.tmps.getD t undef):A=B:=by
 obtain ⟨ta,da⟩:=A;obtain ⟨tb,db⟩:=B;simp only at h1 h2 h3;subst h2;congr 1;apply Array.ext h1;intro i hi ja;have:=h3 i hi;rw [A8,A8,AU hi,AU ja] at this;simpa using this
theorem Aw {A a0:Act} {ops:Array Oper} (ds:List Nat) (jb:Qn ops=ds) (jc:A.tmps.size=a0.tmps.size) (ja:A.defers=a0.defers) (hb:∀ t,(ops.all fun o'=>o'.dst != some t)=true→A.tmps.getD t undef=a0.tmps.getD t undef) :
  ∃ x:Nat→Value,(∀ t,x t=A.tmps.getD t undef)∧A=ds.foldl (fun a d=>a.put (some d) (x d)) a0:=by
 refine ⟨fun d=>A.tmps.getD d undef,fun _=>rfl,?_⟩;have h:=Kn (fun d=>A.tmps.getD d undef) ds a0;refine Sk (jc.trans h.1.symm) (ja.trans h.2.symm) fun t ht=>?_;rw [puts_get _ _ _ _ (by omega)];by_cases hm:t∈ds
 · rw [if_pos hm]
 ·rw [if_neg hm];exact hb t (Qo (by rw [jb];exact hm))
theorem Ay {A:Act} {t:Nat} {v:Value} (h:A.tmps.getD t undef=v):A.eval (.tmp t)=v:=by
 rw [A8] at h;simpa [go_sem,Act.eval] using h
theorem J3 {o:Oper} {ops:Array Oper} {A:Act} {j d:Nat} {want:Bool} {X Y:Prop} (hg:o.guard=some (j,want)) (hd:(ops[j]?).bind (·.dst)=some d) (h:A.tmps[d]?.getD undef=undef) (hY:Y) :
  (Region.wanted o (yielded ops A.tmps)=true→X)∧(Region.wanted o (yielded ops A.tmps)=false→Y):=by
 have hy:yielded ops A.tmps j=none:=by
  unfold yielded;rw [hd];simp only [Option.bind_some];cases hx:A.tmps[d]? with
  | none=>rfl
  | some v=>rw [hx] at h;simp only [Option.getD_some] at h;subst h;rfl
 have:Region.wanted o (yielded ops A.tmps)=false:=by unfold Region.wanted;rw [hg];simp only [hy];rfl
 rw [this];exact ⟨fun h=>(by cases h),fun _=>hY⟩
def upd (f:Nat→Bool) (i:Nat):Nat→Bool:=fun j=>if j=i then true else f j
section
variable (P:Program) (ops:Array Oper) (V:Nat→Value→World→Prop) (X:Nat→World→World→Prop) (S:(Nat→Bool)→World→Prop) (ms:List Nat) (a0:Act) (L:Nat)
def Tj (i:Nat) (o:Oper):Prop:=∀ a w f,a.tmps.size=a0.tmps.size→f i=false→(∀ j,(ms.getD i 0).testBit j=true→f j=true)→(∀ j,j<ms.length→(ms.getD j 0).testBit i=true→f j=false)→S f w →
 (∀ j,(ms.getD i 0).testBit j=true→V j (Aq ops a j) w) →
 (∀ t,(ops.all fun o'=>o'.dst != some t)=true→a.tmps.getD t undef=a0.tmps.getD t undef) →
 (∀ j d,j<ms.length→f j=false→(ops[j]?).bind (·.dst)=some d→a.tmps.getD d undef=a0.tmps.getD d undef) →
 (Region.wanted o (yielded ops a.tmps)=true→FP P a o w (fun v w'=>V i v w'∧X i w w'∧S (upd f i) w'))∧(Region.wanted o (yielded ops a.tmps)=false→V i undef w∧S (upd f i) w)
def No:Nat→List Oper→Prop
 | _,[]=>True
 | i,o :: l=>(if i=L then True else Tj P ops V X S ms a0 i o)∧No (i+1) l
def Qq (i:Nat) (o:Oper):Prop:=∀ a w f,a.tmps.size=a0.tmps.size→f i=false→(∀ j,(ms.getD i 0).testBit j=true→f j=true)→(∀ j,j<ms.length→(ms.getD j 0).testBit i=true→f j=false)→S f w →
 (∀ j,(ms.getD i 0).testBit j=true→V j (Aq ops a j) w) →
 (∀ t,(ops.all fun o'=>o'.dst != some t)=true→a.tmps.getD t undef=a0.tmps.getD t undef) →
 (∀ j d,j<ms.length→f j=false→(ops[j]?).bind (·.dst)=some d→a.tmps.getD d undef=a0.tmps.getD d undef) →
 (Region.wanted o (yielded ops a.tmps)=true→(FP P a o w (fun v w'=>V i v w'∧X i w w'∧S (upd f i) w')∨(o.dst=none∧∃ w',(execOp a.eval o).run P w=.ok .skip w'∧V i undef w'∧X i w w'∧S (upd f i) w')))∧(Region.wanted o (yielded ops a.tmps)=false→V i undef w∧S (upd f i) w)
def JP:Nat→List Oper→Prop
 | _,[]=>True
 | i,o :: l=>(if i=L then True else Qq P ops V X S ms a0 i o)∧JP (i+1) l
theorem Qr {i:Nat} {o:Oper} (h:Tj P ops V X S ms a0 i o):Qq P ops V X S ms a0 i o:=fun a w f h1 h2 h3 h4 h5 h6 h7 h8 =>
 ⟨fun hw=>.inl ((h a w f h1 h2 h3 h4 h5 h6 h7 h8).1 hw),(h a w f h1 h2 h3 h4 h5 h6 h7 h8).2⟩
theorem Ot:∀ (l:List Oper) (i:Nat),No P ops V X S ms a0 L i l→JP P ops V X S ms a0 L i l
 | [],_,_=>trivial
 | o
   :: l,i,h=>⟨by
   have h1:=h.1;split
   · trivial
   · rename_i e;rw [if_neg e] at h1;exact Qr P ops V X S ms a0 h1,Ot l (i+1) h.2⟩
def
  rvOkS (b:Bool) (n L:Nat):Bool :=
 ((
  List.range L).all fun i=>match ops[i]? with
  | none=>false
  | some o=>(match o.dst with
   | none=>b
   | some d=>decide (d<n) && (List.range ops.size).all fun j=>decide (i=j) || (match ops[j]? with | some o'=>o'.dst != some d | none=>true)) &&
   (o.after.all fun e=>!Region.binds .any e || decide (e.on<i)) &&
   (List.range ops.size).all fun j=>!(ms.getD i 0).testBit j || o.after.any fun e=>Region.binds .any e && (e.on == j || (ms.getD e.on 0).testBit j)) &&
 ((List.range L).all fun i=>decide (ms.getD i 0<2 ^ i)) && decide (ms.length=L) &&
 (decide (ops.size=L) || (decide (ops.size=L+1) && match ops[L]? with
  | none=>false
  | some o=>((List.range L).all fun j=>o.after.any fun e=>Region.binds .any e && (e.on == j || (ms.getD e.on 0).testBit j)) && o.after.all fun e=>!Region.binds .any e || decide (e.on<L)))
structure Ko (listed:Array Bool) (a:Act) (w:World):Prop where
 ls:listed.size=ops.size
 last:L<ops.size→listed.getD L true=false
 size:a.tmps.size=a0.tmps.size
 df:a.defers=a0.defers
 s:S (fun i=>listed.getD i true) w
 closed:∀ i o,i<L→listed.getD i true=true→ops[i]? = some o→∀ e∈o.after,Region.binds .any e=true→listed.getD e.on true=true
 done:∀ i,i<L→listed.getD i true=true→V i (Aq ops a i) w
 base:∀ t,(ops.all fun o'=>o'.dst != some t)=true→a.tmps.getD t undef=a0.tmps.getD t undef
 und:∀ j d,j<L→listed.getD j true=false→(ops[j]?).bind (·.dst)=some d→a.tmps.getD d undef=a0.tmps.getD d undef
end
section
variable {P:Program} {ops:Array Oper} {V:Nat→Value→World→Prop} {X:Nat→World→World→Prop} {S:(Nat→Bool)→World→Prop} {ms:List Nat} {a0:Act} {Q:Exit→Act→World→Prop} {L:Nat} {bn:Bool}
theorem Ha {n:Nat} (h:rvOkS ops ms bn n L=true) {i:Nat} (hL:i<L):∃ o,ops[i]? = some o∧(o.dst=none→bn=true)∧(∀ d,o.dst=some d→d<n∧∀ j o',ops[j]? = some o'→i≠j→o'.dst≠some d)∧(∀ e∈o.after,Region.binds .any e=true→e.on<i) ∧
  ∀ j,j<ops.size→(ms.getD i 0).testBit j=true→∃ e∈o.after,Region.binds .any e=true∧(e.on=j∨(ms.getD e.on 0).testBit j=true):=by
 unfold rvOkS at h;simp only [Bool.and_eq_true] at h;have h1:=(List.all_eq_true.1 h.1.1.1) i (by simpa using hL);cases ho:ops[i]? with
 | none=>rw [ho] at h1;cases h1
 | some o =>
  rw [ho] at h1;simp only [Bool.and_eq_true] at h1;obtain ⟨⟨h2,h3⟩,h4⟩:=h1;refine ⟨o,rfl,fun hd=>?_,fun d hd=>?_,fun e he hb=>?_,fun j hj hm=>?_⟩
  · rw [hd] at h2;exact h2
  ·rw [hd] at h2;simp only [Bool.and_eq_true,decide_eq_true_eq,List.all_eq_true] at h2;refine ⟨h2.1,fun j o' hj jb=>?_⟩;have ja:j<ops.size:=(A9.1 hj).1;have:=h2.2 j (by simpa using ja);rw [hj] at this;simp only [Bool.or_eq_true,decide_eq_true_eq,bne_iff_ne] at this;exact this.resolve_left jb
  ·rw [Array.all_eq_true'] at h3;have:=h3 e he;rw [hb] at this;simpa using this
  ·have:=(List.all_eq_true.1 h4) j (by simpa using hj);rw [hm] at this;simp only [Bool.not_true,Bool.false_or,Array.any_eq_true',Bool.and_eq_true,Bool.or_eq_true,beq_iff_eq] at this;obtain ⟨e,he,h5,h6⟩:=this;exact ⟨e,he,h5,h6⟩
theorem MQ {n:Nat} (h:rvOkS ops ms bn n L=true) {i j:Nat} (hL:i<L) (hb:(ms.getD i 0).testBit j=true):j<i:=by
 unfold rvOkS at h;simp only [Bool.and_eq_true] at h;have h1:=(List.all_eq_true.1 h.1.1.2) i (by simpa using hL);simp only [decide_eq_true_eq] at h1;rcases Nat.lt_or_ge j i with h2 | h2
 · exact h2
 ·have h3:2 ^ i≤2 ^ j:=Nat.pow_le_pow_right (by decide) h2;rw [Nat.testBit_lt_two_pow (by omega)] at hb;cases hb
theorem Kr {n:Nat} (h:rvOkS ops ms bn n L=true):ms.length=L:=by
 unfold rvOkS at h;simp only [Bool.and_eq_true,decide_eq_true_eq] at h;exact h.1.2
theorem rvOkS_size {n:Nat} (h:rvOkS ops ms bn n L=true):ops.size=L∨ops.size=L+1∧∃ o,ops[L]? = some o∧(∀ j,j<L→∃ e∈o.after,Region.binds .any e=true∧(e.on=j∨(ms.getD e.on 0).testBit j=true))∧∀ e∈o.after,Region.binds .any e=true→e.on<L:=by
 unfold rvOkS at h;simp only [Bool.and_eq_true,Bool.or_eq_true,decide_eq_true_eq] at h;rcases h.2 with h1 | ⟨h1,h2⟩
 · exact .inl h1
 ·refine .inr ⟨h1,?_⟩;cases ho:ops[L]? with
  | none=>rw [ho] at h2;cases h2
  | some o =>
   rw [ho] at h2;simp only [Bool.and_eq_true] at h2;refine ⟨o,rfl,fun j hj=>?_,fun e he hb=>?_⟩
   ·have:=(List.all_eq_true.1 h2.1) j (by simpa using hj);rw [Array.any_eq_true'] at this;obtain ⟨e,he,h3⟩:=this;simp only [Bool.and_eq_true,Bool.or_eq_true,beq_iff_eq] at h3;exact ⟨e,he,h3.1,h3.2⟩
   ·have:=(Array.all_eq_true'.1 h2.2) e he;rw [hb] at this;simpa using this
theorem PX:∀ (l:List Oper) (k:Nat),JP P ops V X S ms a0 L k l→∀ i o,l[i]? = some o→k+i≠L→Qq P ops V X S ms a0 (k+i) o:=by
 intro l
 induction l with
 | nil=>intro k _ i o ho;simp at ho
 | cons x l ih =>
  intro k h i o ho hne;cases i with
  | zero =>
   have:x=o:=by simpa using ho
   subst this;have h1:=h.1;rw [if_neg (by omega)] at h1;exact h1
  | succ i =>
   have e:k+(i+1)=k+1+i:=by omega
   rw [e];exact ih (k+1) h.2 i o (by simpa using ho) (by omega)
theorem G5 {n:Nat} (ja:rvOkS ops ms bn n L=true) {listed:Array Bool} {a:Act} {w:World} (h:Ko ops V S a0 L listed a w):∀ i,i<L→(∀ o,ops[i]? = some o→∀ e∈o.after,Region.binds .any e=true→listed.getD e.on true=true) →
  ∀ j,(ms.getD i 0).testBit j=true→listed.getD j true=true:=by
 intro i
 induction i using Nat.strongRecOn with
 | _
   i ih =>
  intro hi hd j hj;obtain ⟨o,ho,_,_,je,hm⟩:=Ha ja hi;have hji:=MQ ja hi hj;have hsz:i<ops.size:=(A9.1 ho).1;obtain ⟨e,he,hb,h1⟩:=hm j (by omega) hj;rcases h1 with rfl | h1
  · exact hd o ho e he hb
  ·have jd:=je e he hb;exact ih e.on jd (by omega) (fun o' jf e' jc jb=>h.closed e.on o' (by omega) (hd o ho e he hb) jf e' jc jb) j h1
theorem rvAtS_put {n:Nat} (jq:rvOkS ops ms bn n L=true) (hn:a0.tmps.size=n) {listed:Array Bool} {a:Act} {w w':World} {i:Nat} {o:Oper} {v:Value}
  (h:Ko ops V S a0 L listed a w) (jo:i<L) (ho:ops[i]? = some o) (jd:∀ e∈o.after,Region.binds .any e=true→listed.getD e.on true=true) (hv:V i v w') (jr:o.dst=none→V i undef w') (hx:∀ j,j<L→j≠i→listed.getD j true=true→∀ v,V j v w→V j v w') (hs:S (upd (fun i=>listed.getD i true) i) w') :
  Ko ops V S a0 L (listed.setIfInBounds i true) (a.put o.dst v) w':=by
 obtain ⟨o2,jj,_,jk,hdep,_⟩:=Ha jq jo;rw [ho] at jj;cases jj;have hi:i<ops.size:=(A9.1 ho).1;have hA
     : (a.put o.dst v).tmps.size=a.tmps.size∧(a.put o.dst v).defers=a.defers∧V i (Aq ops (a.put o.dst v) i) w'∧∀ t,o.dst≠some t→(a.put o.dst v).tmps.getD t undef=a.tmps.getD t undef:=by
  cases hd:o.dst with
  | none =>
   refine ⟨rfl,rfl,?_,fun _ _=>rfl⟩;have:Aq ops (a.put none v) i=undef:=by unfold Aq;rw [ho];simp only [hd]
   rw [this];exact jr hd
  | some d =>
   have jh:a.put (some d) v={ a with tmps:=a.tmps.setIfInBounds d v }:=rfl;rw [jh];refine ⟨by simp,rfl,?_,fun t ht=>?_⟩
   ·have:Aq ops { a with tmps:=a.tmps.setIfInBounds d v } i=v:=by
     unfold Aq;rw [ho];simp only [hd];rw [A8,Array.getElem?_setIfInBounds_self,if_pos (by rw [h.size,hn];exact (jk d hd).1)];rfl
    rw [this];exact hv
   ·have jf:d≠t:=fun e=>ht (by rw [e]);show (a.tmps.setIfInBounds d v).getD t undef=_;rw [A8,Array.getElem?_setIfInBounds_ne jf,← A8]
 obtain ⟨jl,jm,jn,jg⟩:=hA;have jb:∀ j o' t,ops[j]? = some o'→i≠j→o'.dst=some t→o.dst≠some t:=fun j o' t hj jf ht e=>(jk t e).2 j o' hj jf ht;have hf:(fun j=>(listed.setIfInBounds i true).getD j true)=upd (fun i=>listed.getD i true) i:=by
  funext j;unfold upd;by_cases e:j=i
  · subst e;rw [if_pos rfl];exact BM (by rw [h.ls];exact hi)
  · rw [if_neg e];exact getD_set_ne (Ne.symm e)
 refine ⟨by simp [h.ls],fun hl=>by rw [getD_set_ne (by omega)];exact h.last hl,jl.trans h.size,jm.trans h.df,by rw [hf];exact hs,fun j oj jp hl ja e he hb=>?_,fun j hj hl=>?_,fun t ht=>?_,fun j dj hj hl jc=>?_⟩
 ·by_cases e2:i=j
  ·subst e2;rw [ho] at ja;cases ja;by_cases e3:i=e.on
   · rw [← e3];exact BM (by rw [h.ls];exact hi)
   · rw [getD_set_ne e3];exact jd e he hb
  ·rw [getD_set_ne e2] at hl;by_cases e3:i=e.on
   · rw [← e3];exact BM (by rw [h.ls];exact hi)
   · rw [getD_set_ne e3];exact h.closed j oj jp hl ja e he hb
 ·by_cases e:i=j
  · subst e;exact jn
  ·rw [getD_set_ne e] at hl;have:Aq ops (a.put o.dst v) j=Aq ops a j:=by
    unfold Aq;cases ja:ops[j]? with
    | none=>rfl
    | some o' =>
     simp only;cases jc:o'.dst with
     | none=>rfl
     | some d'=>exact jg d' (jb j o' d' ja e jc)
   rw [this];exact hx _ hj (Ne.symm e) hl _ (h.done j hj hl)
 ·have jf:o.dst≠some t:=fun e=>by
   rw [Array.all_eq_true'] at ht;have:=ht o (Array.mem_of_getElem? ho);rw [e] at this;simp at this
  rw [jg t jf];exact h.base t ht
 ·have ji:i≠j:=fun e=>by
   subst e;rw [BM (by rw [h.ls];exact hi)] at hl;cases hl
  rw [getD_set_ne ji] at hl;cases ja:ops[j]? with
  | none=>rw [ja] at jc;cases jc
  | some o' =>
   have je:=jc;rw [ja] at je;rw [jg dj (jb j o' dj ja ji je)];exact h.und j dj hj hl jc
theorem allS {n:Nat} (jc:rvOkS ops ms bn n L=true) {listed:Array Bool} (hl:listed.size=ops.size) (h:Region.ready .any ops listed=[]):∀ i,i<L→listed.getD i true=true:=by
 intro i
 induction i using Nat.strongRecOn with
 | _
   i
    ih =>
  intro hi;cases hb:listed.getD i true with
  | true=>rfl
  | false =>
   obtain ⟨o,ho,_,_,ja,_⟩:=Ha jc hi;have jd:i<ops.size:=(A9.1 ho).1;have:i∈Region.ready .any ops listed:=CE.2 ⟨jd,hb,_,ho,fun e he jb=>by
    have h1:=ja e he jb;exact Dq hl (by omega) (ih e.on h1 (by omega))⟩
   rw [h] at this;cases this
theorem rvS_any (jv:bn=true→∀ i o v w,ops[i]? = some o→o.dst=none→V i v w→V i undef w) (hV:∀ i j v w w',i<L→j<L→i≠j→(ms.getD j 0).testBit i=false→V j v w→X i w w'→V j v w') {n:Nat} (jb:rvOkS ops ms bn n L=true) (hn:a0.tmps.size=n)
  (jB:JP P ops V X S ms a0 L 0 ops.toList)
  (jn:ops.size=L→∀ a w,a.tmps.size=a0.tmps.size→a.defers=a0.defers→(∀ f:Nat→Bool,(∀ i,i<L→f i=true)→S f w→(∀ i,i<L→V i (Aq ops a i) w)→(∀ t,(ops.all fun o'=>o'.dst != some t)=true→a.tmps.getD t undef=a0.tmps.getD t undef)→Q .normal a w))
  (jk:ops.size≠L→∀ a w,a.tmps.size=a0.tmps.size→a.defers=a0.defers→(∀ f:Nat→Bool,(∀ i,i<L→f i=true)→S f w→(∀ i,i<L→V i (Aq ops a i) w)→(∀ t,(ops.all fun o'=>o'.dst != some t)=true→a.tmps.getD t undef=a0.tmps.getD t undef)→wpOp P ops Q L (fun a' w'=>Q .normal a' w') a w)) :
  ∀ (fuel:Nat) (listed:Array Bool) (a:Act) (w:World),Ko ops V S a0 L listed a w→FX ops.size (fun i=>listed.getD i true)≤fuel→wpAny P .any ops Q fuel listed a w:=by
 have hs:=rvOkS_size jb;have jj:∀ (listed:Array Bool) (a:Act) (w:World),Ko ops V S a0 L listed a w→Region.ready .any ops listed=[]→Q .normal a w:=by
  intro listed a w h hr;have ja:=allS jb h.ls hr;rcases hs with hs | ⟨hs,o,ho,hd,jx⟩
  · exact jn hs a w h.size h.df _ ja h.s (fun i hi=>h.done i hi (ja i hi)) h.base
  ·exfalso;have hL:=h.last (by omega);have:L∈Region.ready .any ops listed:=CE.2 ⟨by omega,hL,o,ho,fun e he hb=>by
    have h1:=jx e he hb;exact Dq h.ls (by omega) (ja e.on h1)⟩
   rw [hr] at this;cases this
 intro fuel
 induction fuel with
 | zero =>
  intro listed a w h hc;have ja:=G4 (f:=fun i=>listed.getD i true) (Nat.le_zero.1 hc);have hr:Region.ready .any ops listed=[]:=by
   rw [List.eq_nil_iff_forall_not_mem];intro j hj;obtain ⟨g1,g2,_⟩:=CE.1 hj;rw [ja j g1] at g2;cases g2
  exact ⟨hr,jj listed a w h hr⟩
 | succ fuel ih =>
  intro listed a w h hc;refine ⟨fun hr=>jj listed a w h hr,fun i hi=>?_⟩;obtain ⟨h1,h2,o,ho,h3⟩:=CE.1 hi;by_cases jd:i<L
  ·have jl:FX ops.size (fun j=>(listed.setIfInBounds i true).getD j true)≤fuel:=by
    have:=JB (f:=fun j=>listed.getD j true) (g:=fun j=>(listed.setIfInBounds i true).getD j true) (fun j hj=>by
     by_cases e:i=j
     · subst e;exact BM (by rw [h.ls];exact h1)
     ·show (listed.setIfInBounds i true).getD j true=true;rw [getD_set_ne e];exact hj) (j:=i) (BM (by rw [h.ls];exact h1)) h2 ops.size h1
    omega
   obtain ⟨o2,jt,jw,_,jm,_⟩:=Ha jb jd;rw [ho] at jt;cases jt;have jp:∀ v w',V i v w'→o.dst=none→V i undef w':=fun v w' hv hd=>jv (jw hd) i o v w' ho hd hv;have ji:∀ e∈o.after,Region.binds .any e=true→listed.getD e.on true=true:=fun e he hb=>by
    have hlt2:=jm e he hb;exact EE h.ls (by omega) (h3 e he hb)
   have js:=G5 jb h i jd (fun o' je e he hb=>by rw [ho] at je;cases je;exact ji e he hb);have hO:=PX _ _ jB i o (by rw [Array.getElem?_toList];exact ho) (by omega);rw [Nat.zero_add] at hO;have jy:∀ j,j<ms.length→(ms.getD j 0).testBit i=true→listed.getD j true=false:=fun j hj hb=>by
    rw [Kr jb] at hj;cases hl:listed.getD j true with
    | false=>rfl
    | true =>
     have:=G5 jb h j hj (fun o' je e he jg=>h.closed j o' hj hl je e he jg) i hb;rw [h2] at this;cases this
   have hO:=hO a w _ h.size h2 js jy h.s (fun j hj=>h.done j (by have:=MQ jb jd hj;omega) (js j hj)) h.base (fun j d hj hf=>h.und j d (by rw [Kr jb] at hj;exact hj) hf);have jc:∀ w',X i w w'→∀ j,j<L→j≠i→listed.getD j true=true→∀ v,V j v w→V j v w':=fun w' hx j hj jA hl v hv=>by
    refine hV i j v w w' jd hj (Ne.symm jA) ?_ hv hx;cases hb:(ms.getD j 0).testBit i with
    | false=>rfl
    | true =>
     have:=G5 jb h j hj (fun o' je e he jg=>h.closed j o' hj hl je e he jg) i hb;rw [h2] at this;cases this
   unfold wpOp;rw [ho];simp only;cases hw:Region.wanted o (yielded ops a.tmps) with
   | false =>
    rw [if_neg (by simp)];obtain ⟨hv,jf⟩:=hO.2 hw;exact ih _ _ _ (rvAtS_put jb hn h jd ho ji hv (jp _ _ hv) (fun _ _ _ _ _ h=>h) jf) jl
   | true =>
    rw [if_pos rfl];refine .inl ?_;rcases hO.1 hw with (⟨v,w',hr,hv,hx,jf⟩ | ⟨g,args,w',hr,hC⟩) | ⟨hd,w',hr,hv,hx,jf⟩
    ·unfold Oper.wp;rw [hr];exact ih _ _ _ (rvAtS_put jb hn h jd ho ji hv (jp _ _ hv) (jc w' hx) jf) jl
    ·unfold Oper.wp;rw [hr];refine hC.mono ?_;rintro e w'' ⟨v,rfl,hv,hx,jf⟩;exact ih _ _ _ (rvAtS_put jb hn h jd ho ji hv (jp _ _ hv) (jc w'' hx) jf) jl
    ·unfold Oper.wp;rw [hr];exact ih _ _ _ (rvAtS_put (v:=undef) jb hn h jd ho ji hv (fun _=>hv) (jc w' hx) jf) jl
  ·rcases hs with hs | ⟨hs,oL,ju,jh,jo⟩
   · omega
   ·obtain rfl:i=L:=by omega
    rw [ho] at ju;cases ju;have ja:∀ j,j<i→listed.getD j true=true:=fun j hj=>by
     obtain ⟨e,he,hb,h4⟩:=jh j hj;have jq:=jo e he hb;have jr:listed.getD e.on true=true:=EE h.ls (by omega) (h3 e he hb);rcases h4 with rfl | h4
     · exact jr
     · exact G5 jb h e.on jq (fun o' je e' jz jg=>h.closed e.on o' jq jr je e' jz jg) j h4
    refine wpOp_mono (fun a' w' hq=>Kl ?_ hq fuel) (jk (by omega) a w h.size h.df _ ja h.s (fun j hj=>h.done j hj (ja j hj)) h.base);rw [List.eq_nil_iff_forall_not_mem];intro j hj;obtain ⟨g1,g2,_⟩:=CE.1 hj;by_cases e:i=j
    · subst e;rw [BM (by rw [h.ls];exact h1)] at g2;cases g2
    · rw [getD_set_ne e,ja j (by omega)] at g2;cases g2
theorem Hb {bn:Bool} {id:Nat} (hm:P.follows .mixedOrders=true) {w:World} (V:Nat→Value→World→Prop) (X:Nat→World→World→Prop) (S:(Nat→Bool)→World→Prop) (ms:List Nat) (n L:Nat) (jc:rvOkS ops ms bn n L=true) (hn:a0.tmps.size=n) (jd:bn=true→∀ i o v w,ops[i]? = some o→o.dst=none→V i v w→V i undef w)
  (hV:∀ i j v w w',i<L→j<L→i≠j→(ms.getD j 0).testBit i=false→V j v w→X i w w'→V j v w') (hS:∀ f:Nat→Bool,(∀ i,i<L→f i=false)→S f { w with drawn:=w.drawn+1 })
  (je:JP P ops V X S ms a0 L 0 ops.toList)
  (jb:ops.size=L→∀ a w,a.tmps.size=a0.tmps.size→a.defers=a0.defers→(∀ f:Nat→Bool,(∀ i,i<L→f i=true)→S f w→(∀ i,i<L→V i (Aq ops a i) w)→(∀ t,(ops.all fun o'=>o'.dst != some t)=true→a.tmps.getD t undef=a0.tmps.getD t undef)→Q .normal a w))
  (ja:ops.size≠L→∀ a w,a.tmps.size=a0.tmps.size→a.defers=a0.defers→(∀ f:Nat→Bool,(∀ i,i<L→f i=true)→S f w→(∀ i,i<L→V i (Aq ops a i) w)→(∀ t,(ops.all fun o'=>o'.dst != some t)=true→a.tmps.getD t undef=a0.tmps.getD t undef)→wpOp P ops Q L (fun a' w'=>Q .normal a' w') a w)) :
  (Code.region id ops true).wp P Q a0 w:=by
 have hs:=rvOkS_size jc;have hf:∀ i,i<ops.size→(Array.replicate ops.size false).getD i true=false:=fun i hi=>by rw [A8,Array.getElem?_replicate,if_pos hi];rfl
 have h0:Ko ops V S a0 L (Array.replicate ops.size false) a0 { w with drawn:=w.drawn+1 }:=by
  refine ⟨by simp,fun hl=>hf L hl,rfl,rfl,hS _ fun i hi=>hf i (by omega),fun i o hi h=>?_,fun i hi h=>?_,fun _ _=>rfl,fun _ _ _ _ _=>rfl⟩
  · rw [hf i (by omega)] at h;cases h
  · rw [hf i (by omega)] at h;cases h
 exact wp_region_any hm (rvS_any jd hV jc hn je jb ja ops.size (Array.replicate ops.size false) a0 _ h0 (JA _ _))
theorem B4 {id:Nat} (hm:P.follows .mixedOrders=true) {w:World} (V:Nat→Value→World→Prop) (X:Nat→World→World→Prop) (S:(Nat→Bool)→World→Prop) (ms:List Nat) (n L:Nat) (jc:rvOkS ops ms false n L=true) (hn:a0.tmps.size=n)
  (hV:∀ i j v w w',i<L→j<L→i≠j→(ms.getD j 0).testBit i=false→V j v w→X i w w'→V j v w') (hS:∀ f:Nat→Bool,(∀ i,i<L→f i=false)→S f { w with drawn:=w.drawn+1 })
  (jd:No P ops V X S ms a0 L 0 ops.toList)
  (jb:ops.size=L→∀ a w,a.tmps.size=a0.tmps.size→a.defers=a0.defers→(∀ f:Nat→Bool,(∀ i,i<L→f i=true)→S f w→(∀ i,i<L→V i (Aq ops a i) w)→(∀ t,(ops.all fun o'=>o'.dst != some t)=true→a.tmps.getD t undef=a0.tmps.getD t undef)→Q .normal a w))
  (ja:ops.size≠L→∀ a w,a.tmps.size=a0.tmps.size→a.defers=a0.defers→(∀ f:Nat→Bool,(∀ i,i<L→f i=true)→S f w→(∀ i,i<L→V i (Aq ops a i) w)→(∀ t,(ops.all fun o'=>o'.dst != some t)=true→a.tmps.getD t undef=a0.tmps.getD t undef)→wpOp P ops Q L (fun a' w'=>Q .normal a' w') a w)) :
  (Code.region id ops true).wp P Q a0 w :=
 Hb hm V X S ms n L jc hn (fun e=>by cases e) hV hS (Ot P ops V X S ms a0 L _ _ jd) jb ja
end
def Xs (l:List (World→World→Prop)) (i:Nat):World→World→Prop:=l.getD i Ext
def Np (X:World→World→Prop) (m:Nat) (ms:List Nat):Nat→List (Value→World→Prop)→Prop
 | _,[]=>True
 | j,p :: l=>(j≠m→(ms.getD j 0).testBit m=false→∀ v w w',p v w→X w w'→p v w')∧Np X m ms (j+1) l
theorem Ks {X:World→World→Prop} {m:Nat} {ms:List Nat}:∀ (l:List (Value→World→Prop)) (k:Nat),Np X m ms k l→∀ i p,l[i]? = some p→k+i≠m→(ms.getD (k+i) 0).testBit m=false→∀ v w w',p v w→X w w'→p v w'
 | [],_,_,i,p,h=>by simp at h
 | q :: l,k,h,0,p,hp=>by
  have:q=p:=by simpa using hp
  subst this;exact h.1
 | q :: l,k,h,i+1,p,hp=>by
  have e:k+(i+1)=k+1+i:=by omega
  rw [e];exact Ks l (k+1) h.2 i p (by simpa using hp)
theorem BO {X:World→World→Prop} {m:Nat} {ms:List Nat} {l:List (Value→World→Prop)} (h:Np X m ms 0 l):∀ j v w w',m≠j→(ms.getD j 0).testBit m=false→Vs l j v w→X w w'→Vs l j v w':=by
 intro j v w w' hne hb hv hx;unfold Vs at *;by_cases hj:j<l.length
 ·rw [Ab,AE hj] at hv ⊢;exact Ks l 0 h j _ (AE hj) (by omega) (by rw [Nat.zero_add];exact hb) v w w' hv hx
 · rw [Ab,Ac (by omega)];trivial
def Tu (l:List (Value→World→Prop)) (ms:List Nat):Nat→List (World→World→Prop)→Prop
 | _,[]=>True
 | i,X :: r=>(X=Ext∨∀ j v w w',i≠j→(ms.getD j 0).testBit i=false→Vs l j v w→X w w'→Vs l j v w')∧Tu l ms (i+1) r
theorem Ou {l:List (Value→World→Prop)} {ms:List Nat}:∀ (r:List (World→World→Prop)) (k:Nat),Tu l ms k r→∀ i X,r[i]? = some X→X=Ext∨∀ j v w w',k+i≠j→(ms.getD j 0).testBit (k+i)=false→Vs l j v w→X w w'→Vs l j v w'
 | [],_,_,i,X,h=>by simp at h
 | q :: r,k,h,0,X,hp=>by
  have:q=X:=by simpa using hp
  subst this;exact h.1
 | q :: r,k,h,i+1,X,hp=>by
  have e:k+(i+1)=k+1+i:=by omega
  rw [e];exact Ou r (k+1) h.2 i X (by simpa using hp)
theorem BC {l:List (Value→World→Prop)} {r:List (World→World→Prop)} {ms:List Nat} {L:Nat} (hx:∀ i v w w',Vs l i v w→Ext w w'→Vs l i v w') (h:Tu l ms 0 r) :
  ∀ i j v w w',i<L→j<L→i≠j→(ms.getD j 0).testBit i=false→Vs l j v w→Xs r i w w'→Vs l j v w':=by
 intro i j v w w' _ _ ja hb hv hX;unfold Xs at hX;by_cases hi:i<r.length
 ·rw [Ab,AE hi] at hX;rcases Ou r 0 h i _ (AE hi) with h1 | h1
  ·simp only [Option.getD_some] at hX;rw [h1] at hX;exact hx _ _ _ _ hv hX
  ·rw [Nat.zero_add] at h1;exact h1 j v w w' ja hb hv hX
 ·rw [Ab,Ac (by omega)] at hX;exact hx _ _ _ _ hv hX
def D8 (ops:Array Oper) (a:Act) (w:World):Nat→Nat→List (Value→World→Prop)→Prop
 | _,_,[]=>True
 | m,k,p :: l=>(m % 2=1→p (Aq ops a k) w)∧D8 ops a w (m / 2) (k+1) l
theorem Ov {ops:Array Oper} {a:Act} {w:World}:∀ (l:List (Value→World→Prop)) (m k:Nat),(∀ j,m.testBit j=true→Vs l j (Aq ops a (k+j)) w)→D8 ops a w m k l
 | [],_,_,_=>trivial
 | p
   :: l,m,k,h=>⟨fun h1=>h 0 (by simp [Nat.testBit_zero,h1]),Ov l (m / 2) (k+1) fun j hj=>by
   have h2:=h (j+1) (by rw [Nat.testBit_add_one];exact hj);rw [show k+1+j=k+(j+1) by omega];exact h2⟩
theorem DN {ops:Array Oper} {a:Act} {w:World} {l:List (Value→World→Prop)} {m:Nat} (h:∀ j,m.testBit j=true→Vs l j (Aq ops a j) w):D8 ops a w m 0 l:=Ov l m 0 fun j hj=>by rw [Nat.zero_add];exact h j hj
end Go.Proofs.YthjmdgejnakcmaaGreatDoor
