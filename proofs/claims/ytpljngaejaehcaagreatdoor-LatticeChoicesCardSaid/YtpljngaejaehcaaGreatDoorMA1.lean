/- Texts that the claims share: Shelf, ShelfI, Lib, Region, RegionX, RegionZ, RegionQ. -/
import Derived.Shelf.Strings.Builder1
import Derived.Shelf.Small.Bits
import Derived.Shelf.Small.Wraps
import Derived.Shelf.Strings.BuilderF
import Derived.Shelf.Strings.BuilderK
import Derived.Shelf.Strconv.Itoa0
import Derived.Shelf.Strconv.Itoa1
import Derived.Shelf.LaysM
import Derived.Shelf.Strconv.Itoa2
import Derived.Shelf.Strconv.Itoa3
import Derived.Shelf.Strings.Prefix
import Derived.Shelf.Slices.Clone
import Derived.Shelf.Slices.SearchI
import Derived.Shelf.SlicesE.Clone
import Derived.Shelf.SortM.Plain
import Derived.Shelf.SortM.SortNone
import Derived.Test.YtpljngaejaehcaaGreatDoorProg
import Derived.Shelf.SlIterI.Nil
import Derived.WalkKit
import Derived.Lib.Hide
import Derived.WalkLawsBesides
import Derived.WalkSpells
import Derived.Handy
import Derived.CellFam
import Derived.Orders
import Derived.IntWalk
set_option linter.unusedVariables false
set_option linter.unusedSimpArgs false
namespace Go.Proofs.YtpljngaejaehcaaGreatDoor
abbrev A0:=@Lib.hid
abbrev A3:=@Nat.le_refl
abbrev A4:=@Array.getD_eq_getD_getElem?
abbrev A5:=@Array.getElem?_eq_some_iff
abbrev A6:=@World.size_alloc
abbrev A7:=@Nat.lt_of_lt_of_le
abbrev A8:=@Nat.le_trans
abbrev A9:=@List.mem_cons_self
abbrev AA:=@List.getElem?_eq_getElem
abbrev AB:=@List.length_append
abbrev AC:=@List.length_singleton
abbrev AD:=@List.mem_singleton
abbrev AE:=@List.drop_eq_getElem_cons
abbrev AF:=@List.take_of_length_le
abbrev AG:=@List.getElem_mem
abbrev AH:=@List.mem_map
abbrev AI:=@List.getElem?_append_left
abbrev AJ:=@Array.getElem?_eq_getElem
abbrev AK:=@List.length_take
abbrev AM:=@List.length_map
abbrev AN:=@List.take_succ_eq_append_getElem
abbrev AO:=@List.getD_eq_getElem?_getD
abbrev AP:=@List.getElem?_eq_none
abbrev AQ:=@List.pairwise_cons
abbrev AR:=@List.pairwise_map
abbrev AS:=@List.mem_cons
abbrev AT:=@List.mem_append
abbrev AU:=@List.mem_filter
abbrev AV:=@List.mem_range
end Go.Proofs.YtpljngaejaehcaaGreatDoor
namespace Go.Proofs
open Go.Shelf
def Tryz.lays169_ren:Go.Shelf.Ren:=⟨fun | 169=>130 | n=>n,fun | 70=>212 | 9=>9 | 0=>0 | 72=>214 | 37=>26 | 127=>234 | 3=>3 | 5=>5 | n=>n,fun | n=>n⟩
theorem Tryz.lays169:Go.Proofs.Lays.n169 Tryz.prog Tryz.lays169_ren:={
 mixed:=by kernel_rfl
 f169:=Tryz.func130.trans (congrArg some (by kernel_rfl))
 t0:=Tryz.underlying0
 a0:=Tryz.isAgg0
 z0:=Tryz.sizeOf0
 v0:=Tryz.zeroValue0
 t3:=Tryz.underlying3
 a3:=Tryz.isAgg3
 z3:=Tryz.sizeOf3
 v3:=Tryz.zeroValue3
 t9:=Tryz.underlying9
 a9:=Tryz.isAgg9
 z9:=Tryz.sizeOf9
 v9:=Tryz.zeroValue9
 t37:=Tryz.underlying26
 a37:=Tryz.isAgg26
 z37:=Tryz.sizeOf26
 v37:=Tryz.zeroValue26
 t70:=Tryz.underlying212
 a70:=Tryz.isAgg212
 z70:=Tryz.sizeOf212
 v70:=Tryz.zeroValue212
 t72:=Tryz.underlying214
 a72:=Tryz.isAgg214
 z72:=Tryz.sizeOf214
 v72:=Tryz.zeroValue214
 t127:=Tryz.underlying234
 a127:=Tryz.isAgg234
 z127:=Tryz.sizeOf234
 v127:=Tryz.zeroValue234 }
theorem Tryz.Builder_Extra_169:Builder.Extra Tryz.prog Tryz.lays169_ren:={
 sizeBuilder:=by kernel_rfl
 liesBuilder:=by kernel_rfl
 t5:=Tryz.underlying5
 a5:=Tryz.isAgg5
 z5:=Tryz.sizeOf5
 v5:=Tryz.zeroValue5
 infoByte:=by kernel_rfl
 cellsByte:=by kernel_rfl
 sizeByte:=by kernel_rfl
 neB5:=by decide }
def Tryz.lays214_ren:Go.Shelf.Ren:=⟨fun | 214=>145 | n=>n,fun | 4=>4 | 9=>9 | n=>n,fun | n=>n⟩
def Tryz.lays121_ren:Go.Shelf.Ren:=⟨fun | 121=>128 | 214=>145 | n=>n,fun | 4=>4 | 9=>9 | n=>n,fun | n=>n⟩
theorem Tryz.lays121:Go.Proofs.Lays.n121 Tryz.prog Tryz.lays121_ren:={
 mixed:=by kernel_rfl
 f121:=Tryz.func128.trans (congrArg some (by kernel_rfl))
 f214:=Tryz.func145.trans (congrArg some (by kernel_rfl))
 t4:=Tryz.underlying4
 a4:=Tryz.isAgg4
 z4:=Tryz.sizeOf4
 v4:=Tryz.zeroValue4
 t9:=Tryz.underlying9
 a9:=Tryz.isAgg9
 z9:=Tryz.sizeOf9
 v9:=Tryz.zeroValue9 }
open Go.RowKit in
theorem Tryz.strconv_FormatBool (b:Bool) (w:World) :
  Calls Tryz.prog 128 #[.bool b] w fun e w'=>e=.returned (.string ⟨(Lib.formatBool b).toArray⟩)∧w'=w:=Any.strconv_FormatBool Tryz.lays121 b w
open Go.RowKit in
theorem Tryz.Builder_String_any_k (B b:Nat) (l:List UInt8) (w:World) (h:Lib.IsBuilderF 214 5 B b (Lib.byteCells l) w) (ja:B≤w.heap.size) :
  Calls Tryz.prog 130 #[.pointer (some ⟨b,0,none⟩)] w fun e w'=>e=.returned (.string ⟨l.toArray⟩)∧(Lib.IsBuilderF 214 5 B b (Lib.byteCells l) w'∧Below B w w'∧Lib.OthersKept 5 (some b) w w'):=Any.Builder_String_any_k Tryz.lays169 Tryz.Builder_Extra_169 B b l w h ja
def Tryz.laysM246_ren:Go.Shelf.Ren:=⟨fun | 246=>154 | 283=>168 | 284=>169 | 285=>170 | 286=>171 | 129=>167 | 317=>177 | 318=>178 | 319=>179 | 320=>180 | 337=>182 | 338=>183 | n=>n,fun | 2=>2 | 3=>3 | 9=>9 | 4=>4 | 171=>260 | 0=>0 | 53=>259 | 37=>26 | 5=>5 | 173=>262 | 212=>271 | 51=>257 | 20=>20 | 213=>272 | 46=>243 | 232=>276 | 233=>277 | n=>n,fun | 17=>0 | 18=>1 | 19=>2 | n=>n⟩
def Tryz.laysM243_ren:Go.Shelf.Ren:=⟨fun | 243=>146 | 246=>154 | 283=>168 | 284=>169 | 285=>170 | 286=>171 | 129=>167 | 317=>177 | 318=>178 | 319=>179 | 320=>180 | 337=>182 | 338=>183 | n=>n,fun | 3=>3 | 9=>9 | 2=>2 | 4=>4 | 171=>260 | 0=>0 | 53=>259 | 37=>26 | 5=>5 | 173=>262 | 212=>271 | 51=>257 | 20=>20 | 213=>272 | 46=>243 | 232=>276 | 233=>277 | n=>n,fun | 17=>0 | 18=>1 | 19=>2 | n=>n⟩
def Tryz.laysM171_ren:Go.Shelf.Ren:=⟨fun | 171=>129 | 243=>146 | 246=>154 | 283=>168 | 284=>169 | 285=>170 | 286=>171 | 129=>167 | 317=>177 | 318=>178 | 319=>179 | 320=>180 | 337=>182 | 338=>183 | n=>n,fun | 3=>3 | 9=>9 | 2=>2 | 4=>4 | 171=>260 | 0=>0 | 53=>259 | 37=>26 | 5=>5 | 173=>262 | 212=>271 | 51=>257 | 20=>20 | 213=>272 | 46=>243 | 232=>276 | 233=>277 | n=>n,fun | 17=>0 | 18=>1 | 19=>2 | n=>n⟩
theorem Tryz.laysM171:Go.Proofs.LaysM.n171 Tryz.prog Tryz.laysM171_ren:={
 mixed:=by kernel_rfl
 f129:=Tryz.func167.trans (congrArg some (by kernel_rfl))
 f171:=Tryz.func129.trans (congrArg some (by kernel_rfl))
 f243:=Tryz.func146.trans (congrArg some (by kernel_rfl))
 f246:=Tryz.func154.trans (congrArg some (by kernel_rfl))
 f283:=Tryz.func168.trans (congrArg some (by kernel_rfl))
 f284:=Tryz.func169.trans (congrArg some (by kernel_rfl))
 f285:=Tryz.func170.trans (congrArg some (by kernel_rfl))
 f286:=Tryz.func171.trans (congrArg some (by kernel_rfl))
 f317:=Tryz.func177.trans (congrArg some (by kernel_rfl))
 f318:=Tryz.func178.trans (congrArg some (by kernel_rfl))
 f319:=Tryz.func179.trans (congrArg some (by kernel_rfl))
 f320:=Tryz.func180.trans (congrArg some (by kernel_rfl))
 f337:=Tryz.func182.trans (congrArg some (by kernel_rfl))
 f338:=Tryz.func183.trans (congrArg some (by kernel_rfl))
 t0:=Tryz.underlying0
 a0:=Tryz.isAgg0
 z0:=Tryz.sizeOf0
 v0:=Tryz.zeroValue0
 t2:=Tryz.underlying2
 a2:=Tryz.isAgg2
 z2:=Tryz.sizeOf2
 v2:=Tryz.zeroValue2
 t3:=Tryz.underlying3
 a3:=Tryz.isAgg3
 z3:=Tryz.sizeOf3
 v3:=Tryz.zeroValue3
 t4:=Tryz.underlying4
 a4:=Tryz.isAgg4
 z4:=Tryz.sizeOf4
 v4:=Tryz.zeroValue4
 t5:=Tryz.underlying5
 a5:=Tryz.isAgg5
 z5:=Tryz.sizeOf5
 v5:=Tryz.zeroValue5
 t9:=Tryz.underlying9
 a9:=Tryz.isAgg9
 z9:=Tryz.sizeOf9
 v9:=Tryz.zeroValue9
 t20:=Tryz.underlying20
 a20:=Tryz.isAgg20
 z20:=Tryz.sizeOf20
 v20:=Tryz.zeroValue20
 t37:=Tryz.underlying26
 a37:=Tryz.isAgg26
 z37:=Tryz.sizeOf26
 v37:=Tryz.zeroValue26
 t46:=Tryz.underlying243
 a46:=Tryz.isAgg243
 z46:=Tryz.sizeOf243
 v46:=Tryz.zeroValue243
 t51:=Tryz.underlying257
 a51:=Tryz.isAgg257
 z51:=Tryz.sizeOf257
 v51:=Tryz.zeroValue257
 t53:=Tryz.underlying259
 a53:=Tryz.isAgg259
 z53:=Tryz.sizeOf259
 v53:=Tryz.zeroValue259
 t171:=Tryz.underlying260
 a171:=Tryz.isAgg260
 z171:=Tryz.sizeOf260
 v171:=Tryz.zeroValue260
 t173:=Tryz.underlying262
 a173:=Tryz.isAgg262
 z173:=Tryz.sizeOf262
 v173:=Tryz.zeroValue262
 t212:=Tryz.underlying271
 a212:=Tryz.isAgg271
 z212:=Tryz.sizeOf271
 v212:=Tryz.zeroValue271
 t213:=Tryz.underlying272
 a213:=Tryz.isAgg272
 z213:=Tryz.sizeOf272
 t232:=Tryz.underlying276
 a232:=Tryz.isAgg276
 z232:=Tryz.sizeOf276
 v232:=Tryz.zeroValue276
 t233:=Tryz.underlying277
 a233:=Tryz.isAgg277
 z233:=Tryz.sizeOf277
 v233:=Tryz.zeroValue277
 g17:=by kernel_rfl
 g18:=by kernel_rfl
 g19:=by kernel_rfl
 i0:=by kernel_rfl
 i2:=by kernel_rfl
 i3:=by kernel_rfl
 i4:=by kernel_rfl
 i5:=by kernel_rfl
 i9:=by kernel_rfl
 i20:=by kernel_rfl
 i37:=by kernel_rfl
 i46:=by kernel_rfl
 i51:=by kernel_rfl
 i53:=by kernel_rfl
 i171:=by kernel_rfl
 i173:=by kernel_rfl
 i212:=by kernel_rfl
 i232:=by kernel_rfl
 i233:=by kernel_rfl
 m17:=by kernel_rfl
 m18:=by kernel_rfl
 m19:=by kernel_rfl }
open Go.RowKit Go.Sort Go.Lib in
theorem Tryz.strconv_Itoa (n:Int) (h0:-9223372036854775808≤n) (h1:n≤9223372036854775807) (w:World) (ja:Lib.TabIs Tryz.prog w "internal/strconv.uint64pow10" .u64 Lib.pow10Tab) :
  Calls Tryz.prog 129 #[.int .i64 n] w fun e w'=>e=.returned (.string ⟨(Lib.itoa n).toArray⟩)∧∃ k os,w'=grow (w.drewN k) os:=Any.strconv_Itoa Tryz.laysM171 n h0 h1 w ja
def Tryz.keysA_ren:Go.Shelf.Ren:=⟨fun | 7=>110 | 10=>137 | n=>n,fun | 23=>173 | 26=>3 | 3=>3 | 28=>192 | 0=>0 | 27=>191 | 33=>124 | 4=>4 | n=>n,fun | n=>n⟩
theorem Tryz.keysA:Go.Proofs.SlLaysZI.n7 Tryz.prog Tryz.keysA_ren:={
 mixed:=by kernel_rfl
 f7:=⟨Tryz.f110.name,by decide,Tryz.func110.trans (congrArg some (by kernel_rfl))⟩
 f10:=⟨Tryz.f137.name,by decide,Tryz.func137.trans (congrArg some (by kernel_rfl))⟩
 t0:=Tryz.underlying0
 a0:=Tryz.isAgg0
 z0:=Tryz.sizeOf0
 v0:=Tryz.zeroValue0
 t4:=Tryz.underlying4
 a4:=Tryz.isAgg4
 z4:=Tryz.sizeOf4
 v4:=Tryz.zeroValue4
 t23:=Tryz.underlying173
 a23:=Tryz.isAgg173
 z23:=Tryz.sizeOf173
 v23:=Tryz.zeroValue173
 t26:=Tryz.underlying3
 a26:=Tryz.isAgg3
 z26:=Tryz.sizeOf3
 v26:=Tryz.zeroValue3
 t27:=Tryz.underlying191
 a27:=Tryz.isAgg191
 z27:=Tryz.sizeOf191
 v27:=Tryz.zeroValue191
 t28:=Tryz.underlying192
 a28:=Tryz.isAgg192
 z28:=Tryz.sizeOf192
 v28:=Tryz.zeroValue192
 t33:=Tryz.underlying124
 a33:=Tryz.isAgg124
 z33:=Tryz.sizeOf124
 v33:=Tryz.zeroValue124 }
def Tryz.sortedA_ren:Go.Shelf.Ren:=⟨fun | 6=>109 | 8=>135 | 9=>136 | 11=>150 | 13=>152 | 12=>151 | 23=>166 | 24=>167 | 14=>157 | 15=>158 | 16=>159 | 17=>160 | 18=>161 | 19=>162 | 20=>163 | 21=>164 | 22=>165 | 25=>172 | 26=>173 | 27=>174 | 28=>175 | 29=>176 | 30=>112 | 31=>181 | n=>n,fun | 26=>3 | 28=>192 | 24=>36 | 0=>0 | 3=>3 | 37=>243 | 48=>257 | 50=>259 | 4=>4 | 40=>251 | 39=>250 | 45=>172 | 5=>5 | 9=>9 | 51=>264 | 55=>268 | 57=>273 | 58=>274 | 33=>124 | n=>n,fun | n=>n⟩
theorem Tryz.sortedA:Go.Proofs.SlLaysZI.n6 Tryz.prog Tryz.sortedA_ren:={
 mixed:=by kernel_rfl
 f6:=⟨Tryz.f109.name,by decide,Tryz.func109.trans (congrArg some (by kernel_rfl))⟩
 f8:=⟨Tryz.f135.name,by decide,Tryz.func135.trans (congrArg some (by kernel_rfl))⟩
 f11:=⟨Tryz.f150.name,by decide,Tryz.func150.trans (congrArg some (by kernel_rfl))⟩
 t0:=Tryz.underlying0
 a0:=Tryz.isAgg0
 z0:=Tryz.sizeOf0
 v0:=Tryz.zeroValue0
 t24:=Tryz.underlying36
 a24:=Tryz.isAgg36
 z24:=Tryz.sizeOf36
 v24:=Tryz.zeroValue36
 t26:=Tryz.underlying3
 a26:=Tryz.isAgg3
 z26:=Tryz.sizeOf3
 v26:=Tryz.zeroValue3
 t28:=Tryz.underlying192
 a28:=Tryz.isAgg192
 z28:=Tryz.sizeOf192
 v28:=Tryz.zeroValue192
 i26:=by kernel_rfl }
def Tryz.sortA_ren:Go.Shelf.Ren:=⟨fun | 5=>136 | 8=>152 | 7=>151 | 19=>166 | 20=>167 | 10=>157 | 11=>158 | 12=>159 | 13=>160 | 14=>161 | 15=>162 | 16=>163 | 17=>164 | 18=>165 | 30=>172 | 31=>173 | 32=>174 | 33=>175 | 34=>176 | 35=>112 | 40=>181 | n=>n,fun | 23=>36 | 25=>3 | 3=>3 | 32=>243 | 22=>36 | 0=>0 | 44=>257 | 46=>259 | 4=>4 | 36=>251 | 35=>250 | 41=>172 | 5=>5 | 9=>9 | 53=>264 | 57=>268 | 63=>273 | 64=>274 | n=>n,fun | n=>n⟩
theorem Tryz.sortA:Go.Proofs.SlLaysM.n5 Tryz.prog Tryz.sortA_ren:={
 mixed:=by kernel_rfl
 f5:=⟨Tryz.f136.name,by decide,Tryz.func136.trans (congrArg some (by kernel_rfl))⟩
 f7:=⟨Tryz.f151.name,by decide,Tryz.func151.trans (congrArg some (by kernel_rfl))⟩
 f8:=Tryz.func152.trans (congrArg some (by kernel_rfl))
 f10:=⟨Tryz.f157.name,by decide,Tryz.func157.trans (congrArg some (by kernel_rfl))⟩
 f11:=⟨Tryz.f158.name,by decide,Tryz.func158.trans (congrArg some (by kernel_rfl))⟩
 f12:=⟨Tryz.f159.name,by decide,Tryz.func159.trans (congrArg some (by kernel_rfl))⟩
 f13:=⟨Tryz.f160.name,by decide,Tryz.func160.trans (congrArg some (by kernel_rfl))⟩
 f14:=⟨Tryz.f161.name,by decide,Tryz.func161.trans (congrArg some (by kernel_rfl))⟩
 f15:=⟨Tryz.f162.name,by decide,Tryz.func162.trans (congrArg some (by kernel_rfl))⟩
 f16:=⟨Tryz.f163.name,by decide,Tryz.func163.trans (congrArg some (by kernel_rfl))⟩
 f17:=⟨Tryz.f164.name,by decide,Tryz.func164.trans (congrArg some (by kernel_rfl))⟩
 f18:=⟨Tryz.f165.name,by decide,Tryz.func165.trans (congrArg some (by kernel_rfl))⟩
 f19:=Tryz.func166.trans (congrArg some (by kernel_rfl))
 f20:=Tryz.func167.trans (congrArg some (by kernel_rfl))
 f30:=⟨Tryz.f172.name,by decide,Tryz.func172.trans (congrArg some (by kernel_rfl))⟩
 f31:=Tryz.func173.trans (congrArg some (by kernel_rfl))
 f32:=Tryz.func174.trans (congrArg some (by kernel_rfl))
 f33:=⟨Tryz.f175.name,by decide,Tryz.func175.trans (congrArg some (by kernel_rfl))⟩
 f34:=⟨Tryz.f176.name,by decide,Tryz.func176.trans (congrArg some (by kernel_rfl))⟩
 f35:=⟨Tryz.f112.name,by decide,Tryz.func112.trans (congrArg some (by kernel_rfl))⟩
 f40:=⟨Tryz.f181.name,by decide,Tryz.func181.trans (congrArg some (by kernel_rfl))⟩
 t0:=Tryz.underlying0
 a0:=Tryz.isAgg0
 z0:=Tryz.sizeOf0
 v0:=Tryz.zeroValue0
 t3:=Tryz.underlying3
 a3:=Tryz.isAgg3
 z3:=Tryz.sizeOf3
 v3:=Tryz.zeroValue3
 t4:=Tryz.underlying4
 a4:=Tryz.isAgg4
 z4:=Tryz.sizeOf4
 v4:=Tryz.zeroValue4
 t5:=Tryz.underlying5
 a5:=Tryz.isAgg5
 z5:=Tryz.sizeOf5
 v5:=Tryz.zeroValue5
 t9:=Tryz.underlying9
 a9:=Tryz.isAgg9
 z9:=Tryz.sizeOf9
 v9:=Tryz.zeroValue9
 t22:=Tryz.underlying36
 a22:=Tryz.isAgg36
 z22:=Tryz.sizeOf36
 v22:=Tryz.zeroValue36
 t23:=Tryz.underlying36
 a23:=Tryz.isAgg36
 z23:=Tryz.sizeOf36
 v23:=Tryz.zeroValue36
 t25:=Tryz.underlying3
 a25:=Tryz.isAgg3
 z25:=Tryz.sizeOf3
 v25:=Tryz.zeroValue3
 t32:=Tryz.underlying243
 a32:=Tryz.isAgg243
 z32:=Tryz.sizeOf243
 v32:=Tryz.zeroValue243
 t35:=Tryz.underlying250
 a35:=Tryz.isAgg250
 z35:=Tryz.sizeOf250
 v35:=Tryz.zeroValue250
 t36:=Tryz.underlying251
 a36:=Tryz.isAgg251
 z36:=Tryz.sizeOf251
 v36:=Tryz.zeroValue251
 t41:=Tryz.underlying172
 a41:=Tryz.isAgg172
 z41:=Tryz.sizeOf172
 v41:=Tryz.zeroValue172
 t44:=Tryz.underlying257
 a44:=Tryz.isAgg257
 z44:=Tryz.sizeOf257
 v44:=Tryz.zeroValue257
 t46:=Tryz.underlying259
 a46:=Tryz.isAgg259
 z46:=Tryz.sizeOf259
 v46:=Tryz.zeroValue259
 t53:=Tryz.underlying264
 a53:=Tryz.isAgg264
 z53:=Tryz.sizeOf264
 v53:=Tryz.zeroValue264
 t57:=Tryz.underlying268
 a57:=Tryz.isAgg268
 z57:=Tryz.sizeOf268
 v57:=Tryz.zeroValue268
 t63:=Tryz.underlying273
 a63:=Tryz.isAgg273
 z63:=Tryz.sizeOf273
 v63:=Tryz.zeroValue273
 t64:=Tryz.underlying274
 a64:=Tryz.isAgg274
 z64:=Tryz.sizeOf274
 v64:=Tryz.zeroValue274 }
end Go.Proofs
namespace Go.Proofs.YtpljngaejaehcaaGreatDoor
open Go.RowKit
theorem BZ {W w1:World} {N:Nat} (hb:Below W.heap.size W w1) (hN:W.heap.size=N) :
  N
   ≤ w1.heap.size∧(∀ b o,(⟨b+1 - N,0,none⟩:Addr)=⟨0,0,none⟩→w1.cell? ⟨b,o,none⟩=W.cell? ⟨b,o,none⟩) ∧
   (∀ b o,(⟨b+1 - N,0,none⟩:Addr)=⟨0,0,none⟩→w1.frozen? ⟨b,o,none⟩=W.frozen? ⟨b,o,none⟩):=by
 subst hN;refine ⟨hb.size,fun b o h=>hb.cell (p:=⟨b,o,none⟩) ?_,fun b o h=>hb.frozen (p:=⟨b,o,none⟩) ?_⟩
 · have:=congrArg Addr.block h;simp only at this;show b<_;omega
 · have:=congrArg Addr.block h;simp only at this;show b<_;omega
theorem BD {W w1:World} {B N:Nat} (hb:Below B W w1) (hN:B=N) :
  W.heap.size≤w1.heap.size∧(∀ b o,(⟨b+1 - N,0,none⟩:Addr)=⟨0,0,none⟩→w1.cell? ⟨b,o,none⟩=W.cell? ⟨b,o,none⟩) ∧
   (∀ b o,(⟨b+1 - N,0,none⟩:Addr)=⟨0,0,none⟩→w1.frozen? ⟨b,o,none⟩=W.frozen? ⟨b,o,none⟩):=by
 subst hN;refine ⟨hb.size,fun b o h=>hb.cell (p:=⟨b,o,none⟩) ?_,fun b o h=>hb.frozen (p:=⟨b,o,none⟩) ?_⟩
 · have:=congrArg Addr.block h;simp only at this;show b<_;omega
 · have:=congrArg Addr.block h;simp only at this;show b<_;omega
theorem Fa {n N:Nat} (h:(⟨n+1 - N,0,none⟩:Addr)=⟨0,0,none⟩):n<N:=by
 have:=congrArg Addr.block h;simp only at this;omega
@[go_sem] theorem Rj (w:World) (o:Obj) (n i:Nat) (hn:(⟨n+1 - w.heap.size,0,none⟩:Addr)=⟨0,0,none⟩):(w.alloc o).cell? ⟨n,i,none⟩=w.cell? ⟨n,i,none⟩ :=
 World.cell?_alloc_past o n i (Fa hn)
@[go_sem] theorem Rk (w:World) (o o2 o3:Obj) (n i:Nat) (hn:(⟨n+1 - w.heap.size,0,none⟩:Addr)=⟨0,0,none⟩):(((w.alloc o).alloc o2).alloc o3).cell? ⟨n,i,none⟩=w.cell? ⟨n,i,none⟩:=by
 have:=Fa hn;rw [World.cell?_alloc_past o3 n i (by simp;omega),World.cell?_alloc_past o2 n i (by simp;omega),World.cell?_alloc_past o n i this]
@[go_sem] theorem QQ (w:World) (o:Obj) (n i:Nat) (hn:(⟨n+1 - w.heap.size,0,none⟩:Addr)=⟨0,0,none⟩):(w.alloc o).frozen? ⟨n,i,none⟩=w.frozen? ⟨n,i,none⟩ :=
 World.frozen?_alloc_past o n i (Fa hn)
theorem Ab {B:Nat} {w W w1:World} (hg:Below B w W) (hb:Below W.heap.size W w1) (hB:B≤w.heap.size):Below B w w1 :=
 hg.trans (hb.mono (A8 hB hg.size))
theorem BW {k:IntKind} {a b:Int} (h:a=b):Ending.returned (.int k a)=.returned (.int k b):=by rw [h]
theorem Aa {a b:Bool} (h:a=b):Ending.returned (.bool a)=.returned (.bool b):=by rw [h]
def Ext (w w':World):Prop:=Below w.heap.size w w'
theorem Ext.refl (w:World):Ext w w:=Below.refl _ _
theorem Ext.trans {a b c:World} (h:Ext a b) (h2:Ext b c):Ext a c:=Below.trans h (h2.mono h.size)
def Dv:Nat→(Nat→Bool)→Nat
 | 0,_=>0
 | n+1,f=>Dv n f+if f n then 0 else 1
theorem F3 (f:Nat→Bool):∀ n,Dv n f≤n
 | 0=>A3 _
 | n+1=>by have:=F3 f n;simp only [Dv];split <;> omega
theorem JA {f g:Nat→Bool} (h:∀ i,f i=true→g i=true):∀ n,Dv n g≤Dv n f
 | 0=>A3 _
 | n+1=>by
  have:=JA h n;simp only [Dv];cases hf:f n with
  | false=>split <;> simp <;> omega
  | true=>rw [h n hf];simp;exact this
theorem Dl {f g:Nat→Bool} (h:∀ i,f i=true→g i=true) {j:Nat} (hj:g j=true) (hf:f j=false):∀ n,j<n→Dv n g<Dv n f
 | n
   + 1,hn=>by
  simp only [Dv];by_cases e:j=n
  ·subst e;have:=JA h j;rw [hj,hf];simp;omega
  ·have:=Dl h hj hf n (by omega);cases ja:f n with
   | false=>split <;> simp <;> omega
   | true=>rw [h n ja];simp;exact this
theorem E8 {f:Nat→Bool}:∀ {n:Nat},Dv n f=0→∀ i,i<n→f i=true
 | n
   + 1,h,i,hi=>by
  simp only [Dv] at h;by_cases e:i=n
  ·subst e;cases hf:f i with
   | true=>rfl
   | false=>rw [hf] at h;simp at h
  · exact E8 (n:=n) (by omega) i (by omega)
section
variable (P:Program) (ops:Array Oper) (V:Nat→Value→World→Prop) (S:World→Prop) (a0:Act)
def
  rvOk (n:Nat):Bool :=
 (List.range ops.size).all fun i=>match ops[i]? with
  | none=>true
  | some o=>(match o.dst with
   | none=>false
   | some d=>decide (d<n) && (List.range ops.size).all fun j=>decide (i=j) || (match ops[j]? with | some o'=>o'.dst != some d | none=>true)) &&
   o.after.all fun e=>!Region.binds .any e || decide (e.on<i)
def Ee (a:Act) (o:Oper) (w:World) (R:Value→World→Prop):Prop :=
 (∃ v w',(execOp a.eval o).run P w=.ok (.value v) w'∧R v w') ∨
 (∃ f args w',(execOp a.eval o).run P w=.ok (.enter f args) w'∧Calls P f args w' (fun e w''=>∃ v,e=.returned v∧R v w''))
def AY (a:Act) (j:Nat):Value:=match ops[j]? with | some o=>(match o.dst with | some d=>a.tmps.getD d undef | none=>undef) | none=>undef
def Ol (i:Nat) (o:Oper):Prop:=∀ a w,a.tmps.size=a0.tmps.size→S w →
 (∀ e∈o.after,Region.binds .any e=true→V e.on (AY ops a e.on) w) →
 (∀ t,(ops.all fun o'=>o'.dst != some t)=true→a.tmps.getD t undef=a0.tmps.getD t undef) →
 (Region.wanted o (yielded ops a.tmps)=true→Ee P a o w (fun v w'=>V i v w'∧Ext w w'))∧(Region.wanted o (yielded ops a.tmps)=false→V i undef w)
structure Om (listed:Array Bool) (a:Act) (w:World):Prop where
 ls:listed.size=ops.size
 size:a.tmps.size=a0.tmps.size
 df:a.defers=a0.defers
 s:S w
 done:∀ i,i<ops.size→listed.getD i true=true→V i (AY ops a i) w
 base:∀ t,(ops.all fun o'=>o'.dst != some t)=true→a.tmps.getD t undef=a0.tmps.getD t undef
end
section
variable {P:Program} {ops:Array Oper} {V:Nat→Value→World→Prop} {S:World→Prop} {a0:Act} {Q:Exit→Act→World→Prop}
theorem Jo {n:Nat} (h:rvOk ops n=true) {i:Nat} {o:Oper} (ho:ops[i]? = some o):∃ d,o.dst=some d∧d<n∧(∀ j o',ops[j]? = some o'→i≠j→o'.dst≠some d)∧∀ e∈o.after,Region.binds .any e=true→e.on<i:=by
 have hi:i<ops.size:=(A5.1 ho).1;unfold rvOk at h;rw [List.all_eq_true] at h;have h1:=h i (by simpa using hi);rw [ho] at h1;simp only [Bool.and_eq_true] at h1;obtain ⟨h2,h3⟩:=h1;cases hd:o.dst with
 | none=>rw [hd] at h2;cases h2
 | some d =>
  rw [hd] at h2;simp only [Bool.and_eq_true,decide_eq_true_eq,List.all_eq_true] at h2;refine ⟨d,rfl,h2.1,fun j o' hj jb=>?_,fun e he hb=>?_⟩
  ·have ja:j<ops.size:=(A5.1 hj).1;have:=h2.2 j (by simpa using ja);rw [hj] at this;simp only [Bool.or_eq_true,decide_eq_true_eq,bne_iff_ne] at this;exact this.resolve_left jb
  ·rw [Array.all_eq_true'] at h3;have:=h3 e he;rw [hb] at this;simpa using this
theorem B4 {md:Region.Mode} {listed:Array Bool} {i:Nat}:i∈Region.ready md ops listed↔i<ops.size∧listed.getD i true=false∧∃ o,ops[i]? = some o∧∀ e∈o.after,Region.binds md e=true→listed.getD e.on false=true:=by
 unfold Region.ready;rw [AU,AV];constructor
 ·rintro ⟨hi,h⟩;simp only [Bool.and_eq_true,Bool.not_eq_true'] at h;refine ⟨hi,h.1,?_⟩;cases ho:ops[i]? with
  | none=>rw [ho] at h;simp at h
  | some o =>
   rw [ho] at h;refine ⟨o,rfl,fun e he hb=>?_⟩;have h2:=h.2;simp only [Option.map_some,Option.getD_some,Array.all_eq_true',Bool.or_eq_true,Bool.not_eq_true'] at h2;rcases h2 e he with h3 | h3
   · rw [hb] at h3;cases h3
   · exact h3
 ·rintro ⟨hi,h1,o,ho,h2⟩;refine ⟨hi,?_⟩;simp only [Bool.and_eq_true,Bool.not_eq_true'];refine ⟨h1,?_⟩;rw [ho];simp only [Option.map_some,Option.getD_some,Array.all_eq_true',Bool.or_eq_true,Bool.not_eq_true'];intro e he;cases hb:Region.binds md e with
  | false=>exact .inl rfl
  | true=>exact .inr (h2 e he hb)
theorem all_done {n:Nat} (jc:rvOk ops n=true) {listed:Array Bool} (hl:listed.size=ops.size) (h:Region.ready .any ops listed=[]):∀ i,i<ops.size→listed.getD i true=true:=by
 intro i
 induction i using Nat.strongRecOn with
 | _
   i
    ih =>
  intro hi;cases hb:listed.getD i true with
  | true=>rfl
  | false =>
   have ho:ops[i]? = some ops[i]:=AJ hi;obtain ⟨d,hd,_,_,ja⟩:=Jo jc ho;have:i∈Region.ready .any ops listed:=B4.2 ⟨hi,hb,_,ho,fun e he jb=>by
    have h1:=ja e he jb;have h2:=ih e.on h1 (by omega);rw [A4,AJ (by omega)] at h2 ⊢;exact h2⟩
   rw [h] at this;cases this
theorem Ak {listed:Array Bool} {i:Nat} (h:i<listed.size):(listed.setIfInBounds i true).getD i true=true:=by
 rw [A4,Array.getElem?_setIfInBounds_self];simp [h]
theorem getD_set_ne {listed:Array Bool} {i j:Nat} (h:i≠j):(listed.setIfInBounds i true).getD j true=listed.getD j true:=by
 rw [A4,Array.getElem?_setIfInBounds_ne h,← A4]
theorem rvAt_put (je:∀ i v w w',V i v w→Ext w w'→V i v w') (jd:∀ w w',S w→Ext w w'→S w') {n:Nat} (ji:rvOk ops n=true) (hn:a0.tmps.size=n) {listed:Array Bool} {a:Act} {w w':World} {i:Nat} {o:Oper} {v:Value}
  (h:Om ops V S a0 listed a w) (ho:ops[i]? = some o) (hv:V i v w') (hx:Ext w w'):Om ops V S a0 (listed.setIfInBounds i true) (a.put o.dst v) w':=by
 obtain ⟨d,hd,jg,ja,hdep⟩:=Jo ji ho;have hi:i<ops.size:=(A5.1 ho).1;have jc:a.put o.dst v={ a with tmps:=a.tmps.setIfInBounds d v }:=by rw [hd];rfl
 rw [jc];refine ⟨by simp [h.ls],by simp [h.size],h.df,jd _ _ h.s hx,fun j hj hl=>?_,fun t ht=>?_⟩
 ·by_cases e:i=j
  ·subst e;have:AY ops { a with tmps:=a.tmps.setIfInBounds d v } i=v:=by
    unfold AY;rw [ho];simp only [hd];rw [A4,Array.getElem?_setIfInBounds_self,if_pos (by rw [h.size,hn];exact jg)];rfl
   rw [this];exact hv
  ·rw [getD_set_ne e] at hl;have:AY ops { a with tmps:=a.tmps.setIfInBounds d v } j=AY ops a j:=by
    unfold AY;cases jh:ops[j]? with
    | none=>rfl
    | some o' =>
     simp only;cases jf:o'.dst with
     | none=>rfl
     | some d' =>
      simp only;have jb:d≠d':=fun e2=>ja j o' jh e (by rw [jf,e2]);rw [A4,Array.getElem?_setIfInBounds_ne jb,← A4]
   rw [this];exact je _ _ _ _ (h.done j hj hl) hx
 ·have jb:d≠t:=fun e=>by
   rw [Array.all_eq_true'] at ht;have:=ht o (Array.mem_of_getElem? ho);rw [hd,e] at this;simp at this
  show (a.tmps.setIfInBounds d v).getD t undef=_;rw [A4,Array.getElem?_setIfInBounds_ne jb,← A4];exact h.base t ht
theorem rv_any (jc:∀ i v w w',V i v w→Ext w w'→V i v w') (jb:∀ w w',S w→Ext w w'→S w') {n:Nat} (ja:rvOk ops n=true) (hn:a0.tmps.size=n)
  (ji:∀ i o,ops[i]? = some o→Ol P ops V S a0 i o)
  (jf:∀ a w,a.tmps.size=a0.tmps.size→a.defers=a0.defers→S w→(∀ i,i<ops.size→V i (AY ops a i) w)→(∀ t,(ops.all fun o'=>o'.dst != some t)=true→a.tmps.getD t undef=a0.tmps.getD t undef)→Q .normal a w) :
  ∀ (fuel:Nat) (listed:Array Bool) (a:Act) (w:World),Om ops V S a0 listed a w→Dv ops.size (fun i=>listed.getD i true)≤fuel→wpAny P .any ops Q fuel listed a w:=by
 have fin:∀ listed a w,Om ops V S a0 listed a w→Region.ready .any ops listed=[]→Q .normal a w:=fun listed a w h hr =>
  jf a w h.size h.df h.s (fun i hi=>h.done i hi (all_done ja h.ls hr i hi)) h.base
 intro fuel
 induction fuel with
 | zero =>
  intro listed a w h hc;have jd:=E8 (f:=fun i=>listed.getD i true) (Nat.le_zero.1 hc);have hr:Region.ready .any ops listed=[]:=by
   rw [List.eq_nil_iff_forall_not_mem];intro i hi;obtain ⟨h1,h2,_⟩:=B4.1 hi;rw [jd i h1] at h2;cases h2
  exact ⟨hr,fin _ _ _ h hr⟩
 | succ fuel ih =>
  intro listed a w h hc;refine ⟨fin _ _ _ h,fun i hi=>?_⟩;obtain ⟨h1,h2,o,ho,h3⟩:=B4.1 hi;have jg:Dv ops.size (fun j=>(listed.setIfInBounds i true).getD j true)≤fuel:=by
   have:=Dl (f:=fun j=>listed.getD j true) (g:=fun j=>(listed.setIfInBounds i true).getD j true) (fun j hj=>by
    by_cases e:i=j
    · subst e;exact Ak (by rw [h.ls];exact h1)
    ·show (listed.setIfInBounds i true).getD j true=true;rw [getD_set_ne e];exact hj) (j:=i) (Ak (by rw [h.ls];exact h1)) h2 ops.size h1
   omega
  have hO:=ji i o ho a w h.size h.s (fun e he hb=>by
   have jh:=h3 e he hb;obtain ⟨d,hd,_,_,je⟩:=Jo ja ho;have hlt2:=je e he hb;refine h.done e.on (by omega) ?_;rw [A4,AJ (by rw [h.ls];omega)] at jh ⊢;exact jh) h.base
  unfold wpOp;rw [ho];simp only;cases hw:Region.wanted o (yielded ops a.tmps) with
  | false =>
   rw [if_neg (by simp)];exact ih _ _ _ (rvAt_put jc jb ja hn h ho (hO.2 hw) (Ext.refl _)) jg
  | true =>
   rw [if_pos rfl];refine .inl ?_;rcases hO.1 hw with ⟨v,w',hr,hv,hx⟩ | ⟨f,args,w',hr,hC⟩
   ·unfold Oper.wp;rw [hr];exact ih _ _ _ (rvAt_put jc jb ja hn h ho hv hx) jg
   ·unfold Oper.wp;rw [hr];refine hC.mono ?_;rintro e w'' ⟨v,rfl,hv,hx⟩;exact ih _ _ _ (rvAt_put jc jb ja hn h ho hv hx) jg
def Mn (P:Program) (ops:Array Oper) (V:Nat→Value→World→Prop) (S:World→Prop) (a0:Act):Nat→List Oper→Prop
 | _,[]=>True
 | i,o :: l=>Ol P ops V S a0 i o∧Mn P ops V S a0 (i+1) l
theorem On:∀ (l:List Oper) (k:Nat),Mn P ops V S a0 k l→∀ i o,l[i]? = some o→Ol P ops V S a0 (k+i) o:=by
 intro l
 induction l with
 | nil=>intro k _ i o ho;simp at ho
 | cons x l ih =>
  intro k h i o ho;cases i with
  | zero =>
   have:x=o:=by simpa using ho
   subst this;exact h.1
  | succ i =>
   have h2:=ih (k+1) h.2 i o (by simpa using ho);have e:k+(i+1)=k+1+i:=by omega
   rw [e];exact h2
theorem Ay (h:Mn P ops V S a0 0 ops.toList):∀ i o,ops[i]? = some o→Ol P ops V S a0 i o:=fun i o ho=>by
 have:=On _ _ h i o (by rw [Array.getElem?_toList];exact ho)
 rwa [Nat.zero_add] at this
def Vs (l:List (Value→World→Prop)) (i:Nat) (v:Value) (w:World):Prop:=(l.getD i fun _ _=>True) v w
def Bb (p:Value→World→Prop):Prop:=∀ v w w',p v w→Ext w w'→p v w'
theorem Af {l:List (Value→World→Prop)} (h:∀ p∈l,Bb p):∀ i v w w',Vs l i v w→Ext w w'→Vs l i v w':=by
 intro i v w w' hv hx;unfold Vs at *;by_cases hi:i<l.length
 ·rw [AO,AA hi] at hv ⊢;exact h _ (AG hi) v w w' hv hx
 · rw [AO,AP (by omega)];trivial
theorem AW (c:Value):Bb (fun v _=>v=c):=fun _ _ _ h _=>h
abbrev vq (x v:Value) (_:World):Prop:=v=x
theorem Lq (p:Value→Prop):Bb (fun v _=>p v):=fun _ _ _ h _=>h
theorem Kf {ops:Array Oper} {A:Act} {j d:Nat} {b:Bool} (hd:(ops[j]?).bind (·.dst)=some d) (h:A.tmps[d]?.getD undef=.bool b):yielded ops A.tmps j=some b:=by
 unfold yielded;rw [hd];simp only [Option.bind_some];cases hx:A.tmps[d]? with
 | none=>rw [hx] at h;cases h
 | some v=>rw [hx] at h;simp only [Option.getD_some] at h;subst h;rfl
theorem DM {o:Oper} {ops:Array Oper} {A:Act} {j d:Nat} {want b:Bool} {X Y:Prop} (hg:o.guard=some (j,want)) (hd:(ops[j]?).bind (·.dst)=some d) (h:A.tmps[d]?.getD undef=.bool b) (ja:(b == want)=false) (hY:Y) :
  (Region.wanted o (yielded ops A.tmps)=true→X)∧(Region.wanted o (yielded ops A.tmps)=false→Y):=by
 have:Region.wanted o (yielded ops A.tmps)=false:=by
  unfold Region.wanted;rw [hg];simp only [Kf hd h];cases b <;> cases want <;> first | rfl | cases ja
 rw [this];exact ⟨fun h=>(by cases h),fun _=>hY⟩
theorem Al {o:Oper} {ops:Array Oper} {A:Act} {j d:Nat} {want b:Bool} {X Y:Prop} (hg:o.guard=some (j,want)) (hd:(ops[j]?).bind (·.dst)=some d) (h:A.tmps[d]?.getD undef=.bool b) (ja:(b == want)=true) (hX:X) :
  (Region.wanted o (yielded ops A.tmps)=true→X)∧(Region.wanted o (yielded ops A.tmps)=false→Y):=by
 have:Region.wanted o (yielded ops A.tmps)=true:=by
  unfold Region.wanted;rw [hg];simp only [Kf hd h];cases b <;> cases want <;> first | rfl | cases ja
 rw [this];exact ⟨fun _=>hX,fun h=>(by cases h)⟩
theorem AX {o:Oper} {ops:Array Oper} {A:Act} {X Y:Prop} (hg:o.guard=none) (hX:X) :
  (Region.wanted o (yielded ops A.tmps)=true→X)∧(Region.wanted o (yielded ops A.tmps)=false→Y):=by
 have:Region.wanted o (yielded ops A.tmps)=true:=by unfold Region.wanted;rw [hg]
 rw [this];exact ⟨fun _=>hX,fun h=>(by cases h)⟩
theorem gdA (a:Act) (s:Nat) (v:Value) (h:a.tmps.getD s undef=v):a.tmps[s]?.getD undef=v:=by rw [A4] at h;exact h
theorem Am {id:Nat} (hm:P.follows .mixedOrders=true) {w:World} (V:Nat→Value→World→Prop) (S:World→Prop) (n:Nat) (jd:rvOk ops n=true) (hn:a0.tmps.size=n)
  (jc:∀ i v w w',V i v w→Ext w w'→V i v w') (jb:∀ w w',S w→Ext w w'→S w') (hS:S w)
  (je:∀ i o,ops[i]? = some o→Ol P ops V S a0 i o)
  (ja:∀ a w,a.tmps.size=a0.tmps.size→a.defers=a0.defers→S w→(∀ i,i<ops.size→V i (AY ops a i) w)→(∀ t,(ops.all fun o'=>o'.dst != some t)=true→a.tmps.getD t undef=a0.tmps.getD t undef)→Q .normal a w) :
  (Code.region id ops true).wp P Q a0 w:=by
 have hx:Ext w { w with drawn:=w.drawn+1 }:=⟨rfl,rfl,rfl,A3 _,fun _ _=>rfl⟩
 have h0:Om ops V S a0 (Array.replicate ops.size false) a0 { w with drawn:=w.drawn+1 }:=by
  refine ⟨by simp,rfl,rfl,jb _ _ hS hx,fun i hi h=>?_,fun _ _=>rfl⟩;rw [A4,Array.getElem?_replicate,if_pos hi] at h;cases h
 exact wp_region_any hm (rv_any jc jb jd hn je ja ops.size (Array.replicate ops.size false) a0 _ h0 (F3 _ _))
end
section
variable (P:Program) (ops:Array Oper) (V:Nat→Value→World→Prop) (S:Bool→World→Prop) (XM:World→World→Prop) (M:Nat) (a0:Act)
def RW (i:Nat) (o:Oper):Prop:=∀ a w b,a.tmps.size=a0.tmps.size→S b w →
 (∀ e∈o.after,Region.binds .any e=true→V e.on (AY ops a e.on) w) →
 (∀ t,(ops.all fun o'=>o'.dst != some t)=true→a.tmps.getD t undef=a0.tmps.getD t undef) →
 (Region.wanted o (yielded ops a.tmps)=true→Ee P a o w (fun v w'=>V i v w'∧Ext w w'))∧(Region.wanted o (yielded ops a.tmps)=false→V i undef w)
def RX (o:Oper):Prop:=∀ a w,a.tmps.size=a0.tmps.size→S false w →
 (∀ e∈o.after,Region.binds .any e=true→V e.on (AY ops a e.on) w) →
 (∀ t,(ops.all fun o'=>o'.dst != some t)=true→a.tmps.getD t undef=a0.tmps.getD t undef)→Region.wanted o (yielded ops a.tmps)=true ∧
 Ee P a o w (fun v w'=>V M v w'∧XM w w'∧S true w')
def Jp (L:Nat):Nat→List Oper→Prop
 | _,[]=>True
 | i,o :: l=>(if i=M then RX P ops V S XM M a0 o else if i=L then True else RW P ops V S a0 i o)∧Jp L (i+1) l
def
  rvOkX (n L:Nat):Bool :=
 decide (ops.size=L+1) && ((List.range L).all fun i=>match ops[i]? with
  | none=>true
  | some o=>(match o.dst with
   | none=>false
   | some d=>decide (d<n) && (List.range ops.size).all fun j=>decide (i=j) || (match ops[j]? with | some o'=>o'.dst != some d | none=>true)) &&
   o.after.all fun e=>!Region.binds .any e || decide (e.on<i)) &&
 (match ops[L]? with
  | none=>false
  | some o=>((List.range L).all fun j=>o.after.any fun e=>e.on == j && Region.binds .any e) && o.after.all fun e=>!Region.binds .any e || decide (e.on<L))
structure Mo (L:Nat) (listed:Array Bool) (a:Act) (w:World):Prop where
 ls:listed.size=ops.size
 last:listed.getD L true=false
 size:a.tmps.size=a0.tmps.size
 df:a.defers=a0.defers
 s:S (listed.getD M true) w
 done:∀ i,i<L→listed.getD i true=true→V i (AY ops a i) w
 base:∀ t,(ops.all fun o'=>o'.dst != some t)=true→a.tmps.getD t undef=a0.tmps.getD t undef
end
section
variable {P:Program} {ops:Array Oper} {V:Nat→Value→World→Prop} {S:Bool→World→Prop} {XM:World→World→Prop} {M:Nat} {a0:Act} {Q:Exit→Act→World→Prop}
theorem Ho {n L:Nat} (h:rvOkX ops n L=true) {i:Nat} {o:Oper} (hL:i<L) (ho:ops[i]? = some o):∃ d,o.dst=some d∧d<n∧(∀ j o',ops[j]? = some o'→i≠j→o'.dst≠some d)∧∀ e∈o.after,Region.binds .any e=true→e.on<i:=by
 unfold rvOkX at h;simp only [Bool.and_eq_true] at h;have h1:=(List.all_eq_true.1 h.1.2) i (by simpa using hL);rw [ho] at h1;simp only [Bool.and_eq_true] at h1;obtain ⟨h2,h3⟩:=h1;cases hd:o.dst with
 | none=>rw [hd] at h2;cases h2
 | some d =>
  rw [hd] at h2;simp only [Bool.and_eq_true,decide_eq_true_eq,List.all_eq_true] at h2;refine ⟨d,rfl,h2.1,fun j o' hj jb=>?_,fun e he hb=>?_⟩
  ·have ja:j<ops.size:=(A5.1 hj).1;have:=h2.2 j (by simpa using ja);rw [hj] at this;simp only [Bool.or_eq_true,decide_eq_true_eq,bne_iff_ne] at this;exact this.resolve_left jb
  ·rw [Array.all_eq_true'] at h3;have:=h3 e he;rw [hb] at this;simpa using this
theorem Fb {n L:Nat} (h:rvOkX ops n L=true):ops.size=L+1:=by
 unfold rvOkX at h;simp only [Bool.and_eq_true,decide_eq_true_eq] at h;exact h.1.1
theorem Hp {n L:Nat} (h:rvOkX ops n L=true):∃ o,ops[L]? = some o∧(∀ j,j<L→∃ e∈o.after,e.on=j∧Region.binds .any e=true)∧∀ e∈o.after,Region.binds .any e=true→e.on<L:=by
 unfold rvOkX at h;simp only [Bool.and_eq_true] at h;cases ho:ops[L]? with
 | none=>rw [ho] at h;cases h.2
 | some o =>
  rw [ho] at h;simp only [Bool.and_eq_true] at h;refine ⟨o,rfl,fun j hj=>?_,fun e he hb=>?_⟩
  ·have:=(List.all_eq_true.1 h.2.1) j (by simpa using hj);rw [Array.any_eq_true'] at this;obtain ⟨e,he,h2⟩:=this;simp only [Bool.and_eq_true,beq_iff_eq] at h2;exact ⟨e,he,h2.1,h2.2⟩
  ·have:=(Array.all_eq_true'.1 h.2.2) e he;rw [hb] at this;simpa using this
theorem rvAtX_put {n L:Nat} (jh:rvOkX ops n L=true) (hn:a0.tmps.size=n) {listed:Array Bool} {a:Act} {w w':World} {i:Nat} {o:Oper} {v:Value}
  (h:Mo ops V S M a0 L listed a w) (jf:i<L) (ho:ops[i]? = some o) (hv:V i v w') (hx:∀ j,j≠i→∀ v,V j v w→V j v w') (hs:S ((listed.setIfInBounds i true).getD M true) w'):Mo ops V S M a0 L (listed.setIfInBounds i true) (a.put o.dst v) w':=by
 obtain ⟨d,hd,je,ja,hdep⟩:=Ho jh jf ho;have hi:i<ops.size:=(A5.1 ho).1;have jc:a.put o.dst v={ a with tmps:=a.tmps.setIfInBounds d v }:=by rw [hd];rfl
 rw [jc];refine ⟨by simp [h.ls],by rw [getD_set_ne (by omega)];exact h.last,by simp [h.size],h.df,hs,fun j hj hl=>?_,fun t ht=>?_⟩
 ·by_cases e:i=j
  ·subst e;have:AY ops { a with tmps:=a.tmps.setIfInBounds d v } i=v:=by
    unfold AY;rw [ho];simp only [hd];rw [A4,Array.getElem?_setIfInBounds_self,if_pos (by rw [h.size,hn];exact je)];rfl
   rw [this];exact hv
  ·rw [getD_set_ne e] at hl;have:AY ops { a with tmps:=a.tmps.setIfInBounds d v } j=AY ops a j:=by
    unfold AY;cases jg:ops[j]? with
    | none=>rfl
    | some o' =>
     simp only;cases jd:o'.dst with
     | none=>rfl
     | some d' =>
      simp only;have jb:d≠d':=fun e2=>ja j o' jg e (by rw [jd,e2]);rw [A4,Array.getElem?_setIfInBounds_ne jb,← A4]
   rw [this];exact hx _ (Ne.symm e) _ (h.done j hj hl)
 ·have jb:d≠t:=fun e=>by
   rw [Array.all_eq_true'] at ht;have:=ht o (Array.mem_of_getElem? ho);rw [hd,e] at this;simp at this
  show (a.tmps.setIfInBounds d v).getD t undef=_;rw [A4,Array.getElem?_setIfInBounds_ne jb,← A4];exact h.base t ht
theorem Bc {listed:Array Bool} {i n:Nat} (hs:listed.size=n) (hi:i<n) (h:listed.getD i false=true):listed.getD i true=true:=by
 rw [A4,AJ (by omega)] at h ⊢;exact h
theorem Bv {listed:Array Bool} {i n:Nat} (hs:listed.size=n) (hi:i<n) (h:listed.getD i true=true):listed.getD i false=true:=by
 rw [A4,AJ (by omega)] at h ⊢;exact h
theorem some_ready {n L:Nat} (jd:rvOkX ops n L=true) {listed:Array Bool} (hl:listed.size=ops.size) (hL:listed.getD L true=false):Region.ready .any ops listed≠[]:=by
 intro h;have hs:=Fb jd;have jb:∀ i,i<L→listed.getD i true=true:=by
  intro i
  induction i using Nat.strongRecOn with
  | _
    i
     ih =>
   intro hi;cases hb:listed.getD i true with
   | true=>rfl
   | false =>
    have ho:ops[i]? = some (ops[i]'(by omega)):=AJ (by omega);obtain ⟨d,hd,_,_,ja⟩:=Ho jd hi ho;have:i∈Region.ready .any ops listed:=B4.2 ⟨by omega,hb,_,ho,fun e he jc=>by
     have h1:=ja e he jc;exact Bv hl (by omega) (ih e.on h1 (by omega))⟩
    rw [h] at this;cases this
 obtain ⟨o,ho,_,ja⟩:=Hp jd;have:L∈Region.ready .any ops listed:=B4.2 ⟨by omega,hL,o,ho,fun e he jc=>by
  have h1:=ja e he jc;exact Bv hl (by omega) (jb e.on h1)⟩
 rw [h] at this;cases this
theorem JB {listed:Array Bool} (h:Region.ready .any ops listed=[]) {a:Act} {w:World} (hq:Q .normal a w):∀ fuel,wpAny P .any ops Q fuel listed a w
 | 0=>⟨h,hq⟩
 | fuel+1=>⟨fun _=>hq,fun i hi=>by rw [h] at hi;cases hi⟩
theorem NZ {L:Nat}:∀ (l:List Oper) (k:Nat),Jp P ops V S XM M a0 L k l→∀ i o,l[i]? = some o→(if k+i=M then RX P ops V S XM M a0 o else if k+i=L then True else RW P ops V S a0 (k+i) o):=by
 intro l
 induction l with
 | nil=>intro k _ i o ho;simp at ho
 | cons x l ih =>
  intro k h i o ho;cases i with
  | zero =>
   have:x=o:=by simpa using ho
   subst this;exact h.1
  | succ i =>
   have h2:=ih (k+1) h.2 i o (by simpa using ho);have e:k+(i+1)=k+1+i:=by omega
   rw [e];exact h2
theorem rvX_any (jm:∀ i v w w',V i v w→Ext w w'→V i v w') (jl:∀ i v w w',i≠M→V i v w→XM w w'→V i v w') (jk:∀ b w w',S b w→Ext w w'→S b w') {n L:Nat} (jc:rvOkX ops n L=true) (hn:a0.tmps.size=n) (jp:M<L)
  (jr:Jp P ops V S XM M a0 L 0 ops.toList)
  (jh:∀ a w,a.tmps.size=a0.tmps.size→a.defers=a0.defers→S true w→(∀ i,i<L→V i (AY ops a i) w)→(∀ t,(ops.all fun o'=>o'.dst != some t)=true→a.tmps.getD t undef=a0.tmps.getD t undef)→wpOp P ops Q L (fun a' w'=>Q .normal a' w') a w) :
  ∀ (fuel:Nat) (listed:Array Bool) (a:Act) (w:World),Mo ops V S M a0 L listed a w→Dv ops.size (fun i=>listed.getD i true)≤fuel→wpAny P .any ops Q fuel listed a w:=by
 have hs:=Fb jc;intro fuel
 induction fuel with
 | zero =>
  intro listed a w h hc;have jb:=E8 (f:=fun i=>listed.getD i true) (Nat.le_zero.1 hc);have:=jb L (by omega);rw [h.last] at this;cases this
 | succ fuel ih =>
  intro listed a w h hc;refine ⟨fun hr=>absurd hr (some_ready jc h.ls h.last),fun i hi=>?_⟩;obtain ⟨h1,h2,o,ho,h3⟩:=B4.1 hi;by_cases je:i<L
  ·have ji:Dv ops.size (fun j=>(listed.setIfInBounds i true).getD j true)≤fuel:=by
    have:=Dl (f:=fun j=>listed.getD j true) (g:=fun j=>(listed.setIfInBounds i true).getD j true) (fun j hj=>by
     by_cases e:i=j
     · subst e;exact Ak (by rw [h.ls];exact h1)
     ·show (listed.setIfInBounds i true).getD j true=true;rw [getD_set_ne e];exact hj) (j:=i) (Ak (by rw [h.ls];exact h1)) h2 ops.size h1
    omega
   have ja:∀ e∈o.after,Region.binds .any e=true→V e.on (AY ops a e.on) w:=fun e he hb=>by
    have jq:=h3 e he hb;obtain ⟨d,hd,_,_,jj⟩:=Ho jc je ho;have hlt2:=jj e he hb;exact h.done e.on (by omega) (Bc h.ls (by omega) jq)
   have hO:=NZ _ _ jr i o (by rw [Array.getElem?_toList];exact ho);rw [Nat.zero_add] at hO;unfold wpOp;rw [ho];simp only;by_cases jd:i=M
   ·rw [if_pos jd] at hO;have jo:=h.s;rw [← jd,h2] at jo;obtain ⟨hw,hO⟩:=hO a w h.size jo ja h.base;rw [hw,if_pos rfl];refine .inl ?_;have jg:∀ w',S true w'→S ((listed.setIfInBounds i true).getD M true) w':=fun w' hh=>by
     rw [← jd,Ak (by rw [h.ls];exact h1)];exact hh
    rcases hO with ⟨v,w',hr,hv,hx,jf⟩ | ⟨f,args,w',hr,hC⟩
    ·unfold Oper.wp;rw [hr];exact ih _ _ _ (rvAtX_put jc hn h je ho (by rw [jd];exact hv) (fun j hj v hv=>jl _ _ _ _ (by omega) hv hx) (jg _ jf)) ji
    ·unfold Oper.wp;rw [hr];refine hC.mono ?_;rintro e w'' ⟨v,rfl,hv,hx,jf⟩;exact ih _ _ _ (rvAtX_put jc hn h je ho (by rw [jd];exact hv) (fun j hj v hv=>jl _ _ _ _ (by omega) hv hx) (jg _ jf)) ji
   ·rw [if_neg jd,if_neg (by omega)] at hO;have hO:=hO a w _ h.size h.s ja h.base;have jg:∀ w',S (listed.getD M true) w'→S ((listed.setIfInBounds i true).getD M true) w':=fun w' hh=>by
     rw [getD_set_ne jd];exact hh
    cases hw:Region.wanted o (yielded ops a.tmps) with
    | false =>
     rw [if_neg (by simp)];exact ih _ _ _ (rvAtX_put jc hn h je ho (hO.2 hw) (fun _ _ _ h=>h) (jg _ h.s)) ji
    | true =>
     rw [if_pos rfl];refine .inl ?_;rcases hO.1 hw with ⟨v,w',hr,hv,hx⟩ | ⟨f,args,w',hr,hC⟩
     ·unfold Oper.wp;rw [hr];exact ih _ _ _ (rvAtX_put jc hn h je ho hv (fun j hj v hv=>jm _ _ _ _ hv hx) (jg _ (jk _ _ _ h.s hx))) ji
     ·unfold Oper.wp;rw [hr];refine hC.mono ?_;rintro e w'' ⟨v,rfl,hv,hx⟩;exact ih _ _ _ (rvAtX_put jc hn h je ho hv (fun j hj v hv=>jm _ _ _ _ hv hx) (jg _ (jk _ _ _ h.s hx))) ji
  ·obtain rfl:i=L:=by omega
   obtain ⟨o2,jn,ja,_⟩:=Hp jc;have jb:∀ j,j<i→listed.getD j true=true:=fun j hj=>by
    obtain ⟨e,he,rfl,hb⟩:=ja j hj;rw [ho] at jn;cases jn;exact Bc h.ls (by omega) (h3 e he hb)
   have jf:=h.s;rw [jb M jp] at jf;refine wpOp_mono (fun a' w' hq=>JB ?_ hq fuel) (jh a w h.size h.df jf (fun j hj=>h.done j hj (jb j hj)) h.base);rw [List.eq_nil_iff_forall_not_mem];intro j hj;obtain ⟨g1,g2,_⟩:=B4.1 hj;by_cases e:i=j
   · subst e;rw [Ak (by rw [h.ls];exact h1)] at g2;cases g2
   · rw [getD_set_ne e,jb j (by omega)] at g2;cases g2
theorem Bw {id:Nat} (hm:P.follows .mixedOrders=true) {w:World} (V:Nat→Value→World→Prop) (S:Bool→World→Prop) (XM:World→World→Prop) (n M L:Nat) (jc:rvOkX ops n L=true) (hn:a0.tmps.size=n) (jd:M<L)
  (jf:∀ i v w w',V i v w→Ext w w'→V i v w') (je:∀ i v w w',i≠M→V i v w→XM w w'→V i v w') (jb:∀ b w w',S b w→Ext w w'→S b w') (hS:S false w)
  (jg:Jp P ops V S XM M a0 L 0 ops.toList)
  (ja:∀ a w,a.tmps.size=a0.tmps.size→a.defers=a0.defers→S true w→(∀ i,i<L→V i (AY ops a i) w)→(∀ t,(ops.all fun o'=>o'.dst != some t)=true→a.tmps.getD t undef=a0.tmps.getD t undef)→wpOp P ops Q L (fun a' w'=>Q .normal a' w') a w) :
  (Code.region id ops true).wp P Q a0 w:=by
 have hs:=Fb jc;have hx:Ext w { w with drawn:=w.drawn+1 }:=⟨rfl,rfl,rfl,A3 _,fun _ _=>rfl⟩
 have h0:Mo ops V S M a0 L (Array.replicate ops.size false) a0 { w with drawn:=w.drawn+1 }:=by
  refine ⟨by simp,?_,rfl,rfl,?_,fun i hi h=>?_,fun _ _=>rfl⟩
  · rw [A4,Array.getElem?_replicate,if_pos (by omega)];rfl
  ·have:(Array.replicate ops.size false).getD M true=false:=by rw [A4,Array.getElem?_replicate,if_pos (by omega)];rfl
   rw [this];exact jb _ _ _ hS hx
  ·rw [A4,Array.getElem?_replicate,if_pos (by omega)] at h;cases h
 exact wp_region_any hm (rvX_any jf je jb jc hn jd jg ja ops.size (Array.replicate ops.size false) a0 _ h0 (F3 _ _))
def Lr (X:World→World→Prop) (M:Nat):Nat→List (Value→World→Prop)→Prop
 | _,[]=>True
 | i,p :: l=>(i≠M→∀ v w w',p v w→X w w'→p v w')∧Lr X M (i+1) l
theorem JC {X:World→World→Prop} {M:Nat}:∀ (l:List (Value→World→Prop)) (k:Nat),Lr X M k l→∀ i p,l[i]? = some p→k+i≠M→∀ v w w',p v w→X w w'→p v w'
 | [],_,_,i,p,h=>by simp at h
 | q :: l,k,h,0,p,hp=>by
  have:q=p:=by simpa using hp
  subst this;exact h.1
 | q :: l,k,h,i+1,p,hp=>fun hne=>JC l (k+1) h.2 i p (by simpa using hp) (by omega)
theorem Lt {X:World→World→Prop} {M:Nat} {l:List (Value→World→Prop)} (h:Lr X M 0 l):∀ i v w w',i≠M→Vs l i v w→X w w'→Vs l i v w':=by
 intro i v w w' hne hv hx;unfold Vs at *;by_cases hi:i<l.length
 ·rw [AO,AA hi] at hv ⊢;exact JC l 0 h i _ (AA hi) (by omega) v w w' hv hx
 · rw [AO,AP (by omega)];trivial
end
theorem BK {P:Program} {ops:Array Oper} {Q:Exit→Act→World→Prop} {L:Nat} {K:Act→World→Prop} {o:Oper} {A:Act} {W:World} {ty:TypeId} {p v:Operand} {ad:Addr} {a:Option Addr} {n c:Nat} {y:Value}
  (ho:ops[L]? = some o) (hg:o.guard=none) (ja:o.op=.store ty p v) (hd:o.dst=none) (hp:A.eval p=.pointer (some ad)) (hv:A.eval v=.slice a n c) (hf:W.frozen? ad=false) (hc:W.cell? ad=some y) (jb:(sizeOf ty).run P W=.ok 1 W) (hK:K A (W.setCell ad (.slice a n c))):wpOp P ops Q L K A W:=by
 unfold wpOp;rw [ho];have hw:Region.wanted o (yielded ops A.tmps)=true:=by unfold Region.wanted;rw [hg]
 simp only [hw,if_pos];refine .inl ?_;unfold Oper.wp execOp;simp only [ja,hp,hv];simp [go_sem,hf,hc,jb];rw [hd];exact hK
def Lu (ops:Array Oper):List Nat:=ops.toList.filterMap (·.dst)
theorem Oo {ops:Array Oper} {t:Nat} (h:t ∉ Lu ops):(ops.all fun o'=>o'.dst != some t)=true:=by
 rw [Array.all_eq_true'];intro o ho;have:o.dst≠some t:=fun e=>h (List.mem_filterMap.2 ⟨o,by simpa using ho,e⟩);simpa using this
theorem Oq {A:Act} {d t:Nat} {v:Value}:(A.put (some d) v).tmps.getD t undef=if d=t∧d<A.tmps.size then v else A.tmps.getD t undef:=by
 simp only [Act.put];by_cases h:d=t
 ·subst h;by_cases h2:d<A.tmps.size
  · rw [if_pos ⟨rfl,h2⟩,A4,Array.getElem?_setIfInBounds_self,if_pos h2];rfl
  · rw [if_neg (by simp [h2]),Array.setIfInBounds_eq_of_size_le (by omega)]
 · rw [if_neg (by simp [h]),A4,Array.getElem?_setIfInBounds_ne h,← A4]
theorem JD (x:Nat→Value):∀ (ds:List Nat) (a:Act),(ds.foldl (fun a d=>a.put (some d) (x d)) a).tmps.size=a.tmps.size∧(ds.foldl (fun a d=>a.put (some d) (x d)) a).defers=a.defers
 | [],a=>⟨rfl,rfl⟩
 | d :: ds,a=>by
  have:=JD x ds (a.put (some d) (x d));rw [List.foldl_cons];exact ⟨this.1.trans (by simp [Act.put]),this.2⟩
theorem puts_get (x:Nat→Value):∀ (ds:List Nat) (a:Act) (t:Nat),t<a.tmps.size→(ds.foldl (fun a d=>a.put (some d) (x d)) a).tmps.getD t undef=if t∈ds then x t else a.tmps.getD t undef
 | [],a,t,_=>by simp
 | d
   :: ds,a,t,ht=>by
  rw [List.foldl_cons,puts_get x ds _ t (by simpa [Act.put] using ht),Oq];by_cases h1:t∈ds
  · simp [h1]
  ·by_cases h2:d=t
   · subst h2;simp [h1,ht]
   ·have h3:¬ t=d:=fun e=>h2 e.symm;simp [h1,h2,h3]
theorem QR {A B:Act} (h1:A.tmps.size=B.tmps.size) (h2:A.defers=B.defers) (h3:∀ t,t<A.tmps.size→A.tmps.getD t undef=B.tmps.getD t undef):A=B:=by
 obtain ⟨ta,da⟩:=A;obtain ⟨tb,db⟩:=B;simp only at h1 h2 h3;subst h2;congr 1;apply Array.ext h1;intro i hi ja;have:=h3 i hi;rw [A4,A4,AJ hi,AJ ja] at this;simpa using this
theorem Ag {A a0:Act} {ops:Array Oper} (ds:List Nat) (jb:Lu ops=ds) (jc:A.tmps.size=a0.tmps.size) (ja:A.defers=a0.defers) (hb:∀ t,(ops.all fun o'=>o'.dst != some t)=true→A.tmps.getD t undef=a0.tmps.getD t undef) :
  ∃ x:Nat→Value,(∀ t,x t=A.tmps.getD t undef)∧A=ds.foldl (fun a d=>a.put (some d) (x d)) a0:=by
 refine ⟨fun d=>A.tmps.getD d undef,fun _=>rfl,?_⟩;have h:=JD (fun d=>A.tmps.getD d undef) ds a0;refine QR (jc.trans h.1.symm) (ja.trans h.2.symm) fun t ht=>?_;rw [puts_get _ _ _ _ (by omega)];by_cases hm:t∈ds
 · rw [if_pos hm]
 ·rw [if_neg hm];exact hb t (Oo (by rw [jb];exact hm))
theorem Ad {A:Act} {t:Nat} {v:Value} (h:A.tmps.getD t undef=v):A.eval (.tmp t)=v:=by
 rw [A4] at h;simpa [go_sem,Act.eval] using h
def upd (f:Nat→Bool) (i:Nat):Nat→Bool:=fun j=>if j=i then true else f j
section
variable (P:Program) (ops:Array Oper) (V:Nat→Value→World→Prop) (X:Nat→World→World→Prop) (S:(Nat→Bool)→World→Prop) (ms:List Nat) (a0:Act) (L:Nat)
def RY (i:Nat) (o:Oper):Prop:=∀ a w f,a.tmps.size=a0.tmps.size→f i=false→(∀ j,(ms.getD i 0).testBit j=true→f j=true)→(∀ j,j<ms.length→(ms.getD j 0).testBit i=true→f j=false)→S f w →
 (∀ j,(ms.getD i 0).testBit j=true→V j (AY ops a j) w) →
 (∀ t,(ops.all fun o'=>o'.dst != some t)=true→a.tmps.getD t undef=a0.tmps.getD t undef) →
 (∀ j d,j<ms.length→f j=false→(ops[j]?).bind (·.dst)=some d→a.tmps.getD d undef=a0.tmps.getD d undef) →
 (Region.wanted o (yielded ops a.tmps)=true→Ee P a o w (fun v w'=>V i v w'∧X i w w'∧S (upd f i) w'))∧(Region.wanted o (yielded ops a.tmps)=false→V i undef w∧S (upd f i) w)
def Lv:Nat→List Oper→Prop
 | _,[]=>True
 | i,o :: l=>(if i=L then True else RY P ops V X S ms a0 i o)∧Lv (i+1) l
def Mp (i:Nat) (o:Oper):Prop:=∀ a w f,a.tmps.size=a0.tmps.size→f i=false→(∀ j,(ms.getD i 0).testBit j=true→f j=true)→(∀ j,j<ms.length→(ms.getD j 0).testBit i=true→f j=false)→S f w →
 (∀ j,(ms.getD i 0).testBit j=true→V j (AY ops a j) w) →
 (∀ t,(ops.all fun o'=>o'.dst != some t)=true→a.tmps.getD t undef=a0.tmps.getD t undef) →
 (∀ j d,j<ms.length→f j=false→(ops[j]?).bind (·.dst)=some d→a.tmps.getD d undef=a0.tmps.getD d undef) →
 (Region.wanted o (yielded ops a.tmps)=true→(Ee P a o w (fun v w'=>V i v w'∧X i w w'∧S (upd f i) w')∨(o.dst=none∧∃ w',(execOp a.eval o).run P w=.ok .skip w'∧V i undef w'∧X i w w'∧S (upd f i) w')))∧(Region.wanted o (yielded ops a.tmps)=false→V i undef w∧S (upd f i) w)
def Fc:Nat→List Oper→Prop
 | _,[]=>True
 | i,o :: l=>(if i=L then True else Mp P ops V X S ms a0 i o)∧Fc (i+1) l
theorem Lw {i:Nat} {o:Oper} (h:RY P ops V X S ms a0 i o):Mp P ops V X S ms a0 i o:=fun a w f h1 h2 h3 h4 h5 h6 h7 h8 =>
 ⟨fun hw=>.inl ((h a w f h1 h2 h3 h4 h5 h6 h7 h8).1 hw),(h a w f h1 h2 h3 h4 h5 h6 h7 h8).2⟩
theorem Mq:∀ (l:List Oper) (i:Nat),Lv P ops V X S ms a0 L i l→Fc P ops V X S ms a0 L i l
 | [],_,_=>trivial
 | o
   :: l,i,h=>⟨by
   have h1:=h.1;split
   · trivial
   · rename_i e;rw [if_neg e] at h1;exact Lw P ops V X S ms a0 h1,Mq l (i+1) h.2⟩
def
  rvOk0 (b:Bool) (n L:Nat):Bool :=
 ((
  List.range L).all fun i=>match ops[i]? with
  | none=>false
  | some o=>(match o.dst with
   | none=>b
   | some d=>decide (d<n) && (List.range ops.size).all fun j=>decide (i=j) || (match ops[j]? with | some o'=>o'.dst != some d | none=>true)) &&
   (o.after.all fun e=>!Region.binds .any e || decide (e.on<i)) &&
   (List.range ops.size).all fun j=>!(ms.getD i 0).testBit j || o.after.any fun e=>Region.binds .any e && (e.on == j || (ms.getD e.on 0).testBit j)) &&
 ((List.range L).all fun i=>decide (ms.getD i 0<2 ^ i)) && decide (ms.length=L)
def
  rvOkS (b:Bool) (n L:Nat):Bool:=rvOk0 ops ms b n L &&
 (decide (ops.size=L) || (decide (ops.size=L+1) && match ops[L]? with
  | none=>false
  | some o=>((List.range L).all fun j=>o.after.any fun e=>Region.binds .any e && (e.on == j || (ms.getD e.on 0).testBit j)) && o.after.all fun e=>!Region.binds .any e || decide (e.on<L)))
structure Fy (listed:Array Bool) (a:Act) (w:World):Prop where
 ls:listed.size=ops.size
 last:L<ops.size→listed.getD L true=false
 size:a.tmps.size=a0.tmps.size
 df:a.defers=a0.defers
 s:S (fun i=>listed.getD i true) w
 closed:∀ i o,i<L→listed.getD i true=true→ops[i]? = some o→∀ e∈o.after,Region.binds .any e=true→listed.getD e.on true=true
 done:∀ i,i<L→listed.getD i true=true→V i (AY ops a i) w
 base:∀ t,(ops.all fun o'=>o'.dst != some t)=true→a.tmps.getD t undef=a0.tmps.getD t undef
 und:∀ j d,j<L→listed.getD j true=false→(ops[j]?).bind (·.dst)=some d→a.tmps.getD d undef=a0.tmps.getD d undef
end
section
variable {P:Program} {ops:Array Oper} {V:Nat→Value→World→Prop} {X:Nat→World→World→Prop} {S:(Nat→Bool)→World→Prop} {ms:List Nat} {a0:Act} {Q:Exit→Act→World→Prop} {L:Nat} {bn:Bool}
theorem E9 {n:Nat} (h:rvOk0 ops ms bn n L=true) {i:Nat} (hL:i<L):∃ o,ops[i]? = some o∧(o.dst=none→bn=true)∧(∀ d,o.dst=some d→d<n∧∀ j o',ops[j]? = some o'→i≠j→o'.dst≠some d)∧(∀ e∈o.after,Region.binds .any e=true→e.on<i) ∧
  ∀ j,j<ops.size→(ms.getD i 0).testBit j=true→∃ e∈o.after,Region.binds .any e=true∧(e.on=j∨(ms.getD e.on 0).testBit j=true):=by
 unfold rvOk0 at h;simp only [Bool.and_eq_true] at h;have h1:=(List.all_eq_true.1 h.1.1) i (by simpa using hL);cases ho:ops[i]? with
 | none=>rw [ho] at h1;cases h1
 | some o =>
  rw [ho] at h1;simp only [Bool.and_eq_true] at h1;obtain ⟨⟨h2,h3⟩,h4⟩:=h1;refine ⟨o,rfl,fun hd=>?_,fun d hd=>?_,fun e he hb=>?_,fun j hj hm=>?_⟩
  · rw [hd] at h2;exact h2
  ·rw [hd] at h2;simp only [Bool.and_eq_true,decide_eq_true_eq,List.all_eq_true] at h2;refine ⟨h2.1,fun j o' hj jb=>?_⟩;have ja:j<ops.size:=(A5.1 hj).1;have:=h2.2 j (by simpa using ja);rw [hj] at this;simp only [Bool.or_eq_true,decide_eq_true_eq,bne_iff_ne] at this;exact this.resolve_left jb
  ·rw [Array.all_eq_true'] at h3;have:=h3 e he;rw [hb] at this;simpa using this
  ·have:=(List.all_eq_true.1 h4) j (by simpa using hj);rw [hm] at this;simp only [Bool.not_true,Bool.false_or,Array.any_eq_true',Bool.and_eq_true,Bool.or_eq_true,beq_iff_eq] at this;obtain ⟨e,he,h5,h6⟩:=this;exact ⟨e,he,h5,h6⟩
theorem EA {n:Nat} (h:rvOk0 ops ms bn n L=true) {i j:Nat} (hL:i<L) (hb:(ms.getD i 0).testBit j=true):j<i:=by
 unfold rvOk0 at h;simp only [Bool.and_eq_true] at h;have h1:=(List.all_eq_true.1 h.1.2) i (by simpa using hL);simp only [decide_eq_true_eq] at h1;rcases Nat.lt_or_ge j i with h2 | h2
 · exact h2
 ·have h3:2 ^ i≤2 ^ j:=Nat.pow_le_pow_right (by decide) h2;rw [Nat.testBit_lt_two_pow (by omega)] at hb;cases hb
theorem F4 {n:Nat} (h:rvOk0 ops ms bn n L=true):ms.length=L:=by
 unfold rvOk0 at h;simp only [Bool.and_eq_true,decide_eq_true_eq] at h;exact h.2
theorem Bz {n:Nat} (h:rvOkS ops ms bn n L=true):rvOk0 ops ms bn n L=true:=by
 unfold rvOkS at h;simp only [Bool.and_eq_true] at h;exact h.1
theorem rvOkS_size {n:Nat} (h:rvOkS ops ms bn n L=true):ops.size=L∨ops.size=L+1∧∃ o,ops[L]? = some o∧(∀ j,j<L→∃ e∈o.after,Region.binds .any e=true∧(e.on=j∨(ms.getD e.on 0).testBit j=true))∧∀ e∈o.after,Region.binds .any e=true→e.on<L:=by
 unfold rvOkS at h;simp only [Bool.and_eq_true,Bool.or_eq_true,decide_eq_true_eq] at h;rcases h.2 with h1 | ⟨h1,h2⟩
 · exact .inl h1
 ·refine .inr ⟨h1,?_⟩;cases ho:ops[L]? with
  | none=>rw [ho] at h2;cases h2
  | some o =>
   rw [ho] at h2;simp only [Bool.and_eq_true] at h2;refine ⟨o,rfl,fun j hj=>?_,fun e he hb=>?_⟩
   ·have:=(List.all_eq_true.1 h2.1) j (by simpa using hj);rw [Array.any_eq_true'] at this;obtain ⟨e,he,h3⟩:=this;simp only [Bool.and_eq_true,Bool.or_eq_true,beq_iff_eq] at h3;exact ⟨e,he,h3.1,h3.2⟩
   ·have:=(Array.all_eq_true'.1 h2.2) e he;rw [hb] at this;simpa using this
theorem GX:∀ (l:List Oper) (k:Nat),Fc P ops V X S ms a0 L k l→∀ i o,l[i]? = some o→k+i≠L→Mp P ops V X S ms a0 (k+i) o:=by
 intro l
 induction l with
 | nil=>intro k _ i o ho;simp at ho
 | cons x l ih =>
  intro k h i o ho hne;cases i with
  | zero =>
   have:x=o:=by simpa using ho
   subst this;have h1:=h.1;rw [if_neg (by omega)] at h1;exact h1
  | succ i =>
   have e:k+(i+1)=k+1+i:=by omega
   rw [e];exact ih (k+1) h.2 i o (by simpa using ho) (by omega)
theorem C5 {n:Nat} (ja:rvOk0 ops ms bn n L=true) {listed:Array Bool} {a:Act} {w:World} (h:Fy ops V S a0 L listed a w):∀ i,i<L→(∀ o,ops[i]? = some o→∀ e∈o.after,Region.binds .any e=true→listed.getD e.on true=true) →
  ∀ j,(ms.getD i 0).testBit j=true→listed.getD j true=true:=by
 intro i
 induction i using Nat.strongRecOn with
 | _
   i ih =>
  intro hi hd j hj;obtain ⟨o,ho,_,_,je,hm⟩:=E9 ja hi;have hji:=EA ja hi hj;have hsz:i<ops.size:=(A5.1 ho).1;obtain ⟨e,he,hb,h1⟩:=hm j (by omega) hj;rcases h1 with rfl | h1
  · exact hd o ho e he hb
  ·have jd:=je e he hb;exact ih e.on jd (by omega) (fun o' jf e' jc jb=>h.closed e.on o' (by omega) (hd o ho e he hb) jf e' jc jb) j h1
theorem rvAtS_put {n:Nat} (jq:rvOk0 ops ms bn n L=true) (hn:a0.tmps.size=n) {listed:Array Bool} {a:Act} {w w':World} {i:Nat} {o:Oper} {v:Value}
  (h:Fy ops V S a0 L listed a w) (jo:i<L) (ho:ops[i]? = some o) (jd:∀ e∈o.after,Region.binds .any e=true→listed.getD e.on true=true) (hv:V i v w') (jr:o.dst=none→V i undef w') (hx:∀ j,j<L→j≠i→listed.getD j true=true→∀ v,V j v w→V j v w') (hs:S (upd (fun i=>listed.getD i true) i) w') :
  Fy ops V S a0 L (listed.setIfInBounds i true) (a.put o.dst v) w':=by
 obtain ⟨o2,jj,_,jk,hdep,_⟩:=E9 jq jo;rw [ho] at jj;cases jj;have hi:i<ops.size:=(A5.1 ho).1;have hA
     : (a.put o.dst v).tmps.size=a.tmps.size∧(a.put o.dst v).defers=a.defers∧V i (AY ops (a.put o.dst v) i) w'∧∀ t,o.dst≠some t→(a.put o.dst v).tmps.getD t undef=a.tmps.getD t undef:=by
  cases hd:o.dst with
  | none =>
   refine ⟨rfl,rfl,?_,fun _ _=>rfl⟩;have:AY ops (a.put none v) i=undef:=by unfold AY;rw [ho];simp only [hd]
   rw [this];exact jr hd
  | some d =>
   have jh:a.put (some d) v={ a with tmps:=a.tmps.setIfInBounds d v }:=rfl;rw [jh];refine ⟨by simp,rfl,?_,fun t ht=>?_⟩
   ·have:AY ops { a with tmps:=a.tmps.setIfInBounds d v } i=v:=by
     unfold AY;rw [ho];simp only [hd];rw [A4,Array.getElem?_setIfInBounds_self,if_pos (by rw [h.size,hn];exact (jk d hd).1)];rfl
    rw [this];exact hv
   ·have jf:d≠t:=fun e=>ht (by rw [e]);show (a.tmps.setIfInBounds d v).getD t undef=_;rw [A4,Array.getElem?_setIfInBounds_ne jf,← A4]
 obtain ⟨jl,jm,jn,jg⟩:=hA;have jb:∀ j o' t,ops[j]? = some o'→i≠j→o'.dst=some t→o.dst≠some t:=fun j o' t hj jf ht e=>(jk t e).2 j o' hj jf ht;have hf:(fun j=>(listed.setIfInBounds i true).getD j true)=upd (fun i=>listed.getD i true) i:=by
  funext j;unfold upd;by_cases e:j=i
  · subst e;rw [if_pos rfl];exact Ak (by rw [h.ls];exact hi)
  · rw [if_neg e];exact getD_set_ne (Ne.symm e)
 refine ⟨by simp [h.ls],fun hl=>by rw [getD_set_ne (by omega)];exact h.last hl,jl.trans h.size,jm.trans h.df,by rw [hf];exact hs,fun j oj jp hl ja e he hb=>?_,fun j hj hl=>?_,fun t ht=>?_,fun j dj hj hl jc=>?_⟩
 ·by_cases e2:i=j
  ·subst e2;rw [ho] at ja;cases ja;by_cases e3:i=e.on
   · rw [← e3];exact Ak (by rw [h.ls];exact hi)
   · rw [getD_set_ne e3];exact jd e he hb
  ·rw [getD_set_ne e2] at hl;by_cases e3:i=e.on
   · rw [← e3];exact Ak (by rw [h.ls];exact hi)
   · rw [getD_set_ne e3];exact h.closed j oj jp hl ja e he hb
 ·by_cases e:i=j
  · subst e;exact jn
  ·rw [getD_set_ne e] at hl;have:AY ops (a.put o.dst v) j=AY ops a j:=by
    unfold AY;cases ja:ops[j]? with
    | none=>rfl
    | some o' =>
     simp only;cases jc:o'.dst with
     | none=>rfl
     | some d'=>exact jg d' (jb j o' d' ja e jc)
   rw [this];exact hx _ hj (Ne.symm e) hl _ (h.done j hj hl)
 ·have jf:o.dst≠some t:=fun e=>by
   rw [Array.all_eq_true'] at ht;have:=ht o (Array.mem_of_getElem? ho);rw [e] at this;simp at this
  rw [jg t jf];exact h.base t ht
 ·have ji:i≠j:=fun e=>by
   subst e;rw [Ak (by rw [h.ls];exact hi)] at hl;cases hl
  rw [getD_set_ne ji] at hl;cases ja:ops[j]? with
  | none=>rw [ja] at jc;cases jc
  | some o' =>
   have je:=jc;rw [ja] at je;rw [jg dj (jb j o' dj ja ji je)];exact h.und j dj hj hl jc
theorem allS {n:Nat} (jc:rvOk0 ops ms bn n L=true) {listed:Array Bool} (hl:listed.size=ops.size) (h:Region.ready .any ops listed=[]):∀ i,i<L→listed.getD i true=true:=by
 intro i
 induction i using Nat.strongRecOn with
 | _
   i
    ih =>
  intro hi;cases hb:listed.getD i true with
  | true=>rfl
  | false =>
   obtain ⟨o,ho,_,_,ja,_⟩:=E9 jc hi;have jd:i<ops.size:=(A5.1 ho).1;have:i∈Region.ready .any ops listed:=B4.2 ⟨jd,hb,_,ho,fun e he jb=>by
    have h1:=ja e he jb;exact Bv hl (by omega) (ih e.on h1 (by omega))⟩
   rw [h] at this;cases this
theorem Hj {L:Nat} {f:Nat→Bool}:∀ {n:Nat},(∀ j,L≤j→j<n→f j=false)→n - L≤Dv n f
 | 0,_=>by omega
 | n
   + 1,h=>by
  have h1:=Hj (n:=n) fun j hj hn=>h j hj (by omega);unfold Dv;by_cases hL:L≤n
  ·rw [h n hL (by omega)];simp;omega
  · omega
def Jq (P:Program) (ops:Array Oper) (Q:Exit→Act→World→Prop):Nat→Nat→Act→World→Prop
 | 0,_,a,w=>Q .normal a w
 | r+1,m,a,w=>wpOp P ops Q m (fun a' w'=>Jq P ops Q r (m+1) a' w') a w
theorem tail_any {u:Nat} (jd:∀ i o,L≤i→ops[i]? = some o→(∀ j,j<i→(i=L∧j=u)∨∃ e∈o.after,Region.binds .any e=true∧(e.on=j∨(L≤e.on∧j<e.on∧(j=u→e.on≠L))∨(e.on<L∧(ms.getD e.on 0).testBit j=true)))∧∀ e∈o.after,Region.binds .any e=true→e.on<i) (jf:∀ i,i<L→∀ {j},(ms.getD i 0).testBit j=true→j<i) :
  ∀ (r fuel:Nat) (listed:Array Bool) (a:Act) (w:World) (m:Nat),listed.size=ops.size→L≤m→m+r=ops.size→(∀ j,j<m→listed.getD j true=true)→(∀ j,m≤j→j<ops.size→listed.getD j true=false)→Jq P ops Q r m a w→(h:r≤fuel:=by omega)→wpAny P .any ops Q fuel listed a w:=by
 intro r
 induction r with
 | zero =>
  intro fuel listed a w m jb hm hr hd hu hq _;refine JB ?_ hq fuel;rw [List.eq_nil_iff_forall_not_mem];intro j hj;obtain ⟨g1,g2,_⟩:=B4.1 hj;rw [hd j (by omega)] at g2;cases g2
 | succ r ih
       =>
  intro fuel listed a w m jb hm hr hd hu hq hf;obtain ⟨fuel,rfl⟩:∃ f,fuel=f+1:=⟨fuel - 1,by omega⟩
  refine ⟨fun h0=>?_,fun i hi=>?_⟩
  ·exfalso;cases ho:ops[m]? with
   | none=>rw [Array.getElem?_eq_none_iff] at ho;omega
   | some o =>
    have:m∈Region.ready .any ops listed:=B4.2 ⟨by omega,hu m (A3 _) (by omega),o,ho,fun e he hb=>by
     have h1:=(jd m o hm ho).2 e he hb;exact Bv jb (by omega) (hd e.on h1)⟩
    rw [h0] at this;cases this
  ·obtain ⟨
       h1,h2,o,ho,h3⟩:=B4.1 hi
   have hmi:m≤i:=by
    rcases Nat.lt_or_ge i m with h9 | h9
    · rw [hd i h9] at h2;cases h2
    · exact h9
   obtain rfl:i=m:=by
    rcases Nat.lt_or_ge m i with h9 | h9
    ·exfalso;obtain ⟨ja,jc⟩:=jd i o (by omega) ho;obtain ⟨e,he,hb,h4⟩:=(ja m h9).resolve_left fun h8=>by omega
     have hei:=jc e he hb;have je:listed.getD e.on true=true:=Bc jb (by omega) (h3 e he hb);have hem:e.on<m:=by
      rcases Nat.lt_or_ge e.on m with h8 | h8
      · exact h8
      ·have:=hu e.on h8 (by omega);rw [je] at this;cases this
     rcases h4 with h4 | h4 | h4
     · omega
     · omega
     · have:=jf e.on h4.1 h4.2;omega
    · omega
   refine wpOp_mono (fun a' w' jg=>ih fuel _ a' w' (i+1) (by simp [jb]) (by omega) (by omega) (fun j hj=>?_) (fun j hj h9=>?_) jg (by omega)) hq
   ·by_cases e:i=j
    · subst e;exact Ak (by omega)
    · rw [getD_set_ne e];exact hd j (by omega)
   · rw [getD_set_ne (by omega)];exact hu j (by omega) h9
theorem rvS_any
        {u:Nat} (jD:bn=true→∀ i o v w,ops[i]? = some o→o.dst=none→V i v w→V i undef w) (hV:∀ i j v w w',i<L→j<L→i≠j→(ms.getD j 0).testBit i=false→V j v w→X i w w'→V j v w') {n:Nat} (ja:rvOk0 ops ms bn n L=true) (hsz:L≤ops.size) (jp:∀ i o,L≤i→ops[i]? = some o→(∀ j,j<i→(i=L∧j=u)∨∃ e∈o.after,Region.binds .any e=true∧(e.on=j∨(L≤e.on∧j<e.on∧(j=u→e.on≠L))∨(e.on<L∧(ms.getD e.on 0).testBit j=true)))∧∀ e∈o.after,Region.binds .any e=true→e.on<i) (hn:a0.tmps.size=n)
  (jK:∀ i o,i<L→ops[i]? = some o→Mp P ops V X S ms a0 i o)
  (jh:∀ a w,a.tmps.size=a0.tmps.size→a.defers=a0.defers→(∀ f:Nat→Bool,(∀ i,i<L→f i=true)→S f w→(∀ i,i<L→V i (AY ops a i) w)→(∀ t,(ops.all fun o'=>o'.dst != some t)=true→a.tmps.getD t undef=a0.tmps.getD t undef)→Jq P ops Q (ops.size - L) L a w))
  (jo:u<L→∀ a w,a.tmps.size=a0.tmps.size→a.defers=a0.defers→(∀ f:Nat→Bool,(∀ i,i<L→i≠u→f i=true)→f u=false→S f w→(∀ i,i<L→i≠u→V i (AY ops a i) w)→(∀ t,(ops.all fun o'=>o'.dst != some t)=true→a.tmps.getD t undef=a0.tmps.getD t undef)→wpOp P ops Q L (fun a' w'=>wpOp P ops Q u (fun a'' w''=>Jq P ops Q (ops.size - L - 1) (L+1) a'' w'') a' w') a w)) :
  ∀ (fuel:Nat) (listed:Array Bool) (a:Act) (w:World),(∀ j,L≤j→j<ops.size→listed.getD j true=false)→Fy ops V S a0 L listed a w→Dv ops.size (fun i=>listed.getD i true)≤fuel→wpAny P .any ops Q fuel listed a w:=by
 intro fuel
 induction fuel with
 | zero =>
  intro listed a w hu h hc;have jb:=E8 (f:=fun i=>listed.getD i true) (Nat.le_zero.1 hc);have jC:ops.size=L:=by
   rcases Nat.lt_or_ge L ops.size with h9 | h9
   ·have:=hu L (A3 _) h9;rw [jb L h9] at this;cases this
   · omega
  exact tail_any jp (fun i h9=>EA ja h9) 0 0 listed a w L h.ls (A3 _) (by omega) (fun j hj=>jb j (by omega)) hu (by have:=jh a w h.size h.df _ (fun i hi=>jb i (by omega)) h.s (fun i hi=>h.done i hi (jb i (by omega))) h.base;rwa [jC,Nat.sub_self] at this)
 | succ fuel
       ih =>
  intro listed a w hu h hc;by_cases jl:∀ i,i<L→listed.getD i true=true
  · exact tail_any jp (fun i h9=>EA ja h9) (ops.size - L) (fuel+1) listed a w L h.ls (A3 _) (by omega) jl hu (jh a w h.size h.df _ jl h.s (fun i hi=>h.done i hi (jl i hi)) h.base) (by have:=Hj hu;omega)
  refine ⟨fun hr=>absurd (allS ja h.ls hr) jl,fun i hi=>?_⟩;obtain ⟨h1,h2,o,ho,h3⟩:=B4.1 hi;by_cases jf:i<L
  ·have jr:∀ j,L≤j→j<ops.size→(listed.setIfInBounds i true).getD j true=false:=fun j hj h9=>by rw [getD_set_ne (by omega)];exact hu j hj h9
   have jq:Dv ops.size (fun j=>(listed.setIfInBounds i true).getD j true)≤fuel:=by
    have:=Dl (f:=fun j=>listed.getD j true) (g:=fun j=>(listed.setIfInBounds i true).getD j true) (fun j hj=>by
     by_cases e:i=j
     · subst e;exact Ak (by rw [h.ls];exact h1)
     ·show (listed.setIfInBounds i true).getD j true=true;rw [getD_set_ne e];exact hj) (j:=i) (Ak (by rw [h.ls];exact h1)) h2 ops.size h1
    omega
   obtain ⟨o2,jA,jE,_,js,_⟩:=E9 ja jf;rw [ho] at jA;cases jA;have jv:∀ v w',V i v w'→o.dst=none→V i undef w':=fun v w' hv hd=>jD (jE hd) i o v w' ho hd hv;have jm:∀ e∈o.after,Region.binds .any e=true→listed.getD e.on true=true:=fun e he hb=>by
    have hlt2:=js e he hb;exact Bc h.ls (by omega) (h3 e he hb)
   have jz:=C5 ja h i jf (fun o' je e he hb=>by rw [ho] at je;cases je;exact jm e he hb);have hO:=jK i o jf ho;have jG:∀ j,j<ms.length→(ms.getD j 0).testBit i=true→listed.getD j true=false:=fun j hj hb=>by
    rw [F4 ja] at hj;cases hl:listed.getD j true with
    | false=>rfl
    | true =>
     have:=C5 ja h j hj (fun o' je e he ji=>h.closed j o' hj hl je e he ji) i hb;rw [h2] at this;cases this
   have hO:=hO a w _ h.size h2 jz jG h.s (fun j hj=>h.done j (by have:=EA ja jf hj;omega) (jz j hj)) h.base (fun j d hj hf=>h.und j d (by rw [F4 ja] at hj;exact hj) hf);have jc:∀ w',X i w w'→∀ j,j<L→j≠i→listed.getD j true=true→∀ v,V j v w→V j v w':=fun w' hx j hj jg hl v hv=>by
    refine hV i j v w w' jf hj (Ne.symm jg) ?_ hv hx;cases hb:(ms.getD j 0).testBit i with
    | false=>rfl
    | true =>
     have:=C5 ja h j hj (fun o' je e he ji=>h.closed j o' hj hl je e he ji) i hb;rw [h2] at this;cases this
   unfold wpOp;rw [ho];simp only;cases hw:Region.wanted o (yielded ops a.tmps) with
   | false =>
    rw [if_neg (by simp)];obtain ⟨hv,jk⟩:=hO.2 hw;exact ih _ _ _ jr (rvAtS_put ja hn h jf ho jm hv (jv _ _ hv) (fun _ _ _ _ _ h=>h) jk) jq
   | true =>
    rw [if_pos rfl];refine .inl ?_;rcases hO.1 hw with (⟨v,w',hr,hv,hx,jk⟩ | ⟨g,args,w',hr,hC⟩) | ⟨hd,w',hr,hv,hx,jk⟩
    ·unfold Oper.wp;rw [hr];exact ih _ _ _ jr (rvAtS_put ja hn h jf ho jm hv (jv _ _ hv) (jc w' hx) jk) jq
    ·unfold Oper.wp;rw [hr];refine hC.mono ?_;rintro e w'' ⟨v,rfl,hv,hx,jk⟩;exact ih _ _ _ jr (rvAtS_put ja hn h jf ho jm hv (jv _ _ hv) (jc w'' hx) jk) jq
    ·unfold Oper.wp;rw [hr];exact ih _ _ _ jr (rvAtS_put (v:=undef) ja hn h jf ho jm hv (fun _=>hv) (jc w' hx) jk) jq
  ·obtain ⟨
       hdeps,hlt9⟩:=jp i o (by omega) ho
   have jj:∀ j,j<L→¬ (i=L∧j=u)→listed.getD j true=true:=fun j hj jg=>by
    obtain ⟨e,he,hb,h4⟩:=(hdeps j (by omega)).resolve_left jg;have jd:listed.getD e.on true=true:=Bc h.ls (by have:=hlt9 e he hb;omega) (h3 e he hb);rcases Nat.lt_or_ge e.on L with h9 | h9
    ·rcases h4 with rfl | h4 | h4
     · exact jd
     · omega
     · exact C5 ja h e.on h9 (fun o' je e' jt ji=>h.closed e.on o' h9 jd je e' jt ji) j h4.2
    ·have:=hu e.on h9 (by have:=hlt9 e he hb;omega);rw [jd] at this;cases this
   by_cases jx:i=L∧u<L∧listed.getD u true=false
   ·obtain ⟨
        rfl,huL,hul⟩:=jx
    have jb:∀ j,j<i→j≠u→listed.getD j true=true:=fun j hj jg=>jj j hj fun h9=>jg h9.2;have hf2:2≤fuel+1:=by
     have h5:=Dl (f:=fun j=>listed.getD j true) (g:=fun j=>(listed.setIfInBounds i true).getD j true) (fun j hj=>by
      by_cases e:i=j
      · subst e;exact Ak (by rw [h.ls];exact h1)
      ·show (listed.setIfInBounds i true).getD j true=true;rw [getD_set_ne e];exact hj) (j:=i) (Ak (by rw [h.ls];exact h1)) h2 ops.size h1
     have h6:=Dl (f:=fun j=>(listed.setIfInBounds i true).getD j true) (g:=fun _=>true) (fun _ _=>rfl) (j:=u) rfl (by show (listed.setIfInBounds i true).getD u true=false;rw [getD_set_ne (by omega)];exact hul) ops.size (by omega);omega
    obtain ⟨fuel,rfl⟩:∃ f,fuel=f+1:=⟨fuel - 1,by omega⟩
    have ju:∀ j,j≠u→j≤i→(listed.setIfInBounds i true).getD j true=true:=fun j jg hj=>by
     by_cases e:i=j
     · subst e;exact Ak (by rw [h.ls];exact h1)
     · rw [getD_set_ne e];exact jb j (by omega) jg
    have jB:(listed.setIfInBounds i true).getD u true=false:=by rw [getD_set_ne (by omega)];exact hul
    have jw:∀ j,i<j→j<ops.size→(listed.setIfInBounds i true).getD j true=false:=fun j hj h9=>by rw [getD_set_ne (by omega)];exact hu j (by omega) h9
    refine wpOp_mono (fun a' w' hq=>⟨fun hr=>?_,fun k hk=>?_⟩) (jo huL a w h.size h.df _ jb hul h.s (fun j hj jg=>h.done j hj (jb j hj jg)) h.base)
    ·exfalso;obtain ⟨ou,jL,_,_,jH,_⟩:=E9 ja huL;have:u∈Region.ready .any ops (listed.setIfInBounds i true):=B4.2 ⟨by omega,jB,ou,jL,fun e he hb=>by
      have h8:=jH e he hb;exact Bv (n:=ops.size) (by simp [h.ls]) (by omega) (ju e.on (by omega) (by omega))⟩
     rw [hr] at this;cases this
    ·obtain ⟨
         k1,k2,ok,hok2,k3⟩:=B4.1 hk
     have jI:k=u:=by
      rcases Nat.lt_or_ge i k with h9 | h9
      ·exfalso;obtain ⟨jF,jy⟩:=jp k ok (by omega) hok2;obtain ⟨e,he,hb,h4⟩:=(jF u (by omega)).resolve_left fun h8=>by omega
       have jd:(listed.setIfInBounds i true).getD e.on true=true:=Bc (n:=ops.size) (by simp [h.ls]) (by have:=jy e he hb;omega) (k3 e he hb);rcases Nat.lt_or_ge i e.on with h8 | h8
       · rw [jw e.on h8 (by have:=jy e he hb;omega)] at jd;cases jd
       ·rcases h4 with h4 | h4 | h4
        · rw [h4,jB] at jd;cases jd
        ·have h5:=h4.2.2 rfl;omega
        ·have jJ:listed.getD e.on true=true:=by rw [getD_set_ne (by omega)] at jd;exact jd
         have:=C5 ja h e.on h4.1 (fun o' je e' jt ji=>h.closed e.on o' h4.1 jJ je e' jt ji) u h4.2;rw [hul] at this;cases this
      ·by_cases e:k=u
       · exact e
       · rw [ju k e h9] at k2;cases k2
     subst jI;refine wpOp_mono (fun a'' w'' jM=>tail_any jp (fun i h9=>EA ja h9) (ops.size - i - 1) fuel _ a'' w'' (i+1) (by simp [h.ls]) (by omega) (by omega) (fun j hj=>?_) (fun j hj h9=>?_) jM ?_) hq
     ·by_cases e:k=j
      · subst e;exact Ak (by simp [h.ls];omega)
      · rw [getD_set_ne e];exact ju j (fun h9=>e h9.symm) (by omega)
     · rw [getD_set_ne (by omega)];exact jw j (by omega) h9
     ·have h5:=Hj (L:=i) (f:=fun j=>listed.getD j true) hu;have h6:=Dl (f:=fun j=>listed.getD j true) (g:=fun j=>listed.getD j true || decide (j=k)) (fun j hj=>by show (_ || _)=true;rw [hj];rfl) (j:=k) (by simp) hul ops.size (by omega);have h7:=Hj (L:=i) (n:=ops.size) (f:=fun j=>listed.getD j true || decide (j=k)) (fun j hj h9=>by show (_ || _)=false;rw [hu j hj h9,decide_eq_false (by omega)];rfl);omega
   ·exfalso;by_cases jn:i=L
    ·refine jl fun j hj=>?_;by_cases e:j=u
     ·subst e;cases hb:listed.getD j true with
      | true=>rfl
      | false=>exact absurd ⟨jn,hj,hb⟩ jx
     · exact jj j hj fun h9=>e h9.2
    · exact jl fun j hj=>jj j hj fun h9=>jn h9.1
theorem Jr {bn:Bool} {id:Nat} (hm:P.follows .mixedOrders=true) {w:World} (V:Nat→Value→World→Prop) (X:Nat→World→World→Prop) (S:(Nat→Bool)→World→Prop) (ms:List Nat) (n L:Nat) (jg:rvOkS ops ms bn n L=true) (hn:a0.tmps.size=n) (jj:bn=true→∀ i o v w,ops[i]? = some o→o.dst=none→V i v w→V i undef w)
  (hV:∀ i j v w w',i<L→j<L→i≠j→(ms.getD j 0).testBit i=false→V j v w→X i w w'→V j v w') (hS:∀ f:Nat→Bool,(∀ i,i<L→f i=false)→S f { w with drawn:=w.drawn+1 })
  (jk:Fc P ops V X S ms a0 L 0 ops.toList)
  (jb:ops.size=L→∀ a w,a.tmps.size=a0.tmps.size→a.defers=a0.defers→(∀ f:Nat→Bool,(∀ i,i<L→f i=true)→S f w→(∀ i,i<L→V i (AY ops a i) w)→(∀ t,(ops.all fun o'=>o'.dst != some t)=true→a.tmps.getD t undef=a0.tmps.getD t undef)→Q .normal a w))
  (ja:ops.size≠L→∀ a w,a.tmps.size=a0.tmps.size→a.defers=a0.defers→(∀ f:Nat→Bool,(∀ i,i<L→f i=true)→S f w→(∀ i,i<L→V i (AY ops a i) w)→(∀ t,(ops.all fun o'=>o'.dst != some t)=true→a.tmps.getD t undef=a0.tmps.getD t undef)→wpOp P ops Q L (fun a' w'=>Q .normal a' w') a w)) :
  (Code.region id ops true).wp P Q a0 w:=by
 have hs:=rvOkS_size jg;have hf:∀ i,i<ops.size→(Array.replicate ops.size false).getD i true=false:=fun i hi=>by rw [A4,Array.getElem?_replicate,if_pos hi];rfl
 have h0:Fy ops V S a0 L (Array.replicate ops.size false) a0 { w with drawn:=w.drawn+1 }:=by
  refine ⟨by simp,fun hl=>hf L hl,rfl,rfl,hS _ fun i hi=>hf i (by omega),fun i o hi h=>?_,fun i hi h=>?_,fun _ _=>rfl,fun _ _ _ _ _=>rfl⟩
  · rw [hf i (by omega)] at h;cases h
  · rw [hf i (by omega)] at h;cases h
 have h1:L≤ops.size:=by rcases hs with h | ⟨h,_⟩ <;> omega
 refine wp_region_any hm (rvS_any (u:=ops.size) jj hV (Bz jg) h1 (fun i o hi ho=>?_) hn (fun i o hi ho=>by have h9:=GX _ _ jk i o (by rw [Array.getElem?_toList];exact ho) (by omega);rwa [Nat.zero_add] at h9) (fun a w h2 h3 f je jh ji jc=>?_) (fun h=>by omega) ops.size (Array.replicate ops.size false) a0 _ (fun j _ hj=>hf j hj) h0 (F3 _ _))
 ·rcases hs with h | ⟨h,oL,jf,hd,jd⟩
  · have:=(A5.1 ho).1;omega
  ·obtain rfl:i=L:=by have:=(A5.1 ho).1;omega
   rw [ho] at jf;cases jf;refine ⟨fun j hj=>?_,jd⟩;obtain ⟨e,he,hb,h4⟩:=hd j hj;exact .inr ⟨e,he,hb,h4.imp (fun h=>h) fun h4=>.inr ⟨jd e he hb,h4⟩⟩
 ·rcases hs with h | ⟨h,_⟩
  · rw [h,Nat.sub_self];exact jb h a w h2 h3 f je jh ji jc
  · rw [h,Nat.add_sub_cancel_left];exact ja (by omega) a w h2 h3 f je jh ji jc
def RZ (ops:Array Oper) (ms:List Nat) (n L u:Nat):Bool:=rvOk0 ops ms false n L && decide (L≤ops.size) && (List.range ops.size).all fun i=>decide (i<L) || match ops[i]? with
 | none=>false
 | some o=>((List.range i).all fun j=>(decide (i=L) && decide (j=u)) || o.after.any fun e=>Region.binds .any e && (e.on == j || (decide (L≤e.on) && (decide (j<e.on) && !(decide (j=u) && decide (e.on=L)))) || (decide (e.on<L) && (ms.getD e.on 0).testBit j))) && o.after.all fun e=>!Region.binds .any e || decide (e.on<i)
theorem Js {id:Nat} (hm:P.follows .mixedOrders=true) {w:World} (V:Nat→Value→World→Prop) (X:Nat→World→World→Prop) (S:(Nat→Bool)→World→Prop) (ms:List Nat) (n L u:Nat) (jb:RZ ops ms n L u=true) (hn:a0.tmps.size=n)
  (hV:∀ i j v w w',i<L→j<L→i≠j→(ms.getD j 0).testBit i=false→V j v w→X i w w'→V j v w') (hS:∀ f:Nat→Bool,(∀ i,i<L→f i=false)→S f { w with drawn:=w.drawn+1 })
  (jd:Fc P ops V X S ms a0 L 0 (ops.toList.take L))
  (jc:∀ a w,a.tmps.size=a0.tmps.size→a.defers=a0.defers→(∀ f:Nat→Bool,(∀ i,i<L→f i=true)→S f w→(∀ i,i<L→V i (AY ops a i) w)→(∀ t,(ops.all fun o'=>o'.dst != some t)=true→a.tmps.getD t undef=a0.tmps.getD t undef)→Jq P ops Q (ops.size - L) L a w))
  (ja:u<L→∀ a w,a.tmps.size=a0.tmps.size→a.defers=a0.defers→(∀ f:Nat→Bool,(∀ i,i<L→i≠u→f i=true)→f u=false→S f w→(∀ i,i<L→i≠u→V i (AY ops a i) w)→(∀ t,(ops.all fun o'=>o'.dst != some t)=true→a.tmps.getD t undef=a0.tmps.getD t undef)→wpOp P ops Q L (fun a' w'=>wpOp P ops Q u (fun a'' w''=>Jq P ops Q (ops.size - L - 1) (L+1) a'' w'') a' w') a w)) :
  (Code.region id ops true).wp P Q a0 w:=by
 unfold RZ at jb;simp only [Bool.and_eq_true,decide_eq_true_eq] at jb;obtain ⟨⟨jb,je⟩,jf⟩:=jb;have hf:∀ i,i<ops.size→(Array.replicate ops.size false).getD i true=false:=fun i hi=>by rw [A4,Array.getElem?_replicate,if_pos hi];rfl
 have h0:Fy ops V S a0 L (Array.replicate ops.size false) a0 { w with drawn:=w.drawn+1 }:=by
  refine ⟨by simp,fun hl=>hf L hl,rfl,rfl,hS _ fun i hi=>hf i (by omega),fun i o hi h=>?_,fun i hi h=>?_,fun _ _=>rfl,fun _ _ _ _ _=>rfl⟩
  · rw [hf i (by omega)] at h;cases h
  · rw [hf i (by omega)] at h;cases h
 refine wp_region_any hm (rvS_any (u:=u) (fun e=>by cases e) hV jb je (fun i o hi ho=>?_) hn (fun i o hi ho=>by have h9:=GX _ _ jd i o (by rw [List.getElem?_take,if_pos hi,Array.getElem?_toList];exact ho) (by omega);rwa [Nat.zero_add] at h9) jc ja ops.size (Array.replicate ops.size false) a0 _ (fun j _ hj=>hf j hj) h0 (F3 _ _));have h1:=(List.all_eq_true.1 jf) i (by have:=(A5.1 ho).1;simpa using this);rw [ho,decide_eq_false (show ¬ i<L by omega)] at h1;simp only [Bool.false_or,Bool.and_eq_true,List.all_eq_true,Array.any_eq_true',Bool.or_eq_true,beq_iff_eq,decide_eq_true_eq,Bool.not_eq_true',Bool.and_eq_false_iff,decide_eq_false_iff_not] at h1;refine ⟨fun j hj=>?_,fun e he hb=>?_⟩
 ·rcases h1.1 j (by simpa using hj) with h4 | ⟨e,he,hb,h4⟩
  · exact .inl h4
  ·refine .inr ⟨e,he,hb,?_⟩;rcases h4 with (h4 | h4) | h4
   · exact .inl h4
   · exact .inr (.inl ⟨h4.1,h4.2.1,fun h5=>h4.2.2.resolve_left fun h6=>h6 h5⟩)
   · exact .inr (.inr h4)
 ·have:=(Array.all_eq_true'.1 h1.2) e he;rw [hb] at this;simpa using this
theorem An {id:Nat} (hm:P.follows .mixedOrders=true) {w:World} (V:Nat→Value→World→Prop) (X:Nat→World→World→Prop) (S:(Nat→Bool)→World→Prop) (ms:List Nat) (n L:Nat) (jc:rvOkS ops ms false n L=true) (hn:a0.tmps.size=n)
  (hV:∀ i j v w w',i<L→j<L→i≠j→(ms.getD j 0).testBit i=false→V j v w→X i w w'→V j v w') (hS:∀ f:Nat→Bool,(∀ i,i<L→f i=false)→S f { w with drawn:=w.drawn+1 })
  (jd:Lv P ops V X S ms a0 L 0 ops.toList)
  (jb:ops.size=L→∀ a w,a.tmps.size=a0.tmps.size→a.defers=a0.defers→(∀ f:Nat→Bool,(∀ i,i<L→f i=true)→S f w→(∀ i,i<L→V i (AY ops a i) w)→(∀ t,(ops.all fun o'=>o'.dst != some t)=true→a.tmps.getD t undef=a0.tmps.getD t undef)→Q .normal a w))
  (ja:ops.size≠L→∀ a w,a.tmps.size=a0.tmps.size→a.defers=a0.defers→(∀ f:Nat→Bool,(∀ i,i<L→f i=true)→S f w→(∀ i,i<L→V i (AY ops a i) w)→(∀ t,(ops.all fun o'=>o'.dst != some t)=true→a.tmps.getD t undef=a0.tmps.getD t undef)→wpOp P ops Q L (fun a' w'=>Q .normal a' w') a w)) :
  (Code.region id ops true).wp P Q a0 w :=
 Jr hm V X S ms n L jc hn (fun e=>by cases e) hV hS (Mq P ops V X S ms a0 L _ _ jd) jb ja
end
def Xs (l:List (World→World→Prop)) (i:Nat):World→World→Prop:=l.getD i Ext
def Lx (X:World→World→Prop) (m:Nat) (ms:List Nat):Nat→List (Value→World→Prop)→Prop
 | _,[]=>True
 | j,p :: l=>(j≠m→(ms.getD j 0).testBit m=false→∀ v w w',p v w→X w w'→p v w')∧Lx X m ms (j+1) l
theorem JE {X:World→World→Prop} {m:Nat} {ms:List Nat}:∀ (l:List (Value→World→Prop)) (k:Nat),Lx X m ms k l→∀ i p,l[i]? = some p→k+i≠m→(ms.getD (k+i) 0).testBit m=false→∀ v w w',p v w→X w w'→p v w'
 | [],_,_,i,p,h=>by simp at h
 | q :: l,k,h,0,p,hp=>by
  have:q=p:=by simpa using hp
  subst this;exact h.1
 | q :: l,k,h,i+1,p,hp=>by
  have e:k+(i+1)=k+1+i:=by omega
  rw [e];exact JE l (k+1) h.2 i p (by simpa using hp)
theorem Aw {X:World→World→Prop} {m:Nat} {ms:List Nat} {l:List (Value→World→Prop)} (h:Lx X m ms 0 l):∀ j v w w',m≠j→(ms.getD j 0).testBit m=false→Vs l j v w→X w w'→Vs l j v w':=by
 intro j v w w' hne hb hv hx;unfold Vs at *;by_cases hj:j<l.length
 ·rw [AO,AA hj] at hv ⊢;exact JE l 0 h j _ (AA hj) (by omega) (by rw [Nat.zero_add];exact hb) v w w' hv hx
 · rw [AO,AP (by omega)];trivial
def Rm (l:List (Value→World→Prop)) (ms:List Nat):Nat→List (World→World→Prop)→Prop
 | _,[]=>True
 | i,X :: r=>(X=Ext∨∀ j v w w',i≠j→(ms.getD j 0).testBit i=false→Vs l j v w→X w w'→Vs l j v w')∧Rm l ms (i+1) r
theorem Mr {l:List (Value→World→Prop)} {ms:List Nat}:∀ (r:List (World→World→Prop)) (k:Nat),Rm l ms k r→∀ i X,r[i]? = some X→X=Ext∨∀ j v w w',k+i≠j→(ms.getD j 0).testBit (k+i)=false→Vs l j v w→X w w'→Vs l j v w'
 | [],_,_,i,X,h=>by simp at h
 | q :: r,k,h,0,X,hp=>by
  have:q=X:=by simpa using hp
  subst this;exact h.1
 | q :: r,k,h,i+1,X,hp=>by
  have e:k+(i+1)=k+1+i:=by omega
  rw [e];exact Mr r (k+1) h.2 i X (by simpa using hp)
theorem Az {l:List (Value→World→Prop)} {r:List (World→World→Prop)} {ms:List Nat} {L:Nat} (hx:∀ i v w w',Vs l i v w→Ext w w'→Vs l i v w') (h:Rm l ms 0 r) :
  ∀ i j v w w',i<L→j<L→i≠j→(ms.getD j 0).testBit i=false→Vs l j v w→Xs r i w w'→Vs l j v w':=by
 intro i j v w w' _ _ ja hb hv hX;unfold Xs at hX;by_cases hi:i<r.length
 ·rw [AO,AA hi] at hX;rcases Mr r 0 h i _ (AA hi) with h1 | h1
  ·simp only [Option.getD_some] at hX;rw [h1] at hX;exact hx _ _ _ _ hv hX
  ·rw [Nat.zero_add] at h1;exact h1 j v w w' ja hb hv hX
 ·rw [AO,AP (by omega)] at hX;exact hx _ _ _ _ hv hX
def Cg (ops:Array Oper) (a:Act) (w:World):Nat→Nat→List (Value→World→Prop)→Prop
 | _,_,[]=>True
 | m,k,p :: l=>(m % 2=1→p (AY ops a k) w)∧Cg ops a w (m / 2) (k+1) l
theorem Ms {ops:Array Oper} {a:Act} {w:World}:∀ (l:List (Value→World→Prop)) (m k:Nat),(∀ j,m.testBit j=true→Vs l j (AY ops a (k+j)) w)→Cg ops a w m k l
 | [],_,_,_=>trivial
 | p
   :: l,m,k,h=>⟨fun h1=>h 0 (by simp [Nat.testBit_zero,h1]),Ms l (m / 2) (k+1) fun j hj=>by
   have h2:=h (j+1) (by rw [Nat.testBit_add_one];exact hj);rw [show k+1+j=k+(j+1) by omega];exact h2⟩
theorem DJ {ops:Array Oper} {a:Act} {w:World} {l:List (Value→World→Prop)} {m:Nat} (h:∀ j,m.testBit j=true→Vs l j (AY ops a j) w):Cg ops a w m 0 l:=Ms l m 0 fun j hj=>by rw [Nat.zero_add];exact h j hj
structure SP where
 p:Value→World→Prop
 st:Bb p
def qc (v:Value):SP:=⟨fun x _=>x=v,AW v⟩
def csV (l:List Value):List SP:=l.map qc
def Vp (l:List SP) (i:Nat) (v:Value) (w:World):Prop:=(l.getD i ⟨fun _ _=>True,fun _ _ _ _ _=>trivial⟩).p v w
theorem Or (l:List SP):∀ i v w w',Vp l i v w→Ext w w'→Vp l i v w':=fun i v w w' h hx=>(l.getD i _).st v w w' h hx
def rS (b:Bool):Value→Bool
 | .bool c=>c == b
 | _=>false
theorem Si (b c:Bool):rS b (.bool c)=(c == b):=rfl
theorem Sj (b:Bool):rS b undef=false:=rfl
def wS (ops:Array Oper) (A:Act) (o:Oper):Bool:=match o.guard with
 | none=>true
 | some (j,b)=>rS b (AY ops A j)
theorem wS_eq (ops:Array Oper) (A:Act) (o:Oper):Region.wanted o (yielded ops A.tmps)=wS ops A o:=by
 unfold Region.wanted wS;cases o.guard with
 | none=>rfl
 | some g =>
  obtain ⟨j,b⟩:=g;show (yielded ops A.tmps j == some b)=rS b (AY ops A j);unfold yielded AY;cases h1:ops[j]? with
  | none=>rfl
  | some o' =>
   simp only [Option.bind_some];cases h2:o'.dst with
   | none=>rfl
   | some d =>
    simp only [Option.bind_some];rw [A4];cases h3:A.tmps[d]? with
    | none=>rfl
    | some v =>
     simp only [Option.getD_some];cases v <;> first | rfl | skip
theorem Jt {ops:Array Oper} {A:Act} {o:Oper} {X Y:Prop} (h:wS ops A o=true) (hX:X):(Region.wanted o (yielded ops A.tmps)=true→X)∧(Region.wanted o (yielded ops A.tmps)=false→Y):=by
 rw [wS_eq,h];exact ⟨fun _=>hX,fun e=>(by cases e)⟩
def Ot (ops:Array Oper) (x:Nat→Value) (i:Nat):Value:=match ops[i]? with | some o=>(match o.dst with | some d=>x d | none=>undef) | none=>undef
variable {P:Program} {ops:Array Oper} {a0:Act} {Q:Exit→Act→World→Prop}
theorem Fz {id:Nat} {w:World} (u:World) (hS:Ext u w) (n:Nat) (l:List SP) (ds:List Nat) (jc:(P.follows .mixedOrders && (rvOk ops n && Lu ops == ds))=true) (hn:a0.tmps.size=n)
  (je:Mn P ops (Vp l) (Ext u) a0 0 ops.toList)
  (jb:∀ (W:World) (x:Nat→Value),Ext u W→(∀ i,i<ops.size→Vp l i (Ot ops x i) W)→Q .normal (ds.foldl (fun a d=>a.put (some d) (x d)) a0) W):(Code.region id ops true).wp P Q a0 w:=by
 simp only [Bool.and_eq_true,beq_iff_eq] at jc;obtain ⟨h1,h2,h3⟩:=jc;refine Am h1 (Vp l) (Ext u) n h2 hn (Or l) (fun _ _ h hx=>Ext.trans h hx) hS (Ay je) fun A W jf jd hW hv ja=>?_;obtain ⟨x,hx,hA⟩:=Ag ds h3 jf jd ja;rw [hA];refine jb W x hW fun i hi=>?_;have h:=hv i hi;have e:AY ops A i=Ot ops x i:=by
  unfold AY Ot;cases ops[i]? with
  | none=>rfl
  | some o =>
   cases ho:o.dst with
   | none=>simp only [ho]
   | some d=>simp only [ho];exact (hx d).symm
 rwa [e] at h
end Go.Proofs.YtpljngaejaehcaaGreatDoor
