/- Texts that the claims share. -/
import Derived.Shelf.Strings.Builder1
import Derived.Shelf.Small.Bits
import Derived.Shelf.Small.Wraps
import Derived.Shelf.Strings.BuilderF
import Derived.Shelf.Strings.BuilderK
import Derived.Shelf.Strconv.Itoa0
import Derived.Shelf.Strconv.Itoa1
import Derived.Shelf.LaysM
import Derived.Shelf.Strconv.Itoa2
import Derived.Shelf.Strconv.Itoa3
import Derived.Shelf.Strings.Prefix
import Derived.Shelf.Slices.Clone
import Derived.Shelf.Slices.SearchI
import Derived.Shelf.SlicesE.Clone
import Derived.Shelf.SortM.Plain
import Derived.Shelf.SortM.SortNone
import Derived.Test.YtpljngaejaehcaaGreatDoorProg
import Derived.Shelf.SlIterI.Nil
import Derived.WalkKit
import Derived.Lib.Hide
import Derived.WalkLawsBesides
import Derived.WalkSpells
import Derived.Handy
import Derived.CellFam
import Derived.Orders
import Derived.IntWalk
import Derived.Deep.RegionHeld3
import Derived.Deep.DeepCutAuto
import Derived.Test.YtpljngaejaehcaaGreatDoorChecked
import Derived.BigQuiet
import Derived.Deep.LoopGhost
import Derived.Deep.QuietTactic
import Derived.Conc.LoneCalls
import Derived.Conc.SmallLaws
import Derived.Laws.AppendOwn
import Derived.Laws.OwnMore
import Derived.Maps.AppendAt
import Derived.Lib.LazyBuf
import Derived.Conc.LoneSelectN
import Derived.Deep.OwnRows
open Option renaming none->oS,some->oT,getD_some->Xh,map_some->xh
open Bool renaming true->oF,false->oH,and_eq_true->Zg,not_eq_true'->XS,or_eq_true->Y2,and_eq_false_iff->Xc
open List renaming length->oB,all_eq_true->Zr,eq_nil_iff_forall_not_mem->XL,foldl_cons->zQ,mem_filterMap->X9,range->Zt,drop_eq_nil_of_le->Xn,eq_nil_of_length_eq_zero->Zo,getElem_take->Xi,length_cons->Zs,length_nil->X7,mem_iff_getElem->ZH,take_append_drop->XD
open Go.Value renaming int->aA,pointer->aB,slice->aG,bool->aH,string->aI,agg->aJ,int->X3
open Go.Obj renaming cells->aK
open Go.IntKind renaming i64->aM,u8->aO
open Go.Ending renaming returned->aP
open Go.Act renaming eval->Zf,put->ZE
open Go renaming Addr->Zj,Calls->Zu,Oper->ZX,TypeId->X5,Value->Z6,World->Z0,undef->Z8,heap_alloc_new->Z4
open Array renaming all_eq_true'->X8,getElem?_replicate->XW,getElem?_setIfInBounds_ne->ZV,getElem?_setIfInBounds_self->Xk,getElem?_toList->ZL,mem_of_getElem?->zO,replicate->Xd,getElem?_modify->X6,length_toList->Xq
open Go.RowKit.Below renaming refl->Z2,trans->Y9,heap_alloc->ZF,heap_setCell->Zc
open Go.Code renaming region->zT
open Go.Shelf renaming Ren->zS
open Go.Lib renaming IsBuilderF->XH,byteCells->XV,formatBool->zK,itoa->zD
open Nat renaming lt_or_ge->zx,strongRecOn->zF,zero_add->ZS,testBit_two_pow->X4,zero_le->Ze
open Go.Oper renaming wp->xe
open Go.Region renaming binds->Zl,ready->Xl,wanted->Zv
open Go.Proofs.Tryz renaming prog->Z1,sizeOf3->xw,underlying0->xk,underlying26->Xv,underlying3->ZR,underlying36->Y5,underlying5->Xg,underlying9->XJ,zeroValue0->xo,zeroValue3->XZ,ntmps85->xy,ntmps94->xx
open Go.World renaming cell?_alloc_past->XK,setCell->zy,size_drew->Zi,size_setCell->Zb
open Go.ByteArray renaming toList_eq->ZQ
open Go.Exit renaming inBlock->zU
open Go.Instr renaming indexAt->ZK,slice->Xm,sliceBound->XA,sliceBounds->Xw
open Int renaming eq_ofNat_of_zero_le->ZY
open Go.World.ownsRow renaming cells->zZ
set_option linter.unusedVariables false
set_option linter.unusedSimpArgs false
set_option maxHeartbeats 3200000
set_option maxRecDepth 100000
set_option linter.defProp false
namespace Go.Proofs.YtpljngaejaehcaaGreatDoor
abbrev A0:=@Lib.hid
def oC {a b c:Prop}(a':a)(b':b)(c':c):Go.RowKit.Hid a/\Go.RowKit.Hid b/\Go.RowKit.Hid c:=⟨a',b',c'⟩
def oD {a b c d:Prop}(a':a)(b':b)(c':c)(d':d):Go.RowKit.Hid a/\Go.RowKit.Hid b/\Go.RowKit.Hid c/\Go.RowKit.Hid d:=⟨a',b',c',d'⟩
def oE {a b c d e:Prop}(a':a)(b':b)(c':c)(d':d)(e':e):Go.RowKit.Hid a/\Go.RowKit.Hid b/\Go.RowKit.Hid c/\Go.RowKit.Hid d/\Go.RowKit.Hid e:=⟨a',b',c',d',e'⟩
def oG {a b c d e f:Prop}(a':a)(b':b)(c':c)(d':d)(e':e)(f':f):Go.RowKit.Hid a/\Go.RowKit.Hid b/\Go.RowKit.Hid c/\Go.RowKit.Hid d/\Go.RowKit.Hid e/\Go.RowKit.Hid f:=⟨a',b',c',d',e',f'⟩
def oJ {a b c d e f g:Prop}(a':a)(b':b)(c':c)(d':d)(e':e)(f':f)(g':g):Go.RowKit.Hid a/\Go.RowKit.Hid b/\Go.RowKit.Hid c/\Go.RowKit.Hid d/\Go.RowKit.Hid e/\Go.RowKit.Hid f/\Go.RowKit.Hid g:=⟨a',b',c',d',e',f',g'⟩
def oK {a b c d e f g h:Prop}(a':a)(b':b)(c':c)(d':d)(e':e)(f':f)(g':g)(h':h):Go.RowKit.Hid a/\Go.RowKit.Hid b/\Go.RowKit.Hid c/\Go.RowKit.Hid d/\Go.RowKit.Hid e/\Go.RowKit.Hid f/\Go.RowKit.Hid g/\Go.RowKit.Hid h:=⟨a',b',c',d',e',f',g',h'⟩
abbrev A5:=@Nat.le_refl
abbrev A6:=@Array.getD_eq_getD_getElem?
abbrev A7:=@Array.getElem?_eq_some_iff
abbrev A8:=@World.size_alloc
abbrev A9:=@Nat.lt_of_lt_of_le
abbrev AA:=@Nat.le_trans
abbrev AB:=@List.mem_cons_self
abbrev AC:=@List.getElem?_eq_getElem
abbrev AD:=@List.length_append
abbrev AE:=@List.length_singleton
abbrev AF:=@List.mem_singleton
abbrev AG:=@List.drop_eq_getElem_cons
abbrev AH:=@List.take_of_length_le
abbrev AI:=@List.getElem_mem
abbrev AJ:=@List.mem_map
abbrev AK:=@List.getElem?_append_left
abbrev AM:=@List.getElem?_append_right
abbrev AN:=@Array.getElem?_eq_getElem
abbrev AO:=@List.length_take
abbrev AP:=@List.getElem?_take
abbrev AQ:=@List.length_map
abbrev AR:=@List.take_succ_eq_append_getElem
abbrev AS:=@List.getD_eq_getElem?_getD
abbrev AT:=@List.getElem?_eq_none
abbrev AU:=@List.pairwise_cons
abbrev AV:=@List.pairwise_map
abbrev AW:=@List.length_replicate
abbrev AX:=@List.mem_cons
abbrev AY:=@List.mem_append
abbrev AZ:=@List.mem_filter
abbrev Aa:=@List.mem_range
end Go.Proofs.YtpljngaejaehcaaGreatDoor
namespace Go.Proofs
open Go.Shelf
def Tryz.lays169_ren:zS:=⟨fun | 169=>130 | n=>n,fun | 70=>212 | 9=>9 | 0=>0 | 72=>214 | 37=>26 | 127=>234 | 3=>3 | 5=>5 | n=>n,fun | n=>n⟩
def Tryz.lays169:Go.Proofs.Lays.n169 Z1 Tryz.lays169_ren:={
 mixed:=by kernel_rfl
 f169:=Tryz.func130.trans (congrArg oT (by kernel_rfl))
 t0:=xk
 a0:=Tryz.isAgg0
 z0:=Tryz.sizeOf0
 v0:=xo
 t3:=ZR
 a3:=Tryz.isAgg3
 z3:=xw
 v3:=XZ
 t9:=XJ
 a9:=Tryz.isAgg9
 z9:=Tryz.sizeOf9
 v9:=Tryz.zeroValue9
 t37:=Xv
 a37:=Tryz.isAgg26
 z37:=Tryz.sizeOf26
 v37:=Tryz.zeroValue26
 t70:=Tryz.underlying212
 a70:=Tryz.isAgg212
 z70:=Tryz.sizeOf212
 v70:=Tryz.zeroValue212
 t72:=Tryz.underlying214
 a72:=Tryz.isAgg214
 z72:=Tryz.sizeOf214
 v72:=Tryz.zeroValue214
 t127:=Tryz.underlying234
 a127:=Tryz.isAgg234
 z127:=Tryz.sizeOf234
 v127:=Tryz.zeroValue234 }
def Tryz.Builder_Extra_169:Builder.Extra Z1 Tryz.lays169_ren:={
 sizeBuilder:=by kernel_rfl
 liesBuilder:=by kernel_rfl
 t5:=Xg
 a5:=Tryz.isAgg5
 z5:=Tryz.sizeOf5
 v5:=Tryz.zeroValue5
 infoByte:=by kernel_rfl
 cellsByte:=by kernel_rfl
 sizeByte:=by kernel_rfl
 neB5:=by decide }
def Tryz.lays214_ren:zS:=⟨fun | 214=>145 | n=>n,fun | 4=>4 | 9=>9 | n=>n,fun | n=>n⟩
def Tryz.lays121_ren:zS:=⟨fun | 121=>128 | 214=>145 | n=>n,fun | 4=>4 | 9=>9 | n=>n,fun | n=>n⟩
def Tryz.lays121:Go.Proofs.Lays.n121 Z1 Tryz.lays121_ren:={
 mixed:=by kernel_rfl
 f121:=Tryz.func128.trans (congrArg oT (by kernel_rfl))
 f214:=Tryz.func145.trans (congrArg oT (by kernel_rfl))
 t4:=Tryz.underlying4
 a4:=Tryz.isAgg4
 z4:=Tryz.sizeOf4
 v4:=Tryz.zeroValue4
 t9:=XJ
 a9:=Tryz.isAgg9
 z9:=Tryz.sizeOf9
 v9:=Tryz.zeroValue9 }
open Go.RowKit in
def Tryz.strconv_FormatBool (b:Bool)(w:Z0) :
  Zu Z1 128 #[aH b] w λe w'=>e=aP (aI ⟨(zK b).toArray⟩)/\w'=w:=Any.strconv_FormatBool Tryz.lays121 b w
open Go.RowKit in
def Tryz.Builder_String_any_k (B b:Nat)(l:List UInt8)(w:Z0)(h:XH 214 5 B b (XV l) w)(ja:B<=w.heap.size) :
  Zu Z1 130 #[aB (oT ⟨b,0,oS⟩)] w λe w'=>e=aP (aI ⟨l.toArray⟩)/\(XH 214 5 B b (XV l) w'/\Below B w w'/\Lib.OthersKept 5 (oT b) w w'):=Any.Builder_String_any_k Tryz.lays169 Tryz.Builder_Extra_169 B b l w h ja
def Tryz.laysM246_ren:zS:=⟨fun | 246=>154 | 283=>168 | 284=>169 | 285=>170 | 286=>171 | 129=>167 | 317=>177 | 318=>178 | 319=>179 | 320=>180 | 337=>182 | 338=>183 | n=>n,fun | 2=>2 | 3=>3 | 9=>9 | 4=>4 | 171=>260 | 0=>0 | 53=>259 | 37=>26 | 5=>5 | 173=>262 | 212=>271 | 51=>257 | 20=>20 | 213=>272 | 46=>243 | 232=>276 | 233=>277 | n=>n,fun | 17=>0 | 18=>1 | 19=>2 | n=>n⟩
def Tryz.laysM243_ren:zS:=⟨fun | 243=>146 | 246=>154 | 283=>168 | 284=>169 | 285=>170 | 286=>171 | 129=>167 | 317=>177 | 318=>178 | 319=>179 | 320=>180 | 337=>182 | 338=>183 | n=>n,fun | 3=>3 | 9=>9 | 2=>2 | 4=>4 | 171=>260 | 0=>0 | 53=>259 | 37=>26 | 5=>5 | 173=>262 | 212=>271 | 51=>257 | 20=>20 | 213=>272 | 46=>243 | 232=>276 | 233=>277 | n=>n,fun | 17=>0 | 18=>1 | 19=>2 | n=>n⟩
def Tryz.laysM171_ren:zS:=⟨fun | 171=>129 | 243=>146 | 246=>154 | 283=>168 | 284=>169 | 285=>170 | 286=>171 | 129=>167 | 317=>177 | 318=>178 | 319=>179 | 320=>180 | 337=>182 | 338=>183 | n=>n,fun | 3=>3 | 9=>9 | 2=>2 | 4=>4 | 171=>260 | 0=>0 | 53=>259 | 37=>26 | 5=>5 | 173=>262 | 212=>271 | 51=>257 | 20=>20 | 213=>272 | 46=>243 | 232=>276 | 233=>277 | n=>n,fun | 17=>0 | 18=>1 | 19=>2 | n=>n⟩
def Tryz.laysM171:Go.Proofs.LaysM.n171 Z1 Tryz.laysM171_ren:={
 mixed:=by kernel_rfl
 f129:=Tryz.func167.trans (congrArg oT (by kernel_rfl))
 f171:=Tryz.func129.trans (congrArg oT (by kernel_rfl))
 f243:=Tryz.func146.trans (congrArg oT (by kernel_rfl))
 f246:=Tryz.func154.trans (congrArg oT (by kernel_rfl))
 f283:=Tryz.func168.trans (congrArg oT (by kernel_rfl))
 f284:=Tryz.func169.trans (congrArg oT (by kernel_rfl))
 f285:=Tryz.func170.trans (congrArg oT (by kernel_rfl))
 f286:=Tryz.func171.trans (congrArg oT (by kernel_rfl))
 f317:=Tryz.func177.trans (congrArg oT (by kernel_rfl))
 f318:=Tryz.func178.trans (congrArg oT (by kernel_rfl))
 f319:=Tryz.func179.trans (congrArg oT (by kernel_rfl))
 f320:=Tryz.func180.trans (congrArg oT (by kernel_rfl))
 f337:=Tryz.func182.trans (congrArg oT (by kernel_rfl))
 f338:=Tryz.func183.trans (congrArg oT (by kernel_rfl))
 t0:=xk
 a0:=Tryz.isAgg0
 z0:=Tryz.sizeOf0
 v0:=xo
 t2:=Tryz.underlying2
 a2:=Tryz.isAgg2
 z2:=Tryz.sizeOf2
 v2:=Tryz.zeroValue2
 t3:=ZR
 a3:=Tryz.isAgg3
 z3:=xw
 v3:=XZ
 t4:=Tryz.underlying4
 a4:=Tryz.isAgg4
 z4:=Tryz.sizeOf4
 v4:=Tryz.zeroValue4
 t5:=Xg
 a5:=Tryz.isAgg5
 z5:=Tryz.sizeOf5
 v5:=Tryz.zeroValue5
 t9:=XJ
 a9:=Tryz.isAgg9
 z9:=Tryz.sizeOf9
 v9:=Tryz.zeroValue9
 t20:=Tryz.underlying20
 a20:=Tryz.isAgg20
 z20:=Tryz.sizeOf20
 v20:=Tryz.zeroValue20
 t37:=Xv
 a37:=Tryz.isAgg26
 z37:=Tryz.sizeOf26
 v37:=Tryz.zeroValue26
 t46:=Tryz.underlying243
 a46:=Tryz.isAgg243
 z46:=Tryz.sizeOf243
 v46:=Tryz.zeroValue243
 t51:=Tryz.underlying257
 a51:=Tryz.isAgg257
 z51:=Tryz.sizeOf257
 v51:=Tryz.zeroValue257
 t53:=Tryz.underlying259
 a53:=Tryz.isAgg259
 z53:=Tryz.sizeOf259
 v53:=Tryz.zeroValue259
 t171:=Tryz.underlying260
 a171:=Tryz.isAgg260
 z171:=Tryz.sizeOf260
 v171:=Tryz.zeroValue260
 t173:=Tryz.underlying262
 a173:=Tryz.isAgg262
 z173:=Tryz.sizeOf262
 v173:=Tryz.zeroValue262
 t212:=Tryz.underlying271
 a212:=Tryz.isAgg271
 z212:=Tryz.sizeOf271
 v212:=Tryz.zeroValue271
 t213:=Tryz.underlying272
 a213:=Tryz.isAgg272
 z213:=Tryz.sizeOf272
 t232:=Tryz.underlying276
 a232:=Tryz.isAgg276
 z232:=Tryz.sizeOf276
 v232:=Tryz.zeroValue276
 t233:=Tryz.underlying277
 a233:=Tryz.isAgg277
 z233:=Tryz.sizeOf277
 v233:=Tryz.zeroValue277
 g17:=by kernel_rfl
 g18:=by kernel_rfl
 g19:=by kernel_rfl
 i0:=by kernel_rfl
 i2:=by kernel_rfl
 i3:=by kernel_rfl
 i4:=by kernel_rfl
 i5:=by kernel_rfl
 i9:=by kernel_rfl
 i20:=by kernel_rfl
 i37:=by kernel_rfl
 i46:=by kernel_rfl
 i51:=by kernel_rfl
 i53:=by kernel_rfl
 i171:=by kernel_rfl
 i173:=by kernel_rfl
 i212:=by kernel_rfl
 i232:=by kernel_rfl
 i233:=by kernel_rfl
 m17:=by kernel_rfl
 m18:=by kernel_rfl
 m19:=by kernel_rfl }
open Go.RowKit Go.Sort Go.Lib in
def Tryz.strconv_Itoa (n:Int)(h0:-9223372036854775808<=n)(h1:n<=9223372036854775807)(w:Z0)(ja:Lib.TabIs Z1 w "internal/strconv.uint64pow10" .u64 Lib.pow10Tab) :
  Zu Z1 129 #[aA aM n] w λe w'=>e=aP (aI ⟨(zD n).toArray⟩)/\∃ k os,w'=grow (w.drewN k) os:=Any.strconv_Itoa Tryz.laysM171 n h0 h1 w ja
def Tryz.keysA_ren:zS:=⟨fun | 7=>110 | 10=>137 | n=>n,fun | 23=>173 | 26=>3 | 3=>3 | 28=>192 | 0=>0 | 27=>191 | 33=>124 | 4=>4 | n=>n,fun | n=>n⟩
def Tryz.keysA:Go.Proofs.SlLaysZI.n7 Z1 Tryz.keysA_ren:={
 mixed:=by kernel_rfl
 f7:=⟨Tryz.f110.name,by decide,Tryz.func110.trans (congrArg oT (by kernel_rfl))⟩
 f10:=⟨Tryz.f137.name,by decide,Tryz.func137.trans (congrArg oT (by kernel_rfl))⟩
 t0:=xk
 a0:=Tryz.isAgg0
 z0:=Tryz.sizeOf0
 v0:=xo
 t4:=Tryz.underlying4
 a4:=Tryz.isAgg4
 z4:=Tryz.sizeOf4
 v4:=Tryz.zeroValue4
 t23:=Tryz.underlying173
 a23:=Tryz.isAgg173
 z23:=Tryz.sizeOf173
 v23:=Tryz.zeroValue173
 t26:=ZR
 a26:=Tryz.isAgg3
 z26:=xw
 v26:=XZ
 t27:=Tryz.underlying191
 a27:=Tryz.isAgg191
 z27:=Tryz.sizeOf191
 v27:=Tryz.zeroValue191
 t28:=Tryz.underlying192
 a28:=Tryz.isAgg192
 z28:=Tryz.sizeOf192
 v28:=Tryz.zeroValue192
 t33:=Tryz.underlying124
 a33:=Tryz.isAgg124
 z33:=Tryz.sizeOf124
 v33:=Tryz.zeroValue124 }
def Tryz.sortedA_ren:zS:=⟨fun | 6=>109 | 8=>135 | 9=>136 | 11=>150 | 13=>152 | 12=>151 | 23=>166 | 24=>167 | 14=>157 | 15=>158 | 16=>159 | 17=>160 | 18=>161 | 19=>162 | 20=>163 | 21=>164 | 22=>165 | 25=>172 | 26=>173 | 27=>174 | 28=>175 | 29=>176 | 30=>112 | 31=>181 | n=>n,fun | 26=>3 | 28=>192 | 24=>36 | 0=>0 | 3=>3 | 37=>243 | 48=>257 | 50=>259 | 4=>4 | 40=>251 | 39=>250 | 45=>172 | 5=>5 | 9=>9 | 51=>264 | 55=>268 | 57=>273 | 58=>274 | 33=>124 | n=>n,fun | n=>n⟩
def Tryz.sortedA:Go.Proofs.SlLaysZI.n6 Z1 Tryz.sortedA_ren:={
 mixed:=by kernel_rfl
 f6:=⟨Tryz.f109.name,by decide,Tryz.func109.trans (congrArg oT (by kernel_rfl))⟩
 f8:=⟨Tryz.f135.name,by decide,Tryz.func135.trans (congrArg oT (by kernel_rfl))⟩
 f11:=⟨Tryz.f150.name,by decide,Tryz.func150.trans (congrArg oT (by kernel_rfl))⟩
 t0:=xk
 a0:=Tryz.isAgg0
 z0:=Tryz.sizeOf0
 v0:=xo
 t24:=Y5
 a24:=Tryz.isAgg36
 z24:=Tryz.sizeOf36
 v24:=Tryz.zeroValue36
 t26:=ZR
 a26:=Tryz.isAgg3
 z26:=xw
 v26:=XZ
 t28:=Tryz.underlying192
 a28:=Tryz.isAgg192
 z28:=Tryz.sizeOf192
 v28:=Tryz.zeroValue192
 i26:=by kernel_rfl }
def Tryz.sortA_ren:zS:=⟨fun | 5=>136 | 8=>152 | 7=>151 | 19=>166 | 20=>167 | 10=>157 | 11=>158 | 12=>159 | 13=>160 | 14=>161 | 15=>162 | 16=>163 | 17=>164 | 18=>165 | 30=>172 | 31=>173 | 32=>174 | 33=>175 | 34=>176 | 35=>112 | 40=>181 | n=>n,fun | 23=>36 | 25=>3 | 3=>3 | 32=>243 | 22=>36 | 0=>0 | 44=>257 | 46=>259 | 4=>4 | 36=>251 | 35=>250 | 41=>172 | 5=>5 | 9=>9 | 53=>264 | 57=>268 | 63=>273 | 64=>274 | n=>n,fun | n=>n⟩
def Tryz.sortA:Go.Proofs.SlLaysM.n5 Z1 Tryz.sortA_ren:={
 mixed:=by kernel_rfl
 f5:=⟨Tryz.f136.name,by decide,Tryz.func136.trans (congrArg oT (by kernel_rfl))⟩
 f7:=⟨Tryz.f151.name,by decide,Tryz.func151.trans (congrArg oT (by kernel_rfl))⟩
 f8:=Tryz.func152.trans (congrArg oT (by kernel_rfl))
 f10:=⟨Tryz.f157.name,by decide,Tryz.func157.trans (congrArg oT (by kernel_rfl))⟩
 f11:=⟨Tryz.f158.name,by decide,Tryz.func158.trans (congrArg oT (by kernel_rfl))⟩
 f12:=⟨Tryz.f159.name,by decide,Tryz.func159.trans (congrArg oT (by kernel_rfl))⟩
 f13:=⟨Tryz.f160.name,by decide,Tryz.func160.trans (congrArg oT (by kernel_rfl))⟩
 f14:=⟨Tryz.f161.name,by decide,Tryz.func161.trans (congrArg oT (by kernel_rfl))⟩
 f15:=⟨Tryz.f162.name,by decide,Tryz.func162.trans (congrArg oT (by kernel_rfl))⟩
 f16:=⟨Tryz.f163.name,by decide,Tryz.func163.trans (congrArg oT (by kernel_rfl))⟩
 f17:=⟨Tryz.f164.name,by decide,Tryz.func164.trans (congrArg oT (by kernel_rfl))⟩
 f18:=⟨Tryz.f165.name,by decide,Tryz.func165.trans (congrArg oT (by kernel_rfl))⟩
 f19:=Tryz.func166.trans (congrArg oT (by kernel_rfl))
 f20:=Tryz.func167.trans (congrArg oT (by kernel_rfl))
 f30:=⟨Tryz.f172.name,by decide,Tryz.func172.trans (congrArg oT (by kernel_rfl))⟩
 f31:=Tryz.func173.trans (congrArg oT (by kernel_rfl))
 f32:=Tryz.func174.trans (congrArg oT (by kernel_rfl))
 f33:=⟨Tryz.f175.name,by decide,Tryz.func175.trans (congrArg oT (by kernel_rfl))⟩
 f34:=⟨Tryz.f176.name,by decide,Tryz.func176.trans (congrArg oT (by kernel_rfl))⟩
 f35:=⟨Tryz.f112.name,by decide,Tryz.func112.trans (congrArg oT (by kernel_rfl))⟩
 f40:=⟨Tryz.f181.name,by decide,Tryz.func181.trans (congrArg oT (by kernel_rfl))⟩
 t0:=xk
 a0:=Tryz.isAgg0
 z0:=Tryz.sizeOf0
 v0:=xo
 t3:=ZR
 a3:=Tryz.isAgg3
 z3:=xw
 v3:=XZ
 t4:=Tryz.underlying4
 a4:=Tryz.isAgg4
 z4:=Tryz.sizeOf4
 v4:=Tryz.zeroValue4
 t5:=Xg
 a5:=Tryz.isAgg5
 z5:=Tryz.sizeOf5
 v5:=Tryz.zeroValue5
 t9:=XJ
 a9:=Tryz.isAgg9
 z9:=Tryz.sizeOf9
 v9:=Tryz.zeroValue9
 t22:=Y5
 a22:=Tryz.isAgg36
 z22:=Tryz.sizeOf36
 v22:=Tryz.zeroValue36
 t23:=Y5
 a23:=Tryz.isAgg36
 z23:=Tryz.sizeOf36
 v23:=Tryz.zeroValue36
 t25:=ZR
 a25:=Tryz.isAgg3
 z25:=xw
 v25:=XZ
 t32:=Tryz.underlying243
 a32:=Tryz.isAgg243
 z32:=Tryz.sizeOf243
 v32:=Tryz.zeroValue243
 t35:=Tryz.underlying250
 a35:=Tryz.isAgg250
 z35:=Tryz.sizeOf250
 v35:=Tryz.zeroValue250
 t36:=Tryz.underlying251
 a36:=Tryz.isAgg251
 z36:=Tryz.sizeOf251
 v36:=Tryz.zeroValue251
 t41:=Tryz.underlying172
 a41:=Tryz.isAgg172
 z41:=Tryz.sizeOf172
 v41:=Tryz.zeroValue172
 t44:=Tryz.underlying257
 a44:=Tryz.isAgg257
 z44:=Tryz.sizeOf257
 v44:=Tryz.zeroValue257
 t46:=Tryz.underlying259
 a46:=Tryz.isAgg259
 z46:=Tryz.sizeOf259
 v46:=Tryz.zeroValue259
 t53:=Tryz.underlying264
 a53:=Tryz.isAgg264
 z53:=Tryz.sizeOf264
 v53:=Tryz.zeroValue264
 t57:=Tryz.underlying268
 a57:=Tryz.isAgg268
 z57:=Tryz.sizeOf268
 v57:=Tryz.zeroValue268
 t63:=Tryz.underlying273
 a63:=Tryz.isAgg273
 z63:=Tryz.sizeOf273
 v63:=Tryz.zeroValue273
 t64:=Tryz.underlying274
 a64:=Tryz.isAgg274
 z64:=Tryz.sizeOf274
 v64:=Tryz.zeroValue274 }
end Go.Proofs
namespace Go.Proofs.YtpljngaejaehcaaGreatDoor
open Go.RowKit
def Ap {W w1:Z0}{N:Nat}(hb:Below W.heap.size W w1)(hN:W.heap.size=N) :
  N
   <= w1.heap.size/\(∀ b o,(⟨b+1 - N,0,oS⟩:Zj)=⟨0,0,oS⟩->w1.cell? ⟨b,o,oS⟩=W.cell? ⟨b,o,oS⟩) /\
   (∀ b o,(⟨b+1 - N,0,oS⟩:Zj)=⟨0,0,oS⟩->w1.frozen? ⟨b,o,oS⟩=W.frozen? ⟨b,o,oS⟩):=by
 subst hN;refine⟨hb.size,λb o h=>hb.cell (p:=⟨b,o,oS⟩) ?_,λb o h=>hb.frozen (p:=⟨b,o,oS⟩) ?_⟩
 · have:=congrArg Addr.block h;simp only at this;show b<_;omega
 · have:=congrArg Addr.block h;simp only at this;show b<_;omega
def Aw {W w1:Z0}{B N:Nat}(hb:Below B W w1)(hN:B=N) :
  W.heap.size<=w1.heap.size/\(∀ b o,(⟨b+1 - N,0,oS⟩:Zj)=⟨0,0,oS⟩->w1.cell? ⟨b,o,oS⟩=W.cell? ⟨b,o,oS⟩) /\
   (∀ b o,(⟨b+1 - N,0,oS⟩:Zj)=⟨0,0,oS⟩->w1.frozen? ⟨b,o,oS⟩=W.frozen? ⟨b,o,oS⟩):=by
 subst hN;refine⟨hb.size,λb o h=>hb.cell (p:=⟨b,o,oS⟩) ?_,λb o h=>hb.frozen (p:=⟨b,o,oS⟩) ?_⟩
 · have:=congrArg Addr.block h;simp only at this;show b<_;omega
 · have:=congrArg Addr.block h;simp only at this;show b<_;omega
def Fc {n N:Nat}(h:(⟨n+1 - N,0,oS⟩:Zj)=⟨0,0,oS⟩):n<N:=by
 have:=congrArg Addr.block h;simp only at this;omega
@[go_sem] def VM (w:Z0)(o:Obj)(n i:Nat)(hn:(⟨n+1 - w.heap.size,0,oS⟩:Zj)=⟨0,0,oS⟩):(w.alloc o).cell? ⟨n,i,oS⟩=w.cell? ⟨n,i,oS⟩ :=
 XK o n i (Fc hn)
@[go_sem] def VN (w:Z0)(o o2:Obj)(n i:Nat)(hn:(⟨n+1 - w.heap.size,0,oS⟩:Zj)=⟨0,0,oS⟩):((w.alloc o).alloc o2).cell? ⟨n,i,oS⟩=w.cell? ⟨n,i,oS⟩:=by
 have:=Fc hn;rw[XK o2 n i (by simp;omega),XK o n i this]
@[go_sem] def VO (w:Z0)(o o2 o3:Obj)(n i:Nat)(hn:(⟨n+1 - w.heap.size,0,oS⟩:Zj)=⟨0,0,oS⟩):(((w.alloc o).alloc o2).alloc o3).cell? ⟨n,i,oS⟩=w.cell? ⟨n,i,oS⟩:=by
 have:=Fc hn;rw[XK o3 n i (by simp;omega),XK o2 n i (by simp;omega),XK o n i this]
@[go_sem] def U0 (w:Z0)(o:Obj)(n i:Nat)(hn:(⟨n+1 - w.heap.size,0,oS⟩:Zj)=⟨0,0,oS⟩):(w.alloc o).frozen? ⟨n,i,oS⟩=w.frozen? ⟨n,i,oS⟩ :=
 World.frozen?_alloc_past o n i (Fc hn)
def Ac {B:Nat}{w W w1:Z0}(hg:Below B w W)(hb:Below W.heap.size W w1)(hB:B<=w.heap.size):Below B w w1 :=
 hg.trans (hb.mono (AA hB hg.size))
def BH {k:IntKind}{a b:Int}(h:a=b):Ending.returned (aA k a)=aP (aA k b):=by rw[h]
def Ad {a b:Bool}(h:a=b):Ending.returned (aH a)=aP (aH b):=by rw[h]
def Ext (w w':Z0):Prop:=Below w.heap.size w w'
def Ext.refl (w:Z0):Ext w w:=Z2 _ _
def Ext.trans {a b c:Z0}(h:Ext a b)(h2:Ext b c):Ext a c:=Y9 h (h2.mono h.size)
def F3:Nat->(Nat->Bool)->Nat
 | 0,_=>0
 | n+1,f=>F3 n f+if f n then 0 else 1
def I1 (f:Nat->Bool):∀ n,F3 n f<=n
 | 0=>A5 _
 | n+1=>by have:=I1 f n;simp only[F3];split <;> omega
def LR {f g:Nat->Bool}(h:∀ i,f i=oF->g i=oF):∀ n,F3 n g<=F3 n f
 | 0=>A5 _
 | n+1=>by
  have:=LR h n;simp only[F3];cases hf:f n with
  | false=>split <;> simp <;> omega
  | true=>rw[h n hf];simp;exact this
def Ev {f g:Nat->Bool}(h:∀ i,f i=oF->g i=oF){j:Nat}(hj:g j=oF)(hf:f j=oH):∀ n,j<n->F3 n g<F3 n f
 | n
   + 1,hn=>by
  simp only[F3];by_cases e:j=n
  ·subst e;have:=LR h j;rw[hj,hf];simp;omega
  ·have:=Ev h hj hf n (by omega);cases ja:f n with
   | false=>split <;> simp <;> omega
   | true=>rw[h n ja];simp;exact this
def FI {f:Nat->Bool}:∀ {n:Nat},F3 n f=0->∀ i,i<n->f i=oF
 | n
   + 1,h,i,hi=>by
  simp only[F3]at h;by_cases e:i=n
  ·subst e;cases hf:f i with
   | true=>rfl
   | false=>rw[hf]at h;simp at h
  · exact FI (n:=n) (by omega) i (by omega)
section
variable (P:Program) (ops:Array Oper) (V:Nat->Value->World->Prop) (S:World->Prop) (a0:Act)
def
  rvOk (n:Nat):Bool :=
 (Zt ops.size).all λi=>match ops[i]? with
  | none=>oF
  | some o=>(match o.dst with
   | none=>oH
   | some d=>decide (d<n) && (Zt ops.size).all λj=>decide (i=j) || (match ops[j]? with | some o'=>o'.dst != oT d | none=>oF)) &&
   o.after.all λe=>!Region.binds .any e || decide (e.on<i)
def EY (a:Act)(o:ZX)(w:Z0)(R:Z6->Z0->Prop):Prop :=
 (∃ v w',(execOp a.eval o).run P w=.ok (.value v) w'/\R v w') \/
 (∃ f args w',(execOp a.eval o).run P w=.ok (.enter f args) w'/\Zu P f args w' (λe w''=>∃ v,e=aP v/\R v w''))
def Ae (a:Act)(j:Nat):Z6:=match ops[j]? with | some o=>(match o.dst with | some d=>a.tmps.getD d Z8 | none=>Z8) | none=>Z8
def S9 (i:Nat)(o:ZX):Prop:=∀ a w,a.tmps.size=a0.tmps.size->S w ->
 (∀ e∈o.after,Zl .any e=oF->V e.on (Ae ops a e.on) w) ->
 (∀ t,(ops.all λo'=>o'.dst != oT t)=oF->a.tmps.getD t Z8=a0.tmps.getD t Z8) ->
 (Zv o (yielded ops a.tmps)=oF->EY P a o w (λv w'=>V i v w'/\Ext w w'))/\(Zv o (yielded ops a.tmps)=oH->V i Z8 w)
structure SB (listed:Array Bool)(a:Act)(w:Z0):Prop where
 ls:listed.size=ops.size
 size:a.tmps.size=a0.tmps.size
 df:a.defers=a0.defers
 s:S w
 done:∀ i,i<ops.size->listed.getD i true=true->V i (Ae ops a i) w
 base:∀ t,(ops.all λo'=>o'.dst != some t)=true->a.tmps.getD t Z8=a0.tmps.getD t Z8
end
section
variable {P:Program} {ops:Array Oper} {V:Nat->Value->World->Prop} {S:World->Prop} {a0:Act} {Q:Exit->Act->World->Prop}
def Jb {n:Nat}(h:rvOk ops n=oF){i:Nat}{o:ZX}(ho:ops[i]? = oT o):∃ d,o.dst=oT d/\d<n/\(∀ j o',ops[j]? = oT o'->i≠j->o'.dst≠oT d)/\∀ e∈o.after,Zl .any e=oF->e.on<i:=by
 have hi:i<ops.size:=(A7.1 ho).1;unfold rvOk at h;rw[Zr]at h;have h1:=h i (by simpa using hi);rw[ho]at h1;simp only[Zg]at h1;obtain⟨h2,h3⟩:=h1;cases hd:o.dst with
 | none=>rw[hd]at h2;cases h2
 | some d =>
  rw[hd]at h2;simp only[Zg,decide_eq_true_eq,Zr]at h2;refine⟨d,rfl,h2.1,λj o' hj jb=>?_,λe he hb=>?_⟩
  ·have ja:j<ops.size:=(A7.1 hj).1;have:=h2.2 j (by simpa using ja);rw[hj]at this;simp only[Y2,decide_eq_true_eq,bne_iff_ne]at this;exact this.resolve_left jb
  ·rw[X8]at h3;have:=h3 e he;rw[hb]at this;simpa using this
def BE {md:Region.Mode}{listed:Array Bool}{i:Nat}:i∈Xl md ops listed↔i<ops.size/\listed.getD i oF=oH/\∃ o,ops[i]? = oT o/\∀ e∈o.after,Zl md e=oF->listed.getD e.on oH=oF:=by
 unfold Xl;rw[AZ,Aa];constructor
 ·rintro⟨hi,h⟩;simp only[Zg,XS]at h;refine⟨hi,h.1,?_⟩;cases ho:ops[i]? with
  | none=>rw[ho]at h;simp at h
  | some o =>
   rw[ho]at h;refine⟨o,rfl,λe he hb=>?_⟩;have h2:=h.2;simp only[xh,Xh,X8,Y2,XS]at h2;rcases h2 e he with h3 | h3
   · rw[hb]at h3;cases h3
   · exact h3
 ·rintro⟨hi,h1,o,ho,h2⟩;refine⟨hi,?_⟩;simp only[Zg,XS];refine⟨h1,?_⟩;rw[ho];simp only[xh,Xh,X8,Y2,XS];intro e he;cases hb:Zl md e with
  | false=>exact .inl rfl
  | true=>exact .inr (h2 e he hb)
def all_done {n:Nat}(jc:rvOk ops n=oF){listed:Array Bool}(hl:listed.size=ops.size)(h:Xl .any ops listed=[]):∀ i,i<ops.size->listed.getD i oF=oF:=by
 intro i
 induction i using zF with
 | _
   i
    ih =>
  intro hi;cases hb:listed.getD i oF with
  | true=>rfl
  | false =>
   have ho:ops[i]? = oT ops[i]:=AN hi;obtain⟨d,hd,_,_,ja⟩:=Jb jc ho;have:i∈Xl .any ops listed:=BE.2 ⟨hi,hb,_,ho,λe he jb=>by
    have h1:=ja e he jb;have h2:=ih e.on h1 (by omega);rw[A6,AN (by omega)]at h2 ⊢;exact h2⟩
   rw[h]at this;cases this
def Ao {listed:Array Bool}{i:Nat}(h:i<listed.size):(listed.setIfInBounds i oF).getD i oF=oF:=by
 rw[A6,Xk];simp[h]
def getD_set_ne {listed:Array Bool}{i j:Nat}(h:i≠j):(listed.setIfInBounds i oF).getD j oF=listed.getD j oF:=by
 rw[A6,ZV h,<- A6]
def rvAt_put (je:∀ i v w w',V i v w->Ext w w'->V i v w')(jd:∀ w w',S w->Ext w w'->S w'){n:Nat}(ji:rvOk ops n=oF)(hn:a0.tmps.size=n){listed:Array Bool}{a:Act}{w w':Z0}{i:Nat}{o:ZX}{v:Z6}
  (h:SB ops V S a0 listed a w) (ho:ops[i]? = oT o) (hv:V i v w') (hx:Ext w w'):SB ops V S a0 (listed.setIfInBounds i oF) (a.put o.dst v) w':=by
 obtain⟨d,hd,jg,ja,hdep⟩:=Jb ji ho;have hi:i<ops.size:=(A7.1 ho).1;have jc:a.put o.dst v={ a with tmps:=a.tmps.setIfInBounds d v }:=by rw[hd];rfl
 rw[jc];refine⟨by simp[h.ls],by simp[h.size],h.df,jd _ _ h.s hx,λj hj hl=>?_,λt ht=>?_⟩
 ·by_cases e:i=j
  ·subst e;have:Ae ops { a with tmps:=a.tmps.setIfInBounds d v } i=v:=by
    unfold Ae;rw[ho];simp only[hd];rw[A6,Xk,if_pos (by rw[h.size,hn];exact jg)];rfl
   rw[this];exact hv
  ·rw[getD_set_ne e]at hl;have:Ae ops { a with tmps:=a.tmps.setIfInBounds d v } j=Ae ops a j:=by
    unfold Ae;cases jh:ops[j]? with
    | none=>rfl
    | some o' =>
     simp only;cases jf:o'.dst with
     | none=>rfl
     | some d' =>
      simp only;have jb:d≠d':=λe2=>ja j o' jh e (by rw[jf,e2]);rw[A6,ZV jb,<- A6]
   rw[this];exact je _ _ _ _ (h.done j hj hl) hx
 ·have jb:d≠t:=λe=>by
   rw[X8]at ht;have:=ht o (zO ho);rw[hd,e]at this;simp at this
  show(a.tmps.setIfInBounds d v).getD t Z8=_;rw[A6,ZV jb,<- A6];exact h.base t ht
def rv_any (jc:∀ i v w w',V i v w->Ext w w'->V i v w')(jb:∀ w w',S w->Ext w w'->S w'){n:Nat}(ja:rvOk ops n=oF)(hn:a0.tmps.size=n)
  (ji:∀ i o,ops[i]? = oT o->S9 P ops V S a0 i o)
  (jf:∀ a w,a.tmps.size=a0.tmps.size->a.defers=a0.defers->S w->(∀ i,i<ops.size->V i (Ae ops a i) w)->(∀ t,(ops.all λo'=>o'.dst != oT t)=oF->a.tmps.getD t Z8=a0.tmps.getD t Z8)->Q .normal a w) :
  ∀ (fuel:Nat) (listed:Array Bool) (a:Act) (w:Z0),SB ops V S a0 listed a w->F3 ops.size (λi=>listed.getD i oF)<=fuel->wpAny P .any ops Q fuel listed a w:=by
 have fin:∀ listed a w,SB ops V S a0 listed a w->Xl .any ops listed=[]->Q .normal a w:=λlisted a w h hr =>
  jf a w h.size h.df h.s (λi hi=>h.done i hi (all_done ja h.ls hr i hi)) h.base
 intro fuel
 induction fuel with
 | zero =>
  intro listed a w h hc;have jd:=FI (f:=λi=>listed.getD i oF) (Nat.le_zero.1 hc);have hr:Xl .any ops listed=[]:=by
   rw[XL];intro i hi;obtain⟨h1,h2,_⟩:=BE.1 hi;rw[jd i h1]at h2;cases h2
  exact⟨hr,fin _ _ _ h hr⟩
 | succ fuel ih =>
  intro listed a w h hc;refine⟨fin _ _ _ h,λi hi=>?_⟩;obtain⟨h1,h2,o,ho,h3⟩:=BE.1 hi;have jg:F3 ops.size (λj=>(listed.setIfInBounds i oF).getD j oF)<=fuel:=by
   have:=Ev (f:=λj=>listed.getD j oF) (g:=λj=>(listed.setIfInBounds i oF).getD j oF) (λj hj=>by
    by_cases e:i=j
    · subst e;exact Ao (by rw[h.ls];exact h1)
    ·show(listed.setIfInBounds i oF).getD j oF=oF;rw[getD_set_ne e];exact hj) (j:=i) (Ao (by rw[h.ls];exact h1)) h2 ops.size h1
   omega
  have hO:=ji i o ho a w h.size h.s (λe he hb=>by
   have jh:=h3 e he hb;obtain⟨d,hd,_,_,je⟩:=Jb ja ho;have hlt2:=je e he hb;refine h.done e.on (by omega) ?_;rw[A6,AN (by rw[h.ls];omega)]at jh ⊢;exact jh) h.base
  unfold wpOp;rw[ho];simp only;cases hw:Zv o (yielded ops a.tmps) with
  | false =>
   rw[if_neg (by simp)];exact ih _ _ _ (rvAt_put jc jb ja hn h ho (hO.2 hw) (Ext.refl _)) jg
  | true =>
   rw[if_pos rfl];refine .inl ?_;rcases hO.1 hw with⟨v,w',hr,hv,hx⟩ | ⟨f,args,w',hr,hC⟩
   ·unfold xe;rw[hr];exact ih _ _ _ (rvAt_put jc jb ja hn h ho hv hx) jg
   ·unfold xe;rw[hr];refine hC.mono ?_;rintro e w'' ⟨v,rfl,hv,hx⟩;exact ih _ _ _ (rvAt_put jc jb ja hn h ho hv hx) jg
def NN (P:Program)(ops:Array ZX)(V:Nat->Z6->Z0->Prop)(S:Z0->Prop)(a0:Act):Nat->List ZX->Prop
 | _,[]=>True
 | i,o :: l=>S9 P ops V S a0 i o/\NN P ops V S a0 (i+1) l
def NO:∀ (l:List ZX) (k:Nat),NN P ops V S a0 k l->∀ i o,l[i]? = oT o->S9 P ops V S a0 (k+i) o:=by
 intro l
 induction l with
 | nil=>intro k _ i o ho;simp at ho
 | cons x l ih =>
  intro k h i o ho;cases i with
  | zero =>
   have:x=o:=by simpa using ho
   subst this;exact h.1
  | succ i =>
   have h2:=ih (k+1) h.2 i o (by simpa using ho);have e:k+(i+1)=k+1+i:=by omega
   rw[e];exact h2
def ER (h:NN P ops V S a0 0 ops.toList):∀ i o,ops[i]? = oT o->S9 P ops V S a0 i o:=λi o ho=>by
 have:=NO _ _ h i o (by rw[ZL];exact ho)
 rwa [ZS]at this
def Vs (l:List (Z6->Z0->Prop))(i:Nat)(v:Z6)(w:Z0):Prop:=(l.getD i λ_ _=>True) v w
def Bq (p:Z6->Z0->Prop):Prop:=∀ v w w',p v w->Ext w w'->p v w'
def BB {l:List (Z6->Z0->Prop)}(h:∀ p∈l,Bq p):∀ i v w w',Vs l i v w->Ext w w'->Vs l i v w':=by
 intro i v w w' hv hx;unfold Vs at *;by_cases hi:i<oB l
 ·rw[AS,AC hi]at hv ⊢;exact h _ (AI hi) v w w' hv hx
 · rw[AS,AT (by omega)];trivial
def Ab (c:Z6):Bq (λv _=>v=c):=λ_ _ _ h _=>h
abbrev vq (x v:Z6)(_:Z0):Prop:=v=x
def Of (p:Z6->Prop):Bq (λv _=>p v):=λ_ _ _ h _=>h
def NP {ops:Array ZX}{A:Act}{j d:Nat}{b:Bool}(hd:(ops[j]?).bind (·.dst)=oT d)(h:A.tmps[d]?.getD Z8=aH b):yielded ops A.tmps j=oT b:=by
 unfold yielded;rw[hd];simp only[Option.bind_some];cases hx:A.tmps[d]? with
 | none=>rw[hx]at h;cases h
 | some v=>rw[hx]at h;simp only[Xh]at h;subst h;rfl
def Ib {o:ZX}{ops:Array ZX}{A:Act}{j d:Nat}{want b:Bool}{X Y:Prop}(hg:o.guard=oT (j,want))(hd:(ops[j]?).bind (·.dst)=oT d)(h:A.tmps[d]?.getD Z8=aH b)(ja:(b == want)=oH)(hY:Y) :
  (Zv o (yielded ops A.tmps)=oF->X)/\(Zv o (yielded ops A.tmps)=oH->Y):=by
 have:Zv o (yielded ops A.tmps)=oH:=by
  unfold Zv;rw[hg];simp only[NP hd h];cases b <;> cases want <;> first | rfl | cases ja
 rw[this];exact⟨λh=>(by cases h),λ_=>hY⟩
def ES {o:ZX}{ops:Array ZX}{A:Act}{j d:Nat}{want b:Bool}{X Y:Prop}(hg:o.guard=oT (j,want))(hd:(ops[j]?).bind (·.dst)=oT d)(h:A.tmps[d]?.getD Z8=aH b)(ja:(b == want)=oF)(hX:X) :
  (Zv o (yielded ops A.tmps)=oF->X)/\(Zv o (yielded ops A.tmps)=oH->Y):=by
 have:Zv o (yielded ops A.tmps)=oF:=by
  unfold Zv;rw[hg];simp only[NP hd h];cases b <;> cases want <;> first | rfl | cases ja
 rw[this];exact⟨λ_=>hX,λh=>(by cases h)⟩
def Ag {o:ZX}{ops:Array ZX}{A:Act}{X Y:Prop}(hg:o.guard=oS)(hX:X) :
  (Zv o (yielded ops A.tmps)=oF->X)/\(Zv o (yielded ops A.tmps)=oH->Y):=by
 have:Zv o (yielded ops A.tmps)=oF:=by unfold Zv;rw[hg]
 rw[this];exact⟨λ_=>hX,λh=>(by cases h)⟩
def gdA (a:Act)(s:Nat)(v:Z6)(h:a.tmps.getD s Z8=v):a.tmps[s]?.getD Z8=v:=by rw[A6]at h;exact h
def NQ {A:Act}{n:Nat}(jb:A.tmps.size=n)(ja:A.defers=[]):A=⟨((Zt n).map λi=>A.tmps.getD i Z8).toArray,[]⟩:=by
 obtain⟨⟨l⟩,d⟩:=A;simp only at ja;subst ja;congr 1;apply congrArg Array.mk;have hl:oB l=n:=jb;apply List.ext_getElem
 · simp[hl]
 ·intro i h1 h2;simp only[List.getElem_map,List.getElem_range];show l[i]=(Array.mk l).getD i Z8;rw[A6];simp[h1]
def CJ {id:Nat}(hm:P.follows .mixedOrders=oF){w:Z0}(V:Nat->Z6->Z0->Prop)(S:Z0->Prop)(n:Nat)(jd:rvOk ops n=oF)(hn:a0.tmps.size=n)
  (jc:∀ i v w w',V i v w->Ext w w'->V i v w') (jb:∀ w w',S w->Ext w w'->S w') (hS:S w)
  (je:∀ i o,ops[i]? = oT o->S9 P ops V S a0 i o)
  (ja:∀ a w,a.tmps.size=a0.tmps.size->a.defers=a0.defers->S w->(∀ i,i<ops.size->V i (Ae ops a i) w)->(∀ t,(ops.all λo'=>o'.dst != oT t)=oF->a.tmps.getD t Z8=a0.tmps.getD t Z8)->Q .normal a w) :
  (zT id ops oF).wp P Q a0 w:=by
 have hx:Ext w { w with drawn:=w.drawn+1 }:=⟨rfl,rfl,rfl,A5 _,λ_ _=>rfl⟩
 have h0:SB ops V S a0 (Xd ops.size oH) a0 { w with drawn:=w.drawn+1 }:=by
  refine⟨by simp,rfl,rfl,jb _ _ hS hx,λi hi h=>?_,λ_ _=>rfl⟩;rw[A6,XW,if_pos hi]at h;cases h
 exact wp_region_any hm (rv_any jc jb jd hn je ja ops.size (Xd ops.size oH) a0 _ h0 (I1 _ _))
end
section
variable (P:Program) (ops:Array Oper) (V:Nat->Value->World->Prop) (S:Bool->World->Prop) (XM:World->World->Prop) (M:Nat) (a0:Act)
def VA (i:Nat)(o:ZX):Prop:=∀ a w b,a.tmps.size=a0.tmps.size->S b w ->
 (∀ e∈o.after,Zl .any e=oF->V e.on (Ae ops a e.on) w) ->
 (∀ t,(ops.all λo'=>o'.dst != oT t)=oF->a.tmps.getD t Z8=a0.tmps.getD t Z8) ->
 (Zv o (yielded ops a.tmps)=oF->EY P a o w (λv w'=>V i v w'/\Ext w w'))/\(Zv o (yielded ops a.tmps)=oH->V i Z8 w)
def VB (o:ZX):Prop:=∀ a w,a.tmps.size=a0.tmps.size->S oH w ->
 (∀ e∈o.after,Zl .any e=oF->V e.on (Ae ops a e.on) w) ->
 (∀ t,(ops.all λo'=>o'.dst != oT t)=oF->a.tmps.getD t Z8=a0.tmps.getD t Z8)->Zv o (yielded ops a.tmps)=oF /\
 EY P a o w (λv w'=>V M v w'/\XM w w'/\S oF w')
def MM (L:Nat):Nat->List ZX->Prop
 | _,[]=>True
 | i,o :: l=>(if i=M then VB P ops V S XM M a0 o else if i=L then True else VA P ops V S a0 i o)/\MM L (i+1) l
def
  rvOkX (n L:Nat):Bool :=
 decide (ops.size=L+1) && ((Zt L).all λi=>match ops[i]? with
  | none=>oF
  | some o=>(match o.dst with
   | none=>oH
   | some d=>decide (d<n) && (Zt ops.size).all λj=>decide (i=j) || (match ops[j]? with | some o'=>o'.dst != oT d | none=>oF)) &&
   o.after.all λe=>!Region.binds .any e || decide (e.on<i)) &&
 (match ops[L]? with
  | none=>oH
  | some o=>((Zt L).all λj=>o.after.any λe=>e.on == j && Zl .any e) && o.after.all λe=>!Region.binds .any e || decide (e.on<L))
structure Pr (L:Nat)(listed:Array Bool)(a:Act)(w:Z0):Prop where
 ls:listed.size=ops.size
 last:listed.getD L true=false
 size:a.tmps.size=a0.tmps.size
 df:a.defers=a0.defers
 s:S (listed.getD M true) w
 done:∀ i,i<L->listed.getD i true=true->V i (Ae ops a i) w
 base:∀ t,(ops.all λo'=>o'.dst != some t)=true->a.tmps.getD t Z8=a0.tmps.getD t Z8
end
section
variable {P:Program} {ops:Array Oper} {V:Nat->Value->World->Prop} {S:Bool->World->Prop} {XM:World->World->Prop} {M:Nat} {a0:Act} {Q:Exit->Act->World->Prop}
def Jj {n L:Nat}(h:rvOkX ops n L=oF){i:Nat}{o:ZX}(hL:i<L)(ho:ops[i]? = oT o):∃ d,o.dst=oT d/\d<n/\(∀ j o',ops[j]? = oT o'->i≠j->o'.dst≠oT d)/\∀ e∈o.after,Zl .any e=oF->e.on<i:=by
 unfold rvOkX at h;simp only[Zg]at h;have h1:=(Zr.1 h.1.2) i (by simpa using hL);rw[ho]at h1;simp only[Zg]at h1;obtain⟨h2,h3⟩:=h1;cases hd:o.dst with
 | none=>rw[hd]at h2;cases h2
 | some d =>
  rw[hd]at h2;simp only[Zg,decide_eq_true_eq,Zr]at h2;refine⟨d,rfl,h2.1,λj o' hj jb=>?_,λe he hb=>?_⟩
  ·have ja:j<ops.size:=(A7.1 hj).1;have:=h2.2 j (by simpa using ja);rw[hj]at this;simp only[Y2,decide_eq_true_eq,bne_iff_ne]at this;exact this.resolve_left jb
  ·rw[X8]at h3;have:=h3 e he;rw[hb]at this;simpa using this
def Hb {n L:Nat}(h:rvOkX ops n L=oF):ops.size=L+1:=by
 unfold rvOkX at h;simp only[Zg,decide_eq_true_eq]at h;exact h.1.1
def Jk {n L:Nat}(h:rvOkX ops n L=oF):∃ o,ops[L]? = oT o/\(∀ j,j<L->∃ e∈o.after,e.on=j/\Zl .any e=oF)/\∀ e∈o.after,Zl .any e=oF->e.on<L:=by
 unfold rvOkX at h;simp only[Zg]at h;cases ho:ops[L]? with
 | none=>rw[ho]at h;cases h.2
 | some o =>
  rw[ho]at h;simp only[Zg]at h;refine⟨o,rfl,λj hj=>?_,λe he hb=>?_⟩
  ·have:=(Zr.1 h.2.1) j (by simpa using hj);rw[Array.any_eq_true']at this;obtain⟨e,he,h2⟩:=this;simp only[Zg,beq_iff_eq]at h2;exact⟨e,he,h2.1,h2.2⟩
  ·have:=(X8.1 h.2.2) e he;rw[hb]at this;simpa using this
def rvAtX_put {n L:Nat}(jh:rvOkX ops n L=oF)(hn:a0.tmps.size=n){listed:Array Bool}{a:Act}{w w':Z0}{i:Nat}{o:ZX}{v:Z6}
  (h:Pr ops V S M a0 L listed a w) (jf:i<L) (ho:ops[i]? = oT o) (hv:V i v w') (hx:∀ j,j≠i->∀ v,V j v w->V j v w') (hs:S ((listed.setIfInBounds i oF).getD M oF) w'):Pr ops V S M a0 L (listed.setIfInBounds i oF) (a.put o.dst v) w':=by
 obtain⟨d,hd,je,ja,hdep⟩:=Jj jh jf ho;have hi:i<ops.size:=(A7.1 ho).1;have jc:a.put o.dst v={ a with tmps:=a.tmps.setIfInBounds d v }:=by rw[hd];rfl
 rw[jc];refine⟨by simp[h.ls],by rw[getD_set_ne (by omega)];exact h.last,by simp[h.size],h.df,hs,λj hj hl=>?_,λt ht=>?_⟩
 ·by_cases e:i=j
  ·subst e;have:Ae ops { a with tmps:=a.tmps.setIfInBounds d v } i=v:=by
    unfold Ae;rw[ho];simp only[hd];rw[A6,Xk,if_pos (by rw[h.size,hn];exact je)];rfl
   rw[this];exact hv
  ·rw[getD_set_ne e]at hl;have:Ae ops { a with tmps:=a.tmps.setIfInBounds d v } j=Ae ops a j:=by
    unfold Ae;cases jg:ops[j]? with
    | none=>rfl
    | some o' =>
     simp only;cases jd:o'.dst with
     | none=>rfl
     | some d' =>
      simp only;have jb:d≠d':=λe2=>ja j o' jg e (by rw[jd,e2]);rw[A6,ZV jb,<- A6]
   rw[this];exact hx _ (Ne.symm e) _ (h.done j hj hl)
 ·have jb:d≠t:=λe=>by
   rw[X8]at ht;have:=ht o (zO ho);rw[hd,e]at this;simp at this
  show(a.tmps.setIfInBounds d v).getD t Z8=_;rw[A6,ZV jb,<- A6];exact h.base t ht
def Br {listed:Array Bool}{i n:Nat}(hs:listed.size=n)(hi:i<n)(h:listed.getD i oH=oF):listed.getD i oF=oF:=by
 rw[A6,AN (by omega)]at h ⊢;exact h
def CP {listed:Array Bool}{i n:Nat}(hs:listed.size=n)(hi:i<n)(h:listed.getD i oF=oF):listed.getD i oH=oF:=by
 rw[A6,AN (by omega)]at h ⊢;exact h
def some_ready {n L:Nat}(jd:rvOkX ops n L=oF){listed:Array Bool}(hl:listed.size=ops.size)(hL:listed.getD L oF=oH):Xl .any ops listed≠[]:=by
 intro h;have hs:=Hb jd;have jb:∀ i,i<L->listed.getD i oF=oF:=by
  intro i
  induction i using zF with
  | _
    i
     ih =>
   intro hi;cases hb:listed.getD i oF with
   | true=>rfl
   | false =>
    have ho:ops[i]? = oT (ops[i]'(by omega)):=AN (by omega);obtain⟨d,hd,_,_,ja⟩:=Jj jd hi ho;have:i∈Xl .any ops listed:=BE.2 ⟨by omega,hb,_,ho,λe he jc=>by
     have h1:=ja e he jc;exact CP hl (by omega) (ih e.on h1 (by omega))⟩
    rw[h]at this;cases this
 obtain⟨o,ho,_,ja⟩:=Jk jd;have:L∈Xl .any ops listed:=BE.2 ⟨by omega,hL,o,ho,λe he jc=>by
  have h1:=ja e he jc;exact CP hl (by omega) (jb e.on h1)⟩
 rw[h]at this;cases this
def LU {listed:Array Bool}(h:Xl .any ops listed=[]){a:Act}{w:Z0}(hq:Q .normal a w):∀ fuel,wpAny P .any ops Q fuel listed a w
 | 0=>⟨h,hq⟩
 | fuel+1=>⟨λ_=>hq,λi hi=>by rw[h]at hi;cases hi⟩
def Qk {L:Nat}:∀ (l:List ZX) (k:Nat),MM P ops V S XM M a0 L k l->∀ i o,l[i]? = oT o->(if k+i=M then VB P ops V S XM M a0 o else if k+i=L then True else VA P ops V S a0 (k+i) o):=by
 intro l
 induction l with
 | nil=>intro k _ i o ho;simp at ho
 | cons x l ih =>
  intro k h i o ho;cases i with
  | zero =>
   have:x=o:=by simpa using ho
   subst this;exact h.1
  | succ i =>
   have h2:=ih (k+1) h.2 i o (by simpa using ho);have e:k+(i+1)=k+1+i:=by omega
   rw[e];exact h2
def rvX_any (jm:∀ i v w w',V i v w->Ext w w'->V i v w')(jl:∀ i v w w',i≠M->V i v w->XM w w'->V i v w')(jk:∀ b w w',S b w->Ext w w'->S b w'){n L:Nat}(jc:rvOkX ops n L=oF)(hn:a0.tmps.size=n)(jp:M<L)
  (jr:MM P ops V S XM M a0 L 0 ops.toList)
  (jh:∀ a w,a.tmps.size=a0.tmps.size->a.defers=a0.defers->S oF w->(∀ i,i<L->V i (Ae ops a i) w)->(∀ t,(ops.all λo'=>o'.dst != oT t)=oF->a.tmps.getD t Z8=a0.tmps.getD t Z8)->wpOp P ops Q L (λa' w'=>Q .normal a' w') a w) :
  ∀ (fuel:Nat) (listed:Array Bool) (a:Act) (w:Z0),Pr ops V S M a0 L listed a w->F3 ops.size (λi=>listed.getD i oF)<=fuel->wpAny P .any ops Q fuel listed a w:=by
 have hs:=Hb jc;intro fuel
 induction fuel with
 | zero =>
  intro listed a w h hc;have jb:=FI (f:=λi=>listed.getD i oF) (Nat.le_zero.1 hc);have:=jb L (by omega);rw[h.last]at this;cases this
 | succ fuel ih =>
  intro listed a w h hc;refine⟨λhr=>absurd hr (some_ready jc h.ls h.last),λi hi=>?_⟩;obtain⟨h1,h2,o,ho,h3⟩:=BE.1 hi;by_cases je:i<L
  ·have ji:F3 ops.size (λj=>(listed.setIfInBounds i oF).getD j oF)<=fuel:=by
    have:=Ev (f:=λj=>listed.getD j oF) (g:=λj=>(listed.setIfInBounds i oF).getD j oF) (λj hj=>by
     by_cases e:i=j
     · subst e;exact Ao (by rw[h.ls];exact h1)
     ·show(listed.setIfInBounds i oF).getD j oF=oF;rw[getD_set_ne e];exact hj) (j:=i) (Ao (by rw[h.ls];exact h1)) h2 ops.size h1
    omega
   have ja:∀ e∈o.after,Zl .any e=oF->V e.on (Ae ops a e.on) w:=λe he hb=>by
    have jq:=h3 e he hb;obtain⟨d,hd,_,_,jj⟩:=Jj jc je ho;have hlt2:=jj e he hb;exact h.done e.on (by omega) (Br h.ls (by omega) jq)
   have hO:=Qk _ _ jr i o (by rw[ZL];exact ho);rw[ZS]at hO;unfold wpOp;rw[ho];simp only;by_cases jd:i=M
   ·rw[if_pos jd]at hO;have jo:=h.s;rw[<- jd,h2]at jo;obtain⟨hw,hO⟩:=hO a w h.size jo ja h.base;rw[hw,if_pos rfl];refine .inl ?_;have jg:∀ w',S oF w'->S ((listed.setIfInBounds i oF).getD M oF) w':=λw' hh=>by
     rw[<- jd,Ao (by rw[h.ls];exact h1)];exact hh
    rcases hO with⟨v,w',hr,hv,hx,jf⟩ | ⟨f,args,w',hr,hC⟩
    ·unfold xe;rw[hr];exact ih _ _ _ (rvAtX_put jc hn h je ho (by rw[jd];exact hv) (λj hj v hv=>jl _ _ _ _ (by omega) hv hx) (jg _ jf)) ji
    ·unfold xe;rw[hr];refine hC.mono ?_;rintro e w'' ⟨v,rfl,hv,hx,jf⟩;exact ih _ _ _ (rvAtX_put jc hn h je ho (by rw[jd];exact hv) (λj hj v hv=>jl _ _ _ _ (by omega) hv hx) (jg _ jf)) ji
   ·rw[if_neg jd,if_neg (by omega)]at hO;have hO:=hO a w _ h.size h.s ja h.base;have jg:∀ w',S (listed.getD M oF) w'->S ((listed.setIfInBounds i oF).getD M oF) w':=λw' hh=>by
     rw[getD_set_ne jd];exact hh
    cases hw:Zv o (yielded ops a.tmps) with
    | false =>
     rw[if_neg (by simp)];exact ih _ _ _ (rvAtX_put jc hn h je ho (hO.2 hw) (λ_ _ _ h=>h) (jg _ h.s)) ji
    | true =>
     rw[if_pos rfl];refine .inl ?_;rcases hO.1 hw with⟨v,w',hr,hv,hx⟩ | ⟨f,args,w',hr,hC⟩
     ·unfold xe;rw[hr];exact ih _ _ _ (rvAtX_put jc hn h je ho hv (λj hj v hv=>jm _ _ _ _ hv hx) (jg _ (jk _ _ _ h.s hx))) ji
     ·unfold xe;rw[hr];refine hC.mono ?_;rintro e w'' ⟨v,rfl,hv,hx⟩;exact ih _ _ _ (rvAtX_put jc hn h je ho hv (λj hj v hv=>jm _ _ _ _ hv hx) (jg _ (jk _ _ _ h.s hx))) ji
  ·obtain rfl:i=L:=by omega
   obtain⟨o2,jn,ja,_⟩:=Jk jc;have jb:∀ j,j<i->listed.getD j oF=oF:=λj hj=>by
    obtain⟨e,he,rfl,hb⟩:=ja j hj;rw[ho]at jn;cases jn;exact Br h.ls (by omega) (h3 e he hb)
   have jf:=h.s;rw[jb M jp]at jf;refine wpOp_mono (λa' w' hq=>LU ?_ hq fuel) (jh a w h.size h.df jf (λj hj=>h.done j hj (jb j hj)) h.base);rw[XL];intro j hj;obtain⟨g1,g2,_⟩:=BE.1 hj;by_cases e:i=j
   · subst e;rw[Ao (by rw[h.ls];exact h1)]at g2;cases g2
   · rw[getD_set_ne e,jb j (by omega)]at g2;cases g2
def L4 {id:Nat}(hm:P.follows .mixedOrders=oF){w:Z0}(V:Nat->Z6->Z0->Prop)(S:Bool->Z0->Prop)(XM:Z0->Z0->Prop)(n M L:Nat)(jc:rvOkX ops n L=oF)(hn:a0.tmps.size=n)(jd:M<L)
  (jf:∀ i v w w',V i v w->Ext w w'->V i v w') (je:∀ i v w w',i≠M->V i v w->XM w w'->V i v w') (jb:∀ b w w',S b w->Ext w w'->S b w') (hS:S oH w)
  (jg:MM P ops V S XM M a0 L 0 ops.toList)
  (ja:∀ a w,a.tmps.size=a0.tmps.size->a.defers=a0.defers->S oF w->(∀ i,i<L->V i (Ae ops a i) w)->(∀ t,(ops.all λo'=>o'.dst != oT t)=oF->a.tmps.getD t Z8=a0.tmps.getD t Z8)->wpOp P ops Q L (λa' w'=>Q .normal a' w') a w) :
  (zT id ops oF).wp P Q a0 w:=by
 have hs:=Hb jc;have hx:Ext w { w with drawn:=w.drawn+1 }:=⟨rfl,rfl,rfl,A5 _,λ_ _=>rfl⟩
 have h0:Pr ops V S M a0 L (Xd ops.size oH) a0 { w with drawn:=w.drawn+1 }:=by
  refine⟨by simp,?_,rfl,rfl,?_,λi hi h=>?_,λ_ _=>rfl⟩
  · rw[A6,XW,if_pos (by omega)];rfl
  ·have:(Xd ops.size oH).getD M oF=oH:=by rw[A6,XW,if_pos (by omega)];rfl
   rw[this];exact jb _ _ _ hS hx
  ·rw[A6,XW,if_pos (by omega)]at h;cases h
 exact wp_region_any hm (rvX_any jf je jb jc hn jd jg ja ops.size (Xd ops.size oH) a0 _ h0 (I1 _ _))
def Og (X:Z0->Z0->Prop)(M:Nat):Nat->List (Z6->Z0->Prop)->Prop
 | _,[]=>True
 | i,p :: l=>(i≠M->∀ v w w',p v w->X w w'->p v w')/\Og X M (i+1) l
def LV {X:Z0->Z0->Prop}{M:Nat}:∀ (l:List (Z6->Z0->Prop)) (k:Nat),Og X M k l->∀ i p,l[i]? = oT p->k+i≠M->∀ v w w',p v w->X w w'->p v w'
 | [],_,_,i,p,h=>by simp at h
 | q :: l,k,h,0,p,hp=>by
  have:q=p:=by simpa using hp
  subst this;exact h.1
 | q :: l,k,h,i+1,p,hp=>λhne=>LV l (k+1) h.2 i p (by simpa using hp) (by omega)
def Oh {X:Z0->Z0->Prop}{M:Nat}{l:List (Z6->Z0->Prop)}(h:Og X M 0 l):∀ i v w w',i≠M->Vs l i v w->X w w'->Vs l i v w':=by
 intro i v w w' hne hv hx;unfold Vs at *;by_cases hi:i<oB l
 ·rw[AS,AC hi]at hv ⊢;exact LV l 0 h i _ (AC hi) (by omega) v w w' hv hx
 · rw[AS,AT (by omega)];trivial
end
def Bw {P:Program}{ops:Array ZX}{Q:Exit->Act->Z0->Prop}{L:Nat}{K:Act->Z0->Prop}{o:ZX}{A:Act}{W:Z0}{ty:X5}{p v:Operand}{ad:Zj}{a:Option Zj}{n c:Nat}{y:Z6}
  (ho:ops[L]? = oT o) (hg:o.guard=oS) (ja:o.op=.store ty p v) (hd:o.dst=oS) (hp:A.eval p=aB (oT ad)) (hv:A.eval v=aG a n c) (hf:W.frozen? ad=oH) (hc:W.cell? ad=oT y) (jb:(sizeOf ty).run P W=.ok 1 W) (hK:K A (W.setCell ad (aG a n c))):wpOp P ops Q L K A W:=by
 unfold wpOp;rw[ho];have hw:Zv o (yielded ops A.tmps)=oF:=by unfold Zv;rw[hg]
 simp only[hw,if_pos];refine .inl ?_;unfold xe execOp;simp only[ja,hp,hv];simp[go_sem,hf,hc,jb];rw[hd];exact hK
def Hc (ops:Array ZX):List Nat:=ops.toList.filterMap (·.dst)
def Jl {ops:Array ZX}{t:Nat}(h:t ∉ Hc ops):(ops.all λo'=>o'.dst != oT t)=oF:=by
 rw[X8];intro o ho;have:o.dst≠oT t:=λe=>h (X9.2 ⟨o,by simpa using ho,e⟩);simpa using this
def SC {A:Act}{d t:Nat}{v:Z6}:(A.put (oT d) v).tmps.getD t Z8=if d=t/\d<A.tmps.size then v else A.tmps.getD t Z8:=by
 simp only[ZE];by_cases h:d=t
 ·subst h;by_cases h2:d<A.tmps.size
  · rw[if_pos ⟨rfl,h2⟩,A6,Xk,if_pos h2];rfl
  · rw[if_neg (by simp[h2]),Array.setIfInBounds_eq_of_size_le (by omega)]
 · rw[if_neg (by simp[h]),A6,ZV h,<- A6]
def LW (x:Nat->Z6):∀ (ds:List Nat) (a:Act),(ds.foldl (λa d=>a.put (oT d) (x d)) a).tmps.size=a.tmps.size/\(ds.foldl (λa d=>a.put (oT d) (x d)) a).defers=a.defers
 | [],a=>⟨rfl,rfl⟩
 | d :: ds,a=>by
  have:=LW x ds (a.put (oT d) (x d));rw[zQ];exact⟨this.1.trans (by simp[ZE]),this.2⟩
def puts_get (x:Nat->Z6):∀ (ds:List Nat) (a:Act) (t:Nat),t<a.tmps.size->(ds.foldl (λa d=>a.put (oT d) (x d)) a).tmps.getD t Z8=if t∈ds then x t else a.tmps.getD t Z8
 | [],a,t,_=>by simp
 | d
   :: ds,a,t,ht=>by
  rw[zQ,puts_get x ds _ t (by simpa[ZE] using ht),SC];by_cases h1:t∈ds
  · simp[h1]
  ·by_cases h2:d=t
   · subst h2;simp[h1,ht]
   ·have h3:¬ t=d:=λe=>h2 e.symm;simp[h1,h2,h3]
def U1 {A B:Act}(h1:A.tmps.size=B.tmps.size)(h2:A.defers=B.defers)(h3:∀ t,t<A.tmps.size->A.tmps.getD t Z8=B.tmps.getD t Z8):A=B:=by
 obtain⟨ta,da⟩:=A;obtain⟨tb,db⟩:=B;simp only at h1 h2 h3;subst h2;congr 1;apply Array.ext h1;intro i hi ja;have:=h3 i hi;rw[A6,A6,AN hi,AN ja]at this;simpa using this
def B7 {A a0:Act}{ops:Array ZX}(ds:List Nat)(jb:Hc ops=ds)(jc:A.tmps.size=a0.tmps.size)(ja:A.defers=a0.defers)(hb:∀ t,(ops.all λo'=>o'.dst != oT t)=oF->A.tmps.getD t Z8=a0.tmps.getD t Z8) :
  ∃ x:Nat->Z6,(∀ t,x t=A.tmps.getD t Z8)/\A=ds.foldl (λa d=>a.put (oT d) (x d)) a0:=by
 refine⟨λd=>A.tmps.getD d Z8,λ_=>rfl,?_⟩;have h:=LW (λd=>A.tmps.getD d Z8) ds a0;refine U1 (jc.trans h.1.symm) (ja.trans h.2.symm) λt ht=>?_;rw[puts_get _ _ _ _ (by omega)];by_cases hm:t∈ds
 · rw[if_pos hm]
 ·rw[if_neg hm];exact hb t (Jl (by rw[jb];exact hm))
def Al {A:Act}{t:Nat}{v:Z6}(h:A.tmps.getD t Z8=v):A.eval (.tmp t)=v:=by
 rw[A6]at h;simpa[go_sem,Zf] using h
def upd (f:Nat->Bool)(i:Nat):Nat->Bool:=λj=>if j=i then oF else f j
section
variable (P:Program) (ops:Array Oper) (V:Nat->Value->World->Prop) (X:Nat->World->World->Prop) (S:(Nat->Bool)->World->Prop) (ms:List Nat) (a0:Act) (L:Nat)
def SD (i:Nat)(o:ZX):Prop:=∀ a w f,a.tmps.size=a0.tmps.size->f i=oH->(∀ j,(ms.getD i 0).testBit j=oF->f j=oF)->(∀ j,j<oB ms->(ms.getD j 0).testBit i=oF->f j=oH)->S f w ->
 (∀ j,(ms.getD i 0).testBit j=oF->V j (Ae ops a j) w) ->
 (∀ t,(ops.all λo'=>o'.dst != oT t)=oF->a.tmps.getD t Z8=a0.tmps.getD t Z8) ->
 (∀ j d,j<oB ms->f j=oH->(ops[j]?).bind (·.dst)=oT d->a.tmps.getD d Z8=a0.tmps.getD d Z8) ->
 (Zv o (yielded ops a.tmps)=oF->EY P a o w (λv w'=>V i v w'/\X i w w'/\S (upd f i) w'))/\(Zv o (yielded ops a.tmps)=oH->V i Z8 w/\S (upd f i) w)
def MN:Nat->List ZX->Prop
 | _,[]=>True
 | i,o :: l=>(if i=L then True else SD P ops V X S ms a0 i o)/\MN (i+1) l
def NR (i:Nat)(o:ZX):Prop:=∀ a w f,a.tmps.size=a0.tmps.size->f i=oH->(∀ j,(ms.getD i 0).testBit j=oF->f j=oF)->(∀ j,j<oB ms->(ms.getD j 0).testBit i=oF->f j=oH)->S f w ->
 (∀ j,(ms.getD i 0).testBit j=oF->V j (Ae ops a j) w) ->
 (∀ t,(ops.all λo'=>o'.dst != oT t)=oF->a.tmps.getD t Z8=a0.tmps.getD t Z8) ->
 (∀ j d,j<oB ms->f j=oH->(ops[j]?).bind (·.dst)=oT d->a.tmps.getD d Z8=a0.tmps.getD d Z8) ->
 (Zv o (yielded ops a.tmps)=oF->(EY P a o w (λv w'=>V i v w'/\X i w w'/\S (upd f i) w')\/(o.dst=oS/\∃ w',(execOp a.eval o).run P w=.ok .skip w'/\V i Z8 w'/\X i w w'/\S (upd f i) w')))/\(Zv o (yielded ops a.tmps)=oH->V i Z8 w/\S (upd f i) w)
def Hd:Nat->List ZX->Prop
 | _,[]=>True
 | i,o :: l=>(if i=L then True else NR P ops V X S ms a0 i o)/\Hd (i+1) l
def SF {i:Nat}{o:ZX}(h:SD P ops V X S ms a0 i o):NR P ops V X S ms a0 i o:=λa w f h1 h2 h3 h4 h5 h6 h7 h8 =>
 ⟨λhw=>.inl ((h a w f h1 h2 h3 h4 h5 h6 h7 h8).1 hw),(h a w f h1 h2 h3 h4 h5 h6 h7 h8).2⟩
def Ps:∀ (l:List ZX) (i:Nat),MN P ops V X S ms a0 L i l->Hd P ops V X S ms a0 L i l
 | [],_,_=>trivial
 | o
   :: l,i,h=>⟨by
   have h1:=h.1;split
   · trivial
   · rename_i e;rw[if_neg e]at h1;exact SF P ops V X S ms a0 h1,Ps l (i+1) h.2⟩
def
  rvOk0 (b:Bool) (n L:Nat):Bool :=
 ((
  Zt L).all λi=>match ops[i]? with
  | none=>oH
  | some o=>(match o.dst with
   | none=>b
   | some d=>decide (d<n) && (Zt ops.size).all λj=>decide (i=j) || (match ops[j]? with | some o'=>o'.dst != oT d | none=>oF)) &&
   (o.after.all λe=>!Region.binds .any e || decide (e.on<i)) &&
   (Zt ops.size).all λj=>!(ms.getD i 0).testBit j || o.after.any λe=>Zl .any e && (e.on == j || (ms.getD e.on 0).testBit j)) &&
 ((Zt L).all λi=>decide (ms.getD i 0<2 ^ i)) && decide (oB ms=L)
def
  rvOkS (b:Bool) (n L:Nat):Bool:=rvOk0 ops ms b n L &&
 (decide (ops.size=L) || (decide (ops.size=L+1) && match ops[L]? with
  | none=>oH
  | some o=>((Zt L).all λj=>o.after.any λe=>Zl .any e && (e.on == j || (ms.getD e.on 0).testBit j)) && o.after.all λe=>!Region.binds .any e || decide (e.on<L)))
structure JE (listed:Array Bool)(a:Act)(w:Z0):Prop where
 ls:listed.size=ops.size
 last:L<ops.size->listed.getD L true=false
 size:a.tmps.size=a0.tmps.size
 df:a.defers=a0.defers
 s:S (λi=>listed.getD i true) w
 closed:∀ i o,i<L->listed.getD i true=true->ops[i]? = some o->∀ e∈o.after,Zl .any e=true->listed.getD e.on true=true
 done:∀ i,i<L->listed.getD i true=true->V i (Ae ops a i) w
 base:∀ t,(ops.all λo'=>o'.dst != some t)=true->a.tmps.getD t Z8=a0.tmps.getD t Z8
 und:∀ j d,j<L->listed.getD j true=false->(ops[j]?).bind (·.dst)=some d->a.tmps.getD d Z8=a0.tmps.getD d Z8
end
section
variable {P:Program} {ops:Array Oper} {V:Nat->Value->World->Prop} {X:Nat->World->World->Prop} {S:(Nat->Bool)->World->Prop} {ms:List Nat} {a0:Act} {Q:Exit->Act->World->Prop} {L:Nat} {bn:Bool}
def EZ {n:Nat}(h:rvOk0 ops ms bn n L=oF){i:Nat}(hL:i<L):∃ o,ops[i]? = oT o/\(o.dst=oS->bn=oF)/\(∀ d,o.dst=oT d->d<n/\∀ j o',ops[j]? = oT o'->i≠j->o'.dst≠oT d)/\(∀ e∈o.after,Zl .any e=oF->e.on<i) /\
  ∀ j,j<ops.size->(ms.getD i 0).testBit j=oF->∃ e∈o.after,Zl .any e=oF/\(e.on=j\/(ms.getD e.on 0).testBit j=oF):=by
 unfold rvOk0 at h;simp only[Zg]at h;have h1:=(Zr.1 h.1.1) i (by simpa using hL);cases ho:ops[i]? with
 | none=>rw[ho]at h1;cases h1
 | some o =>
  rw[ho]at h1;simp only[Zg]at h1;obtain⟨⟨h2,h3⟩,h4⟩:=h1;refine⟨o,rfl,λhd=>?_,λd hd=>?_,λe he hb=>?_,λj hj hm=>?_⟩
  · rw[hd]at h2;exact h2
  ·rw[hd]at h2;simp only[Zg,decide_eq_true_eq,Zr]at h2;refine⟨h2.1,λj o' hj jb=>?_⟩;have ja:j<ops.size:=(A7.1 hj).1;have:=h2.2 j (by simpa using ja);rw[hj]at this;simp only[Y2,decide_eq_true_eq,bne_iff_ne]at this;exact this.resolve_left jb
  ·rw[X8]at h3;have:=h3 e he;rw[hb]at this;simpa using this
  ·have:=(Zr.1 h4) j (by simpa using hj);rw[hm]at this;simp only[Bool.not_true,Bool.false_or,Array.any_eq_true',Zg,Y2,beq_iff_eq]at this;obtain⟨e,he,h5,h6⟩:=this;exact⟨e,he,h5,h6⟩
def Ea {n:Nat}(h:rvOk0 ops ms bn n L=oF){i j:Nat}(hL:i<L)(hb:(ms.getD i 0).testBit j=oF):j<i:=by
 unfold rvOk0 at h;simp only[Zg]at h;have h1:=(Zr.1 h.1.2) i (by simpa using hL);simp only[decide_eq_true_eq]at h1;rcases zx j i with h2 | h2
 · exact h2
 ·have h3:2 ^ i<=2 ^ j:=Nat.pow_le_pow_right (by decide) h2;rw[Nat.testBit_lt_two_pow (by omega)]at hb;cases hb
def FJ {n:Nat}(h:rvOk0 ops ms bn n L=oF):oB ms=L:=by
 unfold rvOk0 at h;simp only[Zg,decide_eq_true_eq]at h;exact h.2
def Bs {n:Nat}(h:rvOkS ops ms bn n L=oF):rvOk0 ops ms bn n L=oF:=by
 unfold rvOkS at h;simp only[Zg]at h;exact h.1
def rvOkS_size {n:Nat}(h:rvOkS ops ms bn n L=oF):ops.size=L\/ops.size=L+1/\∃ o,ops[L]? = oT o/\(∀ j,j<L->∃ e∈o.after,Zl .any e=oF/\(e.on=j\/(ms.getD e.on 0).testBit j=oF))/\∀ e∈o.after,Zl .any e=oF->e.on<L:=by
 unfold rvOkS at h;simp only[Zg,Y2,decide_eq_true_eq]at h;rcases h.2 with h1 | ⟨h1,h2⟩
 · exact .inl h1
 ·refine .inr ⟨h1,?_⟩;cases ho:ops[L]? with
  | none=>rw[ho]at h2;cases h2
  | some o =>
   rw[ho]at h2;simp only[Zg]at h2;refine⟨o,rfl,λj hj=>?_,λe he hb=>?_⟩
   ·have:=(Zr.1 h2.1) j (by simpa using hj);rw[Array.any_eq_true']at this;obtain⟨e,he,h3⟩:=this;simp only[Zg,Y2,beq_iff_eq]at h3;exact⟨e,he,h3.1,h3.2⟩
   ·have:=(X8.1 h2.2) e he;rw[hb]at this;simpa using this
def LX:∀ (l:List ZX) (k:Nat),Hd P ops V X S ms a0 L k l->∀ i o,l[i]? = oT o->k+i≠L->NR P ops V X S ms a0 (k+i) o:=by
 intro l
 induction l with
 | nil=>intro k _ i o ho;simp at ho
 | cons x l ih =>
  intro k h i o ho hne;cases i with
  | zero =>
   have:x=o:=by simpa using ho
   subst this;have h1:=h.1;rw[if_neg (by omega)]at h1;exact h1
  | succ i =>
   have e:k+(i+1)=k+1+i:=by omega
   rw[e];exact ih (k+1) h.2 i o (by simpa using ho) (by omega)
def Ce {n:Nat}(ja:rvOk0 ops ms bn n L=oF){listed:Array Bool}{a:Act}{w:Z0}(h:JE ops V S a0 L listed a w):∀ i,i<L->(∀ o,ops[i]? = oT o->∀ e∈o.after,Zl .any e=oF->listed.getD e.on oF=oF) ->
  ∀ j,(ms.getD i 0).testBit j=oF->listed.getD j oF=oF:=by
 intro i
 induction i using zF with
 | _
   i ih =>
  intro hi hd j hj;obtain⟨o,ho,_,_,je,hm⟩:=EZ ja hi;have hji:=Ea ja hi hj;have hsz:i<ops.size:=(A7.1 ho).1;obtain⟨e,he,hb,h1⟩:=hm j (by omega) hj;rcases h1 with rfl | h1
  · exact hd o ho e he hb
  ·have jd:=je e he hb;exact ih e.on jd (by omega) (λo' jf e' jc jb=>h.closed e.on o' (by omega) (hd o ho e he hb) jf e' jc jb) j h1
def rvAtS_put {n:Nat}(jq:rvOk0 ops ms bn n L=oF)(hn:a0.tmps.size=n){listed:Array Bool}{a:Act}{w w':Z0}{i:Nat}{o:ZX}{v:Z6}
  (h:JE ops V S a0 L listed a w) (jo:i<L) (ho:ops[i]? = oT o) (jd:∀ e∈o.after,Zl .any e=oF->listed.getD e.on oF=oF) (hv:V i v w') (jr:o.dst=oS->V i Z8 w') (hx:∀ j,j<L->j≠i->listed.getD j oF=oF->∀ v,V j v w->V j v w') (hs:S (upd (λi=>listed.getD i oF) i) w') :
  JE ops V S a0 L (listed.setIfInBounds i oF) (a.put o.dst v) w':=by
 obtain⟨o2,jj,_,jk,hdep,_⟩:=EZ jq jo;rw[ho]at jj;cases jj;have hi:i<ops.size:=(A7.1 ho).1;have hA
     : (a.put o.dst v).tmps.size=a.tmps.size/\(a.put o.dst v).defers=a.defers/\V i (Ae ops (a.put o.dst v) i) w'/\∀ t,o.dst≠oT t->(a.put o.dst v).tmps.getD t Z8=a.tmps.getD t Z8:=by
  cases hd:o.dst with
  | none =>
   refine⟨rfl,rfl,?_,λ_ _=>rfl⟩;have:Ae ops (a.put oS v) i=Z8:=by unfold Ae;rw[ho];simp only[hd]
   rw[this];exact jr hd
  | some d =>
   have jh:a.put (oT d) v={ a with tmps:=a.tmps.setIfInBounds d v }:=rfl;rw[jh];refine⟨by simp,rfl,?_,λt ht=>?_⟩
   ·have:Ae ops { a with tmps:=a.tmps.setIfInBounds d v } i=v:=by
     unfold Ae;rw[ho];simp only[hd];rw[A6,Xk,if_pos (by rw[h.size,hn];exact(jk d hd).1)];rfl
    rw[this];exact hv
   ·have jf:d≠t:=λe=>ht (by rw[e]);show(a.tmps.setIfInBounds d v).getD t Z8=_;rw[A6,ZV jf,<- A6]
 obtain⟨jl,jm,jn,jg⟩:=hA;have jb:∀ j o' t,ops[j]? = oT o'->i≠j->o'.dst=oT t->o.dst≠oT t:=λj o' t hj jf ht e=>(jk t e).2 j o' hj jf ht;have hf:(λj=>(listed.setIfInBounds i oF).getD j oF)=upd (λi=>listed.getD i oF) i:=by
  funext j;unfold upd;by_cases e:j=i
  · subst e;rw[if_pos rfl];exact Ao (by rw[h.ls];exact hi)
  · rw[if_neg e];exact getD_set_ne (Ne.symm e)
 refine⟨by simp[h.ls],λhl=>by rw[getD_set_ne (by omega)];exact h.last hl,jl.trans h.size,jm.trans h.df,by rw[hf];exact hs,λj oj jp hl ja e he hb=>?_,λj hj hl=>?_,λt ht=>?_,λj dj hj hl jc=>?_⟩
 ·by_cases e2:i=j
  ·subst e2;rw[ho]at ja;cases ja;by_cases e3:i=e.on
   · rw[<- e3];exact Ao (by rw[h.ls];exact hi)
   · rw[getD_set_ne e3];exact jd e he hb
  ·rw[getD_set_ne e2]at hl;by_cases e3:i=e.on
   · rw[<- e3];exact Ao (by rw[h.ls];exact hi)
   · rw[getD_set_ne e3];exact h.closed j oj jp hl ja e he hb
 ·by_cases e:i=j
  · subst e;exact jn
  ·rw[getD_set_ne e]at hl;have:Ae ops (a.put o.dst v) j=Ae ops a j:=by
    unfold Ae;cases ja:ops[j]? with
    | none=>rfl
    | some o' =>
     simp only;cases jc:o'.dst with
     | none=>rfl
     | some d'=>exact jg d' (jb j o' d' ja e jc)
   rw[this];exact hx _ hj (Ne.symm e) hl _ (h.done j hj hl)
 ·have jf:o.dst≠oT t:=λe=>by
   rw[X8]at ht;have:=ht o (zO ho);rw[e]at this;simp at this
  rw[jg t jf];exact h.base t ht
 ·have ji:i≠j:=λe=>by
   subst e;rw[Ao (by rw[h.ls];exact hi)]at hl;cases hl
  rw[getD_set_ne ji]at hl;cases ja:ops[j]? with
  | none=>rw[ja]at jc;cases jc
  | some o' =>
   have je:=jc;rw[ja]at je;rw[jg dj (jb j o' dj ja ji je)];exact h.und j dj hj hl jc
def allS {n:Nat}(jc:rvOk0 ops ms bn n L=oF){listed:Array Bool}(hl:listed.size=ops.size)(h:Xl .any ops listed=[]):∀ i,i<L->listed.getD i oF=oF:=by
 intro i
 induction i using zF with
 | _
   i
    ih =>
  intro hi;cases hb:listed.getD i oF with
  | true=>rfl
  | false =>
   obtain⟨o,ho,_,_,ja,_⟩:=EZ jc hi;have jd:i<ops.size:=(A7.1 ho).1;have:i∈Xl .any ops listed:=BE.2 ⟨jd,hb,_,ho,λe he jb=>by
    have h1:=ja e he jb;exact CP hl (by omega) (ih e.on h1 (by omega))⟩
   rw[h]at this;cases this
def Jc {L:Nat}{f:Nat->Bool}:∀ {n:Nat},(∀ j,L<=j->j<n->f j=oH)->n - L<=F3 n f
 | 0,_=>by omega
 | n
   + 1,h=>by
  have h1:=Jc (n:=n) λj hj hn=>h j hj (by omega);unfold F3;by_cases hL:L<=n
  ·rw[h n hL (by omega)];simp;omega
  · omega
def U2 (P:Program)(ops:Array ZX)(Q:Exit->Act->Z0->Prop):Nat->Nat->Act->Z0->Prop
 | 0,_,a,w=>Q .normal a w
 | r+1,m,a,w=>wpOp P ops Q m (λa' w'=>U2 P ops Q r (m+1) a' w') a w
def tail_any {u:Nat}(jd:∀ i o,L<=i->ops[i]? = oT o->(∀ j,j<i->(i=L/\j=u)\/∃ e∈o.after,Zl .any e=oF/\(e.on=j\/(L<=e.on/\j<e.on/\(j=u->e.on≠L))\/(e.on<L/\(ms.getD e.on 0).testBit j=oF)))/\∀ e∈o.after,Zl .any e=oF->e.on<i)(jf:∀ i,i<L->∀ {j},(ms.getD i 0).testBit j=oF->j<i) :
  ∀ (r fuel:Nat) (listed:Array Bool) (a:Act) (w:Z0) (m:Nat),listed.size=ops.size->L<=m->m+r=ops.size->(∀ j,j<m->listed.getD j oF=oF)->(∀ j,m<=j->j<ops.size->listed.getD j oF=oH)->U2 P ops Q r m a w->(h:r<=fuel:=by omega)->wpAny P .any ops Q fuel listed a w:=by
 intro r
 induction r with
 | zero =>
  intro fuel listed a w m jb hm hr hd hu hq _;refine LU ?_ hq fuel;rw[XL];intro j hj;obtain⟨g1,g2,_⟩:=BE.1 hj;rw[hd j (by omega)]at g2;cases g2
 | succ r ih
       =>
  intro fuel listed a w m jb hm hr hd hu hq hf;obtain⟨fuel,rfl⟩:∃ f,fuel=f+1:=⟨fuel - 1,by omega⟩
  refine⟨λh0=>?_,λi hi=>?_⟩
  ·exfalso;cases ho:ops[m]? with
   | none=>rw[Array.getElem?_eq_none_iff]at ho;omega
   | some o =>
    have:m∈Xl .any ops listed:=BE.2 ⟨by omega,hu m (A5 _) (by omega),o,ho,λe he hb=>by
     have h1:=(jd m o hm ho).2 e he hb;exact CP jb (by omega) (hd e.on h1)⟩
    rw[h0]at this;cases this
  ·obtain⟨
       h1,h2,o,ho,h3⟩:=BE.1 hi
   have hmi:m<=i:=by
    rcases zx i m with h9 | h9
    · rw[hd i h9]at h2;cases h2
    · exact h9
   obtain rfl:i=m:=by
    rcases zx m i with h9 | h9
    ·exfalso;obtain⟨ja,jc⟩:=jd i o (by omega) ho;obtain⟨e,he,hb,h4⟩:=(ja m h9).resolve_left λh8=>by omega
     have hei:=jc e he hb;have je:listed.getD e.on oF=oF:=Br jb (by omega) (h3 e he hb);have hem:e.on<m:=by
      rcases zx e.on m with h8 | h8
      · exact h8
      ·have:=hu e.on h8 (by omega);rw[je]at this;cases this
     rcases h4 with h4 | h4 | h4
     · omega
     · omega
     · have:=jf e.on h4.1 h4.2;omega
    · omega
   refine wpOp_mono (λa' w' jg=>ih fuel _ a' w' (i+1) (by simp[jb]) (by omega) (by omega) (λj hj=>?_) (λj hj h9=>?_) jg (by omega)) hq
   ·by_cases e:i=j
    · subst e;exact Ao (by omega)
    · rw[getD_set_ne e];exact hd j (by omega)
   · rw[getD_set_ne (by omega)];exact hu j (by omega) h9
def rvS_any
        {u:Nat} (jD:bn=oF->∀ i o v w,ops[i]? = oT o->o.dst=oS->V i v w->V i Z8 w) (hV:∀ i j v w w',i<L->j<L->i≠j->(ms.getD j 0).testBit i=oH->V j v w->X i w w'->V j v w') {n:Nat} (ja:rvOk0 ops ms bn n L=oF) (hsz:L<=ops.size) (jp:∀ i o,L<=i->ops[i]? = oT o->(∀ j,j<i->(i=L/\j=u)\/∃ e∈o.after,Zl .any e=oF/\(e.on=j\/(L<=e.on/\j<e.on/\(j=u->e.on≠L))\/(e.on<L/\(ms.getD e.on 0).testBit j=oF)))/\∀ e∈o.after,Zl .any e=oF->e.on<i) (hn:a0.tmps.size=n)
  (jK:∀ i o,i<L->ops[i]? = oT o->NR P ops V X S ms a0 i o)
  (jh:∀ a w,a.tmps.size=a0.tmps.size->a.defers=a0.defers->(∀ f:Nat->Bool,(∀ i,i<L->f i=oF)->S f w->(∀ i,i<L->V i (Ae ops a i) w)->(∀ t,(ops.all λo'=>o'.dst != oT t)=oF->a.tmps.getD t Z8=a0.tmps.getD t Z8)->U2 P ops Q (ops.size - L) L a w))
  (jo:u<L->∀ a w,a.tmps.size=a0.tmps.size->a.defers=a0.defers->(∀ f:Nat->Bool,(∀ i,i<L->i≠u->f i=oF)->f u=oH->S f w->(∀ i,i<L->i≠u->V i (Ae ops a i) w)->(∀ t,(ops.all λo'=>o'.dst != oT t)=oF->a.tmps.getD t Z8=a0.tmps.getD t Z8)->wpOp P ops Q L (λa' w'=>wpOp P ops Q u (λa'' w''=>U2 P ops Q (ops.size - L - 1) (L+1) a'' w'') a' w') a w)) :
  ∀ (fuel:Nat) (listed:Array Bool) (a:Act) (w:Z0),(∀ j,L<=j->j<ops.size->listed.getD j oF=oH)->JE ops V S a0 L listed a w->F3 ops.size (λi=>listed.getD i oF)<=fuel->wpAny P .any ops Q fuel listed a w:=by
 intro fuel
 induction fuel with
 | zero =>
  intro listed a w hu h hc;have jb:=FI (f:=λi=>listed.getD i oF) (Nat.le_zero.1 hc);have jC:ops.size=L:=by
   rcases zx L ops.size with h9 | h9
   ·have:=hu L (A5 _) h9;rw[jb L h9]at this;cases this
   · omega
  exact tail_any jp (λi h9=>Ea ja h9) 0 0 listed a w L h.ls (A5 _) (by omega) (λj hj=>jb j (by omega)) hu (by have:=jh a w h.size h.df _ (λi hi=>jb i (by omega)) h.s (λi hi=>h.done i hi (jb i (by omega))) h.base;rwa [jC,Nat.sub_self]at this)
 | succ fuel
       ih =>
  intro listed a w hu h hc;by_cases jl:∀ i,i<L->listed.getD i oF=oF
  · exact tail_any jp (λi h9=>Ea ja h9) (ops.size - L) (fuel+1) listed a w L h.ls (A5 _) (by omega) jl hu (jh a w h.size h.df _ jl h.s (λi hi=>h.done i hi (jl i hi)) h.base) (by have:=Jc hu;omega)
  refine⟨λhr=>absurd (allS ja h.ls hr) jl,λi hi=>?_⟩;obtain⟨h1,h2,o,ho,h3⟩:=BE.1 hi;by_cases jf:i<L
  ·have jr:∀ j,L<=j->j<ops.size->(listed.setIfInBounds i oF).getD j oF=oH:=λj hj h9=>by rw[getD_set_ne (by omega)];exact hu j hj h9
   have jq:F3 ops.size (λj=>(listed.setIfInBounds i oF).getD j oF)<=fuel:=by
    have:=Ev (f:=λj=>listed.getD j oF) (g:=λj=>(listed.setIfInBounds i oF).getD j oF) (λj hj=>by
     by_cases e:i=j
     · subst e;exact Ao (by rw[h.ls];exact h1)
     ·show(listed.setIfInBounds i oF).getD j oF=oF;rw[getD_set_ne e];exact hj) (j:=i) (Ao (by rw[h.ls];exact h1)) h2 ops.size h1
    omega
   obtain⟨o2,jA,jE,_,js,_⟩:=EZ ja jf;rw[ho]at jA;cases jA;have jv:∀ v w',V i v w'->o.dst=oS->V i Z8 w':=λv w' hv hd=>jD (jE hd) i o v w' ho hd hv;have jm:∀ e∈o.after,Zl .any e=oF->listed.getD e.on oF=oF:=λe he hb=>by
    have hlt2:=js e he hb;exact Br h.ls (by omega) (h3 e he hb)
   have jz:=Ce ja h i jf (λo' je e he hb=>by rw[ho]at je;cases je;exact jm e he hb);have hO:=jK i o jf ho;have jG:∀ j,j<oB ms->(ms.getD j 0).testBit i=oF->listed.getD j oF=oH:=λj hj hb=>by
    rw[FJ ja]at hj;cases hl:listed.getD j oF with
    | false=>rfl
    | true =>
     have:=Ce ja h j hj (λo' je e he ji=>h.closed j o' hj hl je e he ji) i hb;rw[h2]at this;cases this
   have hO:=hO a w _ h.size h2 jz jG h.s (λj hj=>h.done j (by have:=Ea ja jf hj;omega) (jz j hj)) h.base (λj d hj hf=>h.und j d (by rw[FJ ja]at hj;exact hj) hf);have jc:∀ w',X i w w'->∀ j,j<L->j≠i->listed.getD j oF=oF->∀ v,V j v w->V j v w':=λw' hx j hj jg hl v hv=>by
    refine hV i j v w w' jf hj (Ne.symm jg) ?_ hv hx;cases hb:(ms.getD j 0).testBit i with
    | false=>rfl
    | true =>
     have:=Ce ja h j hj (λo' je e he ji=>h.closed j o' hj hl je e he ji) i hb;rw[h2]at this;cases this
   unfold wpOp;rw[ho];simp only;cases hw:Zv o (yielded ops a.tmps) with
   | false =>
    rw[if_neg (by simp)];obtain⟨hv,jk⟩:=hO.2 hw;exact ih _ _ _ jr (rvAtS_put ja hn h jf ho jm hv (jv _ _ hv) (λ_ _ _ _ _ h=>h) jk) jq
   | true =>
    rw[if_pos rfl];refine .inl ?_;rcases hO.1 hw with(⟨v,w',hr,hv,hx,jk⟩ | ⟨g,args,w',hr,hC⟩) | ⟨hd,w',hr,hv,hx,jk⟩
    ·unfold xe;rw[hr];exact ih _ _ _ jr (rvAtS_put ja hn h jf ho jm hv (jv _ _ hv) (jc w' hx) jk) jq
    ·unfold xe;rw[hr];refine hC.mono ?_;rintro e w'' ⟨v,rfl,hv,hx,jk⟩;exact ih _ _ _ jr (rvAtS_put ja hn h jf ho jm hv (jv _ _ hv) (jc w'' hx) jk) jq
    ·unfold xe;rw[hr];exact ih _ _ _ jr (rvAtS_put (v:=Z8) ja hn h jf ho jm hv (λ_=>hv) (jc w' hx) jk) jq
  ·obtain⟨
       hdeps,hlt9⟩:=jp i o (by omega) ho
   have jj:∀ j,j<L->¬ (i=L/\j=u)->listed.getD j oF=oF:=λj hj jg=>by
    obtain⟨e,he,hb,h4⟩:=(hdeps j (by omega)).resolve_left jg;have jd:listed.getD e.on oF=oF:=Br h.ls (by have:=hlt9 e he hb;omega) (h3 e he hb);rcases zx e.on L with h9 | h9
    ·rcases h4 with rfl | h4 | h4
     · exact jd
     · omega
     · exact Ce ja h e.on h9 (λo' je e' jt ji=>h.closed e.on o' h9 jd je e' jt ji) j h4.2
    ·have:=hu e.on h9 (by have:=hlt9 e he hb;omega);rw[jd]at this;cases this
   by_cases jx:i=L/\u<L/\listed.getD u oF=oH
   ·obtain⟨
        rfl,huL,hul⟩:=jx
    have jb:∀ j,j<i->j≠u->listed.getD j oF=oF:=λj hj jg=>jj j hj λh9=>jg h9.2;have hf2:2<=fuel+1:=by
     have h5:=Ev (f:=λj=>listed.getD j oF) (g:=λj=>(listed.setIfInBounds i oF).getD j oF) (λj hj=>by
      by_cases e:i=j
      · subst e;exact Ao (by rw[h.ls];exact h1)
      ·show(listed.setIfInBounds i oF).getD j oF=oF;rw[getD_set_ne e];exact hj) (j:=i) (Ao (by rw[h.ls];exact h1)) h2 ops.size h1
     have h6:=Ev (f:=λj=>(listed.setIfInBounds i oF).getD j oF) (g:=λ_=>oF) (λ_ _=>rfl) (j:=u) rfl (by show(listed.setIfInBounds i oF).getD u oF=oH;rw[getD_set_ne (by omega)];exact hul) ops.size (by omega);omega
    obtain⟨fuel,rfl⟩:∃ f,fuel=f+1:=⟨fuel - 1,by omega⟩
    have ju:∀ j,j≠u->j<=i->(listed.setIfInBounds i oF).getD j oF=oF:=λj jg hj=>by
     by_cases e:i=j
     · subst e;exact Ao (by rw[h.ls];exact h1)
     · rw[getD_set_ne e];exact jb j (by omega) jg
    have jB:(listed.setIfInBounds i oF).getD u oF=oH:=by rw[getD_set_ne (by omega)];exact hul
    have jw:∀ j,i<j->j<ops.size->(listed.setIfInBounds i oF).getD j oF=oH:=λj hj h9=>by rw[getD_set_ne (by omega)];exact hu j (by omega) h9
    refine wpOp_mono (λa' w' hq=>⟨λhr=>?_,λk hk=>?_⟩) (jo huL a w h.size h.df _ jb hul h.s (λj hj jg=>h.done j hj (jb j hj jg)) h.base)
    ·exfalso;obtain⟨ou,jL,_,_,jH,_⟩:=EZ ja huL;have:u∈Xl .any ops (listed.setIfInBounds i oF):=BE.2 ⟨by omega,jB,ou,jL,λe he hb=>by
      have h8:=jH e he hb;exact CP (n:=ops.size) (by simp[h.ls]) (by omega) (ju e.on (by omega) (by omega))⟩
     rw[hr]at this;cases this
    ·obtain⟨
         k1,k2,ok,hok2,k3⟩:=BE.1 hk
     have jI:k=u:=by
      rcases zx i k with h9 | h9
      ·exfalso;obtain⟨jF,jy⟩:=jp k ok (by omega) hok2;obtain⟨e,he,hb,h4⟩:=(jF u (by omega)).resolve_left λh8=>by omega
       have jd:(listed.setIfInBounds i oF).getD e.on oF=oF:=Br (n:=ops.size) (by simp[h.ls]) (by have:=jy e he hb;omega) (k3 e he hb);rcases zx i e.on with h8 | h8
       · rw[jw e.on h8 (by have:=jy e he hb;omega)]at jd;cases jd
       ·rcases h4 with h4 | h4 | h4
        · rw[h4,jB]at jd;cases jd
        ·have h5:=h4.2.2 rfl;omega
        ·have jJ:listed.getD e.on oF=oF:=by rw[getD_set_ne (by omega)]at jd;exact jd
         have:=Ce ja h e.on h4.1 (λo' je e' jt ji=>h.closed e.on o' h4.1 jJ je e' jt ji) u h4.2;rw[hul]at this;cases this
      ·by_cases e:k=u
       · exact e
       · rw[ju k e h9]at k2;cases k2
     subst jI;refine wpOp_mono (λa'' w'' jM=>tail_any jp (λi h9=>Ea ja h9) (ops.size - i - 1) fuel _ a'' w'' (i+1) (by simp[h.ls]) (by omega) (by omega) (λj hj=>?_) (λj hj h9=>?_) jM ?_) hq
     ·by_cases e:k=j
      · subst e;exact Ao (by simp[h.ls];omega)
      · rw[getD_set_ne e];exact ju j (λh9=>e h9.symm) (by omega)
     · rw[getD_set_ne (by omega)];exact jw j (by omega) h9
     ·have h5:=Jc (L:=i) (f:=λj=>listed.getD j oF) hu;have h6:=Ev (f:=λj=>listed.getD j oF) (g:=λj=>listed.getD j oF || decide (j=k)) (λj hj=>by show(_ || _)=oF;rw[hj];rfl) (j:=k) (by simp) hul ops.size (by omega);have h7:=Jc (L:=i) (n:=ops.size) (f:=λj=>listed.getD j oF || decide (j=k)) (λj hj h9=>by show(_ || _)=oH;rw[hu j hj h9,decide_eq_false (by omega)];rfl);omega
   ·exfalso;by_cases jn:i=L
    ·refine jl λj hj=>?_;by_cases e:j=u
     ·subst e;cases hb:listed.getD j oF with
      | true=>rfl
      | false=>exact absurd ⟨jn,hj,hb⟩ jx
     · exact jj j hj λh9=>e h9.2
    · exact jl λj hj=>jj j hj λh9=>jn h9.1
def I2 {bn:Bool}{id:Nat}(hm:P.follows .mixedOrders=oF){w:Z0}(V:Nat->Z6->Z0->Prop)(X:Nat->Z0->Z0->Prop)(S:(Nat->Bool)->Z0->Prop)(ms:List Nat)(n L:Nat)(jg:rvOkS ops ms bn n L=oF)(hn:a0.tmps.size=n)(jj:bn=oF->∀ i o v w,ops[i]? = oT o->o.dst=oS->V i v w->V i Z8 w)
  (hV:∀ i j v w w',i<L->j<L->i≠j->(ms.getD j 0).testBit i=oH->V j v w->X i w w'->V j v w') (hS:∀ f:Nat->Bool,(∀ i,i<L->f i=oH)->S f { w with drawn:=w.drawn+1 })
  (jk:Hd P ops V X S ms a0 L 0 ops.toList)
  (jb:ops.size=L->∀ a w,a.tmps.size=a0.tmps.size->a.defers=a0.defers->(∀ f:Nat->Bool,(∀ i,i<L->f i=oF)->S f w->(∀ i,i<L->V i (Ae ops a i) w)->(∀ t,(ops.all λo'=>o'.dst != oT t)=oF->a.tmps.getD t Z8=a0.tmps.getD t Z8)->Q .normal a w))
  (ja:ops.size≠L->∀ a w,a.tmps.size=a0.tmps.size->a.defers=a0.defers->(∀ f:Nat->Bool,(∀ i,i<L->f i=oF)->S f w->(∀ i,i<L->V i (Ae ops a i) w)->(∀ t,(ops.all λo'=>o'.dst != oT t)=oF->a.tmps.getD t Z8=a0.tmps.getD t Z8)->wpOp P ops Q L (λa' w'=>Q .normal a' w') a w)) :
  (zT id ops oF).wp P Q a0 w:=by
 have hs:=rvOkS_size jg;have hf:∀ i,i<ops.size->(Xd ops.size oH).getD i oF=oH:=λi hi=>by rw[A6,XW,if_pos hi];rfl
 have h0:JE ops V S a0 L (Xd ops.size oH) a0 { w with drawn:=w.drawn+1 }:=by
  refine⟨by simp,λhl=>hf L hl,rfl,rfl,hS _ λi hi=>hf i (by omega),λi o hi h=>?_,λi hi h=>?_,λ_ _=>rfl,λ_ _ _ _ _=>rfl⟩
  · rw[hf i (by omega)]at h;cases h
  · rw[hf i (by omega)]at h;cases h
 have h1:L<=ops.size:=by rcases hs with h | ⟨h,_⟩ <;> omega
 refine wp_region_any hm (rvS_any (u:=ops.size) jj hV (Bs jg) h1 (λi o hi ho=>?_) hn (λi o hi ho=>by have h9:=LX _ _ jk i o (by rw[ZL];exact ho) (by omega);rwa [ZS]at h9) (λa w h2 h3 f je jh ji jc=>?_) (λh=>by omega) ops.size (Xd ops.size oH) a0 _ (λj _ hj=>hf j hj) h0 (I1 _ _))
 ·rcases hs with h | ⟨h,oL,jf,hd,jd⟩
  · have:=(A7.1 ho).1;omega
  ·obtain rfl:i=L:=by have:=(A7.1 ho).1;omega
   rw[ho]at jf;cases jf;refine⟨λj hj=>?_,jd⟩;obtain⟨e,he,hb,h4⟩:=hd j hj;exact .inr ⟨e,he,hb,h4.imp (λh=>h) λh4=>.inr ⟨jd e he hb,h4⟩⟩
 ·rcases hs with h | ⟨h,_⟩
  · rw[h,Nat.sub_self];exact jb h a w h2 h3 f je jh ji jc
  · rw[h,Nat.add_sub_cancel_left];exact ja (by omega) a w h2 h3 f je jh ji jc
def Ay {id:Nat}(hm:P.follows .mixedOrders=oF){w:Z0}(V:Nat->Z6->Z0->Prop)(X:Nat->Z0->Z0->Prop)(S:(Nat->Bool)->Z0->Prop)(ms:List Nat)(n L:Nat)(jc:rvOkS ops ms oH n L=oF)(hn:a0.tmps.size=n)
  (hV:∀ i j v w w',i<L->j<L->i≠j->(ms.getD j 0).testBit i=oH->V j v w->X i w w'->V j v w') (hS:∀ f:Nat->Bool,(∀ i,i<L->f i=oH)->S f { w with drawn:=w.drawn+1 })
  (jd:MN P ops V X S ms a0 L 0 ops.toList)
  (jb:ops.size=L->∀ a w,a.tmps.size=a0.tmps.size->a.defers=a0.defers->(∀ f:Nat->Bool,(∀ i,i<L->f i=oF)->S f w->(∀ i,i<L->V i (Ae ops a i) w)->(∀ t,(ops.all λo'=>o'.dst != oT t)=oF->a.tmps.getD t Z8=a0.tmps.getD t Z8)->Q .normal a w))
  (ja:ops.size≠L->∀ a w,a.tmps.size=a0.tmps.size->a.defers=a0.defers->(∀ f:Nat->Bool,(∀ i,i<L->f i=oF)->S f w->(∀ i,i<L->V i (Ae ops a i) w)->(∀ t,(ops.all λo'=>o'.dst != oT t)=oF->a.tmps.getD t Z8=a0.tmps.getD t Z8)->wpOp P ops Q L (λa' w'=>Q .normal a' w') a w)) :
  (zT id ops oF).wp P Q a0 w :=
 I2 hm V X S ms n L jc hn (λe=>by cases e) hV hS (Ps P ops V X S ms a0 L _ _ jd) jb ja
end
def Xs (l:List (Z0->Z0->Prop))(i:Nat):Z0->Z0->Prop:=l.getD i Ext
def Oi (X:Z0->Z0->Prop)(m:Nat)(ms:List Nat):Nat->List (Z6->Z0->Prop)->Prop
 | _,[]=>True
 | j,p :: l=>(j≠m->(ms.getD j 0).testBit m=oH->∀ v w w',p v w->X w w'->p v w')/\Oi X m ms (j+1) l
def LY {X:Z0->Z0->Prop}{m:Nat}{ms:List Nat}:∀ (l:List (Z6->Z0->Prop)) (k:Nat),Oi X m ms k l->∀ i p,l[i]? = oT p->k+i≠m->(ms.getD (k+i) 0).testBit m=oH->∀ v w w',p v w->X w w'->p v w'
 | [],_,_,i,p,h=>by simp at h
 | q :: l,k,h,0,p,hp=>by
  have:q=p:=by simpa using hp
  subst this;exact h.1
 | q :: l,k,h,i+1,p,hp=>by
  have e:k+(i+1)=k+1+i:=by omega
  rw[e];exact LY l (k+1) h.2 i p (by simpa using hp)
def BU {X:Z0->Z0->Prop}{m:Nat}{ms:List Nat}{l:List (Z6->Z0->Prop)}(h:Oi X m ms 0 l):∀ j v w w',m≠j->(ms.getD j 0).testBit m=oH->Vs l j v w->X w w'->Vs l j v w':=by
 intro j v w w' hne hb hv hx;unfold Vs at *;by_cases hj:j<oB l
 ·rw[AS,AC hj]at hv ⊢;exact LY l 0 h j _ (AC hj) (by omega) (by rw[ZS];exact hb) v w w' hv hx
 · rw[AS,AT (by omega)];trivial
def VP (l:List (Z6->Z0->Prop))(ms:List Nat):Nat->List (Z0->Z0->Prop)->Prop
 | _,[]=>True
 | i,X :: r=>(X=Ext\/∀ j v w w',i≠j->(ms.getD j 0).testBit i=oH->Vs l j v w->X w w'->Vs l j v w')/\VP l ms (i+1) r
def Pt {l:List (Z6->Z0->Prop)}{ms:List Nat}:∀ (r:List (Z0->Z0->Prop)) (k:Nat),VP l ms k r->∀ i X,r[i]? = oT X->X=Ext\/∀ j v w w',k+i≠j->(ms.getD j 0).testBit (k+i)=oH->Vs l j v w->X w w'->Vs l j v w'
 | [],_,_,i,X,h=>by simp at h
 | q :: r,k,h,0,X,hp=>by
  have:q=X:=by simpa using hp
  subst this;exact h.1
 | q :: r,k,h,i+1,X,hp=>by
  have e:k+(i+1)=k+1+i:=by omega
  rw[e];exact Pt r (k+1) h.2 i X (by simpa using hp)
def Bi {l:List (Z6->Z0->Prop)}{r:List (Z0->Z0->Prop)}{ms:List Nat}{L:Nat}(hx:∀ i v w w',Vs l i v w->Ext w w'->Vs l i v w')(h:VP l ms 0 r) :
  ∀ i j v w w',i<L->j<L->i≠j->(ms.getD j 0).testBit i=oH->Vs l j v w->Xs r i w w'->Vs l j v w':=by
 intro i j v w w' _ _ ja hb hv hX;unfold Xs at hX;by_cases hi:i<oB r
 ·rw[AS,AC hi]at hX;rcases Pt r 0 h i _ (AC hi) with h1 | h1
  ·simp only[Xh]at hX;rw[h1]at hX;exact hx _ _ _ _ hv hX
  ·rw[ZS]at h1;exact h1 j v w w' ja hb hv hX
 ·rw[AS,AT (by omega)]at hX;exact hx _ _ _ _ hv hX
def FK (ops:Array ZX)(a:Act)(w:Z0):Nat->Nat->List (Z6->Z0->Prop)->Prop
 | _,_,[]=>True
 | m,k,p :: l=>(m % 2=1->p (Ae ops a k) w)/\FK ops a w (m / 2) (k+1) l
def Pu {ops:Array ZX}{a:Act}{w:Z0}:∀ (l:List (Z6->Z0->Prop)) (m k:Nat),(∀ j,m.testBit j=oF->Vs l j (Ae ops a (k+j)) w)->FK ops a w m k l
 | [],_,_,_=>trivial
 | p
   :: l,m,k,h=>⟨λh1=>h 0 (by simp[Nat.testBit_zero,h1]),Pu l (m / 2) (k+1) λj hj=>by
   have h2:=h (j+1) (by rw[Nat.testBit_add_one];exact hj);rw[show k+1+j=k+(j+1) by omega];exact h2⟩
def GC {ops:Array ZX}{a:Act}{w:Z0}{l:List (Z6->Z0->Prop)}{m:Nat}(h:∀ j,m.testBit j=oF->Vs l j (Ae ops a j) w):FK ops a w m 0 l:=Pu l m 0 λj hj=>by rw[ZS];exact h j hj
structure SP where
 p:Z6->Z0->Prop
 st:Bq p
def qc (v:Z6):SP:=⟨λx _=>x=v,Ab v⟩
def csV (l:List Z6):List SP:=l.map qc
def Vp (l:List SP)(i:Nat)(v:Z6)(w:Z0):Prop:=(l.getD i ⟨λ_ _=>True,λ_ _ _ _ _=>trivial⟩).p v w
def NS (l:List SP):∀ i v w w',Vp l i v w->Ext w w'->Vp l i v w':=λi v w w' h hx=>(l.getD i _).st v w w' h hx
def rS (b:Bool):Z6->Bool
 | aH c=>c == b
 | _=>oH
def C9 (b c:Bool):rS b (aH c)=(c == b):=rfl
def CA (b:Bool):rS b Z8=oH:=rfl
def wS (ops:Array ZX)(A:Act)(o:ZX):Bool:=match o.guard with
 | none=>oF
 | some (j,b)=>rS b (Ae ops A j)
def wS_eq (ops:Array ZX)(A:Act)(o:ZX):Zv o (yielded ops A.tmps)=wS ops A o:=by
 unfold Zv wS;cases o.guard with
 | none=>rfl
 | some g =>
  obtain⟨j,b⟩:=g;show(yielded ops A.tmps j == oT b)=rS b (Ae ops A j);unfold yielded Ae;cases h1:ops[j]? with
  | none=>rfl
  | some o' =>
   simp only[Option.bind_some];cases h2:o'.dst with
   | none=>rfl
   | some d =>
    simp only[Option.bind_some];rw[A6];cases h3:A.tmps[d]? with
    | none=>rfl
    | some v =>
     simp only[Xh];cases v <;> first | rfl | skip
def Ak {ops:Array ZX}{A:Act}{o:ZX}{X Y:Prop}(h:wS ops A o=oF)(hX:X):(Zv o (yielded ops A.tmps)=oF->X)/\(Zv o (yielded ops A.tmps)=oH->Y):=by
 rw[wS_eq,h];exact⟨λ_=>hX,λe=>(by cases e)⟩
def Pv {ops:Array ZX}{A:Act}{o:ZX}{X Y:Prop}(h:wS ops A o=oH)(hY:Y):(Zv o (yielded ops A.tmps)=oF->X)/\(Zv o (yielded ops A.tmps)=oH->Y):=by
 rw[wS_eq,h];exact⟨λe=>(by cases e),λ_=>hY⟩
def LZ (ops:Array ZX)(x:Nat->Z6)(i:Nat):Z6:=match ops[i]? with | some o=>(match o.dst with | some d=>x d | none=>Z8) | none=>Z8
variable {P:Program} {ops:Array Oper} {a0:Act} {Q:Exit->Act->World->Prop}
def B8 {id:Nat}{w:Z0}(u:Z0)(hS:Ext u w)(n:Nat)(l:List SP)(ds:List Nat)(jc:(P.follows .mixedOrders && (rvOk ops n && Hc ops == ds))=oF)(hn:a0.tmps.size=n)
  (je:NN P ops (Vp l) (Ext u) a0 0 ops.toList)
  (jb:∀ (W:Z0) (x:Nat->Z6),Ext u W->(∀ i,i<ops.size->Vp l i (LZ ops x i) W)->Q .normal (ds.foldl (λa d=>a.put (oT d) (x d)) a0) W):(zT id ops oF).wp P Q a0 w:=by
 simp only[Zg,beq_iff_eq]at jc;obtain⟨h1,h2,h3⟩:=jc;refine CJ h1 (Vp l) (Ext u) n h2 hn (NS l) (λ_ _ h hx=>Ext.trans h hx) hS (ER je) λA W jf jd hW hv ja=>?_;obtain⟨x,hx,hA⟩:=B7 ds h3 jf jd ja;rw[hA];refine jb W x hW λi hi=>?_;have h:=hv i hi;have e:Ae ops A i=LZ ops x i:=by
  unfold Ae LZ;cases ops[i]? with
  | none=>rfl
  | some o =>
   cases ho:o.dst with
   | none=>simp only[ho]
   | some d=>simp only[ho];exact(hx d).symm
 rwa [e]at h
def
  msOf (ops:Array ZX):Nat->List Nat
 | 0=>[]
 | L+1=>msOf ops L ++ [match ops[L]? with
  | some o=>o.after.foldl (λs e=>if Zl .any e then s ||| (1 <<< e.on) ||| ((msOf ops L).getD e.on 0) else s) 0
  | none=>0]
def Pw (ops:Array ZX)(ms:List Nat)(L:Nat):Bool:=(Zt L).all λi=>match ops[i]? with
 | some o=>o.after.all λe=>!Region.binds .any e || (ms.getD i 0).testBit e.on
 | none=>oF
def La {V:Nat->Z6->Z0->Prop}{X:Nat->Z0->Z0->Prop}{S:(Nat->Bool)->Z0->Prop}{ms:List Nat}{L:Nat}:∀ (l:List ZX) (k:Nat),(∀ i o,l[i]? = oT o->k+i≠L->SD P ops V X S ms a0 (k+i) o)->MN P ops V X S ms a0 L k l
 | [],_,_=>trivial
 | o
   :: l,k,h=>⟨by
   split
   · trivial
   · rename_i e;exact h 0 o rfl e,La l (k+1) λi o' ho ja=>by
   have e:k+1+i=k+(i+1):=by omega
   rw[e]at ja ⊢;exact h (i+1) o' ho ja⟩
def wp_region_sq {id:Nat}{w:Z0}(u:Z0)(hS:Ext u w)(n L:Nat)(l:List SP)(ds:List Nat)(jf:(P.follows .mixedOrders && (rvOkS ops (msOf ops L) oH n L && (Pw ops (msOf ops L) L && (decide (ops.size=L+1) && Hc ops == ds))))=oF)(hn:a0.tmps.size=n)
  (jj:NN P ops (Vp l) (Ext u) a0 0 (ops.toList.take L))
  (jb:∀ (A:Act) (W:Z0) (x:Nat->Z6),Ext u W->(∀ i,i<L->Vp l i (LZ ops x i) W)->(∀ t,x t=A.tmps.getD t Z8)->A=ds.foldl (λa d=>a.put (oT d) (x d)) a0->(∀ t,t ∉ ds->A.tmps.getD t Z8=a0.tmps.getD t Z8)->wpOp P ops Q L (λa' w'=>Q .normal a' w') A W):(zT id ops oF).wp P Q a0 w:=by
 simp only[Zg,beq_iff_eq,decide_eq_true_eq]at jf;obtain⟨h1,h2,h3,h4,h5⟩:=jf;have jh:Ext w { w with drawn:=w.drawn+1 }:=⟨rfl,rfl,rfl,A5 _,λ_ _=>rfl⟩
 refine Ay h1 (Vp l) (λ_=>Ext) (λ_=>Ext u) (msOf ops L) n L h2 hn (λi j v w w' _ _ _ _ h hx=>NS l j v w w' h hx) (λ_ _=>Ext.trans hS jh) (La _ 0 λi o ho ji=>?_) (λe=>by omega) λ_ A W je jg f hf hW hv ja=>?_
 ·rw[ZS]at ji ⊢;rw[ZL]at ho;have hi:i<ops.size:=(A7.1 ho).1;have hL:i<L:=by omega
  have hO:=NO _ 0 jj i o (by rw[AP,if_pos hL,ZL];exact ho);rw[ZS]at hO;intro a w f je hfi hms hdn jc jd ja hund;have hd:∀ e∈o.after,Zl .any e=oF->((msOf ops L).getD i 0).testBit e.on=oF:=by
   unfold Pw at h3;have h6:=(Zr.1 h3) i (by simpa using hL);rw[ho]at h6;intro e he hb;have h7:=(X8.1 h6) e he;rw[hb]at h7;simpa using h7
  have h8:=hO a w je jc (λe he hb=>jd e.on (hd e he hb)) ja;refine⟨λhw=>?_,λhw=>⟨h8.2 hw,jc⟩⟩;rcases h8.1 hw with⟨v,w',h,h9⟩ | ⟨g,args,w',h,hC⟩
  · exact .inl ⟨v,w',h,h9.1,h9.2,Ext.trans jc h9.2⟩
  · exact .inr ⟨g,args,w',h,hC.mono λe w'' ⟨v,he,h9⟩=>⟨v,he,h9.1,h9.2,Ext.trans jc h9.2⟩⟩
 ·obtain⟨x,hx,hA⟩:=B7 ds h5 je jg ja;refine jb A W x hW (λi hi=>?_) hx hA λt ht=>ja t (Jl (by rw[h5];exact ht));have h:=hv i hi;have e:Ae ops A i=LZ ops x i:=by
   unfold Ae LZ;cases ops[i]? with
   | none=>rfl
   | some o =>
    cases ho:o.dst with
    | none=>simp only[ho]
    | some d=>simp only[ho];exact(hx d).symm
  rwa [e]at h
end Go.Proofs.YtpljngaejaehcaaGreatDoor
namespace Go.Proofs.YtpljngaejaehcaaGreatDoor.Fl
open Go.RowKit
structure Rl where
 frm:Int
 dst:Int
 inp:ByteArray
 out:ByteArray
 cost:Int
def BD (c:Int):Int:=if 97<=c/\c<=122 then 1 else if 65<=c/\c<=90 then 2 else if 48<=c/\c<=57 then 3 else 0
def MO (l:List UInt8):Bool:=l.all λc=>BD (c.toNat:Int) == 1
def He (l:List UInt8):Bool:=l.all λc=>!(BD (c.toNat:Int) == 0)
def F4 (s:ByteArray):Bool:=MO s.data.toList
def EB (s:ByteArray):Bool:=He s.data.toList
def DB (m:Int)(r:Rl):Bool:=decide (0<=r.frm) && (decide (r.frm<m) && (decide (0<=r.dst) && (decide (r.dst<m) && (decide ((r.inp.size:Int)<=4) && (F4 r.inp && (decide ((r.out.size:Int)<=4) && (EB r.out && (decide (0<=r.cost) && decide (r.cost<=1000)))))))))
def Ic (s:ByteArray)(k:Nat)(h:k<s.size):s.data.toList.take (k+1)=s.data.toList.take k ++ [s[k]]:=by
 rw[AR (by simpa using h)];rfl
def FL (s:ByteArray)(k:Nat)(h:¬ k<s.size):s.data.toList.take k=s.data.toList:=AH (by simp;exact Nat.le_of_not_lt h)
def DR {p:UInt8->Bool}(s:ByteArray)(k:Nat)(h:k<s.size)(hp:p s[k]=oH):s.data.toList.all p=oH:=by
 rw[List.all_eq_false];refine⟨s[k],?_,by simp[hp]⟩;show s.data[k]∈s.data.toList;simp
def FM {p:UInt8->Bool}(s:ByteArray)(k:Nat)(h:k<s.size)(ht:(s.data.toList.take k).all p=oF)(hp:p s[k]=oF):(s.data.toList.take (k+1)).all p=oF:=by
 rw[Ic s k h,List.all_append,ht];simp[hp]
def DT (c:Int)(w:Z0)(h0:0<=c)(h1:c<=255) :
  Zu Z1 143 #[aA aO c] w λe w'=>e=aP (aA aM (BD c))/\w=w':=by
 rcases(show(97<=c/\c<=122)\/(65<=c/\c<=90)\/(48<=c/\c<=57)\/c<48\/(57<c/\c<65)\/(90<c/\c<97)\/122<c from by omega) with h | h | h | h | h | h | h
 all_goals
  go_enter Tryz.func143,Tryz.ntmps143
  go_wp2;go_ret;refine⟨BH ?_,rfl⟩;unfold BD;omega
def allSmall_any (s:ByteArray)(w:Z0)(hs:s.size<=9223372036854775807) :
  Zu Z1 141 #[aI s] w λe w'=>e=aP (aH (F4 s))/\w=w':=by
 go_enter Tryz.func141,Tryz.ntmps141
 go_wp2
 go_loop [6] (λi=>∃ k:Nat,k<=s.size/\i=aA aM k/\MO (s.data.toList.take k)=oF) (λi=>s.size - (intOf i).toNat)
 case atStart=>exact⟨0,Ze _,rfl,rfl⟩
 case round =>
  obtain⟨k,hk,rfl,ht⟩:=hrel;have HT:=A0 ht;clear ht;by_cases ja:k<s.size
  ·have b0:(0:Int)<=(s[k].toNat:Int):=by omega
   have b1:(s[k].toNat:Int)<=255:=by have:=s[k].toNat_lt;omega
   by_cases hc:BD (s[k].toNat:Int)=1
   ·have jb:(BD (s[k].toNat:Int) != 1)=oH:=by rw[hc];rfl
    have HC:Hid ((BD (s[k].toNat:Int) == 1)=oF):=by show _=oF;rw[hc];rfl
    clear hc
    go_wp2_with (go_at_call 143;refine(DT _ _ b0 b1).mono ?_;rintro e w' ⟨rfl,rfl⟩)
    go_round
    case rel=>exact⟨k+1,by omega,by go_num,FM s k ja HT.out HC.out⟩
    case measure=>simp[intOf];omega
   ·have jb:(BD (s[k].toNat:Int) != 1)=oF:=by simpa using hc
    have HC:Hid ((BD (s[k].toNat:Int) == 1)=oH):=by show _=oH;simpa using hc
    clear hc
    go_wp2_with (go_at_call 143;refine(DT _ _ b0 b1).mono ?_;rintro e w' ⟨rfl,rfl⟩)
    go_ret;exact⟨Ad (DR s k ja HC.out).symm,rfl⟩
  ·have HA:=A0 (FL s k ja);go_wp2;go_ret;exact⟨Ad (by rw[F4,<- HA.out];exact HT.out.symm),rfl⟩
def allKnown_any (s:ByteArray)(w:Z0)(hs:s.size<=9223372036854775807) :
  Zu Z1 126 #[aI s] w λe w'=>e=aP (aH (EB s))/\w=w':=by
 go_enter Tryz.func126,Tryz.ntmps126
 go_wp2
 go_loop [6] (λi=>∃ k:Nat,k<=s.size/\i=aA aM k/\He (s.data.toList.take k)=true) (λi=>s.size - (intOf i).toNat)
 case atStart=>exact⟨0,Ze _,rfl,rfl⟩
 case round =>
  obtain⟨k,hk,rfl,ht⟩:=hrel;have HT:=A0 ht;clear ht;by_cases ja:k<s.size
  ·have b0:(0:Int)<=(s[k].toNat:Int):=by omega
   have b1:(s[k].toNat:Int)<=255:=by have:=s[k].toNat_lt;omega
   by_cases hc:BD (s[k].toNat:Int)=0
   ·have jb:(BD (s[k].toNat:Int) == 0)=true:=by rw[hc];rfl
    have HC:Hid ((!(BD (s[k].toNat:Int) == 0))=false):=by show _=false;rw[hc];rfl
    clear hc
    go_wp2_with (go_at_call 143;refine(DT _ _ b0 b1).mono ?_;rintro e w' ⟨rfl,rfl⟩)
    go_ret;exact⟨Ad (DR s k ja HC.out).symm,rfl⟩
   ·have jb:(BD (s[k].toNat:Int) == 0)=false:=by simpa using hc
    have HC:Hid ((!(BD (s[k].toNat:Int) == 0))=true):=by show _=true;simpa using hc
    clear hc
    go_wp2_with (go_at_call 143;refine(DT _ _ b0 b1).mono ?_;rintro e w' ⟨rfl,rfl⟩)
    go_round
    case rel=>exact⟨k+1,by omega,by go_num,FM s k ja HT.out HC.out⟩
    case measure=>simp[intOf];omega
  ·have HA:=A0 (FL s k ja);go_wp2;go_ret;exact⟨Ad (by rw[EB,<- HA.out];exact HT.out.symm),rfl⟩
def Id (m:Int)(r:Rl)(w:Z0) :
  Zu Z1 122 #[aA aM m,aJ #[aA aM r.frm,aA aM r.dst,aI r.inp,aI r.out,aA aM r.cost]] w λe w'=>e=aP (aH (DB m r))/\Below w.heap.size w w':=by
 go_enter Tryz.func122,Tryz.ntmps122
 go_wp2_with (first
  | (go_at_call 141;refine(allSmall_any _ _ (by omega)).mono ?_;rintro e w' ⟨rfl,rfl⟩)
  | (go_at_call 126;refine(allKnown_any _ _ (by omega)).mono ?_;rintro e w' ⟨rfl,rfl⟩))
 all_goals go_ret
 all_goals exact⟨Ad (by first | (simp[DB, *];done) | (simp[DB, *];omega)),by go_grown⟩
structure NU (w:Z0)(b o:Nat)(r:Rl):Prop where
 c0:w.cell? ⟨b,o,none⟩=some (aA aM r.frm)
 c1:w.cell? ⟨b,o+1,none⟩=some (aA aM r.dst)
 c2:w.cell? ⟨b,o+2,none⟩=some (aI r.inp)
 c3:w.cell? ⟨b,o+3,none⟩=some (aI r.out)
 c4:w.cell? ⟨b,o+4,none⟩=some (aA aM r.cost)
def NU.later {w w1:Z0}{B b o:Nat}{r:Rl}(h:NU w b o r)(hb:Below B w w1)(hg:b<B):NU w1 b o r :=
 ⟨(hb.cell (p:=⟨b,_,oS⟩) hg).trans h.c0,(hb.cell (p:=⟨b,_,oS⟩) hg).trans h.c1,(hb.cell (p:=⟨b,_,oS⟩) hg).trans h.c2,(hb.cell (p:=⟨b,_,oS⟩) hg).trans h.c3,(hb.cell (p:=⟨b,_,oS⟩) hg).trans h.c4⟩
def BC (w:Z0)(a:Option Zj)(R:List Rl):Prop :=
 R=[]\/∃ b o,a=oT ⟨b,o,oS⟩/\b<w.heap.size/\∀ i (h:i<oB R),NU w b (o+i*5) R[i]
def BC.later {w w1:Z0}{B:Nat}{a:Option Zj}{R:List Rl}(h:BC w a R)(hb:Below B w w1)(hB:w.heap.size<=B):BC w1 a R:=by
 rcases h with h | ⟨b,o,ha,ja,hr⟩
 · exact .inl h
 · exact .inr ⟨b,o,ha,A9 ja hb.size,λi hi=>(hr i hi).later hb (A9 ja hB)⟩
def BC.take {w:Z0}{a:Option Zj}{R:List Rl}(h:BC w a R)(k:Nat):BC w a (R.take k):=by
 rcases h with h | ⟨b,o,ha,ja,hr⟩
 · exact .inl (by rw[h];simp)
 ·refine .inr ⟨b,o,ha,ja,λi hi=>?_⟩;rw[Xi];exact hr i (by rw[AO]at hi;omega)
def BC.at {w:Z0}{a:Option Zj}{R:List Rl}(h:BC w a R){k:Nat}(hk:k<oB R):∃ b o,a=oT ⟨b,o,oS⟩/\b<w.heap.size/\NU w b (o+k*5) R[k]:=by
 rcases h with h | ⟨b,o,ha,ja,hr⟩
 · subst h;cases hk
 · exact⟨b,o,ha,ja,hr k hk⟩
def Bb (a:Option Zj)(b o len cap k:Nat)(ha:a=oT ⟨b,o,oS⟩)(hk:k<len)(w:Z0) :
  (ZK 31 (aG a len cap) (aA aM (k:Int))).run Z1 w=.ok (aB (oT ⟨b,o+k*5,oS⟩)) w:=by
 subst ha;have h0:(0:Int)<=(k:Int):=by omega
 have h1:(k:Int)<(len:Int):=by omega
 simp[go_sem,h0,h1]
def Et (r q:Rl):Bool:=decide (r.frm=q.frm) && (decide (r.dst=q.dst) && (decide (r.inp.toList=q.inp.toList) && (decide (r.out.toList=q.out.toList) && decide (r.cost=q.cost))))
def Lb (r q:Rl)(w:Z0) :
  (Go.binOp .eql 88 (aJ #[aA aM r.frm,aA aM r.dst,aI r.inp,aI r.out,aA aM r.cost]) (aJ #[aA aM q.frm,aA aM q.dst,aI q.inp,aI q.out,aA aM q.cost])).run Z1 w=.ok (aH (Et r q)) w:=by
 simp only[run_eql_struct];unfold Et;by_cases h1:r.frm=q.frm <;> by_cases h2:r.dst=q.dst <;> by_cases h3:r.inp.toList=q.inp.toList <;> by_cases h4:r.out.toList=q.out.toList <;> by_cases h5:r.cost=q.cost <;> simp[go_sem,h1,h2,h3,h4,h5]
def U3 (R:List Rl)(r:Rl)(w:Z0)(e:Ending)(w':Z0):Prop :=
 ∃ q:Int,e=aP (aA aM q)/\decide (0<=q)=R.any (Et r)/\Below w.heap.size w w'
def SG {R:List Rl}{p:Rl->Bool}{k:Nat}(hk:k<oB R)(hp:p R[k]=oF):R.any p=oF:=List.any_eq_true.2 ⟨R[k],AI _,hp⟩
def NW {R:List Rl}{p:Rl->Bool}{k:Nat}(hk:k<oB R)(h:(R.take k).any p=oH)(hp:p R[k]=oH):(R.take (k+1)).any p=oH:=by
 rw[AR hk,List.any_append,h];simp[hp]
def index_any (R:List Rl)(n:Nat)(a:Option Zj)(cap:Nat)(r:Rl)(w:Z0)(hR:BC w a R)(hL:n=oB R)(hn:n<=9223372036854775807) :
  Zu Z1 142 #[aG a n cap,aJ #[aA aM r.frm,aA aM r.dst,aI r.inp,aI r.out,aA aM r.cost]] w (U3 R r w):=by
 subst hL;have HR:=A0 hR;clear hR
 go_enter Tryz.func142,Tryz.ntmps142
 go_wp2
 go_loopw [8] (λi wr=>∃ k:Nat,k<=oB R/\i=aA aM k/\(R.take k).any (Et r)=oH/\Below (w.heap.size+1) (w.alloc (aK #[aA aM r.frm,aA aM r.dst,aI r.inp,aI r.out,aA aM r.cost] 88)) wr) (λi _=>oB R - (intOf i).toNat)
 case atStart=>exact⟨0,Ze _,rfl,rfl,Z2 _ _⟩
 case round =>
  obtain⟨k,hk,rfl,jd,jc⟩:=hrel;have HN:=A0 jd;clear jd;have hB:Below w.heap.size w wr:=((Z2 _ _).alloc (A5 _) _).trans (jc.mono (by omega));by_cases jb:k<oB R
  ·obtain⟨b,o,ha,hb,h0,h1,h2,h3,h4⟩:=HR.at jb;have hidx:=Bb a b o R.length cap k ha jb;have HA:=A0 ha;clear ha;have hcmp:=Lb r R[k];obtain⟨hz,hc,hf⟩:=Aw jc rfl;by_cases hq:Et r R[k]=oF
   ·have HQ:=A0 (SG jb hq);go_wp2
    go_region
    go_wp2;go_ret;exact⟨k,rfl,by rw[HQ.out];simp,by go_grown⟩
   ·have je:Et r R[k]=oH:=by simpa using hq
    have HQ:=A0 je;clear hq;go_wp2
    go_region
    go_wp2
    go_roundw
    case rel=>exact⟨k+1,by omega,by go_num,NW jb HN HQ,by go_grown⟩
    case measure=>simp[intOf];omega
  ·have ja:R.take k=R:=AH (by omega);have HA:=A0 ja;clear ja;go_wp2;go_ret;exact⟨-1,rfl,by rw[<- HA.out,HN.out];rfl,hB⟩
def I3 (R:List Rl)(n:Nat)(a:Option Zj)(cap:Nat)(r:Rl)(w:Z0)(hR:BC w a R)(hL:n=oB R)(hn:n<=9223372036854775807) :
  Zu Z1 123 #[aG a n cap,aJ #[aA aM r.frm,aA aM r.dst,aI r.inp,aI r.out,aA aM r.cost]] w λe w'=>e=aP (aH (R.any (Et r)))/\Below w.heap.size w w':=by
 have HR:Hid (BC (w.alloc (aK #[aA aM r.frm,aA aM r.dst,aI r.inp,aI r.out,aA aM r.cost] 88)) a R):=hR.later ((Z2 _ _).alloc (A5 _) _) (A5 _);have HL:=A0 hL;clear hR hL
 go_enter Tryz.func123,Tryz.ntmps123
 go_wp2_with (go_at_call 142;refine(index_any R _ _ _ r _ HR HL hn).mono ?_;rintro e w1 ⟨q,rfl,hq,hb⟩;have HQ:=A0 hq;have hB:=Ac (B:=w.heap.size) (w:=w) (by go_grown) hb (A5 _);clear hq hb)
 go_ret;exact⟨Ad HQ,hB⟩
structure Sch where
 modes:Int
 acc:Int
 rules:List Rl
def EI (S:Sch):Bool:=decide (1<=S.modes) && (decide (S.modes<=8) && (decide (oB S.rules<=64) && (decide (1<=S.acc) && decide (S.acc<2 ^ S.modes.toNat))))
def CW (S:Sch)(r:Rl)(R:List Rl):Bool:=DB S.modes r && !R.any (Et r)
def Fd (S:Sch)(k:Nat):Prop:=∀ i (h:i<oB S.rules),i<k->CW S S.rules[i] (S.rules.take i)=oF
def Jm (S:Sch):Prop:=EI S=oF/\Fd S S.rules.length
def below_drewN {B:Nat}(w:Z0)(n:Nat):Below B w (w.drewN n):=by
 exact⟨rfl,rfl,rfl,A5 _,λ_ _=>rfl⟩
open Classical in
noncomputable def validB (S:Sch):Bool:=decide (Jm S)
noncomputable def I4 (S:Sch):Int:=if validB S=oF then 0 else 20
def Lc (S:Sch)(w:Z0)(e:Ending)(w':Z0):Prop:=∃ i:Int,e=aP (.tuple #[aA aM i,aA aM (I4 S)])/\Below w.heap.size w w'
def Ql (a:Option Zj)(n cap k:Nat)(hk:k<=cap)(w:Z0) :
  (Xm 31 (aG a n cap) oS (oT (aA aM (k:Int))) oS).run Z1 w=.ok (aG a k cap) w:=by
 have h0:(0:Int)<=(k:Int):=by omega
 have h1:(k:Int)<=(cap:Int):=by omega
 cases a with
 | none=>simp[go_sem,Xm,Xw,XA,asIntOf,h0,h1];intro h;omega
 | some a=>simp[go_sem,Xm,Xw,XA,asIntOf,h0,h1];intro h;omega
def Px (n:Nat)(h:n<=8):0<=(2:Int) ^ n/\(2:Int) ^ n<=256:=by
 rcases(show n=0\/n=1\/n=2\/n=3\/n=4\/n=5\/n=6\/n=7\/n=8 by omega) with rfl | rfl | rfl | rfl | rfl | rfl | rfl | rfl | rfl <;> decide
def I5 {S:Sch}{k:Nat}(hk:k<oB S.rules)(h:Fd S k)(hg:CW S S.rules[k] (S.rules.take k)=oF):Fd S (k+1):=by
 intro i hi hik;by_cases e:i=k
 · subst e;exact hg
 · exact h i hi (by omega)
def CX {S:Sch}(h:¬ Jm S):I4 S=20:=by simp[I4,validB,h]
def Ld {S:Sch}(h:Jm S):I4 S=0:=by simp[I4,validB,h]
def Dl {S:Sch}(h:EI S=oH):¬ Jm S:=λv=>by rw[v.1]at h;cases h
def Oj {S:Sch}{k:Nat}(hk:k<oB S.rules)(h:CW S S.rules[k] (S.rules.take k)=oH):¬ Jm S:=λv=>by rw[v.2 k hk hk]at h;cases h
def check_any (S:Sch)(a:Option Zj)(cap:Nat)(w:Z0)(hR:BC w a S.rules)(h0:0<=S.acc)(h1:S.acc<=255)(hl:oB S.rules<=9223372036854775807)(hcap:oB S.rules<=cap) :
  Zu Z1 94 #[aJ #[aA aM S.modes,aA aO S.acc,aG a S.rules.length cap]] w (Lc S w):=by
 by_cases hm:S.modes<1
 ·have H:=A0 (CX (S:=S) (Dl (by simp[EI];omega)))
  go_enter Tryz.func94,xx
  go_wp2
  go_ret2
  exact⟨-1,by rw[H.out];rfl,by go_grown⟩
 by_cases hm2:8<S.modes
 ·have H:=A0 (CX (S:=S) (Dl (by simp[EI];omega)))
  go_enter Tryz.func94,xx
  go_wp2
  go_ret2
  exact⟨-1,by rw[H.out];rfl,by go_grown⟩
 by_cases hl64:64<oB S.rules
 ·have H:=A0 (CX (S:=S) (Dl (by simp[EI];omega)))
  go_enter Tryz.func94,xx
  go_wp2
  go_ret2
  exact⟨-1,by rw[H.out];rfl,by go_grown⟩
 by_cases ha1:S.acc<1
 ·have H:=A0 (CX (S:=S) (Dl (by simp[EI];omega)));have hd:decide (S.acc<1)=oF:=by simp;omega
  go_enter Tryz.func94,xx
  go_wp2
  go_quiet (fail)
  go_wp2
  go_ret2
  exact⟨-1,by rw[H.out];rfl,((Z2 _ _).alloc (A5 _) _).trans (below_drewN _ _)⟩
 have hd:decide (S.acc<1)=oH:=by simp;omega
 obtain⟨p2,ja⟩:∃ p,(2:Int) ^ S.modes.toNat=p:=⟨_,rfl⟩
 have hp0:0<=p2/\p2<=256:=by
  rw[<- ja];exact Px _ (by omega)
 have hw:wrap64 (2 ^ S.modes.toNat)=p2:=by rw[ja];exact IntWalk.wrap64_in _ (by omega)
 by_cases hp:p2<=S.acc
 ·have H:=A0 (CX (S:=S) (Dl (by unfold EI;rw[ja];simp only[Zg,Xc,decide_eq_true_eq,decide_eq_false_iff_not];omega)));have jk:=A0 ja;clear ja
  go_enter Tryz.func94,xx
  go_wp2
  go_quiet (fail)
  go_wp2
  go_ret2
  exact⟨-1,by rw[H.out];rfl,((Z2 _ _).alloc (A5 _) _).trans (below_drewN _ _)⟩
 have hd64:decide (64<(oB S.rules:Int))=oH:=by simp;omega
 have hdp:decide (p2<=S.acc)=oH:=by simp;omega
 have HH:Hid (EI S=oF):=by show _=oF;simp[EI,ja];omega
 have jk:=A0 ja;clear ja;have HR:=A0 hR;clear hR
 go_enter Tryz.func94,xx
 go_wp2
 go_quiet (fail)
 go_wp2;clear hw
 go_loopg [35] S.rules.length (λg i wr=>∃ k:Nat,k<=oB S.rules/\g=oB S.rules - k/\i=aA aM k/\Fd S k/\Below (w.heap.size+1) (w.alloc (aK #[aA aM S.modes,aA aO S.acc,aG a S.rules.length cap] 33)) wr)
 case atStart=>exact⟨0,Ze _,rfl,rfl,λi _ h=>by omega,(below_drewN _ _)⟩
 case round =>
  obtain⟨k,hk,rfl,rfl,hv,jb⟩:=hrel;have HV:=A0 hv;clear hv;have hB:Below w.heap.size w wr:=((Z2 _ _).alloc (A5 _) _).trans (jb.mono (by omega));obtain⟨hz,hc,hf⟩:=Aw jb rfl;simp only[A8]at hz;by_cases jc:k<oB S.rules
  ·have jf:BC wr a S.rules:=HR.later hB (A5 _);obtain⟨b,o,ha,hb,q0,q1,q2,q3,q4⟩:=jf.at jc;have je:Hid (BC wr a (S.rules.take k)):=jf.take k;have ji:Hid (k=(S.rules.take k).length):=by show k=_;rw[AO];omega
   have hidx:=Bb a b o S.rules.length cap k ha jc;have hsl:=Ql a S.rules.length cap k (by omega);have HA:=A0 ha;clear ha jf;by_cases hr:DB S.modes S.rules[k]=oF
   ·have HQ:=A0 hr;by_cases jg:(S.rules.take k).any (Et S.rules[k])=oF
    ·have HB:Hid (I4 S=20):=CX (Oj jc (by simp[CW,hr,jg]))
     go_wp2_with fail
     go_region_held3 (λw'=>w'.cell? ⟨w.heap.size,0,oS⟩=oT (aA aM S.modes)/\w'.cell? ⟨w.heap.size,2,oS⟩=oT (aG a S.rules.length cap)/\w'.cell? ⟨wr.heap.size,0,oS⟩=oT (aA aM S.rules[k].frm)/\w'.cell? ⟨wr.heap.size,1,oS⟩=oT (aA aM S.rules[k].dst)/\w'.cell? ⟨wr.heap.size,2,oS⟩=oT (aI S.rules[k].inp)/\w'.cell? ⟨wr.heap.size,3,oS⟩=oT (aI S.rules[k].out)/\w'.cell? ⟨wr.heap.size,4,oS⟩=oT (aA aM S.rules[k].cost)) (first | (simp[go_sem, *];done) | go_keep) (first | (go_at_call 122;refine(Id _ S.rules[k] _).mono ?_;rintro e w1 ⟨he,hb⟩;rw[HQ.out]at he;subst he;have jd:Hid (BC w1 a (S.rules.take k)):=je.later (Ac (B:=wr.heap.size) (w:=wr) (by go_grown) hb (A5 _)) (A5 _);obtain⟨hz,hc,hf⟩:=Ap hb (by first | (simp only[A8,Zb,Zi];rfl) | rfl);have hB:=Ac (B:=w.heap.size) (w:=w) (by go_grown) hb (A5 _);have jb:=Ac (B:=w.heap.size+1) (w:=w.alloc (aK #[aA aM S.modes,aA aO S.acc,aG a S.rules.length cap] 33)) (by go_grown) hb (by simp);clear hb) | (go_at_call 123;refine(I3 (S.rules.take k) _ _ _ S.rules[k] _ jd ji (by omega)).mono ?_;rintro e w1 ⟨rfl,hb⟩;obtain⟨hz,hc,hf⟩:=Ap hb (by first | (simp only[A8,Zb,Zi];rfl) | rfl);have hB:=Ac (B:=w.heap.size) (w:=w) (by go_grown) hb (A5 _);have jb:=Ac (B:=w.heap.size+1) (w:=w.alloc (aK #[aA aM S.modes,aA aO S.acc,aG a S.rules.length cap] 33)) (by go_grown) hb (by simp);clear hb))
     all_goals
      go_wp2
      go_ret2
      exact⟨k,by rw[HB.out];rfl,by go_grown⟩
    ·have jh:(S.rules.take k).any (Et S.rules[k])=oH:=by simpa using jg
     have HB:Hid (Fd S (k+1)):=I5 jc HV (by simp[CW,hr,jh]);clear jg
     go_wp2_with fail
     go_region_held3 (λw'=>w'.cell? ⟨w.heap.size,0,oS⟩=oT (aA aM S.modes)/\w'.cell? ⟨w.heap.size,2,oS⟩=oT (aG a S.rules.length cap)/\w'.cell? ⟨wr.heap.size,0,oS⟩=oT (aA aM S.rules[k].frm)/\w'.cell? ⟨wr.heap.size,1,oS⟩=oT (aA aM S.rules[k].dst)/\w'.cell? ⟨wr.heap.size,2,oS⟩=oT (aI S.rules[k].inp)/\w'.cell? ⟨wr.heap.size,3,oS⟩=oT (aI S.rules[k].out)/\w'.cell? ⟨wr.heap.size,4,oS⟩=oT (aA aM S.rules[k].cost)) (first | (simp[go_sem, *];done) | go_keep) (first | (go_at_call 122;refine(Id _ S.rules[k] _).mono ?_;rintro e w1 ⟨he,hb⟩;rw[HQ.out]at he;subst he;have jd:Hid (BC w1 a (S.rules.take k)):=je.later (Ac (B:=wr.heap.size) (w:=wr) (by go_grown) hb (A5 _)) (A5 _);obtain⟨hz,hc,hf⟩:=Ap hb (by first | (simp only[A8,Zb,Zi];rfl) | rfl);have hB:=Ac (B:=w.heap.size) (w:=w) (by go_grown) hb (A5 _);have jb:=Ac (B:=w.heap.size+1) (w:=w.alloc (aK #[aA aM S.modes,aA aO S.acc,aG a S.rules.length cap] 33)) (by go_grown) hb (by simp);clear hb) | (go_at_call 123;refine(I3 (S.rules.take k) _ _ _ S.rules[k] _ jd ji (by omega)).mono ?_;rintro e w1 ⟨rfl,hb⟩;obtain⟨hz,hc,hf⟩:=Ap hb (by first | (simp only[A8,Zb,Zi];rfl) | rfl);have hB:=Ac (B:=w.heap.size) (w:=w) (by go_grown) hb (A5 _);have jb:=Ac (B:=w.heap.size+1) (w:=w.alloc (aK #[aA aM S.modes,aA aO S.acc,aG a S.rules.length cap] 33)) (by go_grown) hb (by simp);clear hb))
     all_goals
      go_wp2
      go_roundg (oB S.rules - (k+1))
      case rel=>exact⟨k+1,by omega,rfl,by go_num,HB,by go_grown⟩
      case measure=>omega
   ·have jj:DB S.modes S.rules[k]=oH:=by simpa using hr
    have HQ:=A0 jj;have HB:Hid (I4 S=20):=CX (Oj jc (by simp[CW,jj]));clear hr
    go_wp2_with fail
    first | (go_region_with (go_at_call 122;refine(Id _ S.rules[k] _).mono ?_;rintro e w1 ⟨he,hb⟩;rw[HQ.out]at he;subst he;have jd:Hid (BC w1 a (S.rules.take k)):=je.later (Ac (B:=wr.heap.size) (w:=wr) (by go_grown) hb (A5 _)) (A5 _);obtain⟨hz,hc,hf⟩:=Ap hb (by first | (simp only[A8,Zb,Zi];rfl) | rfl);have hB:=Ac (B:=w.heap.size) (w:=w) (by go_grown) hb (A5 _);have jb:=Ac (B:=w.heap.size+1) (w:=w.alloc (aK #[aA aM S.modes,aA aO S.acc,aG a S.rules.length cap] 33)) (by go_grown) hb (by simp);clear hb)) | fail
    all_goals
     go_wp2
     go_ret2
     exact⟨k,by rw[HB.out];rfl,by go_grown⟩
  ·obtain rfl:k=oB S.rules:=by omega
   have HB:Hid (I4 S=0):=Ld ⟨HH,HV⟩;go_wp2
   go_ret2
   exact⟨_,by rw[HB.out];rfl,hB⟩
def FN (S:Sch)(a:Option Zj)(cap:Nat)(w:Z0)(hR:BC w a S.rules)(h0:0<=S.acc)(h1:S.acc<=255)(hl:oB S.rules<=9223372036854775807)(ja:oB S.rules<=cap) :
  Zu Z1 63 #[aJ #[aA aM S.modes,aA aO S.acc,aG a S.rules.length cap]] w λe w'=>e=aP (aH (validB S))/\Below w.heap.size w w':=by
 have HR:Hid (BC (w.alloc (aK #[aA aM S.modes,aA aO S.acc,aG a S.rules.length cap] 33)) a S.rules):=hR.later ((Z2 _ _).alloc (A5 _) _) (A5 _);have HE:Hid ((I4 S == 0)=validB S):=by show _=_;unfold I4;cases validB S <;> rfl
 clear hR
 go_enter Tryz.func63,Tryz.ntmps63
 go_wp2_with (go_at_call 94;refine(check_any S a cap _ HR h0 h1 hl ja).mono ?_;rintro e w1 ⟨i,rfl,hb⟩;have hB:=Ac (B:=w.heap.size) (w:=w) (by go_grown) hb (A5 _);clear hb)
 go_ret;exact⟨Ad HE,hB⟩
structure Ed where
 f:Nat
 t:Nat
 e:Bool
def Rl.ed (r:Rl):Ed:=⟨r.frm.toNat,r.dst.toNat,decide (r.inp.size=0)⟩
def Sch.eds (S:Sch):List Ed:=S.rules.map Rl.ed
def BK (L:Nat)(x:Ed):Nat:=if L.testBit x.f then L ||| 2 ^ x.t else L
def C4 (L:Nat)(x:Ed):Nat:=if L.testBit x.t then L ||| 2 ^ x.f else L
def Bc (f:Nat->Nat):Nat->Nat->Nat
 | 0,x=>x
 | n+1,x=>f (Bc f n x)
def Eb (E:List Ed)(m:Nat):Nat:=Bc (λL=>E.foldl BK L) m 1
def GD (E:List Ed)(m acc:Nat):Nat:=Bc (λL=>E.foldl C4 L) m acc
def GE (n:Nat)(E:List Ed):Prop:=∀ x∈E,x.f<n/\x.t<n
def Fe (t:Nat)(h:t<8):2 ^ t<256:=by
 rcases(show t=0\/t=1\/t=2\/t=3\/t=4\/t=5\/t=6\/t=7 by omega) with rfl | rfl | rfl | rfl | rfl | rfl | rfl | rfl <;> decide
def SH {a b:Nat}(h:a<256)(h2:b<256):a ||| b<256:=Nat.or_lt_two_pow (n:=8) h h2
def NY {L:Nat}{x:Ed}(h:L<256)(h2:x.t<8):BK L x<256:=by
 unfold BK;split
 · exact SH h (Fe _ h2)
 · exact h
def NZ {L:Nat}{x:Ed}(h:L<256)(h2:x.f<8):C4 L x<256:=by
 unfold C4;split
 · exact SH h (Fe _ h2)
 · exact h
def Na:∀ (E:List Ed) (L:Nat),GE 8 E->L<256->E.foldl BK L<256
 | [],L,_,h=>h
 | x :: E,L,hE,h=>Na E _ (λy hy=>hE y (by simp[hy])) (NY h (hE x (by simp)).2)
def Nb:∀ (E:List Ed) (L:Nat),GE 8 E->L<256->E.foldl C4 L<256
 | [],L,_,h=>h
 | x :: E,L,hE,h=>Nb E _ (λy hy=>hE y (by simp[hy])) (NZ h (hE x (by simp)).1)
def Ie {f:Nat->Ed->Nat}{E:List Ed}{k:Nat}(hk:k<oB E)(L:Nat):(E.take (k+1)).foldl f L=f ((E.take k).foldl f L) E[k]:=by
 rw[AR hk,List.foldl_append];rfl
def Ol (L m:Nat):L &&& 2 ^ m=if L.testBit m then 2 ^ m else 0:=by
 apply Nat.eq_of_testBit_eq;intro i;rw[Nat.testBit_and,X4];by_cases h:m=i
 ·subst h;cases hl:L.testBit m <;> simp[X4]
 · cases hl:L.testBit m <;> simp[X4,h]
def U4 (L m:Nat):(((L &&& 2 ^ m:Nat):Int) != 0)=L.testBit m:=by
 rw[Ol];have:0<2 ^ m:=Nat.two_pow_pos m;cases h:L.testBit m
 · simp
 · rw[if_pos rfl];exact bne_iff_ne.2 (by omega)
structure Fit (S:Sch):Prop where
 m0:1<=S.modes
 m1:S.modes<=8
 a0:0<=S.acc
 a1:S.acc<=255
 len:oB S.rules<=64
 at0:∀ i (h:i<oB S.rules),0<=S.rules[i].frm/\S.rules[i].frm<S.modes/\0<=S.rules[i].dst/\S.rules[i].dst<S.modes
def Fit.within {S:Sch}(h:Fit S):GE 8 S.eds:=by
 intro x hx;obtain⟨r,hr,rfl⟩:=AJ.1 hx;obtain⟨i,hi,rfl⟩:=ZH.1 hr;have:=h.at0 i hi;have:=h.m1;unfold Rl.ed;simp only;omega
def EM (S:Sch):S.eds.length=oB S.rules:=by simp[Sch.eds]
def Om (S:Sch)(k:Nat)(h:k<oB S.rules):S.eds[k]'(by rw[EM];exact h)=S.rules[k].ed:=by simp[Sch.eds]
def Ew (m:Int)(w:Z0)(h0:0<=m)(h1:m<8) :
  Zu Z1 95 #[aA aM m] w λe w'=>e=aP (aA aO ((2 ^ m.toNat:Nat):Int))/\w=w':=by
 rcases(show m=0\/m=1\/m=2\/m=3\/m=4\/m=5\/m=6\/m=7 by omega) with rfl | rfl | rfl | rfl | rfl | rfl | rfl | rfl
 all_goals
  go_enter Tryz.func95,Tryz.ntmps95
  go_wp2;go_ret;exact⟨BH (by decide),rfl⟩
def Dj (L:Nat)(m:Int)(w:Z0)(hL:L<256)(h0:0<=m)(h1:m<8) :
  Zu Z1 65 #[aA aO (L:Int),aA aM m] w λe w'=>e=aP (aH (L.testBit m.toNat))/\w=w':=by
 have hp:=Fe m.toNat (by omega);have ha:bits .and aO (L:Int) ((2 ^ m.toNat:Nat):Int)=((L &&& 2 ^ m.toNat:Nat):Int):=u8_and_nat _ _ hL hp;have hb:=U4 L m.toNat;generalize ja:(2 ^ m.toNat:Nat)=p at *;generalize ho:L.testBit m.toNat=o at *;have HO:=A0 ho;have HP:=A0 ja;clear ho ja;generalize (L &&& p:Nat)=q at *
 go_enter Tryz.func65,Tryz.ntmps65
 go_wp2_with (go_at_call 95;refine(Ew m _ h0 h1).mono ?_;rintro e w' ⟨he,rfl⟩;rw[HP.out]at he;subst he)
 go_ret;exact⟨rfl,rfl⟩
def reached_any (S:Sch)(a:Option Zj)(cap:Nat)(w:Z0)(hR:BC w a S.rules)(hS:Fit S) :
  Zu Z1 66 #[aJ #[aA aM S.modes,aA aO S.acc,aG a S.rules.length cap]] w λe w'=>e=aP (aA aO ((Eb S.eds S.modes.toNat:Nat):Int))/\Below w.heap.size w w':=by
 obtain⟨m0,m1,a0,a1,jg,at0⟩:=hS;have HW:Hid (GE 8 S.eds):=Fit.within ⟨m0,m1,a0,a1,jg,at0⟩;have HR:=A0 hR;have ji:=A0 at0;clear hR at0;obtain⟨mm,jd⟩:=ZY (show 0<=S.modes by omega);obtain⟨sm,jl⟩:∃ x,S.modes=x:=⟨_,rfl⟩
 obtain⟨A,hA⟩:∃ A:Nat,S.acc=(A:Int):=⟨S.acc.toNat,by omega⟩
 rw[hA]at a0 a1;rw[jd]at m0 m1;rw[jd,hA];have HM:Hid (S.modes.toNat=mm):=by show _=_;omega
 have HA:Hid (S.acc.toNat=A):=by show _=_;omega
 have jj:=A0 jd;clear hA jd jl
 go_enter Tryz.func66,Tryz.ntmps66
 go_wp2_with (go_at_call 95;refine(Ew _ _ (by omega) (by omega)).mono ?_;rintro e w' ⟨rfl,rfl⟩)
 go_loopw [3,9] (λl j wr=>∃ k:Nat,k<=mm/\j=aA aM k/\∃ L:Nat,L=Bc (λL=>S.eds.foldl BK L) k 1/\L<256/\l=aA aO (L:Int)/\Below (w.heap.size+1) (w.alloc (aK #[aA aM (mm:Int),aA aO (A:Int),aG a S.rules.length cap] 33)) wr) (λ_ j _=>mm - (intOf j).toNat)
 case atStart=>exact⟨0,by omega,rfl,_,rfl,by show(_:Nat)<256;first | (show(1:Nat)<256;omega) | (show A<256;omega),rfl,Z2 _ _⟩
 case round =>
  obtain⟨k,hk,rfl,L,hL,jk,rfl,ja⟩:=hrel;obtain⟨wo,rfl⟩:∃ wo:Z0,wo=wr:=⟨_,rfl⟩
  have HL:=A0 hL;clear hL;obtain⟨hz,hc,hf⟩:=Aw ja rfl;simp only[A8]at hz;by_cases hlt:k<mm
  ·go_wp2
   go_loopw [3,14] (λl j wr=>∃ i:Nat,i<=oB S.rules/\j=aA aM i/\∃ Q:Nat,Q=(S.eds.take i).foldl BK L/\Q<256/\l=aA aO (Q:Int)/\Below (w.heap.size+1) (w.alloc (aK #[aA aM (mm:Int),aA aO (A:Int),aG a S.rules.length cap] 33)) wr) (λ_ j _=>oB S.rules - (intOf j).toNat)
   case atStart=>exact⟨0,by omega,rfl,_,rfl,jk,rfl,ja⟩
   case round =>
    obtain⟨i,hi,rfl,Q,hQ,jc,rfl,ja⟩:=hrel;have HQ:=A0 hQ;clear hQ hc hf hz;have hB:Below w.heap.size w wr:=((Z2 _ _).alloc (A5 _) _).trans (ja.mono (by omega));obtain⟨hz,hc,hf⟩:=Aw ja rfl;simp only[A8]at hz;by_cases jb:i<oB S.rules
    ·obtain⟨b,o,ha,hb,q0,q1,q2,q3,q4⟩:=(HR.later hB (A5 _)).at jb;have hidx:=Bb a b o S.rules.length cap i ha jb;have HAd:=A0 ha;clear ha;obtain⟨f0,f1,t0,t1⟩:=ji i jb;rw[jj.out]at f1 t1;have HE:Hid (S.eds[i]'(by rw[EM];exact jb)=S.rules[i].ed):=Om S i jb;have HF:Hid ((S.eds.take (i+1)).foldl BK L=BK Q S.rules[i].ed):=by
      show _=_;rw[Ie (by rw[EM];exact jb),HE.out,<- HQ.out]
     have jh:Hid (BK Q S.rules[i].ed<256):=NY jc (by show S.rules[i].dst.toNat<8;omega);by_cases je:Q.testBit S.rules[i].frm.toNat=oF
     ·have jf:Hid (BK Q S.rules[i].ed=Q ||| 2 ^ S.rules[i].dst.toNat):=by show _=_;unfold BK;rw[if_pos (by exact je)];rfl
      have hor:bits .or aO (Q:Int) ((2 ^ S.rules[i].dst.toNat:Nat):Int)=((Q ||| 2 ^ S.rules[i].dst.toNat:Nat):Int):=u8_or_nat _ _ jc (Fe _ (by omega));generalize hp:(2 ^ S.rules[i].dst.toNat:Nat)=p at *;have HP:=A0 hp;clear hp
      go_wp2_with (first
       | (go_at_call 65;refine(Dj _ _ _ jc f0 (by omega)).mono ?_;rintro e w' ⟨rfl,rfl⟩)
       | (go_at_call 95;refine(Ew _ _ t0 (by omega)).mono ?_;rintro e w' ⟨he,rfl⟩;rw[HP.out]at he;subst he))
      go_roundw
      case rel=>exact⟨i+1,by omega,by go_num,_,HF.symm,jh,by rw[jf.out],by go_grown⟩
      case measure=>simp[intOf];omega
     ·have htb':Q.testBit S.rules[i].frm.toNat=oH:=by simpa using je
      have jf:Hid (BK Q S.rules[i].ed=Q):=by show _=_;unfold BK;rw[if_neg (by exact je)]
      clear je
      go_wp2_with (first
       | (go_at_call 65;refine(Dj _ _ _ jc f0 (by omega)).mono ?_;rintro e w' ⟨rfl,rfl⟩))
      go_roundw
      case rel=>exact⟨i+1,by omega,by go_num,_,HF.symm,jh,by rw[jf.out],by go_grown⟩
      case measure=>simp[intOf];omega
    ·obtain rfl:i=oB S.rules:=by omega
     have HF:Hid (S.eds.take S.rules.length=S.eds):=AH (by rw[EM];exact A5 _);go_wp2
     go_roundw
     case rel=>exact⟨k+1,by omega,by go_num,Q,by rw[HQ.out,HF.out,HL.out];rfl,jc,rfl,ja⟩
     case measure=>simp[intOf];omega
  ·obtain rfl:k=mm:=by omega
   have hB:Below w.heap.size w wo:=((Z2 _ _).alloc (A5 _) _).trans (ja.mono (by omega));go_wp2;go_ret;exact⟨BH (by rw[HL.out];rfl),hB⟩
def live_any (S:Sch)(a:Option Zj)(cap:Nat)(w:Z0)(hR:BC w a S.rules)(hS:Fit S) :
  Zu Z1 64 #[aJ #[aA aM S.modes,aA aO S.acc,aG a S.rules.length cap]] w λe w'=>e=aP (aA aO ((GD S.eds S.modes.toNat S.acc.toNat:Nat):Int))/\Below w.heap.size w w':=by
 obtain⟨m0,m1,a0,a1,jg,at0⟩:=hS;have HW:Hid (GE 8 S.eds):=Fit.within ⟨m0,m1,a0,a1,jg,at0⟩;have HR:=A0 hR;have ji:=A0 at0;clear hR at0;obtain⟨mm,jd⟩:=ZY (show 0<=S.modes by omega);obtain⟨sm,jl⟩:∃ x,S.modes=x:=⟨_,rfl⟩
 obtain⟨A,hA⟩:∃ A:Nat,S.acc=(A:Int):=⟨S.acc.toNat,by omega⟩
 rw[hA]at a0 a1;rw[jd]at m0 m1;rw[jd,hA];have HM:Hid (S.modes.toNat=mm):=by show _=_;omega
 have HA:Hid (S.acc.toNat=A):=by show _=_;omega
 have jj:=A0 jd;clear hA jd jl
 go_enter Tryz.func64,Tryz.ntmps64
 go_wp2_with (go_at_call 95;refine(Ew _ _ (by omega) (by omega)).mono ?_;rintro e w' ⟨rfl,rfl⟩)
 go_loopw [3,10] (λl j wr=>∃ k:Nat,k<=mm/\j=aA aM k/\∃ L:Nat,L=Bc (λL=>S.eds.foldl C4 L) k A/\L<256/\l=aA aO (L:Int)/\Below (w.heap.size+1) (w.alloc (aK #[aA aM (mm:Int),aA aO (A:Int),aG a S.rules.length cap] 33)) wr) (λ_ j _=>mm - (intOf j).toNat)
 case atStart=>exact⟨0,by omega,rfl,_,rfl,by show(_:Nat)<256;first | (show(1:Nat)<256;omega) | (show A<256;omega),rfl,Z2 _ _⟩
 case round =>
  obtain⟨k,hk,rfl,L,hL,jk,rfl,ja⟩:=hrel;obtain⟨wo,rfl⟩:∃ wo:Z0,wo=wr:=⟨_,rfl⟩
  have HL:=A0 hL;clear hL;obtain⟨hz,hc,hf⟩:=Aw ja rfl;simp only[A8]at hz;by_cases hlt:k<mm
  ·go_wp2
   go_loopw [3,15] (λl j wr=>∃ i:Nat,i<=oB S.rules/\j=aA aM i/\∃ Q:Nat,Q=(S.eds.take i).foldl C4 L/\Q<256/\l=aA aO (Q:Int)/\Below (w.heap.size+1) (w.alloc (aK #[aA aM (mm:Int),aA aO (A:Int),aG a S.rules.length cap] 33)) wr) (λ_ j _=>oB S.rules - (intOf j).toNat)
   case atStart=>exact⟨0,by omega,rfl,_,rfl,jk,rfl,ja⟩
   case round =>
    obtain⟨i,hi,rfl,Q,hQ,jc,rfl,ja⟩:=hrel;have HQ:=A0 hQ;clear hQ hc hf hz;have hB:Below w.heap.size w wr:=((Z2 _ _).alloc (A5 _) _).trans (ja.mono (by omega));obtain⟨hz,hc,hf⟩:=Aw ja rfl;simp only[A8]at hz;by_cases jb:i<oB S.rules
    ·obtain⟨b,o,ha,hb,q0,q1,q2,q3,q4⟩:=(HR.later hB (A5 _)).at jb;have hidx:=Bb a b o S.rules.length cap i ha jb;have HAd:=A0 ha;clear ha;obtain⟨f0,f1,t0,t1⟩:=ji i jb;rw[jj.out]at f1 t1;have HE:Hid (S.eds[i]'(by rw[EM];exact jb)=S.rules[i].ed):=Om S i jb;have HF:Hid ((S.eds.take (i+1)).foldl C4 L=C4 Q S.rules[i].ed):=by
      show _=_;rw[Ie (by rw[EM];exact jb),HE.out,<- HQ.out]
     have jh:Hid (C4 Q S.rules[i].ed<256):=NZ jc (by show S.rules[i].frm.toNat<8;omega);by_cases je:Q.testBit S.rules[i].dst.toNat=oF
     ·have jf:Hid (C4 Q S.rules[i].ed=Q ||| 2 ^ S.rules[i].frm.toNat):=by show _=_;unfold C4;rw[if_pos (by exact je)];rfl
      have hor:bits .or aO (Q:Int) ((2 ^ S.rules[i].frm.toNat:Nat):Int)=((Q ||| 2 ^ S.rules[i].frm.toNat:Nat):Int):=u8_or_nat _ _ jc (Fe _ (by omega));generalize hp:(2 ^ S.rules[i].frm.toNat:Nat)=p at *;have HP:=A0 hp;clear hp
      go_wp2_with (first
       | (go_at_call 65;refine(Dj _ _ _ jc t0 (by omega)).mono ?_;rintro e w' ⟨rfl,rfl⟩)
       | (go_at_call 95;refine(Ew _ _ f0 (by omega)).mono ?_;rintro e w' ⟨he,rfl⟩;rw[HP.out]at he;subst he))
      go_roundw
      case rel=>exact⟨i+1,by omega,by go_num,_,HF.symm,jh,by rw[jf.out],by go_grown⟩
      case measure=>simp[intOf];omega
     ·have htb':Q.testBit S.rules[i].dst.toNat=oH:=by simpa using je
      have jf:Hid (C4 Q S.rules[i].ed=Q):=by show _=_;unfold C4;rw[if_neg (by exact je)]
      clear je
      go_wp2_with (first
       | (go_at_call 65;refine(Dj _ _ _ jc t0 (by omega)).mono ?_;rintro e w' ⟨rfl,rfl⟩))
      go_roundw
      case rel=>exact⟨i+1,by omega,by go_num,_,HF.symm,jh,by rw[jf.out],by go_grown⟩
      case measure=>simp[intOf];omega
    ·obtain rfl:i=oB S.rules:=by omega
     have HF:Hid (S.eds.take S.rules.length=S.eds):=AH (by rw[EM];exact A5 _);go_wp2
     go_roundw
     case rel=>exact⟨k+1,by omega,by go_num,Q,by rw[HQ.out,HF.out,HL.out];rfl,jc,rfl,ja⟩
     case measure=>simp[intOf];omega
  ·obtain rfl:k=mm:=by omega
   have hB:Below w.heap.size w wo:=((Z2 _ _).alloc (A5 _) _).trans (ja.mono (by omega));go_wp2;go_ret;exact⟨BH (by rw[HL.out];rfl),hB⟩
open Go.RowKit Go.Conc
def wpK (P:Program)(c:Code)(Q:Exit->Act->Z0->Prop)(a:Act)(w:Z0):Prop :=
 ∀ (b:Frame),b.kind≠.early->∀ (k:List Item) (cs:List Frame),∃ e a' w',Q e a' w'/\Arrives P (lone (b.at a (.code c :: k)) cs w) b k cs e a' w'
def wpS (P:Program)(ops:Array ZX)(l:List Nat)(Q:Exit->Act->Z0->Prop)(a:Act)(w:Z0):Prop :=
 ∀ (b:Frame),b.kind≠.early->∀ (k:List Item) (cs:List Frame),∃ e a' w',Q e a' w'/\Arrives P (lone (b.at a (.inRegion ops l :: k)) cs w) b k cs e a' w'
section
variable {P:Program} {Q:Exit->Act->World->Prop} {a:Act} {w:World}
def Ff {c:Code}(h:c.wp P Q a w):wpK P c Q a w:=λb _ k cs=>h b k cs
def Cu {x y:Code}(h:wpK P x (Exit.then (wpK P y Q) Q) a w):wpK P (Code.seq x y) Q a w:=by
 intro b hb k cs;obtain⟨e,a₁,w₁,hq,ja⟩:=h b hb (.code y :: k) cs;cases e with
 | normal =>
  obtain⟨e₂,a₂,w₂,jc,jb⟩:=hq b hb k cs;exact⟨e₂,a₂,w₂,jc,.of_steps (.head step_seq ja) jb⟩
 | exit id=>exact⟨_,a₁,w₁,hq,.of_steps (.one step_seq) (.pass (x:=.code y) rfl (λ_ _=>.inl (by simp)) ja)⟩
 | goto l=>exact⟨_,a₁,w₁,hq,.of_steps (.one step_seq) (.pass (x:=.code y) rfl (λ_ _=>.inl (by simp)) ja)⟩
 | ret=>exact⟨_,a₁,w₁,hq,.of_steps (.one step_seq) (.pass (x:=.code y) rfl (λ_ _=>.inl (by simp)) ja)⟩
 | panic ch=>exact⟨_,a₁,w₁,hq,.of_steps (.one step_seq) (.pass (x:=.code y) rfl (λ_ _=>.inl (by simp)) ja)⟩
 | outgrown=>exact⟨_,a₁,w₁,hq,.of_steps (.one step_seq) (.pass (x:=.code y) rfl (λ_ _=>.inl (by simp)) ja)⟩
def BP {x y:Code}(h:∀ K:Act->Z0->Prop,(∀ a w,wpK P y Q a w->K a w)->x.wp P (Exit.then K Q) a w):wpK P (Code.seq x y) Q a w :=
 Cu (Ff (h _ λ_ _ h=>h))
def Nc {c:Operand}{x y:Code}{t:Bool}(hc:a.eval c=aH t)(h:wpK P (if t then x else y) Q a w):wpK P (Code.cond c x y) Q a w :=
 λb hb k cs=>let⟨e,a',w',q,r⟩:=h b hb k cs;⟨e,a',w',q,.of_steps (.one (step_cond hc)) r⟩
def GY {id:Nat}{c:Code}(h:wpK P c (zU id Q) a w):wpK P (Code.block id c) Q a w:=by
 intro b hb k cs;obtain⟨e,a₁,w₁,hq,ja⟩:=h b hb (.inBlock id :: k) cs;cases e with
 | normal=>exact⟨.normal,a₁,w₁,hq,.head step_block (Steps.trans ja (.one step_inBlock))⟩
 | exit id' =>
  by_cases hid:id'=id
  ·simp only[zU,hid,if_true]at hq;exact⟨.normal,a₁,w₁,hq,.head step_block (ja k (by simp[exitTo,hid]))⟩
  ·simp only[zU,hid,if_false]at hq;refine⟨.exit id',a₁,w₁,hq,λk' hk=>.head step_block (ja k' ?_)⟩;have:(id == id')=oH:=by simp;exact λh=>hid h.symm
   simp[exitTo,this,hk]
 | goto l=>exact⟨_,a₁,w₁,hq,λk' hk=>.head step_block (ja k' (by simp[gotoIn,hk]))⟩
 | ret=>exact⟨_,a₁,w₁,hq,.of_steps (.one step_block) ja⟩
 | panic ch=>exact⟨_,a₁,w₁,hq,.of_steps (.one step_block) ja⟩
 | outgrown=>exact⟨_,a₁,w₁,hq,.of_steps (b:=b) (k:=k) (cs:=cs) (e:=.outgrown) (.one step_block) ja⟩
def wpK_loopG {c:Code}(I:Nat->Act->Z0->Prop)(n:Nat)(h₀:I n a w)
  (round:∀ n a w,I n a w->wpK P c (Exit.then (λa' w'=>∃ m,m<n/\I m a' w') Q) a w):wpK P (Code.loop c) Q a w:=by
 intro b hb k cs;have key:∀ n a w,I n a w ->
   ∃ e a' w',Q e a' w'/\Arrives P (lone (b.at a (.code c :: .inLoop c :: k)) cs w) b k cs e a' w':=by
  intro n
  induction n using zF with
  | _
    n ih =>
   intro a w hI;obtain⟨e,a₁,w₁,hq,ja⟩:=round n a w hI b hb (.inLoop c :: k) cs;cases e with
   | normal =>
    obtain⟨m,jd,jc⟩:=hq;obtain⟨e₂,a₂,w₂,je,jb⟩:=ih m jd a₁ w₁ jc;exact⟨e₂,a₂,w₂,je,.of_steps (Steps.trans ja (.one step_inLoop)) jb⟩
   | exit id=>exact⟨_,a₁,w₁,hq,.pass (x:=.inLoop c) rfl (λ_ _=>.inl (by simp)) ja⟩
   | goto l=>exact⟨_,a₁,w₁,hq,.pass (x:=.inLoop c) rfl (λ_ _=>.inl (by simp)) ja⟩
   | ret=>exact⟨_,a₁,w₁,hq,.pass (x:=.inLoop c) rfl (λ_ _=>.inl (by simp)) ja⟩
   | panic ch=>exact⟨_,a₁,w₁,hq,.pass (x:=.inLoop c) rfl (λ_ _=>.inl (by simp)) ja⟩
   | outgrown=>exact⟨_,a₁,w₁,hq,.pass (x:=.inLoop c) rfl (λ_ _=>.inl (by simp)) ja⟩
 obtain⟨e,a',w',hq,ja⟩:=key _ a w h₀;exact⟨e,a',w',hq,.of_steps (.one step_loop) ja⟩
def ET {c:Operand}{x y:Code}(hc:a.eval c=aH oF)(h:wpK P x Q a w):wpK P (Code.cond c x y) Q a w:=Nc (t:=oF) hc h
def FO {c:Operand}{x y:Code}(hc:a.eval c=aH oH)(h:wpK P y Q a w):wpK P (Code.cond c x y) Q a w:=Nc (t:=oH) hc h
def GF (h:Q .normal a w):wpK P Code.skip Q a w:=Ff (wp_skip h)
def I6 {id:Nat}(h:Q (.exit id) a w):wpK P (Code.exit id) Q a w:=Ff (wp_exit h)
def Hf {id:Nat}{ops:Array ZX}(h:wpS P ops (Zt ops.size) Q a w):wpK P (zT id ops oH) Q a w :=
 λb hb k cs=>let⟨e,a',w',q,r⟩:=h b hb k cs;⟨e,a',w',q,.of_steps (.one step_region) r⟩
def MP {ops:Array ZX}(h:Q .normal a w):wpS P ops [] Q a w:=λb hb k cs=>⟨.normal,a,w,h,.one step_region_end⟩
def DU {ops:Array ZX}{i:Nat}{rest:List Nat}{o:ZX}{v:Z6}{w':Z0}(ho:ops[i]? = oT o)(hw:Zv o (yielded ops a.tmps)=oF)
  (hr:(execOp a.eval o).run P w=.ok (.value v) w') (h:wpS P ops rest Q (a.put o.dst v) w'):wpS P ops (i :: rest) Q a w:=by
 intro b hb k cs;obtain⟨e,a',w'',hq,ja⟩:=h b hb k cs;refine⟨e,a',w'',hq,.of_steps (.one (step_lone_go ?_)) ja⟩;rw[stepG_op ho hw];have:(b.at a (.inRegion ops (i :: rest) :: k)).finish v=b.at (a.put o.dst v) (.inRegion ops rest :: k):=by rw[Frame.finish_at,ho];rfl
 rw[<- this];simp[stepG.apply,hr]
def Nf {ops:Array ZX}{i:Nat}{rest:List Nat}{o:ZX}{w₁:Z0}{c cap s r:Nat}{buf:Array Z6}{v z':Z6}{tm:Bool}(ho:ops[i]? = oT o)(hw:Zv o (yielded ops a.tmps)=oF)
  (hr:(execOp a.eval o).run P w=.ok (.comm #[scase c v z'] oF .send) w₁) (hc:w₁.heap[c]? = oT (.chan cap buf oH s r tm)) (ja:buf.size<cap)
  (h:wpS P ops rest Q (a.put o.dst Z8) (w₁.setChan c cap (buf.push v) oH (s+1) r tm)):wpS P ops (i :: rest) Q a w:=by
 intro b hb k cs;obtain⟨e,a',w'',hq,jb⟩:=h b hb k cs;refine⟨e,a',w'',hq,.of_steps (.one ?_) jb⟩;have:=step_lone_send_room (P:=P) (stepG_comm (cs:=cs) (k:=k) (rest:=rest) ho hw hb hr) hc ja;rw[Frame.finish_at,ho]at this;exact this
def SI {ops:Array ZX}{i:Nat}{rest:List Nat}{o:ZX}{w₁:Z0}{c cap s r:Nat}{buf:Array Z6}{z:Z6}{tm cl:Bool}(ho:ops[i]? = oT o)(hw:Zv o (yielded ops a.tmps)=oF)
  (hr:(execOp a.eval o).run P w=.ok (.comm #[rcase c z] oF (.recv oH)) w₁) (hc:w₁.heap[c]? = oT (.chan cap buf cl s r tm)) (ja:0<buf.size)
  (h:wpS P ops rest Q (a.put o.dst (buf.getD 0 Z8)) (w₁.setChan c cap (buf.extract 1 buf.size) cl s (r+1) tm)):wpS P ops (i :: rest) Q a w:=by
 intro b hb k cs;obtain⟨e,a',w'',hq,jb⟩:=h b hb k cs;refine⟨e,a',w'',hq,.of_steps (.one ?_) jb⟩;have:=step_lone_recv_buf (P:=P) oH (stepG_comm (cs:=cs) (k:=k) (rest:=rest) ho hw hb hr) hc ja;rw[Frame.finish_at,ho]at this;exact this
end
def MQ {P:Program}{f:FuncId}{fn:Func}{c:Code}{args:Array Z6}{w:Z0}{R:Ending->Z0->Prop}
  (hf:P.funcs[f]? = oT fn) (hb:fn.body=oT c)
  (h:wpK P c (bodyPost P fn R) { tmps:=args ++ Xd (fn.ntmps - args.size) Z8,defers:=[] } w) :
  Zu P f args w R:=by
 intro cs
 let b:Frame:={ (default:Frame) with fn:=f,kind:=.normal }
 have jb:Frame.enter P f args .normal =
   b.at { tmps:=args ++ Xd (fn.ntmps - args.size) Z8,defers:=[] } [.code c]:=by
  simp[Frame.enter,Frame.at,hf,hb,b]
 obtain⟨e,a',w',hq,ja⟩:=h b (by simp[b]) [] cs;rw[<- jb]at ja;cases e with
 | normal =>
  obtain⟨hd,v,hr,hR⟩:=hq;exact⟨aP v,w',_,hR,Steps.trans ja (.one step_end),rfl,rfl,hd,rfl,fn,hf,hr⟩
 | ret =>
  obtain⟨hd,v,hr,hR⟩:=hq;obtain⟨todo,hs⟩:=ja;exact⟨aP v,w',_,hR,hs,rfl,rfl,hd,rfl,fn,hf,hr⟩
 | panic chain =>
  obtain⟨hd,hR⟩:=hq;obtain⟨todo,hs⟩:=ja;exact⟨.panicked chain,w',_,hR,hs,rfl,rfl,hd,fn,hf⟩
 | exit id=>exact hq.elim
 | goto l=>exact hq.elim
 | outgrown=>exact⟨.outgrown,w',b,hq,ja.resolve_left (by simp[b]),rfl,trivial⟩
def FP (xs:List Nat):List Z6:=xs.map λ(n:Nat)=>X3 aM (n:Int)
def JF (xs:List Nat):(FP xs).length=oB xs:=by simp[FP]
def SJ {xs:List Nat}{k:Nat}(h:k<oB xs):(FP xs)[k]? = oT (aA aM (xs[k]:Int)):=by simp[FP,h]
def Ch (w:Z0)(B:Nat)(v:Z6)(xs:List Nat):Prop:=w.ownsRow B 3 1 v xs.length (FP xs)
def Ch.nil (w:Z0)(B:Nat):Ch w B (aG oS 0 0) []:=⟨rfl,.inl ⟨rfl,rfl⟩⟩
def Ch.below {w w1:Z0}{B C:Nat}{v:Z6}{xs:List Nat}(h:Ch w B v xs)(hb:Below C w w1)(hv:∀ g,v.ownBlock=oT g->g<C):Ch w1 B v xs:=by
 refine⟨h.1,h.2.imp id ?_⟩;rintro⟨g,cap,cur,rfl,h1,h2,h3⟩;exact⟨g,cap,cur,rfl,h1,(hb.block g (hv g rfl)).trans h2,h3⟩
def Ch.lt {w:Z0}{B:Nat}{v:Z6}{xs:List Nat}(h:Ch w B v xs):∀ g,v.ownBlock=oT g->g<w.heap.size:=by
 intro g hg;rcases h.2 with⟨rfl,_⟩ | ⟨g',cap,cur,rfl,h1,h2,h3⟩
 · cases hg
 · cases hg;exact(A7.1 h2).1
def Ch.ge {w:Z0}{B:Nat}{v:Z6}{xs:List Nat}(h:Ch w B v xs):∀ g,v.ownBlock=oT g->B<=g:=by
 intro g hg;rcases h.2 with⟨rfl,_⟩ | ⟨g',cap,cur,rfl,h1,h2,h3⟩
 · cases hg
 · cases hg;exact h1
def Ch.mono {w:Z0}{B C:Nat}{v:Z6}{xs:List Nat}(h:Ch w B v xs)(hC:C<=B):Ch w C v xs:=by
 refine⟨h.1,h.2.imp id ?_⟩;rintro⟨g,cap,cur,rfl,h1,h2⟩;exact⟨g,cap,cur,rfl,by omega,h2⟩
def Ch.cell {w:Z0}{B:Nat}{g n cap:Nat}{xs:List Nat}(h:Ch w B (aG (oT ⟨g,0,oS⟩) n cap) xs){k:Nat}(hk:k<oB xs):w.cell? ⟨g,k,oS⟩=oT (aA aM (xs[k]:Int)):=by
 have:=zZ (g:=g) h rfl k _ (SJ hk);rw[Addr.add_lit]at this;simpa using this
def GG:(Tryz.prog.info? 3).map (λi=>(i.zero,i.size,i.bytes))=oT (oT (aA aM 0),1,8):=by kernel_rfl
def Qm (v:Z6)(xs:List Nat)(B:Nat)(w:Z0)(h:Ch w B v xs)(hl:oB xs<=1000) :
  Zu Z1 124 #[v] w λe w'=>∃ v',e=aP v'/\Ch w' w.heap.size v' xs/\Below w.heap.size w w':=by
 obtain⟨i0,hi,jc,jd,je⟩:=info_parts GG;rcases h.2 with⟨rfl,h0⟩ | ⟨g,cap,cur,rfl,h1,h2,h3,h4,h5,h6⟩
 ·obtain rfl:xs=[]:=Zo h0;have hn:=run_eql_slice_nil (P:=Z1) w 36 3 oS 0 0 Y5
  go_enter Tryz.func124,Tryz.ntmps124
  go_wp2;go_ret;exact⟨_,rfl,Ch.nil _ _,by go_grown⟩
 ·have hg:=(A7.1 h2).1;have h7:World.ownsRow (w.alloc (aK #[] 3)) w.heap.size 3 1 (aG (oT ⟨w.heap.size,0,oS⟩) 0 0) 0 [] :=
   ⟨rfl,.inr ⟨_,0,#[],rfl,A5 _,Z4 _ _,A5 _,Ze _,rfl,rfl⟩⟩
  have c1:∀ j u,(FP xs)[j]? = oT u->(w.alloc (aK #[] 3)).cell? ((⟨g,0,oS⟩:Zj).add j)=oT u:=λj u hj=>by
   have:=zZ (g:=g) h rfl j u hj;rw[Addr.add_lit]at this ⊢;rw[XK _ _ _ hg];exact this
  have c2:∀ u∈FP xs,u.oneCell'=oF:=λu hu=>by obtain⟨n,_,rfl⟩:=AJ.1 hu;rfl
  have c3:0+oB xs<=maxLen:=by unfold maxLen;omega
  have c4:(0+oB xs)*8<=140737488355328:=by omega
  have c5:(FP xs).length=oB xs*1:=by rw[JF];omega
  have hn:=run_eql_slice_nil (P:=Z1) w 36 3 (oT ⟨g,0,oS⟩) xs.length cap Y5;simp only[Option.isNone_some,Option.isNone_none]at hn;obtain⟨H1,H2,H6,HH⟩:=oD h1 h2 h6 h;clear h1 h2 h6 h
  go_enter Tryz.func124,Tryz.ntmps124
  go_wp2_with (first | (at_builtin;refine wpList_append_own _ rfl _ _ 36 rfl w.heap.size 3 i0 (aA aM 0) 1 8 Y5 hi jc jd je rfl (by decide) _ _ _ rfl h7 ⟨g,0,oS⟩ xs.length cap (FP xs) rfl c5 c1 c2 c3 c4 (by simp) ?_;intro v' w1 jb ja _) | fail)
  go_ret;refine⟨_,rfl,?_,?_⟩
  · simpa[Ch] using jb
  · exact((Z2 _ w).alloc (A5 _) _).grown (row:=oT w.heap.size) ja (by simp) (λk hk=>by cases hk;exact A5 _)
def On (a b:Int):Int:=if a<b then -1 else if b<a then 1 else 0
def Ec:List Int->List Int->Int
 | [],[]=>0
 | [],_ :: _=>-1
 | _ :: _,[]=>1
 | a :: xs,b :: ys=>if a<b then -1 else if b<a then 1 else Ec xs ys
def If (a:Int)(w:Z0):Zu Z1 112 #[aA aM a] w λe w'=>e=aP (aH oH)/\w'=w:=by
 go_enter Tryz.func112,Tryz.ntmps112
 go_wp2;go_ret;exact⟨by simp,rfl⟩
def GZ (a b:Int)(w:Z0):Zu Z1 85 #[aA aM a,aA aM b] w λe w'=>e=aP (aA aM (On a b))/\w'=w:=by
 unfold On;by_cases h1:a<b
 ·rw[if_pos h1]
  go_enter Tryz.func85,xy
  go_wp2_with (go_at_call 112;refine(If _ _).mono ?_;rintro e w' ⟨rfl,rfl⟩)
  go_ret;exact⟨rfl,rfl⟩
 ·rw[if_neg h1];by_cases h2:b<a
  ·rw[if_pos h2]
   go_enter Tryz.func85,xy
   go_wp2_with (go_at_call 112;refine(If _ _).mono ?_;rintro e w' ⟨rfl,rfl⟩)
   go_ret;exact⟨rfl,rfl⟩
  ·rw[if_neg h2]
   go_enter Tryz.func85,xy
   go_wp2_with (go_at_call 112;refine(If _ _).mono ?_;rintro e w' ⟨rfl,rfl⟩)
   go_ret;exact⟨rfl,rfl⟩
def SlS (w:Z0)(a:Option Zj)(xs:List Int):Prop:=∀ k (hk:k<oB xs),∃ b o,a=oT ⟨b,o,oS⟩/\b<w.heap.size/\w.cell? ⟨b,o+k,oS⟩=oT (aA aM xs[k])
def SlS.at {w:Z0}{a:Option Zj}{xs:List Int}(h:SlS w a xs){k:Nat}(hk:k<oB xs):∃ b o,a=oT ⟨b,o,oS⟩/\b<w.heap.size/\w.cell? ⟨b,o+k,oS⟩=oT (aA aM xs[k]):=h k hk
def SlS.later {w w1:Z0}{a:Option Zj}{xs:List Int}{B:Nat}(h:SlS w a xs)(hb:Below B w w1)(hB:w.heap.size<=B):SlS w1 a xs:=λk hk=>by
 obtain⟨b,o,ha,h1,h2⟩:=h k hk;exact⟨b,o,ha,by have:=hb.size;omega,(hb.cell (p:=⟨b,o+k,oS⟩) (by show b<B;omega)).trans h2⟩
def Ch.sl {w:Z0}{B:Nat}{v:Z6}{xs:List Nat}(h:Ch w B v xs):∃ a c,v=aG a xs.length c/\xs.length<=c/\SlS w a (xs.map λ(n:Nat)=>(n:Int)):=by
 rcases id h.2 with⟨rfl,h0⟩ | ⟨g,cap,cur,rfl,h1,h2,h3,h4⟩
 · exact⟨oS,0,by rw[h0],by omega,λk hk=>by simp at hk;omega⟩
 ·refine⟨oT ⟨g,0,oS⟩,cap,rfl,h3,λk hk=>⟨g,0,rfl,(A7.1 h2).1,?_⟩⟩;have ja:k<oB xs:=by simpa using hk
  rw[ZS,h.cell ja];simp
def idx_ints (a:Option Zj)(b o len cap k:Nat)(ha:a=oT ⟨b,o,oS⟩)(hk:k<len)(w:Z0) :
  (ZK 36 (aG a len cap) (aA aM (k:Int))).run Z1 w=.ok (aB (oT ⟨b,o+k,oS⟩)) w:=by
 subst ha;have h0:(0:Int)<=(k:Int):=by omega
 have h1:(k:Int)<(len:Int):=by omega
 simp[go_sem,h0,h1]
def Qn {xs ys:List Int}{k:Nat}(hx:k<oB xs)(hy:k<oB ys):Ec (xs.drop k) (ys.drop k)=if xs[k]<ys[k] then -1 else if ys[k]<xs[k] then 1 else Ec (xs.drop (k+1)) (ys.drop (k+1)):=by
 rw[AG hx,AG hy,Ec]
def SK {xs ys:List Int}{k:Nat}(hx:k<oB xs)(hy:oB ys<=k):Ec (xs.drop k) (ys.drop k)=1:=by
 rw[AG hx,Xn hy,Ec]
def Jn {xs ys:List Int}{k:Nat}(hx:oB xs=k)(hy:k<=oB ys):Ec (xs.drop k) (ys.drop k)=if k<oB ys then -1 else 0:=by
 rw[Xn (by omega)];split
 · rename_i h;rw[AG h,Ec]
 · rw[Xn (by omega),Ec]
def scmp_any (a a':Option Zj)(c c':Nat)(xs ys:List Int)(w:Z0)(h1:SlS w a xs)(h2:SlS w a' ys)(l1:oB xs<=100000)(l2:oB ys<=100000) :
  Zu Z1 125 #[aG a xs.length c,aG a' ys.length c'] w λe w'=>e=aP (aA aM (Ec xs ys))/\Below w.heap.size w w':=by
 have H1:=A0 h1;have H2:=A0 h2;clear h1 h2
 go_enter Tryz.func125,Tryz.ntmps125
 go_wp2
 go_loopw [11] (λi wr=>∃ k:Nat,k<=oB xs/\k<=oB ys/\i=aA aM k/\Ec (xs.drop k) (ys.drop k)=Ec xs ys/\wr=w) (λi _=>oB xs - (intOf i).toNat)
 case atStart=>exact⟨0,Ze _,Ze _,rfl,by simp,rfl⟩
 case round =>
  obtain⟨k,hk,jc,rfl,ja,rfl⟩:=hrel;have HL:=A0 ja;clear ja;by_cases hx:k<oB xs
  ·obtain⟨
       b,o,ha,hb,q⟩:=H1.at hx
   have hidx:=idx_ints a b o xs.length c k ha hx;have HA:=A0 ha;clear ha;by_cases hy:k<oB ys
   ·obtain⟨b',o',jb,hb',q'⟩:=H2.at hy;have hidx':=idx_ints a' b' o' ys.length c' k jb hy;have HA':=A0 jb;clear jb;have HD:Hid (_=_):=Qn hx hy;by_cases e1:On xs[k] ys[k]=0
    ·have HE:Hid (On xs[k] ys[k]=0):=e1;have HN:Hid (Ec (xs.drop (k+1)) (ys.drop (k+1))=Ec xs ys):=by
      have h:=HD.out;have e2:=e1;unfold On at e2;show _=_;rw[<- HL.out,h];split at e2
      · omega
      ·rename_i g1;rw[if_neg g1];split at e2
       · omega
       · rename_i g2;rw[if_neg g2]
     clear e1
     go_wp2_with (go_at_call 85;refine(GZ _ _ _).mono ?_;rintro e w' ⟨he,rfl⟩;rw[HE.out]at he;subst he)
     go_roundw
     case rel=>exact⟨k+1,by omega,by omega,by go_num,HN,trivial⟩
     case measure=>simp[intOf];omega
    ·obtain⟨d,hd⟩:∃ d,On xs[k] ys[k]=d:=⟨_,rfl⟩
     have HE:=A0 hd;have hd0:d≠0:=by rw[<- hd];exact e1
     have HN:Hid (d=Ec xs ys):=by
      have h:=HD.out;have e2:=e1;show _=_;rw[<- HL.out,h,<- hd];unfold On at e2 ⊢;split
      · rfl
      ·rename_i g1;rw[if_neg g1]at e2;split
       · rfl
       · rename_i g2;rw[if_neg g2]at e2;omega
     clear e1 hd
     go_wp2_with (go_at_call 85;refine(GZ _ _ _).mono ?_;rintro e w' ⟨he,rfl⟩;rw[HE.out]at he;subst he)
     go_ret;exact⟨BH HN,Z2 _ _⟩
   ·have HN:Hid (1=Ec xs ys):=by show _=_;rw[<- HL.out,SK hx (by omega)]
    go_wp2;go_ret;exact⟨BH HN,Z2 _ _⟩
  ·have jd:oB xs=k:=by omega
   by_cases hy:k<oB ys
   ·have HN:Hid (-1=Ec xs ys):=by show _=_;rw[<- HL.out,Jn jd jc,if_pos hy]
    go_wp2;go_ret;exact⟨BH HN,Z2 _ _⟩
   ·have HN:Hid (0=Ec xs ys):=by show _=_;rw[<- HL.out,Jn jd jc,if_neg hy]
    go_wp2;go_ret;exact⟨BH HN,Z2 _ _⟩
def Oo (xs ys:List Int):Int:=if xs.length=oB ys then Ec xs ys else(oB xs:Int) - ys.length
def Ng (a a':Option Zj)(c c':Nat)(xs ys:List Int)(w:Z0)(h1:SlS w a xs)(h2:SlS w a' ys)(l1:oB xs<=100000)(l2:oB ys<=100000) :
  Zu Z1 98 #[aG a xs.length c,aG a' ys.length c'] w λe w'=>e=aP (aA aM (Oo xs ys))/\Below w.heap.size w w':=by
 unfold Oo;by_cases h:oB xs=oB ys
 ·rw[if_pos h];have q:((oB xs:Int))=oB ys:=by omega
  have HC:=A0 (λw' (hb:Below w.heap.size w w')=>scmp_any a a' c c' xs ys w' (h1.later hb (A5 _)) (h2.later hb (A5 _)) l1 l2);clear h1 h2 h
  go_enter Tryz.func98,Tryz.ntmps98
  go_wp2_with (go_at_call 125;refine(HC _ (by go_grown)).mono ?_;rintro e w' ⟨rfl,hb⟩)
  go_ret;exact⟨rfl,hb⟩
 ·rw[if_neg h];have q:((oB xs:Int))≠ys.length:=by omega
  clear h1 h2 h
  go_enter Tryz.func98,Tryz.ntmps98
  go_wp2;go_ret;exact⟨by go_num,by go_grown⟩
structure BS where
 q:List Nat
 ch:Nat->List Nat
 seen:Nat
def
  inner (use:Rl->Bool) (goal m:Nat):List Rl->Nat->BS->List Nat ⊕ BS
 | [],_,s=>.inr s
 | r
   :: R,i,s =>
  if decide (r.frm.toNat=m) && use r then
   if goal.testBit r.dst.toNat then .inl (s.ch m ++ [i])
   else if s.seen.testBit r.dst.toNat then inner use goal m R (i+1) s
   else inner use goal m R (i+1) ⟨s.q ++ [r.dst.toNat],λt=>if t=r.dst.toNat then s.ch m ++ [i] else s.ch t,s.seen ||| 2 ^ r.dst.toNat⟩
  else inner use goal m R (i+1) s
def
  outer (use:Rl->Bool) (goal:Nat) (R:List Rl):Nat->BS->List Nat
 | 0,_=>[]
 | n
   + 1,s=>match s.q with
  | []=>[]
  | m :: q=>match inner use goal m R 0 { s with q:=q } with
   | .inl c=>c
   | .inr s'=>outer use goal R n s'
def cntF:Nat->(Nat->Bool)->Nat
 | 0,_=>0
 | n+1,f=>cntF n f+if f n then 0 else 1
def Cl (L:Nat):Nat:=cntF 8 L.testBit
def bfs (use:Rl->Bool)(goal:Nat)(R:List Rl)(start:Nat):List Nat:=outer use goal R 8 ⟨[start],λ_=>[],2 ^ start⟩
def Py (f:Nat->Bool):∀ n,cntF n f<=n
 | 0=>A5 _
 | n+1=>by have:=Py f n;simp only[cntF];split <;> omega
def cntF_add {f g:Nat->Bool}{t:Nat}(hg:∀ i,g i=(f i || decide (t=i)))(ht:f t=oH):∀ n,cntF n g+(if t<n then 1 else 0)=cntF n f
 | 0=>by simp[cntF]
 | n
   +
    1=>by
  have ih:=cntF_add hg ht n;simp only[cntF,hg n];by_cases h:t=n
  ·subst h;simp[ht]at ih ⊢;omega
  ·have:decide (t=n)=oH:=by simp[h]
   rw[this,Bool.or_false];have h3:(if t<n+1 then 1 else 0)=if t<n then 1 else(0:Nat):=by
    by_cases h2:t<n
    · rw[if_pos h2,if_pos (by omega)]
    · rw[if_neg h2,if_neg (by omega)]
   rw[h3];split at ih <;> split <;> omega
def Hg {L t:Nat}(ht:t<8)(h:L.testBit t=oH):Cl (L ||| 2 ^ t)+1=Cl L:=by
 have:=cntF_add (f:=L.testBit) (g:=(L ||| 2 ^ t).testBit) (t:=t) (λi=>by rw[Nat.testBit_or,X4]) h 8
 rwa [if_pos ht]at this
def Hh {t:Nat}(ht:t<8):Cl (2 ^ t)=7:=by
 rcases(show t=0\/t=1\/t=2\/t=3\/t=4\/t=5\/t=6\/t=7 by omega) with rfl | rfl | rfl | rfl | rfl | rfl | rfl | rfl <;> decide +kernel
def seg (l:List Z6)(a k:Nat)(h:a+k<=oB l):(l.drop a).take k=(Zt k).map λi=>l.getD (i+a) Z8:=by
 refine List.ext_getElem (by simp;omega) λi h1 h2=>?_;have hi:i<k:=by simpa using h2
 simp only[Xi,List.getElem_drop,List.getElem_map,List.getElem_range];rw[AS,AC (by omega),Xh];congr 1;omega
def VR {p0 p1 p2 p3 p4 p5 p6 p7 p8 p9 p10 p11:Z6}{A:Act}(hd:A.defers=[])(hs:A.tmps.toList.length=77)(h:A.tmps.toList.take 12=[p0,p1,p2,p3,p4,p5,p6,p7,p8,p9,p10,p11]):∃ x:Nat->Z6,A=⟨#[p0,p1,p2,p3,p4,p5,p6,p7,p8,p9,p10,p11,x 12,x 13,x 14,x 15,x 16,x 17,x 18,x 19,x 20,x 21,x 22,x 23,x 24,x 25,x 26,x 27,x 28,x 29,x 30,x 31,x 32,x 33,x 34,x 35,x 36,x 37,x 38,x 39,x 40,x 41,x 42,x 43,x 44,x 45,x 46,x 47,x 48,x 49,x 50,x 51,x 52,x 53,x 54,x 55,x 56,x 57,x 58,x 59,x 60,x 61,x 62,x 63,x 64,x 65,x 66,x 67,x 68,x 69,x 70,x 71,x 72,x 73,x 74,x 75,x 76],[]⟩:=by
 refine⟨λi=>A.tmps.toList.getD i Z8,?_⟩;obtain⟨⟨l⟩,d⟩:=A;simp only at hd hs h ⊢;subst hd;congr 1;apply congrArg Array.mk;have e2:=seg l 12 65 (by omega);rw[AH (by simp;omega)]at e2;have e4:l=l.take 12 ++ l.drop 12:=(XD 12 l).symm;refine e4.trans ?_;rw[h,e2];rfl
def VS {p0 p1 p2 p3 p4 p5 p6 p7 p8 p9 p10 p11 p12:Z6}{A:Act}(hd:A.defers=[])(hs:A.tmps.toList.length=77)(h:A.tmps.toList.take 13=[p0,p1,p2,p3,p4,p5,p6,p7,p8,p9,p10,p11,p12]):∃ x:Nat->Z6,A=⟨#[p0,p1,p2,p3,p4,p5,p6,p7,p8,p9,p10,p11,p12,x 13,x 14,x 15,x 16,x 17,x 18,x 19,x 20,x 21,x 22,x 23,x 24,x 25,x 26,x 27,x 28,x 29,x 30,x 31,x 32,x 33,x 34,x 35,x 36,x 37,x 38,x 39,x 40,x 41,x 42,x 43,x 44,x 45,x 46,x 47,x 48,x 49,x 50,x 51,x 52,x 53,x 54,x 55,x 56,x 57,x 58,x 59,x 60,x 61,x 62,x 63,x 64,x 65,x 66,x 67,x 68,x 69,x 70,x 71,x 72,x 73,x 74,x 75,x 76],[]⟩:=by
 refine⟨λi=>A.tmps.toList.getD i Z8,?_⟩;obtain⟨⟨l⟩,d⟩:=A;simp only at hd hs h ⊢;subst hd;congr 1;apply congrArg Array.mk;have e2:=seg l 13 64 (by omega);rw[AH (by simp;omega)]at e2;have e4:l=l.take 13 ++ l.drop 13:=(XD 13 l).symm;refine e4.trans ?_;rw[h,e2];rfl
def WQ {P:Program}{c:Code}{Q:Exit->Act->Z0->Prop}{w:Z0}{p0 p1 p2 p3 p4 p5 p6 p7 p8 p9 p10 p11 p12:Z6}{A:Act}(hd:A.defers=[])(hs:A.tmps.toList.length=77)(h:A.tmps.toList.take 13=[p0,p1,p2,p3,p4,p5,p6,p7,p8,p9,p10,p11,p12])
  (h2:∀ x:Nat->Z6,wpK P c Q ⟨#[p0,p1,p2,p3,p4,p5,p6,p7,p8,p9,p10,p11,p12,x 13,x 14,x 15,x 16,x 17,x 18,x 19,x 20,x 21,x 22,x 23,x 24,x 25,x 26,x 27,x 28,x 29,x 30,x 31,x 32,x 33,x 34,x 35,x 36,x 37,x 38,x 39,x 40,x 41,x 42,x 43,x 44,x 45,x 46,x 47,x 48,x 49,x 50,x 51,x 52,x 53,x 54,x 55,x 56,x 57,x 58,x 59,x 60,x 61,x 62,x 63,x 64,x 65,x 66,x 67,x 68,x 69,x 70,x 71,x 72,x 73,x 74,x 75,x 76],[]⟩ w):wpK P c Q A w:=by
 obtain⟨x,hx⟩:=VS hd hs h;rw[hx];exact h2 x
def SL (m:Nat)(q:List Nat):(((m :: q).map λ(t:Nat)=>X3 aM (t:Int)).toArray).extract 1 (((m :: q).map λ(t:Nat)=>X3 aM (t:Int)).toArray).size=(q.map λ(t:Nat)=>X3 aM (t:Int)).toArray:=by
 apply Array.ext';simp[AH]
def VT {p0 p1 p2 p3 p4 p5 p6 p7 p8 p9 p10 p11 p12 p28 p29 p30:Z6}{A:Act}(hd:A.defers=[])(hs:A.tmps.toList.length=77)(h:A.tmps.toList.take 13=[p0,p1,p2,p3,p4,p5,p6,p7,p8,p9,p10,p11,p12])(h2:(A.tmps.toList.drop 28).take 3=[p28,p29,p30]) :
  ∃ x:Nat->Z6,A=⟨#[p0,p1,p2,p3,p4,p5,p6,p7,p8,p9,p10,p11,p12,x 13,x 14,x 15,x 16,x 17,x 18,x 19,x 20,x 21,x 22,x 23,x 24,x 25,x 26,x 27,p28,p29,p30,x 31,x 32,x 33,x 34,x 35,x 36,x 37,x 38,x 39,x 40,x 41,x 42,x 43,x 44,x 45,x 46,x 47,x 48,x 49,x 50,x 51,x 52,x 53,x 54,x 55,x 56,x 57,x 58,x 59,x 60,x 61,x 62,x 63,x 64,x 65,x 66,x 67,x 68,x 69,x 70,x 71,x 72,x 73,x 74,x 75,x 76],[]⟩:=by
 refine⟨λi=>A.tmps.toList.getD i Z8,?_⟩;obtain⟨⟨l⟩,d⟩:=A;simp only at hd hs h h2 ⊢;subst hd;congr 1;apply congrArg Array.mk;have e2:=seg l 13 15 (by omega);have e3:=seg l 31 46 (by omega);rw[AH (by simp;omega)]at e3;have e4:l=l.take 13 ++ ((l.drop 13).take 15 ++ ((l.drop 28).take 3 ++ l.drop 31)):=by
  conv=>lhs;rw[<- XD 13 l,<- XD 15 (l.drop 13),<- XD 3 ((l.drop 13).drop 15)]
  simp only[List.drop_drop]
 refine e4.trans ?_;rw[h,h2,e2,e3];rfl
structure BSt (B:Nat)(s:BS)(wr:Z0):Prop where
 chan:∃ sn rc,wr.heap[B+1]? = some (.chan 8 ((s.q.map λ(t:Nat)=>X3 aM (t:Int)).toArray) false sn rc false)
 chains:∃ cs:Array Z6,wr.heap[B+2]? = some (.cells cs 36 (0,0))/\cs.size=8/\∀ t,t<8->∃ v,cs[t]? = some v/\Ch wr B v (s.ch t)
 short:∀ t,t<8->(s.ch t).length+Cl s.seen<=8
 seen:s.seen<256
 modes:∀ t∈s.q,t<8
 room:s.q.length+Cl s.seen<=8
def ChN (w:Z0)(B:Nat)(v:Z6)(xs:List Nat):Prop:=Ch w B v xs/\(xs=[]->v=aG oS 0 0)
def Ch.slv {w:Z0}{B:Nat}{v:Z6}{xs:List Nat}(h:Ch w B v xs)(hx:xs≠[]):∃ g cap,v=aG (oT ⟨g,0,oS⟩) xs.length cap:=by
 rcases h.2 with⟨rfl,h0⟩ | ⟨g,cap,cur,rfl,_⟩
 · exact absurd (Zo h0) hx
 · exact⟨g,cap,rfl⟩
def Le {use:Rl->Bool}{goal:Nat}{R:List Rl}{n:Nat}{s:BS}(h:s.q=[]):outer use goal R n s=[]:=by
 cases n with
 | zero=>rfl
 | succ n=>simp[outer,h]
def Ch.same {w w1:Z0}{B:Nat}{v:Z6}{xs:List Nat}(h:Ch w B v xs)(hv:∀ g,v.ownBlock=oT g->w1.heap[g]? = w.heap[g]?):Ch w1 B v xs:=by
 refine⟨h.1,h.2.imp id ?_⟩;rintro⟨g,cap,cur,rfl,h1,h2,h3⟩;exact⟨g,cap,cur,rfl,h1,(hv g rfl).trans h2,h3⟩
def Ch.own {w:Z0}{B:Nat}{v:Z6}{xs:List Nat}(h:Ch w B v xs){g:Nat}(hg:v.ownBlock=oT g):∃ cs,w.heap[g]? = oT (.cells cs 3 (0,0)):=by
 rcases h.2 with⟨rfl,_⟩ | ⟨g',cap,cur,rfl,h1,h2,h3⟩
 · cases hg
 · cases hg;exact⟨_,h2⟩
def Ga {B:Nat}{s:BS}{wr w1:Z0}(h:BSt B s wr)(hb:Below wr.heap.size wr w1):BSt B s w1:=by
 obtain⟨sn,rc,ja⟩:=h.chan;obtain⟨cs,h1,h2,h3⟩:=h.chains;have hl:∀ {g:Nat} {o:Obj},wr.heap[g]? = oT o->w1.heap[g]? = oT o:=λ{g o} hg=>(hb.block g (A7.1 hg).1).trans hg;refine⟨⟨sn,rc,hl ja⟩,⟨cs,hl h1,h2,λt ht=>?_⟩,h.short,h.seen,h.modes,h.room⟩;obtain⟨v,hv,hc⟩:=h3 t ht;exact⟨v,hv,hc.same λg hg=>hb.block g (hc.lt g hg)⟩
def U5 {B sn rc m:Nat}{s:BS}{q:List Nat}{wr:Z0}(h:BSt B s wr)(hq:s.q=m :: q)(jd:B+1<wr.heap.size)(jb:∃ buf sn rc,wr.heap[B+1]? = oT (.chan 8 buf oH sn rc oH)) :
  BSt B { s with q:=q } (wr.setChan (B+1) 8 ((q.map λ(t:Nat)=>X3 aM (t:Int)).toArray) oH sn (rc+1) oH):=by
 obtain⟨buf,sn',rc',jb⟩:=jb;obtain⟨cs,h1,h2,h3⟩:=h.chains;have ja:∀ g,g≠B+1->(wr.setChan (B+1) 8 ((q.map λ(t:Nat)=>X3 aM (t:Int)).toArray) oH sn (rc+1) oH).heap[g]? = wr.heap[g]?:=λg hg=>by
  simp only[World.setChan];rw[ZV (by omega)]
 refine⟨⟨sn,rc+1,heap_setChan _ _ _ _ _ _ _ _ jd⟩,⟨cs,(ja _ (by omega)).trans h1,h2,λt ht=>?_⟩,h.short,h.seen,λt ht=>h.modes t (by rw[hq];simp[ht]),by have:=h.room;rw[hq]at this;simp only[Zs]at this;show q.length+Cl s.seen<=8;omega⟩;obtain⟨v,hv,hc⟩:=h3 t ht;refine⟨v,hv,hc.same λg hg=>ja g λhe=>?_⟩;subst he;obtain⟨cs',jc⟩:=hc.own hg;rw[jb]at jc;cases jc
def Qo (w:Z0)(o:Obj)(start:Nat)(hs:start<8) :
  BSt w.heap.size ⟨[start],λ_=>[],2 ^ start⟩ ((((w.alloc o).alloc (.chan 8 #[] oH 0 0 oH)).alloc (.cells (Xd 8 (aG oS 0 0)) 36)).setChan (w.heap.size+1) 8 (#[].push (aA aM (start:Int))) oH (0+1) 0 oH):=by
 refine⟨⟨1,0,?_⟩,⟨Xd 8 (aG oS 0 0),?_,by simp,λt ht=>⟨aG oS 0 0,by simp[ht],Ch.nil _ _⟩⟩,λt ht=>by show 0+Cl (2 ^ start)<=8;rw[Hh hs];omega,Fe _ hs,λt ht=>by simp at ht;omega,by show 1+Cl (2 ^ start)<=8;rw[Hh hs];omega⟩
 · rw[heap_setChan _ _ _ _ _ _ _ _ (by simp)];simp
 ·simp only[World.setChan];rw[ZV (by omega)];have:w.heap.size+2=((w.alloc o).alloc (.chan 8 #[] oH 0 0 oH)).heap.size:=by simp
  rw[this];exact Z4 _ _
def heap_setChan_ne (w:Z0){c c':Nat}(cap:Nat)(buf:Array Z6)(cl:Bool)(s r:Nat)(tm:Bool)(h:c≠c'):(w.setChan c cap buf cl s r tm).heap[c']? = w.heap[c']?:=by
 simp only[World.setChan];rw[ZV h]
def SM {B sn rc m k d:Nat}{s:BS}{w3:Z0}{v3:Z6}(h:BSt B s w3)(hd:d<8)(hm:m<8)(jj:s.seen.testBit d=oH)(jd:Ch w3 B v3 (s.ch m ++ [k]))
  (je:w3.heap[B+1]? = oT (.chan 8 ((s.q.map λ(t:Nat)=>X3 aM (t:Int)).toArray) oH sn rc oH)) :
  BSt B ⟨s.q ++ [d],λt=>if t=d then s.ch m ++ [k] else s.ch t,s.seen ||| 2 ^ d⟩ ((w3.setCell ⟨B+2,d,oS⟩ v3).setChan (B+1) 8 (((s.q.map λ(t:Nat)=>X3 aM (t:Int)).toArray).push (aA aM (d:Int))) oH (sn+1) rc oH):=by
 obtain⟨cs,h1,h2,h3⟩:=h.chains;have hun:=Hg hd jj;have ji:B+1<(w3.setCell ⟨B+2,d,oS⟩ v3).heap.size:=by rw[Zb];exact(A7.1 je).1
 have jc:∀ g,g≠B+1->g≠B+2->((w3.setCell ⟨B+2,d,oS⟩ v3).setChan (B+1) 8 (((s.q.map λ(t:Nat)=>X3 aM (t:Int)).toArray).push (aA aM (d:Int))) oH (sn+1) rc oH).heap[g]? = w3.heap[g]?:=λg hg jh=>by
  rw[heap_setChan_ne _ _ _ _ _ _ _ (Ne.symm hg),Zc _ _ _ _ jh]
 have jg:((w3.setCell ⟨B+2,d,oS⟩ v3).setChan (B+1) 8 (((s.q.map λ(t:Nat)=>X3 aM (t:Int)).toArray).push (aA aM (d:Int))) oH (sn+1) rc oH).heap[B+2]? = oT (.cells (cs.setIfInBounds d v3) 36 (0,0)):=by
  rw[heap_setChan_ne _ _ _ _ _ _ _ (by omega)];have h1':=(A7.1 h1)
  simp only[zy];rw[X6,if_pos rfl,h1];rfl
 have ja:∀ {v:Z6} {xs:List Nat},Ch w3 B v xs->∀ g,v.ownBlock=oT g->((w3.setCell ⟨B+2,d,oS⟩ v3).setChan (B+1) 8 (((s.q.map λ(t:Nat)=>X3 aM (t:Int)).toArray).push (aA aM (d:Int))) oH (sn+1) rc oH).heap[g]? = w3.heap[g]?:=λ{v xs} hc g hg=>by
  obtain⟨cs',jb⟩:=hc.own hg;refine jc g (λhe=>?_) (λhe=>?_)
  · subst he;rw[je]at jb;cases jb
  · subst he;rw[h1]at jb;cases jb
 refine⟨⟨sn+1,rc,?_⟩,⟨_,jg,by simp[h2],λt ht=>?_⟩,λt ht=>?_,SH h.seen (Fe _ hd),λt ht=>?_,?_⟩
 · rw[heap_setChan _ _ _ _ _ _ _ _ ji];simp
 ·by_cases e:t=d
  ·subst e;refine⟨v3,by rw[Xk];simp[h2,ht],?_⟩;simp only[if_true];exact jd.same (ja jd)
  ·obtain⟨v,hv,jf⟩:=h3 t ht;refine⟨v,by rw[ZV (Ne.symm e)];exact hv,?_⟩;simp only[if_neg e];exact jf.same (ja jf)
 ·show(if t=d then s.ch m ++ [k] else s.ch t).length+Cl (s.seen ||| 2 ^ d)<=8;split
  · have:=h.short m hm;rw[AD];simp only[Zs,X7];omega
  · have:=h.short t ht;omega
 ·rcases AY.1 ht with h4 | h4
  · exact h.modes t h4
  · simp at h4;omega
 ·show(s.q ++ [d]).length+Cl (s.seen ||| 2 ^ d)<=8;have:=h.room;rw[AD];simp only[Zs,X7];omega
def Qp {B sn rc m k d:Nat}{t:Int}{s:BS}{w3:Z0}{v3:Z6}(jd:t=(d:Int))(h:BSt B s w3)(hd:d<8)(hm:m<8)(jc:s.seen.testBit d=oH)(ja:Ch w3 B v3 (s.ch m ++ [k]))
  (jb:w3.heap[B+1]? = oT (.chan 8 ((s.q.map λ(t:Nat)=>X3 aM (t:Int)).toArray) oH sn rc oH)) :
  BSt B ⟨s.q ++ [d],λt=>if t=d then s.ch m ++ [k] else s.ch t,s.seen ||| 2 ^ d⟩ ((w3.setCell ⟨B+2,t.toNat,oS⟩ v3).setChan (B+1) 8 (((s.q.map λ(t:Nat)=>X3 aM (t:Int)).toArray).push (aA aM t)) oH (sn+1) rc oH):=by
 subst jd;exact SM h hd hm jc ja jb
def Oq (w:Z0)(o o3:Obj):(((w.alloc o).alloc (.chan 8 #[] oH 0 0 oH)).alloc o3).heap[w.heap.size+1]? = oT (.chan 8 #[] oH 0 0 oH):=by
 have e:w.heap.size+1=(w.alloc o).heap.size:=by simp
 rw[ZF _ _ _ (by simp),e];exact Z4 _ _
def Nh (w:Z0)(o o2 o3:Obj)(buf:Array Z6)(sn rc:Nat) :
  Below (w.heap.size+1) (w.alloc o) ((((w.alloc o).alloc o2).alloc o3).setChan (w.heap.size+1) 8 buf oH sn rc oH) :=
 below_setChan (((Z2 _ _).alloc (by simp) _).alloc (by simp) _) (A5 _) _ _ _ _ _ _
def Ni {use:Rl->Bool}{goal m k:Nat}{R:List Rl}(s:BS)(ja:k<oB R):inner use goal m (R.drop k) k s =
  if decide (R[k].frm.toNat=m) && use R[k] then
   if goal.testBit R[k].dst.toNat then .inl (s.ch m ++ [k])
   else if s.seen.testBit R[k].dst.toNat then inner use goal m (R.drop (k+1)) (k+1) s
   else inner use goal m (R.drop (k+1)) (k+1) ⟨s.q ++ [R[k].dst.toNat],λt=>if t=R[k].dst.toNat then s.ch m ++ [k] else s.ch t,s.seen ||| 2 ^ R[k].dst.toNat⟩
  else inner use goal m (R.drop (k+1)) (k+1) s:=by
 rw[AG ja,inner]
def InvO (w:Z0)(fid:Nat)(use:Rl->Bool)(S:Sch)(a:Option Zj)(cap start goal n:Nat)(A:Act)(wr:Z0):Prop :=
 ∃ (s:BS) (x:Nat->Z6),n=s.q.length+Cl s.seen/\A=⟨#[aJ #[aA aM S.modes,aA aO S.acc,aG a S.rules.length cap],aA aM (start:Int),aA aO (goal:Int),.func (.func fid) #[] #[],aB (oT ⟨w.heap.size,0,oS⟩),Z8,Z8,Z8,aG oS 0 0,.chan (oT (w.heap.size+1)),aG (oT ⟨w.heap.size+2,0,oS⟩) 8 8,aA aO (s.seen:Int),x 12,x 13,x 14,x 15,x 16,x 17,x 18,x 19,x 20,x 21,x 22,x 23,x 24,x 25,x 26,x 27,x 28,x 29,x 30,x 31,x 32,x 33,x 34,x 35,x 36,x 37,x 38,x 39,x 40,x 41,x 42,x 43,x 44,x 45,x 46,x 47,x 48,x 49,x 50,x 51,x 52,x 53,x 54,x 55,x 56,x 57,x 58,x 59,x 60,x 61,x 62,x 63,x 64,x 65,x 66,x 67,x 68,x 69,x 70,x 71,x 72,x 73,x 74,x 75,x 76],[]⟩/\BSt w.heap.size s wr/\outer use goal S.rules n s=bfs use goal S.rules start/\Below (w.heap.size+1) (w.alloc (aK #[aA aM S.modes,aA aO S.acc,aG a S.rules.length cap] 33)) wr
def Pz {w:Z0}{fid:Nat}{use:Rl->Bool}{S:Sch}{a:Option Zj}{cap start goal n:Nat}{A:Act}{wr:Z0}(s:BS)(hd:A.defers=[])(hs:A.tmps.toList.length=77)
  (h:A.tmps.toList.take 12=[aJ #[aA aM S.modes,aA aO S.acc,aG a S.rules.length cap],aA aM (start:Int),aA aO (goal:Int),.func (.func fid) #[] #[],aB (oT ⟨w.heap.size,0,oS⟩),Z8,Z8,Z8,aG oS 0 0,.chan (oT (w.heap.size+1)),aG (oT ⟨w.heap.size+2,0,oS⟩) 8 8,aA aO (s.seen:Int)]) (h1:n=s.q.length+Cl s.seen) (h2:BSt w.heap.size s wr) (h3:outer use goal S.rules n s=bfs use goal S.rules start) (h4:Below (w.heap.size+1) (w.alloc (aK #[aA aM S.modes,aA aO S.acc,aG a S.rules.length cap] 33)) wr) :
  InvO w fid use S a cap start goal n A wr:=(VR hd hs h).elim λx hx=>⟨s,x,h1,hx,h2,h3,h4⟩
def InvI (w:Z0)(fid:Nat)(use:Rl->Bool)(S:Sch)(a:Option Zj)(cap start goal m N n:Nat)(A:Act)(wr:Z0):Prop :=
 ∃ (k:Nat) (s:BS) (x:Nat->Z6),k<=oB S.rules/\n=oB S.rules - k/\A=⟨#[aJ #[aA aM S.modes,aA aO S.acc,aG a S.rules.length cap],aA aM (start:Int),aA aO (goal:Int),.func (.func fid) #[] #[],aB (oT ⟨w.heap.size,0,oS⟩),Z8,Z8,Z8,aG oS 0 0,.chan (oT (w.heap.size+1)),aG (oT ⟨w.heap.size+2,0,oS⟩) 8 8,aA aO (s.seen:Int),aA aM (m:Int),x 13,x 14,x 15,x 16,x 17,x 18,x 19,x 20,x 21,x 22,x 23,x 24,x 25,x 26,x 27,aG a S.rules.length cap,aA aM (oB S.rules:Int),aA aM (k:Int),x 31,x 32,x 33,x 34,x 35,x 36,x 37,x 38,x 39,x 40,x 41,x 42,x 43,x 44,x 45,x 46,x 47,x 48,x 49,x 50,x 51,x 52,x 53,x 54,x 55,x 56,x 57,x 58,x 59,x 60,x 61,x 62,x 63,x 64,x 65,x 66,x 67,x 68,x 69,x 70,x 71,x 72,x 73,x 74,x 75,x 76],[]⟩/\BSt w.heap.size s wr/\(match inner use goal m (S.rules.drop k) k s with | .inl c=>c | .inr s''=>outer use goal S.rules N s'')=bfs use goal S.rules start/\N=s.q.length+Cl s.seen/\Below (w.heap.size+1) (w.alloc (aK #[aA aM S.modes,aA aO S.acc,aG a S.rules.length cap] 33)) wr
def I7 {w:Z0}{fid:Nat}{use:Rl->Bool}{S:Sch}{a:Option Zj}{cap start goal m N n:Nat}{A:Act}{wr:Z0}(k:Nat)(s:BS)(hd:A.defers=[])(hs:A.tmps.toList.length=77)
  (h:A.tmps.toList.take 13=[aJ #[aA aM S.modes,aA aO S.acc,aG a S.rules.length cap],aA aM (start:Int),aA aO (goal:Int),.func (.func fid) #[] #[],aB (oT ⟨w.heap.size,0,oS⟩),Z8,Z8,Z8,aG oS 0 0,.chan (oT (w.heap.size+1)),aG (oT ⟨w.heap.size+2,0,oS⟩) 8 8,aA aO (s.seen:Int),aA aM (m:Int)]) (h':(A.tmps.toList.drop 28).take 3=[aG a S.rules.length cap,aA aM (oB S.rules:Int),aA aM (k:Int)])
  (hk:k<=oB S.rules) (hn:n=oB S.rules - k) (h2:BSt w.heap.size s wr) (h3:(match inner use goal m (S.rules.drop k) k s with | .inl c=>c | .inr s''=>outer use goal S.rules N s'')=bfs use goal S.rules start) (h5:N=s.q.length+Cl s.seen) (h4:Below (w.heap.size+1) (w.alloc (aK #[aA aM S.modes,aA aO S.acc,aG a S.rules.length cap] 33)) wr) :
  InvI w fid use S a cap start goal m N n A wr:=(VT hd hs h h').elim λx hx=>⟨k,s,x,hk,hn,hx,h2,h3,h5,h4⟩
def MR {w:Z0}{B:Nat}{v:Z6}{xs:List Nat}{k:Nat}(h:w.ownsRow B 3 1 v (oB xs+1) (FP xs ++ [aA aM (k:Int)])):Ch w B v (xs ++ [k]):=by
 unfold Ch;have e:FP (xs ++ [k])=FP xs ++ [aA aM (k:Int)]:=by simp[FP]
 rw[e,AD];exact h
def Qq (r:Rl)(w:Z0):Zu Z1 97 #[aJ #[aA aM r.frm,aA aM r.dst,aI r.inp,aI r.out,aA aM r.cost]] w λe w'=>e=aP (aH (decide (r.inp.size=0)))/\Below w.heap.size w w':=by
 go_enter Tryz.func97,Tryz.ntmps97
 go_wp2;go_ret;refine⟨?_,by go_grown⟩;show Ending.returned (aH r.inp.toList.isEmpty)=_;have:r.inp.toList.isEmpty=decide (r.inp.size=0):=by
  rw[ZQ,Bool.eq_iff_iff,decide_eq_true_iff,List.isEmpty_iff,<- ByteArray.size_data];constructor
  · intro h;rw[<- Xq,h];rfl
  · intro h;exact Zo (by rw[Xq];exact h)
 rw[this]
def Qr:(Tryz.prog.info? 36).map (λi=>(i.zero,i.size,i.bytes))=oT (oT (aG oS 0 0),1,24):=by kernel_rfl
end Go.Proofs.YtpljngaejaehcaaGreatDoor.Fl
