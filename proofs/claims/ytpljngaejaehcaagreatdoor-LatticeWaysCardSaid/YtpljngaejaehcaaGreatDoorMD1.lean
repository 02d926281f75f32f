/- Texts that the claims share. -/
import Derived.WalkKit
import Derived.ProofKit
import Derived.OpenShut
import Derived.ShutString
import Derived.ChangeOld
import Derived.Deep.Slices
import Derived.Test.YtpljngaejaehcaaGreatDoorMF1
import Derived.Deep.RegionHeld3
import Derived.Deep.DeepCutAuto
import Derived.Laws.Cover1
import Derived.Test.YtpljngaejaehcaaGreatDoorChecked
import Derived.Deep.QuietTactic
import Derived.BigQuiet
import Derived.Laws.StructEq
import Derived.Maps.AppendAt
import Derived.Laws.AppendOwn
import Derived.Laws.OwnMore
import Derived.Shelf.Strings.BuilderF
import Derived.Lib.FrozenHead2
import Derived.Lib.AppendIntMem
import Derived.Maps.Views
import Derived.Maps.OwnSet
import Derived.Maps.Own
open Option renaming none->oS,some->oT,getD_some->Xh,isSome_iff_exists->XX,map_eq_some_iff->zj
open Bool renaming true->oF,false->oH,and_eq_true->Zg,not_eq_true'->XS,or_eq_true->Y2,and_eq_false_iff->Xc
open List renaming length->oB,all_eq_true->Zr,getElem?_map->XG,mem_cons_of_mem->Zm,mem_filterMap->X9,mem_iff_getElem->ZH,mem_of_mem_take->Xo,range->Zt,take_succ_cons->zG,append_assoc->Zw,append_nil->Xe,cons_append->ZG,dropWhile_cons->XO,eq_nil_of_length_eq_zero->Zo,filterMap_cons->zH,filterMap_eq_nil_iff->zu,findIdx_cons->zV,flatMap_append->XB,flatMap_cons->ZA,foldl->Zp,foldl_cons->zQ,getElem?_eq_some_iff->Zh,getElem_append_left->Y8,getElem_cons_zero->zk,getElem_of_mem->zr,length_cons->Zs,length_drop->ZZ,map_cons->Y4,mem_flatMap->zJ,mem_of_mem_drop->Xf,nil_append->ZP,not_mem_nil->ZN,prefix_refl->Xt,range'->Zd,setIfInBounds_toArray->Z5,set_cons_succ->Za,set_cons_zero->Z9,takeWhile_cons->XC,take_append_drop->XD
open Go.Value renaming int->aA,pointer->aB,slice->aG,bool->aH,string->aI,agg->aJ,bool->Y7,int->X3,slice->Zk
open Go.Obj renaming cells->aK
open Go.IntKind renaming i64->aM,u8->aO
open Go.Ending renaming returned->aP
open Go renaming Addr->Zj,Calls->Zu,Oper->ZX,TypeId->X5,Value->Z6,World->Z0,undef->Z8,cell_of_row->Z3,heap_alloc_new->Z4
open Array renaming getElem?_toList->ZL,length_toList->Xq
open Go.Code renaming region->zT
open Go.DataW renaming trod->z7,trod_int->zL
open Go.Region renaming binds->Zl,wanted->Zv
open Go.World renaming cell?_spot->xb
open Go.Act renaming eval->Zf,put->ZE
open Go.RowKit.Below renaming block->Z7,mono->ZT,refl->Z2
open ByteArray renaming size_append->zv
open Go.ByteArray renaming toList_eq->ZQ
open Classical renaming propDecidable->Xr
open Go.DataW.lit renaming injEq->xp
open Go.Instr renaming indexAt->ZK,slice->Xm,sliceBound->XA,sliceBounds->Xw
open Go.IntWalk renaming i64_in->Zq
open Go.Lib renaming IsBuilderF->XH,byteCells->XV,decDigits->zI,formatBool->zK,itoa->zD,strCells->xA
open List.Pairwise renaming imp_of_mem->XY
open Nat renaming add_mul->Xp,le_add_right->z8,lt_or_ge->zx,mul_le_mul->Y1,mul_le_mul_right->ZM,strongRecOn->zF,zero_add->ZS,zero_le->Ze
open Go.Op renaming bytesLess->Zz
open Go.Oper renaming wp->xe
open Go.Proofs.Tryz renaming ntmps51->xz,prog->Z1,underlying26->Xv,underlying3->ZR,underlying9->XJ,zeroValue3->XZ
open UInt8 renaming lt_iff_toNat_lt->XT,ofNat->Zy,toNat_inj->zt,toNat_ofNat'->zw
open Go.World.ownsRow renaming cells->zZ
set_option linter.unusedVariables false
set_option linter.unusedSimpArgs false
set_option maxHeartbeats 1600000
set_option maxRecDepth 100000
set_option linter.defProp false
namespace Go.Proofs.YtpljngaejaehcaaGreatDoor
open Go.RowKit
abbrev Bx:=List (Nat × Z6)
def lkE:Bx->Nat->Z6
 | [],_=>Z8
 | (k,v) :: r,t=>if t=k then v else lkE r t
def At (env:Bx):Operand->Z6
 | .tmp t=>lkE env t
 | .const v=>v
 | .global g=>aB (oT ⟨g,0,oS⟩)
 | .func f=>.func (.func f) #[] #[]
def FR (ops:Array ZX)(g:Nat):Option Nat:=(ops[g]?).bind (·.dst)
def
  guardE (ops:Array ZX) (env:Bx) (o:ZX):Bool:=match o.guard with
 | none=>oF
 | some (g,b)=>match FR ops g with
  | some t=>rS b (lkE env t)
  | none=>oH
inductive Cn (P:Program)(ops:Array ZX)(u:Z0)(K:Bx->Prop):List ZX->Bx->Prop
 | nil {env:Bx}:K env->Cn P ops u K [] env
 | skip {env:Bx} {o:ZX} {r:List ZX} {d:Nat}:o.dst=some d->guardE ops env o=false->Cn P ops u K r ((d,Z8) :: env)->Cn P ops u K (o :: r) env
 | op {env:Bx} {o:ZX} {r:List ZX} {d:Nat} {v:Z6}:o.dst=some d->guardE ops env o=true->(∀ W,Ext u W->(execOp (At env) o).run P W=.ok (.value v) W)->Cn P ops u K r ((d,v) :: env)->Cn P ops u K (o :: r) env
 | call {env:Bx} {o:ZX} {r:List ZX} {d f:Nat} {v:Z6} {args:Array Z6}:o.dst=some d->guardE ops env o=true->(∀ W,Ext u W->(execOp (At env) o).run P W=.ok (.enter f args) W) ->
   (∀ W,Ext u W->Zu P f args W λe w'=>e=aP v/\Ext W w')->Cn P ops u K r ((d,v) :: env)->Cn P ops u K (o :: r) env
def Fg:Bx->List ZX->List Z6->Bx
 | env,o :: r,v :: s=>Fg ((o.dst.getD 0,v) :: env) r s
 | env,_,_=>env
def WR (P:Program)(u:Z0)(env:Bx)(o:ZX)(v:Z6):Prop :=
 (∀ W,Ext u W->(execOp (At env) o).run P W=.ok (.value v) W)\/∃ f args,(∀ W,Ext u W->(execOp (At env) o).run P W=.ok (.enter f args) W)/\∀ W,Ext u W->Zu P f args W λe w'=>e=aP v/\Ext W w'
def AtC (P:Program)(ops:Array ZX)(u:Z0)(env:Bx)(o:ZX)(v:Z6):Prop :=
 (guardE ops env o=oF/\WR P u env o v)\/(guardE ops env o=oH/\v=Z8)
def SN {P:Program}{ops:Array ZX}{u:Z0}{K:Bx->Prop}{l:List ZX}{env:Bx}(h:Cn P ops u K l env) :
  ∃ vs:List Z6,oB vs=oB l/\K (Fg env l vs)/\∀ j o v,l[j]? = oT o->vs[j]? = oT v->AtC P ops u (Fg env (l.take j) (vs.take j)) o v:=by
 have step:∀ {env:Bx} {o:ZX} {r:List ZX} {d:Nat} {v:Z6},o.dst=oT d->AtC P ops u env o v ->
   (∃ vs:List Z6,oB vs=oB r/\K (Fg ((d,v) :: env) r vs)/\∀ j o v',r[j]? = oT o->vs[j]? = oT v'->AtC P ops u (Fg ((d,v) :: env) (r.take j) (vs.take j)) o v') ->
   ∃ vs:List Z6,oB vs=(o :: r).length/\K (Fg env (o :: r) vs)/\∀ j o' v',(o :: r)[j]? = oT o'->vs[j]? = oT v'->AtC P ops u (Fg env ((o :: r).take j) (vs.take j)) o' v':=by
  rintro env o r d v hd ha ⟨vs,h1,h2,h3⟩;have e:∀ l s,Fg env (o :: l) (v :: s)=Fg ((d,v) :: env) l s:=λl s=>by simp only[Fg,hd,Xh]
  refine⟨v :: vs,by simp[h1],by rw[e];exact h2,λj o' v' h4 h5=>?_⟩;cases j with
  | zero=>cases h4;cases h5;exact ha
  | succ j =>
   rw[zG,zG,e];exact h3 j o' v' (by simpa using h4) (by simpa using h5)
 induction h with
 | nil hk=>exact⟨[],rfl,hk,λj o v h=>by simp at h⟩
 | skip hd hg _ ih=>exact step hd (.inr ⟨hg,rfl⟩) ih
 | op hd hg hr _ ih=>exact step hd (.inl ⟨hg,.inl hr⟩) ih
 | call hd hg hr hc _ ih=>exact step hd (.inl ⟨hg,.inr ⟨_,_,hr,hc⟩⟩) ih
def Jo {t:Nat}:∀ (l:List ZX) (vs:List Z6) (env:Bx),(∀ o∈l,∃ d,o.dst=oT d/\d≠t)->lkE (Fg env l vs) t=lkE env t
 | [],vs,env,_=>by cases vs <;> rfl
 | o :: r,[],env,_=>rfl
 | o :: r,v :: s,env,h=>by
  obtain⟨d,hd,ja⟩:=h o AB;rw[Fg,Jo r s _ λo' ho=>h o' (Zm _ ho),hd,lkE,if_neg (by simpa using Ne.symm ja)]
def Q0 {t:Nat}{v:Z6}:∀ (l:List ZX) (vs:List Z6) (env:Bx) (m:Nat) (o:ZX),l[m]? = oT o->vs[m]? = oT v->o.dst=oT t->(∀ m' o',l[m']? = oT o'->m'≠m->∃ d,o'.dst=oT d/\d≠t)->lkE (Fg env l vs) t=v
 | [],_,_,m,o,h,_,_,_=>by simp at h
 | _ :: _,[],_,m,o,_,h,_,_=>by simp at h
 | o
   :: r,x :: s,env,0,o',h,hv,hd,hu=>by
  cases h;cases hv;rw[Fg,hd,Jo r s _ λo' ho=>by
   obtain⟨i,hi,rfl⟩:=ZH.1 ho;exact hu (i+1) _ (by simp[hi]) (by omega),Xh,lkE,if_pos rfl]
 | o :: r,x :: s,env,m+1,o',h,hv,hd,hu=>by
  rw[Fg];exact Q0 r s _ m o' (by simpa using h) (by simpa using hv) hd λm' o2 h2 hne=>hu (m'+1) o2 (by simpa using h2) (by omega)
def MS (a0:Act):Bx->Prop
 | []=>True
 | p :: r=>a0.tmps.getD p.1 Z8=p.2/\MS a0 r
def Ig {a0:Act}{t:Nat}:∀ {b:Bx},MS a0 b->t∈b.map (·.1)->lkE b t=a0.tmps.getD t Z8
 | [],_,h=>by cases h
 | (k,v) :: r,hb,h=>by
  unfold lkE;by_cases e:t=k
  · rw[if_pos e,e];exact hb.1.symm
  ·rw[if_neg e];exact Ig hb.2 ((AX.1 h).resolve_left e)
def Q1 (ops:Array ZX)(bs ds:List Nat):Bool:=(Zt ops.size).all λi=>match ops[i]? with
 | some o=>(o.looksAt ops).all λt=>(bs.contains t && !ds.contains t) || o.after.any λe=>Zl .any e && (FR ops e.on == oT t)
 | none=>oF
def bF {p:Prop}[Decidable p](h:¬ p):Y7 (decide p)=aH oH:=congrArg _ (decide_eq_false h)
def bT {p:Prop}[Decidable p](h:p):Y7 (decide p)=aH oF:=congrArg _ (decide_eq_true h)
variable {P:Program} {ops:Array Oper} {a0:Act} {Q:Exit->Act->World->Prop}
def wp_region_sc {id:Nat}{w:Z0}(u:Z0)(hS:Ext u w)(n:Nat)(b:Bx)(ds bs:List Nat)(jm:(P.follows .mixedOrders && (rvOk ops n && (Region.noSelect ops && (Hc ops == ds && Q1 ops bs ds))))=oF)(jq:b.map (·.1)=bs)(hb:MS a0 b)(hn:a0.tmps.size=n)
  (h:Cn P ops u (λenv=>∀ (W:Z0) (x:Nat->Z6),Ext u W->(∀ d,d∈ds->x d=lkE env d)->Q .normal (ds.foldl (λa d=>a.put (oT d) (x d)) a0) W) ops.toList b):(zT id ops oF).wp P Q a0 w:=by
 simp only[Zg,beq_iff_eq]at jm;obtain⟨h1,h2,h3,h4,h5⟩:=jm;obtain⟨vs,hl,hK,hA⟩:=SN h;replace hl:oB vs=ops.size:=hl.trans Xq;have jb:∀ i o,ops[i]? = oT o->∃ d,o.dst=oT d/\d<n/\(∀ j o',ops[j]? = oT o'->i≠j->o'.dst≠oT d)/\∀ e∈o.after,Zl .any e=oF->e.on<i:=λi o ho=>Jb h2 ho;have jf:∀ i,i<ops.size->vs[i]? = oT (vs.getD i Z8):=λi hi=>by
  rw[AS,AC (show i<oB vs by omega)];rfl
 have jh:∀ (k i:Nat) (o:ZX) (d:Nat),i<k->ops[i]? = oT o->o.dst=oT d->lkE (Fg b (ops.toList.take k) (vs.take k)) d=vs.getD i Z8:=λk i o d jg ho hd=>by
  have hi:i<ops.size:=(A7.1 ho).1;refine Q0 _ _ _ i o (by rw[AP,if_pos jg,ZL];exact ho) (by rw[AP,if_pos jg];exact jf i hi) hd λm' o' hm ju=>?_;rw[AP]at hm;split at hm
  ·rw[ZL]at hm;obtain⟨d',jr,_,jw,_⟩:=jb m' o' hm;exact⟨d',jr,λe=>jw i o ho ju (by rw[hd,e])⟩
  · cases hm
 have key:∀ i o (a:Act) (W:Z0),ops[i]? = oT o->(∀ e∈o.after,Zl .any e=oF->Ae ops a e.on=vs.getD e.on Z8)->(∀ t,(ops.all λo'=>o'.dst != oT t)=oF->a.tmps.getD t Z8=a0.tmps.getD t Z8) ->
   ∀ t∈o.looksAt ops,a.tmps.getD t Z8=lkE (Fg b (ops.toList.take i) (vs.take i)) t:=λi o a W ho jc ja t ht=>by
  have hi:i<ops.size:=(A7.1 ho).1;unfold Q1 at h5;have h6:=(Zr.1 h5) i (by simpa using hi);rw[ho]at h6;have h7:=(Zr.1 h6) t ht;simp only[Y2,Zg,Array.any_eq_true',beq_iff_eq,XS,List.contains_eq_mem,decide_eq_true_eq,decide_eq_false_iff_not]at h7;rcases h7 with⟨h7,h8⟩ | ⟨e,he,je,h8⟩
  ·have jj:t ∉ Hc ops:=by rw[h4];exact h8
   rw[ja t (Jl jj),Jo _ _ _ λo' jv=>?_]
   · exact(Ig hb (by rw[jq];exact h7)).symm
   ·have jk:o'∈ops.toList:=Xo jv;obtain⟨j,hj,rfl⟩:=ZH.1 jk;obtain⟨d,hd,_⟩:=jb j _ (by rw[<- ZL,AC hj]);exact⟨d,hd,λe=>jj (X9.2 ⟨_,jk,by rw[hd,e]⟩)⟩
  ·have jt:=(jb i o ho).choose_spec.2.2.2 e he je;unfold FR at h8;cases h9:ops[e.on]? with
   | none=>rw[h9]at h8;cases h8
   | some oe =>
    rw[h9]at h8;have hd:oe.dst=oT t:=h8;rw[jh i e.on oe t jt h9 hd,<- jc e he je];unfold Ae;rw[h9];simp only[hd]
 refine CJ h1 (λi v _=>v=vs.getD i Z8) (Ext u) n h2 hn (λ_ _ _ _ h _=>h) (λ_ _ h hx=>Ext.trans h hx) hS (λi o ho a W jn hW jc ja=>?_) λA W jn js hW hv ja=>?_
 ·have hi:i<ops.size:=(A7.1 ho).1;have hk:=key i o a W ho jc ja;have hE:execOp a.eval o=execOp (At (Fg b (ops.toList.take i) (vs.take i))) o:=by
   refine execOp_congr o (λcs b'=>Region.noSelect_spec h3 i o cs b' ho) λx hx=>?_;cases x with
   | tmp t=>exact hk t (List.mem_append_left _ (X9.2 ⟨.tmp t,by simpa using hx,rfl⟩))
   | _=>rfl
  have hG:Zv o (yielded ops a.tmps)=guardE ops (Fg b (ops.toList.take i) (vs.take i)) o:=by
   rw[wS_eq];unfold wS guardE;cases hg:o.guard with
   | none=>rfl
   | some g =>
    obtain⟨j,c⟩:=g;simp only;unfold Ae FR;cases hj:ops[j]? with
    | none=>rfl
    | some oj =>
     obtain⟨d,hd,_⟩:=jb j oj hj;simp only[Option.bind_some,hd];rw[hk d (List.mem_append_right _ (by simp[hg,hj,hd]))]
  have jp:=hA i o _ (by rw[ZL];exact ho) (jf i hi);rw[hG];rcases jp with⟨hg,hx⟩ | ⟨hg,hx⟩
  ·rw[hg];refine⟨λ_=>?_,λe=>(by cases e)⟩;unfold EY;rw[hE];rcases hx with hx | ⟨f,args,hx,hc⟩
   · exact .inl ⟨_,W,hx W hW,rfl,Ext.refl _⟩
   · exact .inr ⟨f,args,W,hx W hW,(hc W hW).mono λe w' he=>⟨_,he.1,rfl,he.2⟩⟩
  ·rw[hg];exact⟨λe=>(by cases e),λ_=>hx.symm⟩
 ·obtain⟨x,hx,jo⟩:=B7 ds h4 jn js ja;rw[jo];have h9:=hK;refine h9 W x hW λd hd=>?_;rw[<- h4]at hd;obtain⟨o,ho,jl⟩:=X9.1 hd;obtain⟨i,hi,rfl⟩:=ZH.1 ho;have ji:ops[i]? = oT ops.toList[i]:=by rw[<- ZL,AC hi]
  have jd:=jh ops.size i _ d (by simpa using hi) ji jl;rw[AH (show ops.toList.length<=ops.size by simp),AH (show vs.length<=ops.size by omega)]at jd;rw[jd,hx d,<- hv i (by simpa using hi)];unfold Ae;rw[ji];simp only[jl]
open Go.ChangeShapes Go.WideShapes Go.ChangeAt Go.RowKit
section
variable {H:Type} {enc:TypeId × Value->H} {P:Program} {w:World} {base:Nat} {spare:Nat->Bool} {held:Bool} {fuel:Nat} {cs:List Value} {x:DataW H × List MemPlace}
def L5 {t e:X5}{n:Nat}{k:IntKind}(ht:P.underlying t=oT (.array n e))(he:P.underlying e=oT (.int k))(jb:P.cellsOf e=1)(hC:P.cellsOf t=n)
  (h:z7 enc P w base spare held fuel t cs=oT x):∃ zs:List Int,oB zs=n/\cs=zs.map (X3 k)/\∀ z∈zs,(Lit.int k z).wf=oF:=by
 obtain⟨xs,m,rfl,_,ja,hx,jc⟩:=DataW.trod_array ht h;rw[hC]at ja;have key:∀ i,i<n->∃ z,cs[i]? = oT (aA k z)/\(Lit.int k z).wf=oF:=by
  intro i hi;have h1:=jc i hi;rw[jb,Nat.mul_one]at h1;obtain⟨y,hy⟩:∃ y,xs[i]? = oT y:=⟨_,AC (by omega)⟩
  rw[hy]at h1;obtain⟨z,hz,_,hw⟩:=zL he h1;refine⟨z,?_,hw⟩;have h2:=congrArg (λl=>l[0]?) hz;simpa[AP,List.getElem?_drop] using h2
 refine⟨cs.map intOf,by simpa using ja,?_,?_⟩
 ·rw[List.map_map];refine List.ext_getElem? λi=>?_;by_cases hi:i<n
  ·obtain⟨z,hz,_⟩:=key i hi;simp[hz,intOf]
  · rw[AT (by omega),AT (by simp;omega)]
 ·intro z hz;obtain⟨v,hv,rfl⟩:=AJ.1 hz;obtain⟨i,hi⟩:=List.mem_iff_getElem?.1 hv;have jd:i<n:=by
   by_cases h:i<n
   · exact h
   · rw[AT (by omega)]at hi;cases hi
  obtain⟨z,je,hw⟩:=key i jd;rw[je]at hi;cases hi;exact hw
def Hi (k:IntKind)(m:Nat)(w:Z0)(a:Option Zj)(len:Nat)(Z:Nat->Nat->Int):Prop :=
 len=0\/∃ b o,a=oT ⟨b,o,oS⟩/\len<=9223372036854775807/\b<w.heap.size/\∀ i,i<len->∀ j,j<m->w.cell? ⟨b,o+i*m+j,oS⟩=oT (aA k (Z i j))/\(Lit.int k (Z i j)).wf=oF
def addr_add (b o n:Nat):(⟨b,o,oS⟩:Zj).add n=⟨b,o+n,oS⟩:=by
 unfold Addr.add;split <;> simp_all
def Cw (a:Zj)(n:Nat):(a.add n).block=a.block:=by unfold Addr.add;split <;> rfl
def Jp (a:Zj)(n:Nat):(a.add n).off=a.off+n:=by
 unfold Addr.add;split
 · rename_i h;rw[h];rfl
 · rfl
def Lf (a:Zj)(n:Nat)(h:(a.add n).spot=oS):a.add n=⟨a.block,a.off+n,oS⟩:=by
 rw[<- Cw a n,<- Jp a n,<- h]
open Go.Deep in
def trod_rows {t e e2:X5}{m:Nat}{k:IntKind}{a:Option Zj}{len cap:Nat}(ht:P.underlying t=oT (.slice e))(he:P.underlying e=oT (.array m e2))(je:P.underlying e2=oT (.int k))(jc:P.cellsOf e2=1)(hC:P.cellsOf e=m)(hm:0<m)
  (h:z7 enc P w base spare held fuel t [aG a len cap]=oT x):∃ Z,Hi k m w a len Z:=by
 rcases open_slice ht h with⟨h0,_⟩ | ⟨ad,l,c,mm,n,D,Pl,h0,hba,hl,jd,jh,_,jf⟩
 ·cases h0;exact⟨λ_ _=>0,.inl rfl⟩
 ·cases
     h0
  have hlm:len<=mm:=by rw[jh];split <;> omega
  have key:∀ i,i<len->∃ zs:List Int,oB zs=m/\(∀ j,j<m->w.cell? (⟨ad.block,ad.off+i*m+j,oS⟩:Zj)=oT (aA k (zs.getD j 0))/\(Lit.int k (zs.getD j 0)).wf=oF)/\(i=0->ad.spot=oS)/\ad.block<w.heap.size:=by
   intro i hi;obtain⟨cs',jb,ji⟩:=jf i (by omega);rw[hC]at jb;obtain⟨zs,hz,rfl,hw⟩:=L5 he je jc hC ji;obtain⟨_,hl',hg⟩:=World.cells?_some jb;refine⟨zs,hz,λj hj=>?_,λjg=>?_,?_⟩
   ·have h1:=hg j hj;have h2:(zs.map (X3 k))[j]? = oT (aA k (zs.getD j 0)):=by
     rw[XG,AS,AC (by omega)];rfl
    rw[h2]at h1;have ja:=xb h1;have e:(ad.add (i*m)).add j=⟨ad.block,ad.off+i*m+j,oS⟩:=by
     rw[Lf _ _ ja,Cw,Jp]
    rw[e]at h1;refine⟨h1,hw _ ?_⟩;rw[AS,AC (by omega)];exact AI _
   ·subst jg;have h1:=hg 0 hm;have h2:(zs.map (X3 k))[0]? = oT (aA k (zs.getD 0 0)):=by
     rw[XG,AS,AC (by omega)];rfl
    rw[h2]at h1;have ja:=xb h1;simpa[Addr.add] using ja
   ·have:=World.cells?_block jb hm
    rwa [Cw]at this
  by_cases h0:len=0
  · exact⟨λ_ _=>0,.inl h0⟩
  ·refine⟨λi j=>if h:i<len then(Classical.choose (key i h)).getD j 0 else 0,.inr ⟨ad.block,ad.off,?_,by unfold maxLen at jd;omega,(Classical.choose_spec (key 0 (by omega))).2.2.2,λi hi j hj=>?_⟩⟩
   ·have:=(Classical.choose_spec (key 0 (by omega))).2.2.1 rfl;obtain⟨b,o,sp⟩:=ad;simp only at this;rw[this]
   ·simp only[dif_pos hi];exact(Classical.choose_spec (key i hi)).2.1 j hj
def Lg (hl:laidOutB P=oF){W W':Z0}(hb:Below W.heap.size W W'):∀ (ts:List X5) (vs:List Z6) (ds:List (DataW H)) (ps:List MemPlace),
  (∀ t∈ts,P.readableRec t=oF/\t<P.types.size)->DataW.TrodAll enc P W 0 (λ_=>oF) oF ts vs ds ps->(∀ x∈ps,x.block<W.heap.size) ->
   DataW.TrodAll enc P W' 0 (λb=>decide (b<W.heap.size)) oF ts vs ds ps
 | [],[],[],_,_,h,_=>h
 | t :: ts,v :: vs,d :: ds,ps,ht,h,hlt=>by
  obtain⟨p,q,h0,h1,rfl⟩:=h;exact⟨p,q,Below.trod hl (ht t (by simp)).1 (ht t (by simp)).2 h0 hb (λx hx=>hlt x (by simp[hx])),Lg hl hb ts vs ds q (λt' h'=>ht t' (by simp[h'])) h1 (λx hx=>hlt x (by simp[hx])),rfl⟩
 | [],[],_ :: _,_,_,h,_=>h.elim
 | [],_ :: _,_,_,_,h,_=>h.elim
 | _ :: _,[],_,_,_,h,_=>h.elim
 | _ :: _,_ :: _,[],_,_,h,_=>h.elim
def Jq:∀ (ts:List X5) (vs:List Z6) (ds:List (DataW H)) (ps:List MemPlace),
  DataW.TrodAll enc P w base spare held ts vs ds ps->∀ x∈ps,x.block<w.heap.size
 | [],[],[],_,h,x,hx=>by
  have:_=[]:=h;subst this;cases hx
 | t :: ts,v :: vs,d :: ds,ps,h,x,hx=>by
  obtain⟨p,q,⟨m,h0⟩,h1,rfl⟩:=h;rcases AY.1 hx with hx | hx
  · exact DataW.trod_lt m _ _ _ h0 x hx
  · exact Jq ts vs ds q h1 x hx
 | [],[],_ :: _,_,h,_,_=>h.elim
 | [],_ :: _,_,_,h,_,_=>h.elim
 | _ :: _,[],_,_,h,_,_=>h.elim
 | _ :: _,_ :: _,[],_,h,_,_=>h.elim
end
def BD (c:Int):Int:=if 97<=c/\c<=122 then 1 else if 65<=c/\c<=90 then 2 else if 48<=c/\c<=57 then 3 else 0
def He (l:List UInt8):Bool:=l.all λc=>!(BD (c.toNat:Int) == 0)
def EB (s:ByteArray):Bool:=He s.data.toList
def D4 (s:ByteArray):Bool:=decide (1<=s.size) && (decide (s.size<=20) && EB s)
def Ic (s:ByteArray)(k:Nat)(h:k<s.size):s.data.toList.take (k+1)=s.data.toList.take k ++ [s[k]]:=by
 rw[AR (by simpa using h)];rfl
def FL (s:ByteArray)(k:Nat)(h:¬ k<s.size):s.data.toList.take k=s.data.toList:=AH (by simp;exact Nat.le_of_not_lt h)
def DR {p:UInt8->Bool}(s:ByteArray)(k:Nat)(h:k<s.size)(hp:p s[k]=oH):s.data.toList.all p=oH:=by
 rw[List.all_eq_false];refine⟨s[k],?_,by simp[hp]⟩;show s.data[k]∈s.data.toList;simp
def FM {p:UInt8->Bool}(s:ByteArray)(k:Nat)(h:k<s.size)(ht:(s.data.toList.take k).all p=oF)(hp:p s[k]=oF):(s.data.toList.take (k+1)).all p=oF:=by
 rw[Ic s k h,List.all_append,ht];simp[hp]
def DT (c:Int)(w:Z0)(h0:0<=c)(h1:c<=255) :
  Zu Z1 143 #[aA aO c] w λe w'=>e=aP (aA aM (BD c))/\w=w':=by
 rcases(show(97<=c/\c<=122)\/(65<=c/\c<=90)\/(48<=c/\c<=57)\/c<48\/(57<c/\c<65)\/(90<c/\c<97)\/122<c from by omega) with h | h | h | h | h | h | h
 all_goals
  go_enter Tryz.func143,Tryz.ntmps143
  go_wp2;go_ret;refine⟨BH ?_,rfl⟩;unfold BD;omega
def allKnown_any (s:ByteArray)(w:Z0)(hs:s.size<=9223372036854775807) :
  Zu Z1 126 #[aI s] w λe w'=>e=aP (aH (EB s))/\w=w':=by
 go_enter Tryz.func126,Tryz.ntmps126
 go_wp2
 go_loop [6] (λi=>∃ k:Nat,k<=s.size/\i=aA aM k/\He (s.data.toList.take k)=true) (λi=>s.size - (intOf i).toNat)
 case atStart=>exact⟨0,Ze _,rfl,rfl⟩
 case round =>
  obtain⟨k,hk,rfl,ht⟩:=hrel;have HT:=A0 ht;clear ht;by_cases ja:k<s.size
  ·have b0:(0:Int)<=(s[k].toNat:Int):=by omega
   have b1:(s[k].toNat:Int)<=255:=by have:=s[k].toNat_lt;omega
   by_cases hc:BD (s[k].toNat:Int)=0
   ·have jb:(BD (s[k].toNat:Int) == 0)=true:=by rw[hc];rfl
    have HC:Hid ((!(BD (s[k].toNat:Int) == 0))=false):=by show _=false;rw[hc];rfl
    clear hc
    go_wp2_with (go_at_call 143;refine(DT _ _ b0 b1).mono ?_;rintro e w' ⟨rfl,rfl⟩)
    go_ret;exact⟨Ad (DR s k ja HC.out).symm,rfl⟩
   ·have jb:(BD (s[k].toNat:Int) == 0)=false:=by simpa using hc
    have HC:Hid ((!(BD (s[k].toNat:Int) == 0))=true):=by show _=true;simpa using hc
    clear hc
    go_wp2_with (go_at_call 143;refine(DT _ _ b0 b1).mono ?_;rintro e w' ⟨rfl,rfl⟩)
    go_round
    case rel=>exact⟨k+1,by omega,by go_num,FM s k ja HT.out HC.out⟩
    case measure=>simp[intOf];omega
  ·have HA:=A0 (FL s k ja);go_wp2;go_ret;exact⟨Ad (by rw[EB,<- HA.out];exact HT.out.symm),rfl⟩
def inB (a b c:Int):Bool:=decide (b<=a) && decide (a<=c)
def Ex {a b c:Int}(h:b<=a)(h2:a<=c):inB a b c=oF:=by simp[inB,h,h2]
def F5 {a b c:Int}(h:¬ (b<=a/\a<=c)):inB a b c=oH:=by
 unfold inB;rw[Xc];simp;omega
def CR (a b c:Int)(w:Z0):Zu Z1 51 #[aA aM a,aA aM b,aA aM c] w λe w'=>e=aP (aH (inB a b c))/\w'=w:=by
 by_cases h:b<=a
 ·by_cases h2:a<=c
  ·have H:=A0 (Ex h h2)
   go_enter Tryz.func51,xz
   go_wp2;go_ret;exact⟨Ad (by rw[H.out];try (simp[h2])),rfl⟩
  ·have H:=A0 (F5 (a:=a) (b:=b) (c:=c) (by omega))
   go_enter Tryz.func51,xz
   go_wp2;go_ret;exact⟨Ad (by rw[H.out];try (simp;omega)),rfl⟩
 ·have H:=A0 (F5 (a:=a) (b:=b) (c:=c) (by omega))
  go_enter Tryz.func51,xz
  go_wp2;go_ret;exact⟨Ad (by rw[H.out];try (simp;omega)),rfl⟩
def Dm (s:ByteArray)(w:Z0) :
  Zu Z1 99 #[aI s] w λe w'=>e=aP (aH (D4 s))/\w=w':=by
 by_cases h1:1<=s.size
 ·by_cases h2:s.size<=20
  ·have i1:(1:Int)<=(s.size:Int):=by omega
   have i2:(s.size:Int)<=20:=by omega
   have H:Hid (D4 s=EB s):=by show _=_;simp[D4,h1,h2]
   go_enter Tryz.func99,Tryz.ntmps99
   go_wp2_with (go_at_call 126;refine(allKnown_any _ _ (by omega)).mono ?_;rintro e w' ⟨rfl,rfl⟩)
   go_ret;exact⟨Ad H.symm,rfl⟩
  ·have i1:(1:Int)<=(s.size:Int):=by omega
   have i2:¬ (s.size:Int)<=20:=by omega
   have H:Hid (D4 s=oH):=by show _=_;simp[D4,h1,h2]
   go_enter Tryz.func99,Tryz.ntmps99
   go_wp2;go_ret;exact⟨Ad H.symm,rfl⟩
 ·have i1:¬ (1:Int)<=(s.size:Int):=by omega
  have H:Hid (D4 s=oH):=by show _=_;simp[D4,h1]
  go_enter Tryz.func99,Tryz.ntmps99
  go_wp2;go_ret;exact⟨Ad H.symm,rfl⟩
open Go.RowKit Go.WideShapes
def BZ (w:Z0)(a:Option Zj)(L:List ByteArray):Prop:=∀ k (hk:k<oB L),∃ b o,a=oT ⟨b,o,oS⟩/\b<w.heap.size/\w.cell? ⟨b,o+k,oS⟩=oT (aI L[k])
def BZ.at {w:Z0}{a:Option Zj}{L:List ByteArray}(h:BZ w a L){k:Nat}(hk:k<oB L):∃ b o,a=oT ⟨b,o,oS⟩/\b<w.heap.size/\w.cell? ⟨b,o+k,oS⟩=oT (aI L[k]):=h k hk
def BZ.later {w w1:Z0}{a:Option Zj}{L:List ByteArray}{B:Nat}(h:BZ w a L)(hb:Below B w w1)(hB:w.heap.size<=B):BZ w1 a L:=λk hk=>by
 obtain⟨b,o,ha,h1,h2⟩:=h k hk;exact⟨b,o,ha,by have:=hb.size;omega,(hb.cell (p:=⟨b,o+k,oS⟩) (by show b<B;omega)).trans h2⟩
def BZ.nil (w:Z0)(a:Option Zj):BZ w a []:=λk hk=>by simp at hk
def DC (a:Option Zj)(b o len cap k:Nat)(ha:a=oT ⟨b,o,oS⟩)(hk:k<len)(w:Z0) :
  (ZK 35 (aG a len cap) (aA aM (k:Int))).run Z1 w=.ok (aB (oT ⟨b,o+k,oS⟩)) w:=by
 subst ha;have h0:(0:Int)<=(k:Int):=by omega
 have h1:(k:Int)<(len:Int):=by omega
 simp[go_sem,h0,h1]
def I8 (s t:ByteArray):(s.toList == t.toList)=decide (s=t):=by
 rw[Bool.eq_iff_iff];simp only[beq_iff_eq,decide_eq_true_eq];constructor
 · intro h;rw[ZQ,ZQ]at h;exact bytes_inj h
 · rintro rfl;rfl
def ltS (s t:ByteArray):Bool:=Zz s.toList t.toList
def F6 (L:List ByteArray)(k:Nat):Prop:=∀ i (h:i<oB L),i<k->D4 L[i]=oF/\(0<i->ltS (L[i - 1]'(by omega)) L[i]=oF)
def Cx (L:List ByteArray):Prop:=1<=oB L/\L.length<=200/\F6 L L.length
noncomputable def Ee (L:List ByteArray):Bool:=@decide (Cx L) (Xr _)
def Gb {L:List ByteArray}(h:Cx L):Ee L=oF:=@decide_eq_true _ (Xr _) h
def Cq {L:List ByteArray}(h:¬ Cx L):Ee L=oH:=@decide_eq_false _ (Xr _) h
def F6.step {L:List ByteArray}{k:Nat}(h:F6 L k)(hk:k<oB L)(h1:D4 L[k]=oF)(h2:0<k->ltS (L[k - 1]'(by omega)) L[k]=oF):F6 L (k+1):=by
 intro i hi hik;by_cases e:i=k
 · subst e;exact⟨h1,h2⟩
 · exact h i hi (by omega)
def Hj:∀ a b:List UInt8,(Zz a b || a == b)=!(Zz b a)
 | [],[]=>by simp[Zz]
 | [],_ :: _=>by simp[Zz]
 | _ :: _,[]=>by simp[Zz]
 | x
   :: xs,y :: ys=>by
  have ih:=Hj xs ys;have e1:∀ u v:UInt8,(u<v)=(u.toNat<v.toNat):=λu v=>by rw[XT]
  simp only[Zz];rcases Nat.lt_trichotomy x.toNat y.toNat with h | h | h
  ·have h1:x<y:=by rw[e1];exact h
   have h2:¬ y<x:=by rw[e1];omega
   have h3:¬ y=x:=by rintro rfl;omega
   simp[h1,h2,h3]
  ·have h3:x=y:=zt.1 h;subst h3;have h1:¬ x<x:=by rw[e1];omega
   simpa[h1] using ih
  ·have h1:y<x:=by rw[e1];exact h
   have h2:¬ x<y:=by rw[e1];omega
   have h3:¬ x=y:=by rintro rfl;omega
   simp[h1,h2,h3]
def dictionary_any (L:List ByteArray)(n:Nat)(a:Option Zj)(cap:Nat)(w:Z0)(hR:BZ w a L)(hL:n=oB L)(hn:n<=9223372036854775807) :
  Zu Z1 74 #[aG a n cap] w λe w'=>e=aP (aH (Ee L))/\w=w':=by
 subst hL;have HR:=A0 hR;clear hR;by_cases h1:1<=oB L
 ·have i1
      :
       ¬
        (oB L:Int)<1:=by omega
  by_cases h2:oB L<=200
  ·have i2
       :
        ¬
         (200:Int)<(oB L:Int):=by omega
   go_enter Tryz.func74,Tryz.ntmps74
   go_wp2
   go_loop [15] (λi=>∃ k:Nat,k<=oB L/\i=aA aM k/\F6 L k) (λi=>oB L - (intOf i).toNat)
   case atStart=>exact⟨0,Ze _,rfl,λi _ h=>by omega⟩
   case round =>
    obtain⟨k,hk,rfl,hg⟩:=hrel;have HG:=A0 hg;clear hg;by_cases ja:k<oB L
    ·obtain⟨
         b,o,ha,hb,h0⟩:=HR.at ja
     have hidx:=DC a b o L.length cap k ha ja;obtain⟨x,hx⟩:∃ x,L[k]=x:=⟨_,rfl⟩
     have HX:=A0 hx;rw[hx]at h0;clear hx;obtain⟨q,hq⟩:∃ q,D4 x=q:=⟨_,rfl⟩
     have HQ:=A0 hq;clear hq;cases q with
     | false =>
      have HN:Hid (Ee L=oH):=Cq λh=>by
       have:=(h.2.2 k ja ja).1;rw[HX.out,HQ.out]at this;cases this
      clear ha
      go_wp2_with (go_at_call 99;refine(Dm _ _).mono ?_;rintro e w' ⟨he,rfl⟩;rw[HQ.out]at he;subst he)
      go_ret;exact⟨Ad HN.symm,rfl⟩
     | true =>
      by_cases jf:k=0
      ·have je:¬ (0:Int)<(k:Int):=by omega
       have HS:Hid (F6 L (k+1)):=HG.step ja (by rw[HX.out];exact HQ) (λh=>by omega);clear ha jf
       go_wp2_with (go_at_call 99;refine(Dm _ _).mono ?_;rintro e w' ⟨he,rfl⟩;rw[HQ.out]at he;subst he)
       go_round
       case rel=>exact⟨k+1,by omega,by go_num,HS⟩
       case measure=>simp[intOf];omega
      ·have hj:k - 1<oB L:=by omega
       obtain⟨j,jd⟩:∃ j,k - 1=j:=⟨_,rfl⟩
       obtain⟨b2,o2,jc,hb2,h2⟩:=HR.at hj;obtain⟨y,hy⟩:∃ y,L[k - 1]=y:=⟨_,rfl⟩
       have HY:=A0 hy;rw[hy]at h2;rw[jd]at h2 hj;have hidx2:=DC a b2 o2 L.length cap j jc hj;have hw1:IntKind.i64.wrap ((k:Int) - 1)=(j:Int):=by rw[Zq _ (by omega)];omega
       have je:(0:Int)<(k:Int):=by omega
       clear hy ha jc jd;obtain⟨q,hq⟩:∃ q,Zz y.toList x.toList=q:=⟨_,rfl⟩
       have jb:Hid (ltS y x=q):=hq;cases q with
       | true =>
        have HS:Hid (F6 L (k+1)):=HG.step ja (by rw[HX.out];exact HQ) (λh=>by rw[HY.out,HX.out];exact jb)
        go_wp2_with (go_at_call 99;refine(Dm _ _).mono ?_;rintro e w' ⟨he,rfl⟩;rw[HQ.out]at he;subst he)
        go_round
        case rel=>exact⟨k+1,by omega,by go_num,HS⟩
        case measure=>simp[intOf];omega
       | false =>
        have HN:Hid (Ee L=oH):=Cq λh=>by
         have:=(h.2.2 k ja ja).2 (by omega);rw[HY.out,HX.out,jb.out]at this;cases this
        go_wp2_with (go_at_call 99;refine(Dm _ _).mono ?_;rintro e w' ⟨he,rfl⟩;rw[HQ.out]at he;subst he)
        go_ret;exact⟨Ad HN.symm,rfl⟩
    ·have HN:Hid (Ee L=oF):=Gb ⟨h1,h2,λi hi _=>HG i hi (by omega)⟩;go_wp2;go_ret;exact⟨Ad HN.symm,rfl⟩
  ·have i2:(200:Int)<(oB L:Int):=by omega
   have HN:Hid (Ee L=oH):=Cq λh=>h2 h.2.1
   go_enter Tryz.func74,Tryz.ntmps74
   go_wp2;go_ret;exact⟨Ad HN.symm,rfl⟩
 ·have i1:(oB L:Int)<1:=by omega
  have HN:Hid (Ee L=oH):=Cq λh=>h1 h.1
  go_enter Tryz.func74,Tryz.ntmps74
  go_wp2;go_ret;exact⟨Ad HN.symm,rfl⟩
structure Ar where
 c:Int
 t:Int
deriving DecidableEq,Inhabited
structure Nd where
 fin:Bool
 arcs:List Ar
deriving DecidableEq,Inhabited
def EC (w:Z0)(a:Option Zj)(X:List Ar):Prop:=∀ k (hk:k<oB X),∃ b o,a=oT ⟨b,o,oS⟩/\b<w.heap.size/\w.cell? ⟨b,o+k*2,oS⟩=oT (aA aO X[k].c)/\w.cell? ⟨b,o+k*2+1,oS⟩=oT (aA aM X[k].t)
def EC.later {w w1:Z0}{a:Option Zj}{X:List Ar}{B:Nat}(h:EC w a X)(hb:Below B w w1)(hB:w.heap.size<=B):EC w1 a X:=λk hk=>by
 obtain⟨b,o,ha,h1,h2,h3⟩:=h k hk;exact⟨b,o,ha,by have:=hb.size;omega,(hb.cell (p:=⟨b,o+k*2,oS⟩) (by show b<B;omega)).trans h2,(hb.cell (p:=⟨b,o+k*2+1,oS⟩) (by show b<B;omega)).trans h3⟩
def Cj (w:Z0)(a:Option Zj)(D:List Nd):Prop:=∀ k (hk:k<oB D),∃ b o,a=oT ⟨b,o,oS⟩/\b<w.heap.size/\w.cell? ⟨b,o+k*2,oS⟩=oT (aH D[k].fin) /\
 ∃ aa cc,w.cell? ⟨b,o+k*2+1,oS⟩=oT (aG aa D[k].arcs.length cc)/\D[k].arcs.length<=9223372036854775807/\EC w aa D[k].arcs
def Cj.later {w w1:Z0}{a:Option Zj}{D:List Nd}{B:Nat}(h:Cj w a D)(hb:Below B w w1)(hB:w.heap.size<=B):Cj w1 a D:=λk hk=>by
 obtain⟨b,o,ha,h1,h2,aa,cc,h3,h4,h5⟩:=h k hk;exact⟨b,o,ha,by have:=hb.size;omega,(hb.cell (p:=⟨b,o+k*2,oS⟩) (by show b<B;omega)).trans h2,aa,cc,(hb.cell (p:=⟨b,o+k*2+1,oS⟩) (by show b<B;omega)).trans h3,h4,h5.later hb hB⟩
def Cj.nil (w:Z0)(a:Option Zj):Cj w a []:=λk hk=>by simp at hk
def EC.at {w:Z0}{a:Option Zj}{X:List Ar}(h:EC w a X){k:Nat}(hk:k<oB X):∃ b o,a=oT ⟨b,o,oS⟩/\b<w.heap.size/\w.cell? ⟨b,o+k*2,oS⟩=oT (aA aO X[k].c)/\w.cell? ⟨b,o+k*2+1,oS⟩=oT (aA aM X[k].t):=h k hk
def Cj.at {w:Z0}{a:Option Zj}{D:List Nd}(h:Cj w a D){k:Nat}(hk:k<oB D):∃ b o,a=oT ⟨b,o,oS⟩/\b<w.heap.size/\w.cell? ⟨b,o+k*2,oS⟩=oT (aH D[k].fin) /\
 ∃ aa cc,w.cell? ⟨b,o+k*2+1,oS⟩=oT (aG aa D[k].arcs.length cc)/\D[k].arcs.length<=9223372036854775807/\EC w aa D[k].arcs:=h k hk
def FS9 (a:Option Zj)(b o len cap k:Nat)(ha:a=oT ⟨b,o,oS⟩)(hk:k<len)(w:Z0) :
  (ZK 166 (aG a len cap) (aA aM (k:Int))).run Z1 w=.ok (aB (oT ⟨b,o+k*2,oS⟩)) w:=by
 subst ha;have h0:(0:Int)<=(k:Int):=by omega
 have h1:(k:Int)<(len:Int):=by omega
 simp[go_sem,h0,h1]
def Ih (a:Option Zj)(b o len cap k:Nat)(ha:a=oT ⟨b,o,oS⟩)(hk:k<len)(w:Z0) :
  (ZK 69 (aG a len cap) (aA aM (k:Int))).run Z1 w=.ok (aB (oT ⟨b,o+k*2,oS⟩)) w:=by
 subst ha;have h0:(0:Int)<=(k:Int):=by omega
 have h1:(k:Int)<(len:Int):=by omega
 simp[go_sem,h0,h1]
structure CB (α:Type) where
 sl:X5
 e:X5
 k:Nat
 bytes:Nat
 z:Z6
 enc:α->List Z6
structure CB.Ok {α:Type}(T:CB α):Prop where
 und:Tryz.prog.underlying T.sl=some (.slice T.e)
 info:(Tryz.prog.info? T.e).map (λi=>(i.zero,i.size,i.bytes))=some (some T.z,T.k,T.bytes)
 zs:T.z.cells.size=T.k
 k0:0<T.k
 len:∀ x,(T.enc x).length=T.k
 one:∀ x,∀ u∈T.enc x,u.oneCell'=true
 b:T.bytes<=64
section
variable {α:Type} {T:CB α} {w w1:World} {B C:Nat} {v:Value} {L:List α}
def Af (T:CB α)(w:Z0)(B:Nat)(v:Z6)(L:List α):Prop:=w.ownsRow B T.e T.k v L.length (L.flatMap T.enc)
def FT (h:T.Ok):∀ L:List α,(L.flatMap T.enc).length=oB L*T.k
 | []=>by simp
 | x :: r=>by rw[ZA,AD,FT h r,h.len,Zs,Xp];omega
def flat_get (h:T.Ok):∀ {L:List α} {i j:Nat} (hi:i<oB L) (hj:j<T.k),(L.flatMap T.enc)[i*T.k+j]? = (T.enc L[i])[j]?
 | x :: r,0,j,_,hj=>by
  rw[ZA,Nat.zero_mul,ZS,AK (by rw[h.len];omega)];rfl
 | x :: r,i+1,j,hi,hj=>by
  rw[ZA,AM (by rw[h.len,Xp];omega)];have:(i+1)*T.k+j - (T.enc x).length=i*T.k+j:=by rw[h.len,Xp];omega
  rw[this];exact flat_get h (L:=r) (by simpa using hi) hj
def Af.nil (T:CB α)(w:Z0)(B:Nat):Af T w B (aG oS 0 0) []:=⟨by simp,.inl ⟨rfl,rfl⟩⟩
def Af.empty (T:CB α){g:Nat}(h:w.heap[g]? = oT (aK #[] T.e (0,0)))(hB:B<=g):Af T w B (aG (oT ⟨g,0,oS⟩) 0 0) [] :=
 ⟨by simp,.inr ⟨g,0,#[],rfl,hB,h,A5 _,Ze _,by simp,by simp⟩⟩
def Af.one (h:T.Ok){g:Nat}{x:α}(hg:w.heap[g]? = oT (.cells (T.enc x).toArray T.e (0,0)))(hB:B<=g):Af T w B (aG (oT ⟨g,0,oS⟩) 1 1) [x] :=
 ⟨by simp[h.len],.inr ⟨g,1,_,rfl,hB,hg,A5 _,by unfold maxLen;omega,by simp[h.len],by simp[h.len];rw[AH (by rw[h.len];exact A5 _)]⟩⟩
def Af.form (h:Af T w B v L):∃ a c,v=aG a L.length c/\L.length<=c/\c<=maxLen:=by
 rcases h.2 with⟨rfl,h0⟩ | ⟨g,cap,cur,rfl,h1,h2,h3,h4,_⟩
 · exact⟨oS,0,by rw[h0],by omega,Ze _⟩
 · exact⟨_,cap,rfl,h3,h4⟩
def Af.blk (h:Af T w B v L):(v=aG oS 0 0/\L=[])\/∃ g c,v=aG (oT ⟨g,0,oS⟩) L.length c/\B<=g/\g<w.heap.size/\L.length<=c:=by
 rcases h.2 with⟨rfl,h0⟩ | ⟨g,cap,cur,rfl,h1,h2,h3,h4,_⟩
 · exact .inl ⟨rfl,Zo h0⟩
 · exact .inr ⟨g,cap,rfl,h1,(A7.1 h2).1,h3⟩
def Af.cell (hT:T.Ok){g n c:Nat}(h:Af T w B (aG (oT ⟨g,0,oS⟩) n c) L){i j:Nat}(hi:i<oB L)(hj:j<T.k):w.cell? ⟨g,i*T.k+j,oS⟩=(T.enc L[i])[j]?:=by
 have hg:=flat_get hT hi hj;have ja:j<(T.enc L[i]).length:=by rw[hT.len];exact hj
 rw[AC ja]at hg ⊢;have:=zZ (g:=g) h rfl (i*T.k+j) _ hg;rw[Addr.add_lit]at this;simpa using this
def Af.keep (h:Af T w B v L)(hk:∀ g,v.ownBlock=oT g->w1.heap[g]? = w.heap[g]?):Af T w1 B v L:=by
 refine⟨h.1,h.2.imp id ?_⟩;rintro⟨g,cap,cur,rfl,h1,h2,h3⟩;exact⟨g,cap,cur,rfl,h1,(hk g rfl).trans h2,h3⟩
def Af.below (h:Af T w B v L)(hb:Below C w w1)(hv:∀ g,v.ownBlock=oT g->g<C):Af T w1 B v L:=h.keep λg hg=>hb.block g (hv g hg)
def Af.ge (h:Af T w B v L):∀ g,v.ownBlock=oT g->B<=g:=by
 intro g hg;rcases h.2 with⟨rfl,_⟩ | ⟨g',cap,cur,rfl,h1,h2,h3⟩
 · cases hg
 · cases hg;exact h1
def Af.lt (h:Af T w B v L):∀ g,v.ownBlock=oT g->g<w.heap.size:=by
 intro g hg;rcases h.2 with⟨rfl,_⟩ | ⟨g',cap,cur,rfl,h1,h2,h3⟩
 · cases hg
 · cases hg;exact(A7.1 h2).1
def Af.later (h:Af T w B v L)(hb:Below C w w1)(hC:w.heap.size<=C):Af T w1 B v L:=h.below hb λg hg=>A9 (h.lt g hg) hC
def Af.mono (h:Af T w B v L)(hC:C<=B):Af T w C v L:=by
 refine⟨h.1,h.2.imp id ?_⟩;rintro⟨g,cap,cur,rfl,h1,h2⟩;exact⟨g,cap,cur,rfl,AA hC h1,h2⟩
def Af.grown {row:Option Nat}(h:Af T w B v L)(hg:w.grownBy w1 row)(hr:∀ q,v.ownBlock=oT q->oT q≠row):Af T w1 B v L:=h.keep λg hb=>hg.block g (h.lt g hb) (hr g hb)
def Af.run_append (hT:T.Ok)(h:Af T w B v L)(ty:X5)(a:Zj)(c:Nat)(news:List α)(hn:∀ j u,(news.flatMap T.enc)[j]? = oT u->w.cell? (a.add j)=oT u)(hl:oB L+oB news<=1000000000000)(hB:B<=w.heap.size) :
  ∃ v' w',(Builtin.append_ #[T.sl,T.sl] ty #[v,aG (oT a) news.length c]).run Z1 w=.ok v' w'/\Af T w' B v' (L ++ news)/\w.grownBy w' v.ownBlock/\(v'.ownBlock=v.ownBlock\/v'.ownBlock=oT w.heap.size):=by
 obtain⟨i0,hi,ja,jb,jc⟩:=info_parts hT.info;have hb:(oB L+oB news)*T.bytes<=1000000000000*64:=Y1 hl hT.b;obtain⟨v',w',hr,h1,h2,_,h3⟩:=run_append_own_at (P:=Z1) w B T.sl ty T.e i0 T.z T.k T.bytes hT.und hi ja jb jc hT.zs hT.k0 v L.length (L.flatMap T.enc) h a news.length c (news.flatMap T.enc) (FT hT news) hn
  (λu hu=>by obtain⟨x,_,h2⟩:=zJ.1 hu;exact hT.one x u h2) (by unfold maxLen;omega) (by omega) hB
 refine⟨v',w',hr,?_,h2,h3⟩;unfold Af;rw[AD,XB];exact h1
def Ah (hT:T.Ok){ops:Array ZX}{rest:List ZX}{o:ZX}{a:Act}{Q:Exit->Act->Z0->Prop}(jc:o.guard=oS)(s x:Operand)
  (ho:o.op=.call { callee:=.builtin .append,args:=#[s,x],argTypes:=#[T.sl,T.sl] }) (hs:a.eval s=v) (ja:Af T w B v L) (ad:Zj) (c:Nat) (news:List α) (hx:a.eval x=aG (oT ad) news.length c)
  (hn:∀ j u,(news.flatMap T.enc)[j]? = oT u->w.cell? (ad.add j)=oT u) (hl:oB L+oB news<=1000000000000) (hB:B<=w.heap.size)
  (h:∀ v' w',Af T w' B v' (L ++ news)->w.grownBy w' v.ownBlock->(v'.ownBlock=v.ownBlock\/v'.ownBlock=oT w.heap.size)->wpList Z1 ops Q rest (a.put o.dst v') w'):wpList Z1 ops Q (o :: rest) a w:=by
 refine wpList_plain jc λK' jb=>?_;obtain⟨v',w',hr,h1,h2,h3⟩:=ja.run_append hT o.type ad c news hn hl hB;unfold xe;simp only[execOp,ho,resolve,invoke,builtin,Sem.run_bind,Sem.run_pure,Result.andThen_ok,List.map_toArray,Y4,List.map_nil,hs,hx,hr];exact jb _ _ (h v' w' h1 h2 h3)
def EY.mono {P:Program}{a:Act}{o:ZX}{w:Z0}{R S:Z6->Z0->Prop}(h:EY P a o w R)(hs:∀ v w',R v w'->S v w'):EY P a o w S:=by
 rcases h with⟨v,w',h1,h2⟩ | ⟨f,args,w',h1,h2⟩
 · exact .inl ⟨v,w',h1,hs _ _ h2⟩
 · exact .inr ⟨f,args,w',h1,h2.mono λe w'' ⟨v,he,hv⟩=>⟨v,he,hs _ _ hv⟩⟩
def DD (hT:T.Ok){o:ZX}{a:Act}(s x:Operand)(ho:o.op=.call { callee:=.builtin .append,args:=#[s,x],argTypes:=#[T.sl,T.sl] })(hs:a.eval s=v)(ja:Af T w B v L)(ad:Zj)(c:Nat)(news:List α)
  (hx:a.eval x=aG (oT ad) news.length c) (hn:∀ j u,(news.flatMap T.enc)[j]? = oT u->w.cell? (ad.add j)=oT u) (hl:oB L+oB news<=1000000000000) (hB:B<=w.heap.size) :
  EY Z1 a o w (λv' w'=>Af T w' B v' (L ++ news)/\w.grownBy w' v.ownBlock/\(v'.ownBlock=v.ownBlock\/v'.ownBlock=oT w.heap.size)):=by
 obtain⟨v',w',hr,h1,h2,h3⟩:=ja.run_append hT o.type ad c news hn hl hB;refine .inl ⟨v',w',?_,h1,h2,h3⟩;unfold execOp;simp only[ho,resolve,invoke,builtin,Sem.run_bind,Sem.run_pure,Result.andThen_ok,List.map_toArray,Y4,List.map_nil,hs,hx,hr]
def Ai {g:Nat}{t:X5}{cs:List Z6}(h:w.heap[g]? = oT (.cells cs.toArray t (0,0))):∀ j u,cs[j]? = oT u->w.cell? ((⟨g,0,oS⟩:Zj).add j)=oT u:=by
 intro j u hj;have hc:=Z3 w g j _ _ (0,0) h;have e:(⟨g,0,oS⟩:Zj).add j=⟨g,j,oS⟩:=by rw[Addr.add_lit,ZS]
 rw[e,hc];simpa using hj
end
def Co:CB ByteArray:=⟨35,9,1,16,aI ⟨#[]⟩,λs=>[aI s]⟩
def DV:Co.Ok:=⟨Tryz.underlying35,by kernel_rfl,rfl,by decide,λ_=>rfl,λx u hu=>by obtain rfl:u=aI x:=(AF.1 hu);rfl,by decide⟩
def CK:CB Ar:=⟨166,170,2,16,aJ #[aA aO 0,aA aM 0],λx=>[aA aO x.c,aA aM x.t]⟩
def EU:CK.Ok:=⟨Tryz.underlying166,by kernel_rfl,rfl,by decide,λ_=>rfl,λx u hu=>by
 have h:u=aA aO x.c\/u=aA aM x.t:=by simpa[CK] using hu
 rcases h with rfl | rfl <;> rfl,by decide⟩
structure NV where
 fin:Bool
 a:Option Zj
 n:Nat
 c:Nat
deriving DecidableEq
def C7:CB NV:=⟨69,168,2,32,aJ #[aH oH,aG oS 0 0],λx=>[aH x.fin,aG x.a x.n x.c]⟩
def DW:C7.Ok:=⟨Tryz.underlying69,by kernel_rfl,rfl,by decide,λ_=>rfl,λx u hu=>by
 have h:u=aH x.fin\/u=aG x.a x.n x.c:=by simpa[C7] using hu
 rcases h with rfl | rfl <;> rfl,by decide⟩
structure SV where
 a:Option Zj
 n:Nat
 c:Nat
def Af.strs {w:Z0}{B:Nat}{a:Option Zj}{n c:Nat}{L:List ByteArray}(h:Af Co w B (aG a n c) L):BZ w a L/\n=oB L/\L.length<=c:=by
 obtain⟨a',c',he,hc,_⟩:=h.form;injection he with e1 e2 e3;refine⟨λk hk=>?_,e2,by omega⟩;rcases h.blk with⟨_,rfl⟩ | ⟨g,c2,ja,_,hg,_⟩
 · simp at hk
 ·injection ja with f1 f2 f3;subst f1;refine⟨g,0,rfl,hg,?_⟩;have:=h.cell DV hk (j:=0) (by decide);simpa[Co] using this
def Af.arcs {w:Z0}{B:Nat}{a:Option Zj}{n c:Nat}{L:List Ar}(h:Af CK w B (aG a n c) L):EC w a L/\n=oB L/\L.length<=c:=by
 obtain⟨a',c',he,hc,_⟩:=h.form;injection he with e1 e2 e3;refine⟨λk hk=>?_,e2,by omega⟩;rcases h.blk with⟨_,rfl⟩ | ⟨g,c2,ja,_,hg,_⟩
 · simp at hk
 ·injection ja with f1 f2 f3;subst f1;refine⟨g,0,rfl,hg,?_,?_⟩
  ·have:=h.cell EU hk (j:=0) (by decide);simpa[CK] using this
  ·have:=h.cell EU hk (j:=1) (by decide);simpa[CK] using this
open Go.Shelf Go.RowKit
def szB:(Tryz.prog.info? 214).map (·.size)=oT 2:=by kernel_rfl
def WS:liesAt Z1 Tryz.prog.depth 214 (2 / Tryz.prog.cellsOf 214) 0 214 1=oF:=by kernel_rfl
def WT:(Tryz.prog.info? 5).map (λi=>(i.zero,i.size,i.bytes))=oT (oT (aA aO 0),1,1):=by kernel_rfl
def Jr (b:Nat)(w:Z0)(h0:w.cell? ⟨b,0,oS⟩=oT (aB (oT ⟨b,0,oS⟩))) :
  Zu Z1 144 #[aB (oT ⟨b,0,oS⟩)] w λe w'=>e=aP (.tuple #[])/\w'=w:=by
 obtain⟨j,hj,_⟩:=zj.1 szB
 go_enter Tryz.func144,Tryz.ntmps144
 go_wp2;rw[Lib.run_neq_ptr_same w _ Tryz.underlying212 hj];go_wp2
 go_end0
 exact⟨rfl,rfl⟩
def JV (b:Nat)(w:Z0)(h0:w.cell? ⟨b,0,oS⟩=oT (aB oS))(ja:w.shape? b=oT (214,2))(hfz:w.frozen? ⟨b,0,oS⟩=oH) :
  Zu Z1 144 #[aB (oT ⟨b,0,oS⟩)] w λe w'=>e=aP (.tuple #[])/\w'=w.setCell ⟨b,0,oS⟩ (aB (oT ⟨b,0,oS⟩)):=by
 obtain⟨j,hj,jb⟩:=zj.1 szB
 go_enter Tryz.func144,Tryz.ntmps144
 go_wp2;rw[Lib.run_to_unsafe w ⟨b,0,oS⟩ Tryz.underlying212 Tryz.underlying244 hj (by rw[jb];decide) ja (Nat.zero_lt_succ 1)];simp only[Result.andThen];rw[Oper.upon_value];go_wp2;rw[run_callFunc_extern Tryz.func153 (by kernel_rfl) (by kernel_rfl) (by kernel_rfl) (e:=Extern.AbiNoEscape.same) (by kernel_rfl)];rw[Lib.run_noEscape];simp only[Result.andThen];rw[Oper.upon_value];go_wp2;rw[Lib.run_from_unsafe w ⟨b,0,oS⟩ Tryz.underlying244 Tryz.underlying212 hj ja WS];simp only[Result.andThen];rw[Oper.upon_value];go_wp2
 go_end0
 exact⟨rfl,rfl⟩
def L6 (B b:Nat)(bs:List Z6)(w:Z0)(h:XH 214 5 B b bs w) :
  Zu Z1 144 #[aB (oT ⟨b,0,oS⟩)] w λe w'=>e=aP (.tuple #[])/\(Lib.BuilderAtF 214 5 B b (aB (oT ⟨b,0,oS⟩)) bs w'/\Below B w w'):=by
 rcases h with h | h
 ·refine(JV b w h.cell0 h.shape h.frozen0).mono ?_;rintro e w' ⟨rfl,rfl⟩;exact⟨rfl,h.used _,(Z2 B w).setCell (p:=⟨b,0,oS⟩) h.1 _⟩
 ·refine(Jr b w h.cell0).mono ?_;rintro e w' ⟨rfl,rfl⟩;exact⟨rfl,h,Z2 B _⟩
def G5 (B b:Nat)(bs:List Z6)(s:ByteArray)(w:Z0)(h:XH 214 5 B b bs w)(hlen:oB bs+s.size<=140737488355328)(hBw:B<=w.heap.size) :
  Zu Z1 127 #[aB (oT ⟨b,0,oS⟩),aI s] w λe w'=>e=aP (.tuple #[aA aM s.size,.nilIface])/\XH 214 5 B b (bs ++ xA s) w'/\Below B w w':=by
 obtain⟨i0,hi,ji,jj,jk⟩:=info_parts WT;have H:=A0 h;clear h
 go_enter Tryz.func127,Tryz.ntmps127
 go_wp2_with (go_at_call 144;refine(L6 B b bs _ H).mono ?_)
 rintro e w1 ⟨rfl,h1,jf⟩;obtain⟨hB,v,je,jc,jh⟩:=h1;have c0:w1.cell? ⟨b,0,oS⟩=oT (aB (oT ⟨b,0,oS⟩)):=by rw[Lib.cell_of_heap je];rfl
 have c1:w1.cell? ⟨b,1,oS⟩=oT v:=by rw[Lib.cell_of_heap je];rfl
 go_wp2_with (at_builtin;refine Lib.wpList_append_own_stringF _ rfl _ _ 26 9 rfl B 5 i0 Xv XJ hi ji jj jk _ _ _ rfl jc s rfl ?c3 ?c4 ?c5 ?_)
 case c3=>unfold maxLen;omega
 case c4=>omega
 case c5=>have:=jf.size;omega
 intro v' w2 jb ja _;have jg:b<w1.heap.size:=by
  rcases zx b w1.heap.size with h' | h'
  · exact h'
  · simp[Array.getElem?_eq_none h']at je
 have jd:w2.heap[b]? = oT (aK #[aB (oT ⟨b,0,oS⟩),v] 214 (0,0)):=by
  rw[ja.block b jg (λe=>jh e.symm)];exact je
 have d0:w2.cell? ⟨b,0,oS⟩=oT (aB (oT ⟨b,0,oS⟩)):=by rw[Lib.cell_of_heap jd];rfl
 have d1:w2.cell? ⟨b,1,oS⟩=oT v:=by rw[Lib.cell_of_heap jd];rfl
 have f1:w2.frozen? ⟨b,1,oS⟩=oH:=Lib.frozen_of_heap jd 1;obtain⟨ao,n',cap,rfl⟩:∃ ao n' cap,v'=aG ao n' cap:=by
  rcases jb.2 with⟨hv,_⟩ | ⟨g,cap,cur,fz,hv,_⟩
  · exact⟨_,_,_,hv⟩
  · exact⟨_,_,_,hv⟩
 go_wp2
 go_ret2
 refine⟨rfl,.inr ?_,?_⟩
 · exact Lib.BuilderAtF.put (T:=214) (e:=5) hB jd (bs':=bs ++ xA s) (by simpa[Lib.strCells_length] using jb) (by decide)
 · exact(jf.grown ja (by have:=jf.size;omega) (λk hk=>(jc.lt k hk).1)).setCell (p:=⟨b,1,oS⟩) hB _
open Go.Shelf Go.RowKit Go.WideShapes
def SO {a b:ByteArray}(h:a=b):Ending.returned (aI a)=aP (aI b):=by rw[h]
def DX (x:Ar):List UInt8:=32 :: Zy x.c.toNat :: zD x.t
def Ba (f:Bool)(X:List Ar):List UInt8:=zK f ++ X.flatMap DX
def Qs {f:Bool}{X:List Ar}{k:Nat}(hk:k<oB X):Ba f (X.take (k+1))=Ba f (X.take k) ++ DX X[k]:=by
 rw[Ba,AR hk,XB,<- Zw];simp[Ba]
def U6 (u:Nat):(zI u).length<=u+1:=by
 induction u using zF with
 | _
   u ih =>
  rw[zI];split
  · simp
  ·have:=ih (u / 10) (by omega);rw[AD];simp;omega
def Qt (x:Ar):Prop:=0<=x.c/\x.c<=127/\0<=x.t/\x.t<=1000000
def Nj {x:Ar}(h:Qt x):(DX x).length<=1000003:=by
 obtain⟨h1,h2,h3,h4⟩:=h;have:(zD x.t).length<=1000001:=by
  rw[zD,if_neg (by omega)];have:=U6 x.t.toNat;omega
 simp[DX];omega
def Nk {f:Bool}{X:List Ar}(h:∀ x∈X,Qt x):(Ba f X).length<=5+oB X*1000003:=by
 have h1:(zK f).length<=5:=by cases f <;> decide
 have h2:(X.flatMap DX).length<=oB X*1000003:=by
  induction X with
  | nil=>simp
  | cons x r ih =>
   rw[ZA,AD,Zs,Xp];have:=Nj (h x (by simp));have:=ih (λy hy=>h y (by simp[hy]));omega
 rw[Ba,AD];omega
def Tab (w:Z0):Prop:=Lib.TabIs Z1 w "internal/strconv.uint64pow10" .u64 Lib.pow10Tab
def Wp:∃ g,Tryz.prog.globalNamed "internal/strconv.uint64pow10" = some g:=by
 have h:(Tryz.prog.globalNamed "internal/strconv.uint64pow10").isSome=true:=by kernel_rfl
 exact XX.1 h
def Tab.later {w w':Z0}(h:Tab w)(hb:Below w.heap.size w w'):Tab w':=by
 obtain⟨g,hg⟩:=Wp;unfold Tab Lib.TabIs World.var? at h ⊢;rw[hg]at h ⊢;simp only[Option.bind_some]at h ⊢;have ja:g<w.heap.size:=by
  rcases zx g w.heap.size with h' | h'
  · exact h'
  · rw[Array.getElem?_eq_none h']at h;cases h
 rw[hb.block g ja];exact h
def Or {T e:X5}{B b:Nat}{bs:List Z6}{w w':Z0}(h:XH T e B b bs w)(hx:Ext w w'):XH T e B b bs w':=by
 have key:∀ p,Lib.BuilderAtF T e B b p bs w->Lib.BuilderAtF T e B b p bs w':=by
  rintro p ⟨hB,v,hb,ja,jb⟩;refine⟨hB,v,(Z7 hx b (A7.1 hb).1).trans hb,⟨ja.1,ja.2.imp id ?_⟩,jb⟩;rintro⟨g,cap,cur,fz,rfl,h1,h2,h3⟩;exact⟨g,cap,cur,fz,rfl,h1,(Z7 hx g (A7.1 h2).1).trans h2,h3⟩
 exact h.imp (key _) (key _)
def Qu (c:Int)(h0:0<=c)(h1:c<=127):Utf8.encode c=⟨#[Zy c.toNat]⟩:=by
 have hv:Utf8.valid c=oF:=by simp[Utf8.valid];omega
 have hc:c.toNat<0x80:=by omega
 simp only[Utf8.encode,hv,if_true,hc]
def VU (b:Bool)(w:Z0):Zu Z1 128 #[aH b] w λe w'=>e=aP (aI ⟨(zK b).toArray⟩)/\w=w' :=
 (Tryz.strconv_FormatBool b w).mono λe w' h=>⟨h.1,h.2.symm⟩
def CC {w:Z0}{g:Nat}{a b:Z6}{t:X5}{f:Nat × Nat}(h:w.heap[g]? = oT (aK #[a,b] t f)):w.cell? ⟨g,0,oS⟩=oT a/\w.cell? ⟨g,1,oS⟩=oT b:=by
 refine⟨?_,?_⟩
 · rw[Z3 w g 0 _ _ f h];rfl
 · rw[Z3 w g 1 _ _ f h];rfl
def
  ContT (w1 wr:Z0) (b:Nat) (l0 l1:List UInt8) (done:Bool) (W:Z0):Prop :=
 Below b w1 W/\b<=W.heap.size/\match done with
  | true=>XH 214 5 b b (XV l1) W
  | false=>XH 214 5 b b (XV l0) W/\Below wr.heap.size wr W
def Lh {w1 wr:Z0}{b:Nat}{l0 l1:List UInt8}:∀ (d:Bool) (W W':Z0),ContT w1 wr b l0 l1 d W->Ext W W'->ContT w1 wr b l0 l1 d W':=by
 intro d W W' ⟨h1,h2,h3⟩ hx;refine⟨h1.trans (ZT hx h2),AA h2 hx.size,?_⟩;cases d with
 | true=>exact Or h3 hx
 | false=>exact⟨Or h3.1 hx,h3.2.trans (ZT hx h3.2.size)⟩
def contents_any (f:Bool)(X:List Ar)(a:Option Zj)(n cap:Nat)(w:Z0)(hX:EC w a X)(hn:n=oB X)(jT:∀ x∈X,Qt x)(hl:oB X<=10000)(ht:Tab w) :
  Zu Z1 101 #[aJ #[aH f,aG a n cap]] w λe w'=>e=aP (aI ⟨(Ba f X).toArray⟩)/\Below w.heap.size w w':=by
 subst hn;obtain⟨HX,jJ,HT⟩:=oC hX jT ht;clear hX jT ht
 go_enter Tryz.func101,Tryz.ntmps101
 obtain⟨w1,jl⟩:∃ w1,w1=w.alloc (aK #[aH f,aG a X.length cap] 168):=⟨_,rfl⟩
 have jm:w1.heap.size=w.heap.size+1:=by rw[jl];simp
 have jL:Below w.heap.size w w1:=by rw[jl];exact(Z2 _ _).alloc (A5 _) _
 have jj:Hid (w1.heap[w.heap.size]? = oT (aK #[aH f,aG a X.length cap] 168 (0,0))):=by rw[jl];exact Z4 _ _
 have jX:=A0 jL;have jd:XH 214 5 w1.heap.size w1.heap.size [] (w1.alloc (aK #[aB oS,aG oS 0 0] 214)):=.of (Lib.fresh_isBuilder _ _ _);obtain⟨g1,jz⟩:∃ g1,g1=w1.heap.size:=⟨_,rfl⟩
 rw[<- jz]at jd;have jh:=A0 jd;clear jd jL
 go_upto_region 2 with fail
 have jB:w.heap.size+1=g1:=by omega
 rw[<- jl,jB];clear jl;obtain⟨w2,jG⟩:∃ w2,w2=w1.alloc (aK #[aB oS,aG oS 0 0] 214):=⟨_,rfl⟩
 have ju:Hid (Below g1 w1 w2):=by show Below _ _ _;rw[jG];exact(Z2 _ _).alloc (by omega) _
 rw[<- jG]at jh ⊢;clear jG;have jR:g1<=w2.heap.size:=by have:=ju.size;omega
 have c0:w2.cell? ⟨w.heap.size,0,oS⟩=oT (aH f):=(ju.cell (p:=⟨w.heap.size,0,oS⟩) (by show w.heap.size<g1;omega)).trans (by rw[Z3 _ _ _ _ _ _ jj.out];rfl);obtain⟨s0,js⟩:∃ s0:ByteArray,s0=⟨(zK f).toArray⟩:=⟨_,rfl⟩
 have j0:=A0 js;have jD:s0.size<=140737488355328:=by rw[js];cases f <;> decide
 have jy:=VU f;rw[<- js]at jy;have jZ:=A0 jy;clear js jy;obtain⟨jw,HW1S,HG1⟩:=oC jB jm jz;clear jB jm jz
 go_wp2_with fail
 refine(jZ _).mono ?_;rintro e w' ⟨rfl,rfl⟩
 go_wp2_with fail
 refine(G5 g1 g1 [] s0 _ jh (by simpa using jD) jR).mono ?_;rintro e w3 ⟨rfl,jc,jx⟩;have h0:([]:List Z6) ++ xA ⟨(zK f).toArray⟩=XV (Ba f []):=by
  simp[xA,XV,Ba]
 rw[j0.out,h0]at jc;have jv:=A0 jc;have jI:=A0 (ju.trans jx);have j5:=AA jR jx.size;clear jc jx h0 c0;have c1:w3.cell? ⟨w.heap.size,1,oS⟩=oT (aG a X.length cap):=(jI.cell (p:=⟨w.heap.size,1,oS⟩) (by show w.heap.size<g1;have:=jw.out;omega)).trans (by rw[Z3 _ _ _ _ _ _ jj.out];rfl);go_wp2
 go_loopw [13] (λq wr=>∃ k:Nat,k<=oB X/\q=aA aM (k:Int)/\XH 214 5 g1 g1 (XV (Ba f (X.take k))) wr/\Below g1 w1 wr/\g1<=wr.heap.size) (λq _=>oB X - (intOf q).toNat)
 case atStart=>exact⟨0,Ze _,rfl,jv,jI,j5⟩
 case round =>
  obtain⟨k,hk,rfl,jN,hB,jA⟩:=hrel;have jh:=A0 jN;have HB:=A0 hB;have jp:=A0 (jX.trans (hB.mono (by have:=jw.out;omega)));clear jN hB;by_cases jr:k<oB X
  ·obtain⟨
       b,o,ha,hb,q0,q1⟩:=(HX.later jp (A5 _)) k jr
   have hidx:=FS9 a b o X.length cap k ha jr;have jK:=A0 (Qs (f:=f) jr);have jt:=jJ X[k] (AI jr);have hkl:=Nk (f:=f) (X:=X.take k) (λx hx=>jJ x (Xo hx));have hkl2:(X.take k).length<=10000:=by have:=List.length_take_le' k X;omega
   have jH:=Nj jt;obtain⟨x,hx⟩:∃ x,X[k]=x:=⟨_,rfl⟩
   rw[hx]at q0 q1 jK jt jH;obtain⟨xc,xt⟩:=x;simp only[Qt]at q0 q1 jt;obtain⟨x0,x1,x2,x3⟩:=jt;clear ha hx
   go_upto_region 6 with fail
   obtain⟨wy,jo⟩:∃ wy,wy=wr.alloc (aK #[aA aO xc,aA aM xt] 170):=⟨_,rfl⟩
   have jn:Below wr.heap.size wr wy:=by rw[jo];exact(Z2 _ _).alloc (A5 _) _
   have HV:Hid (wy.heap[wr.heap.size]? = oT (aK #[aA aO xc,aA aM xt] 170 (0,0))):=by rw[jo];exact Z4 _ _
   have Jx:wr.heap.size<wy.heap.size:=by rw[jo];simp
   have j2:Hid (ContT w1 wy g1 (Ba f (X.take k)) (Ba f (X.take k) ++ DX ⟨xc,xt⟩) oH wy) :=
    ⟨HB.trans (jn.mono jA),AA jA jn.size,Or jh jn,Z2 _ _⟩
   have j1:Hid (Tab wy):=HT.later (jp.trans (jn.mono jp.size));rw[<- jo];clear jo jn;refine Ay (by kernel_rfl) (Vs [vq (aB (oT ⟨wr.heap.size,0,oS⟩)),vq (aA aO xc),vq (aA .i32 xc),vq (aI ⟨#[Zy xc.toNat]⟩),vq (aI (⟨#[32]⟩ ++ ⟨#[Zy xc.toNat]⟩:ByteArray)),vq (aB (oT ⟨wr.heap.size,1,oS⟩)),vq (aA aM xt),vq (aI ⟨(zD xt).toArray⟩),vq (aI ((⟨#[32]⟩ ++ ⟨#[Zy xc.toNat]⟩:ByteArray) ++ ⟨(zD xt).toArray⟩:ByteArray)),λ_ _=>True]) (Xs [Ext,Ext,Ext,Ext,Ext,Ext,Ext,Ext,Ext,(λ_ _=>True)]) (λfL=>(λd W=>ContT w1 wy g1 (Ba f (X.take k)) (Ba f (X.take k) ++ DX ⟨xc,xt⟩) d W) (fL 9)) [0,1,3,7,15,0,32,96,255,511] 29 10 (by kernel_rfl) rfl ?hV ?hS ?hop ?hfin ?hlast
   case hV =>
    refine Bi (BB (by simp only[AX,ZN,or_false,forall_eq_or_imp,forall_eq];exact⟨Ab _,Ab _,Ab _,Ab _,Ab _,Ab _,Ab _,Ab _,Ab _,λ_ _ _ _ _=>trivial⟩)) ?_;exact⟨.inl rfl,.inl rfl,.inl rfl,.inl rfl,.inl rfl,.inl rfl,.inl rfl,.inl rfl,.inl rfl,.inr (BU ⟨λ_ _=>λ_ _ _ h _=>h,λ_ _=>λ_ _ _ h _=>h,λ_ _=>λ_ _ _ h _=>h,λ_ _=>λ_ _ _ h _=>h,λ_ _=>λ_ _ _ h _=>h,λ_ _=>λ_ _ _ h _=>h,λ_ _=>λ_ _ _ h _=>h,λ_ _=>λ_ _ _ h _=>h,λ_ _=>λ_ _ _ h _=>h,λh=>absurd rfl h,trivial⟩),trivial⟩
   case hS =>
    intro fL hf;show(λd W=>ContT w1 wy g1 (Ba f (X.take k)) (Ba f (X.take k) ++ DX ⟨xc,xt⟩) d W) (fL 9) _;rw[hf 9 (by decide)];exact Lh _ _ _ j2 ⟨rfl,rfl,rfl,A5 _,λ_ _=>rfl⟩
   case hop =>
    refine⟨?_,?_,?_,?_,?_,?_,?_,?c7,?_,?c9,trivial⟩
    all_goals first | rw[if_neg (by decide)] | rw[if_pos (by decide)]
    all_goals try intro ac W fL jg jq jS jQ jb je ja jF
    all_goals try have hS:(λd W=>ContT w1 wy g1 (Ba f (X.take k)) (Ba f (X.take k) ++ DX ⟨xc,xt⟩) d W) (fL 9) W:=jb
    all_goals try (have jf:fL 9=oF:=jS 9 (by decide);rw[jf]at hS)
    all_goals try (have jf:fL 9=oH:=(by first | exact jq | exact jQ 9 (by decide) (by decide));rw[jf]at hS)
    all_goals try (
     have henc:=Qu xc x0 x1;have hw32:IntKind.i32.wrap xc=xc:=IntWalk.i32_in _ (by omega);have hadd:2+(zD xt).length<=9223372036854775807:=by simp only[DX,Zs]at jH;omega
     have jO:=hS.2.2.2;obtain⟨v0,v1⟩:=CC ((jO.block wr.heap.size Jx).trans HV))
    all_goals try have hh5:=gdA ac 5 (aB (oT ⟨wr.heap.size,0,oS⟩)) (ja 5 (by kernel_rfl))
    all_goals try have hh3:=gdA ac 3 (aB (oT ⟨g1,0,oS⟩)) (ja 3 (by kernel_rfl))
    all_goals try (have je:=GC je;simp[FK,Ae,vq]at je)
    all_goals try clear ja jS jQ jF
    case c7 =>
     have j3:(λd W=>ContT w1 wy g1 (Ba f (X.take k)) (Ba f (X.take k) ++ DX ⟨xc,xt⟩) d W) ((upd fL 7) 9) W:=jb;refine Ag rfl (.inr ⟨129,#[aA aM xt],W,by(clear jg hS jb j3 jq;simp[go_sem,Zf, *]),?_⟩);refine(Tryz.strconv_Itoa xt (by omega) (by omega) W (j1.later jO)).mono ?_;rintro e w' ⟨he,k',os,rfl⟩;have hx:Ext W (Sort.grow (W.drewN k') os):=Lib.below_grow _ W (A5 _) k' os;exact⟨_,he,rfl,hx,(show(λd W=>ContT w1 wy g1 (Ba f (X.take k)) (Ba f (X.take k) ++ DX ⟨xc,xt⟩) d W) ((upd fL 7) 9) _ by
      rw[show upd fL 7 9=fL 9 from if_neg (by decide)];exact Lh _ _ _ jb hx)⟩
    case c9 =>
     refine Ag rfl (.inr ⟨127,#[aB (oT ⟨g1,0,oS⟩),aI ((⟨#[32]⟩ ++ ⟨#[Zy xc.toNat]⟩:ByteArray) ++ ⟨(zD xt).toArray⟩:ByteArray)],W,by(clear jg hS jb jq;simp[go_sem,Zf, *]),?_⟩);obtain⟨j7,jU,j8⟩:Below g1 w1 W/\g1<=W.heap.size/\XH 214 5 g1 g1 (XV (Ba f (X.take k))) W:=⟨hS.1,hS.2.1,hS.2.2.1⟩
     have jC:(XV (Ba f (X.take k))).length+(((⟨#[32]⟩ ++ ⟨#[Zy xc.toNat]⟩:ByteArray) ++ ⟨(zD xt).toArray⟩:ByteArray)).size<=140737488355328:=by
      have jE:(((⟨#[32]⟩ ++ ⟨#[Zy xc.toNat]⟩:ByteArray) ++ ⟨(zD xt).toArray⟩:ByteArray)).size=2+(zD xt).length:=by
       rw[zv,zv];show 1+1+(zD xt).toArray.size=_;simp
      rw[Lib.byteCells_length,jE];simp only[DX,Zs]at jH;omega
     have jW:=G5 g1 g1 _ ((⟨#[32]⟩ ++ ⟨#[Zy xc.toNat]⟩:ByteArray) ++ ⟨(zD xt).toArray⟩:ByteArray) W j8 jC jU;refine jW.mono ?_;clear jW hS jb;rintro e w' ⟨he,jk,jM⟩;refine⟨_,he,trivial,trivial,(show(λd W=>ContT w1 wy g1 (Ba f (X.take k)) (Ba f (X.take k) ++ DX ⟨xc,xt⟩) d W) ((upd fL 9) 9) _ by
      rw[show upd fL 9 9=oF from if_pos rfl];exact⟨j7.trans jM,AA jU jM.size,by
       have e9:XV (Ba f (X.take k)) ++ xA ((⟨#[32]⟩ ++ ⟨#[Zy xc.toNat]⟩:ByteArray) ++ ⟨(zD xt).toArray⟩:ByteArray)=XV (Ba f (X.take k) ++ DX ⟨xc,xt⟩):=by simp[xA,XV,DX]
       rw[e9]at jk;exact jk⟩)⟩
    all_goals (refine Ag rfl (.inl ⟨_,W,?_,rfl,Ext.refl _,jb⟩);clear jg hS jb jq;simp[go_sem,Zf, *];done)
   case hlast =>
    intro h;exact absurd rfl h
   case hfin =>
    intro _ ac W jg jP fL hf jb hv ja;have hS:(λd W=>ContT w1 wy g1 (Ba f (X.take k)) (Ba f (X.take k) ++ DX ⟨xc,xt⟩) d W) (fL 9) W:=jb;clear jb;rw[hf 9 (by decide)]at hS;obtain⟨sx,j9,jV⟩:=B7 [17,18,19,20,21,22,23,24,25,26] (by kernel_rfl) jg jP ja;rw[jV];simp only[Zp];simp only[ZE,Z5,Za,Z9];clear jV j9 hv ja jg jP hf;have jY:=A0 hS.1;have ji:=A0 hS.2.2;have j6:=hS.2.1;clear hS;rw[<- jK.out]at ji
    go_wp2_with fail
    go_roundw
    case rel=>exact⟨k+1,by omega,by go_num,ji,jY,j6⟩
    case measure=>simp[intOf];omega
  ·have HA:Hid (Ba f (X.take k)=Ba f X):=by show _=_;rw[AH (by omega)]
   go_wp2_with (go_at_call 130;refine(Tryz.Builder_String_any_k g1 g1 _ _ jh jA).mono ?_;rintro e w5 ⟨rfl,_,j4,_⟩)
   go_ret;exact⟨SO (by rw[HA.out]),jp.trans (j4.mono (by have:=jw.out;omega))⟩
def Bt (w:Z0)(a:Option Zj)(len:Nat)(Z:Nat->Int):Prop :=
 len=0\/∃ b o,a=oT ⟨b,o,oS⟩/\len<=9223372036854775807/\b<w.heap.size/\∀ i,i<len->w.cell? ⟨b,o+i,oS⟩=oT (aA aO (Z i))/\0<=Z i/\Z i<=255
def Bt.later {w w1:Z0}{a:Option Zj}{len:Nat}{Z:Nat->Int}{B:Nat}(h:Bt w a len Z)(hb:Below B w w1)(hB:w.heap.size<=B):Bt w1 a len Z:=by
 rcases h with h | ⟨b,o,ha,hl,ja,hr⟩
 · exact .inl h
 · exact .inr ⟨b,o,ha,hl,A9 ja hb.size,λi hi=>⟨(hb.cell (p:=⟨b,_,oS⟩) (A9 ja hB)).trans (hr i hi).1,(hr i hi).2⟩⟩
def Bt.at {w:Z0}{a:Option Zj}{len:Nat}{Z:Nat->Int}(h:Bt w a len Z){k:Nat}(hk:k<len):∃ b o,a=oT ⟨b,o,oS⟩/\b<w.heap.size/\w.cell? ⟨b,o+k,oS⟩=oT (aA aO (Z k))/\0<=Z k/\Z k<=255:=by
 rcases h with h | ⟨b,o,ha,hl,ja,hr⟩
 · omega
 · exact⟨b,o,ha,ja,hr k hk⟩
def EV (a:Option Zj)(b o len cap k:Nat)(ha:a=oT ⟨b,o,oS⟩)(hk:k<len)(w:Z0) :
  (ZK 26 (aG a len cap) (aA aM (k:Int))).run Z1 w=.ok (aB (oT ⟨b,o+k,oS⟩)) w:=by
 subst ha;have h0:(0:Int)<=(k:Int):=by omega
 have h1:(k:Int)<(len:Int):=by omega
 simp[go_sem,h0,h1]
def MT {a b:ByteArray}(h:a=b):Ending.returned (aI a)=aP (aI b):=by rw[h]
def Ii (b o n:Nat):(⟨b,o,oS⟩:Zj).add n=⟨b,o+n,oS⟩:=by
 unfold Addr.add;split <;> simp_all
def Q2 {α:Type}{p:α->Bool}:∀ {L:List α} {k:Nat},k<=oB L->(∀ j (hj:j<oB L),j<k->p L[j]=oF)->(∀ h:k<oB L,p L[k]=oH)->L.takeWhile p=L.take k/\L.dropWhile p=L.drop k
 | [],k,hk,_,_=>by simp
 | x :: r,0,_,_,h=>by
  have:=h (by simp);simp only[zk]at this;simp[XC,XO,this]
 | x
   :: r,k+1,hk,h1,h2=>by
  have hx:=h1 0 (by simp) (by omega);simp only[zk]at hx;have ih:=Q2 (p:=p) (L:=r) (k:=k) (by simpa using hk) (λj hj hjk=>by
   have:=h1 (j+1) (by simpa using hj) (by omega);simpa using this) (λh=>by
   have:=h2 (by simpa using h);simpa using this)
  simp[XC,XO,hx,ih.1,ih.2]
def Js (a:Zj)(n cap k:Nat)(hk:k<=n)(hn:n<=cap)(w:Z0) :
  (Xm 35 (aG (oT a) n cap) oS (oT (aA aM (k:Int))) oS).run Z1 w=.ok (aG (oT a) k cap) w:=by
 have h0:(0:Int)<=(k:Int):=by omega
 have h1:(k:Int)<=(cap:Int):=by omega
 simp[go_sem,Xm,Xw,XA,asIntOf,h0,h1];intro h;omega
def G6 (b o n cap k:Nat)(hk:k<=n)(hn:n<=cap):∃ o',(k<n->o'=o+k)/\∀ w:Z0,
  (Xm 35 (aG (oT ⟨b,o,oS⟩) n cap) (oT (aA aM (k:Int))) oS oS).run Z1 w=.ok (aG (oT ⟨b,o',oS⟩) (n - k) (cap - k)) w:=by
 have h0:(0:Int)<=(k:Int):=by omega
 have h1:(k:Int)<=(n:Int):=by omega
 have h2:(n:Int)<=(cap:Int):=by omega
 refine⟨if cap=k then o else o+k,λh=>if_neg (by omega),λw=>?_⟩;simp[go_sem,Xm,Xw,XA,asIntOf,h0,h1,h2,Addr.add,hk];by_cases e:cap=k
 · simp[e]
 ·by_cases e0:k=0
  · simp[e0]
  · simp[e,e0]
def Q3 (M:List ByteArray)(w:Z0)(e:Ending)(w':Z0):Prop :=
 ∃ (b o c:Nat),e=aP (aG (oT ⟨b,o,oS⟩) M.length c)/\BZ w' (oT ⟨b,o,oS⟩) M/\M.length<=c/\Below w.heap.size w w'
def As (s:ByteArray)(d:Nat):Int:=((s.data.toList.getD d 0).toNat:Int)
def Jt {s:ByteArray}{d:Nat}(h:d<s.size):As s d=(s[d].toNat:Int):=by
 have h2:d<oB s.data.toList:=by simpa using h
 unfold As;rw[AS,AC h2];rfl
def addN (fin:Bool)(A:List Ar)(D:List Nd):Nat × List Nd :=
 if D.findIdx (λx=>decide (Ba x.fin x.arcs=Ba fin A))<oB D then(D.findIdx (λx=>decide (Ba x.fin x.arcs=Ba fin A)),D) else(oB D,D ++ [⟨fin,A⟩])
def Ef (d:Nat)(L:List ByteArray)(c:Int):Nat:=(L.takeWhile λs=>decide (As s d=c)).length
def DL (rec:List ByteArray->List Nd->Nat × List Nd)(d:Nat):Nat->List ByteArray->List Ar->List Nd->List Ar × List Nd
 | 0,_,A,D=>(A,D)
 | _+1,[],A,D=>(A,D)
 | n+1,x :: r,A,D=>DL rec d n ((x :: r).drop (Ef d (x :: r) (As x d))) (A ++ [⟨As x d,((rec ((x :: r).take (Ef d (x :: r) (As x d))) D).1:Nat)⟩]) (rec ((x :: r).take (Ef d (x :: r) (As x d))) D).2
def Nl (d:Nat)(L:List ByteArray):Bool:=match L with | []=>oH | x :: _=>decide (x.size=d)
def Bm (d:Nat)(L:List ByteArray):List ByteArray:=if Nl d L=oF then L.tail else L
def
  nodeW:Nat->Nat->List ByteArray->List Nd->Nat × List Nd
 | 0,_,_,D=>(0,D)
 | m+1,d,L,D =>
  addN (Nl d L) (DL (nodeW m (d+1)) d (Bm d L).length (Bm d L) [] D).1 (DL (nodeW m (d+1)) d (Bm d L).length (Bm d L) [] D).2
def I9 {d:Nat}{x:ByteArray}{r:List ByteArray}:1<=Ef d (x :: r) (As x d):=by
 unfold Ef;rw[XC,if_pos (by simp)];simp
def Q4 {d:Nat}{L:List ByteArray}{c:Int}:Ef d L c<=oB L:=(List.takeWhile_prefix _).length_le
def U7 (fin:Bool)(A:List Ar)(D:List Nd):(addN fin A D).2.length<=oB D+1:=by
 unfold addN;split <;> simp
def U8 (fin:Bool)(A:List Ar)(D:List Nd):(addN fin A D).1<(addN fin A D).2.length:=by
 unfold addN;split
 · assumption
 · simp
def Nm {rec:List ByteArray->List Nd->Nat × List Nd}{d k:Nat}(hr:∀ L D,L≠[]->(rec L D).2.length<=oB D+oB L*k):∀ n L A D,(DL rec d n L A D).2.length<=oB D+oB L*k
 | 0,_,_,_=>z8 _ _
 | _+1,[],_,_=>z8 _ _
 | n+1,x :: r,A,D=>by
  rw[DL];have h1:=I9 (d:=d) (x:=x) (r:=r);have h2:=Q4 (d:=d) (L:=x :: r) (c:=As x d);have h3:=Nm (d:=d) hr n ((x :: r).drop (Ef d (x :: r) (As x d))) (A ++ [⟨As x d,((rec ((x :: r).take (Ef d (x :: r) (As x d))) D).1:Nat)⟩]) (rec ((x :: r).take (Ef d (x :: r) (As x d))) D).2;have h4:=hr ((x :: r).take (Ef d (x :: r) (As x d))) D (by intro h;have:=congrArg List.length h;rw[AO]at this;simp at this;omega);rw[ZZ]at h3;rw[AO,Nat.min_eq_left h2]at h4;have h5:((x :: r).length - Ef d (x :: r) (As x d))*k+Ef d (x :: r) (As x d)*k=(x :: r).length*k:=by rw[<- Xp];congr 1;omega
  omega
def Li (d:Nat)(L:List ByteArray):(Bm d L).length<=oB L:=by
 unfold Bm;split <;> simp
def Ju:∀ m d L D,L≠[]->(nodeW m d L D).2.length<=oB D+oB L*m
 | 0,_,_,_,_=>z8 _ _
 | m+1,d,L,D,hL=>by
  rw[nodeW];have h1:=Nm (rec:=nodeW m (d+1)) (d:=d) (k:=m) (Ju m (d+1)) (Bm d L).length (Bm d L) [] D;have h2:=U7 (Nl d L) (DL (nodeW m (d+1)) d (Bm d L).length (Bm d L) [] D).1 (DL (nodeW m (d+1)) d (Bm d L).length (Bm d L) [] D).2;have h3:(Bm d L).length*m<=oB L*m:=ZM _ (Li d L);have h4:1<=oB L:=by cases L with | nil=>exact absurd rfl hL | cons=>simp
  have h5:oB L*(m+1)=oB L*m+oB L:=Nat.mul_succ _ _;omega
def SQ (m d:Nat)(L:List ByteArray)(D:List Nd):(nodeW (m+1) d L D).1<(nodeW (m+1) d L D).2.length:=by
 rw[nodeW];exact U8 _ _ _
def Qv:∀ (m d:Nat) (L:List ByteArray) (D:List Nd),(nodeW m d L D).1<=(nodeW m d L D).2.length
 | 0,_,_,_=>Ze _
 | m+1,d,L,D=>Nat.le_of_lt (SQ m d L D)
structure Pre (d m:Nat)(L:List ByteArray):Prop where
 ne:L≠[]
 ge:∀ x∈L,d<=x.size
 lt:∀ x∈L,x.size<d+m
 asc:∀ x∈L,∀ c∈x.data.toList,c.toNat<128
 same:∀ x∈L,∀ y∈L,x.data.toList.take d=y.data.toList.take d
 inc:L.Pairwise λx y=>ltS x y=true
def Nn:∀ {a b:List UInt8} {d:Nat},a.take d=b.take d->d<=oB a->Zz a b=oF->d<oB b
 | _,[],d,_,_,h=>by unfold Zz at h;cases h
 | [],y :: ys,d,he,hd,h=>by simp at hd;subst hd;simp
 | x :: xs,y :: ys,0,he,hd,h=>by simp
 | x :: xs,y :: ys,d+1,he,hd,h=>by
  simp only[zG,List.cons.injEq]at he;obtain⟨rfl,he⟩:=he;have hx:¬ x<x:=by rw[XT];omega
  simp[Zz,hx]at h;have:=Nn (d:=d) he (by simpa using hd) h;simpa using this
def Gc (x:ByteArray):x.size=oB x.data.toList:=by simp
def Pre.longer {d m:Nat}{x:ByteArray}{r:List ByteArray}(h:Pre d m (x :: r)):∀ y∈r,d<y.size:=by
 intro y hy;have h1:=(AU.1 h.inc).1 y hy;rw[ltS,ZQ,ZQ]at h1;have h2:=h.ge x (by simp);rw[Gc]at h2 ⊢;exact Nn (h.same x (by simp) y (by simp[hy])) h2 h1
structure Rest (d m:Nat)(L:List ByteArray):Prop where
 gt:∀ x∈L,d<x.size
 lt:∀ x∈L,x.size<d+m
 asc:∀ x∈L,∀ c∈x.data.toList,c.toNat<128
 same:∀ x∈L,∀ y∈L,x.data.toList.take d=y.data.toList.take d
 inc:L.Pairwise λx y=>ltS x y=true
def Pre.rest {d m:Nat}{L:List ByteArray}(h:Pre d m L):Rest d m (Bm d L):=by
 cases L with
 | nil=>exact absurd rfl h.ne
 | cons x r =>
  unfold Bm Nl;by_cases e:x.size=d
  ·rw[if_pos (by simpa using e)];exact⟨h.longer,λy hy=>h.lt y (Zm _ hy),λy hy=>h.asc y (Zm _ hy),λy hy z hz=>h.same y (Zm _ hy) z (Zm _ hz),(AU.1 h.inc).2⟩
  ·rw[if_neg (by simpa using e)];refine⟨λy hy=>?_,h.lt,h.asc,h.same,h.inc⟩;rcases AX.1 hy with rfl | hy
   · have:=h.ge y (by simp);omega
   · exact h.longer y hy
def Rest.drop {d m:Nat}{L:List ByteArray}(h:Rest d m L)(k:Nat):Rest d m (L.drop k) :=
 ⟨λx hx=>h.gt x (Xf hx),λx hx=>h.lt x (Xf hx),λx hx=>h.asc x (Xf hx),λx hx y hy=>h.same x (Xf hx) y (Xf hy),h.inc.drop⟩
def L7 {α:Type}{p:α->Bool}{L:List α}{x:α}(h:x∈L.take (L.takeWhile p).length):p x=oF:=by
 have h2:L.take (L.takeWhile p).length=L.takeWhile p:=(List.prefix_iff_eq_take.1 (List.takeWhile_prefix p)).symm;rw[h2]at h;have h3:=List.all_takeWhile (p:=p) (l:=L);exact Zr.1 h3 x h
def Jv {x y:ByteArray}{d:Nat}(hx:d<x.size)(hy:d<y.size)(h:x.data.toList.take d=y.data.toList.take d)(hb:As x d=As y d):x.data.toList.take (d+1)=y.data.toList.take (d+1):=by
 have h1:d<oB x.data.toList:=by rw[<- Gc];exact hx
 have h2:d<oB y.data.toList:=by rw[<- Gc];exact hy
 rw[AR h1,AR h2,h];congr 2;have e:As x d=(x.data.toList[d].toNat:Int):=by unfold As;rw[AS,AC h1];rfl
 have e2:As y d=(y.data.toList[d].toNat:Int):=by unfold As;rw[AS,AC h2];rfl
 rw[e,e2]at hb;exact zt.1 (by omega)
def Rest.group {d m:Nat}{x:ByteArray}{r:List ByteArray}(h:Rest d (m+1) (x :: r)):Pre (d+1) m ((x :: r).take (Ef d (x :: r) (As x d))):=by
 have hb:∀ y∈(x :: r).take (Ef d (x :: r) (As x d)),As y d=As x d:=λy hy=>by
  have:=L7 hy;simpa using this
 have hm:∀ y∈(x :: r).take (Ef d (x :: r) (As x d)),y∈x :: r:=λy hy=>Xo hy;refine⟨λe=>?_,λy hy=>h.gt y (hm y hy),λy hy=>by have:=h.lt y (hm y hy);omega,λy hy=>h.asc y (hm y hy),λy hy z hz=>?_,h.inc.take⟩
 ·have:=I9 (d:=d) (x:=x) (r:=r);have h2:=congrArg List.length e;rw[AO]at h2;simp at h2;omega
 · exact Jv (h.gt y (hm y hy)) (h.gt z (hm z hz)) (h.same y (hm y hy) z (hm z hz)) ((hb y hy).trans (hb z hz).symm)
open Go.RowKit Go.WideShapes Go.Maps Go.WideMaps
def D5 (D:List Nd)(l:List UInt8):Nat:=D.findIdx λx=>decide (Ba x.fin x.arcs=l)
def GH (w:Z0)(g:Nat)(D:List Nd):Prop:=∃ (n:Nat) (M:DataW Unit),w.ownsMap Z1 9 (plainElem Z1 3) g n M/\n<=oB D /\
 ∀ s:ByteArray,s.size<=maxLen->Maps.has M (.string s.data.toList)=decide (D5 D s.data.toList<oB D)/\M.atKey (.string s.data.toList) (.lit (.int .i64 0))=.lit (.int .i64 (if D5 D s.data.toList<oB D then(D5 D s.data.toList:Int) else 0))
def SR:Keyed Z1 9:=string_keyed XJ
def GH.new (w:Z0):GH (w.alloc (.map #[] 0)) w.heap.size [] :=
 ⟨0,.map [],World.ownsMap_made _ _ _ _,A5 _,λs _=>⟨by simp[D5,Maps.has],by simp[D5,DataW.atKey]⟩⟩
def GH.kept {w w1:Z0}{g:Nat}{D:List Nd}(h:GH w g D)(hk:w1.heap[g]? = w.heap[g]?):GH w1 g D:=by
 obtain⟨n,M,⟨es,clock,hb,h1,h2,h3⟩,h4⟩:=h;exact⟨n,M,⟨es,clock,hk.trans hb,h1,h2,h3⟩,h4⟩
def GH.obj {w:Z0}{g:Nat}{D:List Nd}(h:GH w g D):∃ es c,w.heap[g]? = oT (.map es c):=by
 obtain⟨n,M,⟨es,clock,hb,_⟩,_⟩:=h;exact⟨es,clock,hb⟩
def GH.look {w:Z0}{g:Nat}{D:List Nd}(h:GH w g D)(s:ByteArray)(hs:s.size<=maxLen) :
  (Instr.lookup 131 (.map (oT g)) (aI s) oF).run Z1 w=.ok (.tuple #[aA aM (if D5 D s.data.toList<oB D then(D5 D s.data.toList:Int) else 0),aH (decide (D5 D s.data.toList<oB D))]) w:=by
 obtain⟨n,M,h1,_,h3⟩:=h;obtain⟨v,ps,ja,hv⟩:=h1.look_ok SR Tryz.underlying131 (XZ w) (plainElem_int (H:=Unit) ZR (a:=0) (by decide)) (keyOf_string_mk XJ hs);obtain⟨e1,e2⟩:=h3 s hs;rw[e2]at hv;obtain⟨a,rfl,hz,_⟩:=plainElem_int_inv ZR hv;rw[e1]at ja;have:a=if D5 D s.data.toList<oB D then(D5 D s.data.toList:Int) else 0:=by
  have:=congrArg Prod.fst hz;simp only[xp,Lit.int.injEq,true_and]at this;exact this.symm
 rw[<- this];exact ja
def Ot {D:List Nd}{nd:Nd}{l:List UInt8}:D5 (D ++ [nd]) l=if D5 D l<oB D then D5 D l else if Ba nd.fin nd.arcs=l then D.length else D.length+1:=by
 unfold D5;rw[List.findIdx_append];split
 · rfl
 ·rw[zV];by_cases h:Ba nd.fin nd.arcs=l
  · simp[h]
  · simp[h];omega
def Hk {w:Z0}{g:Nat}{D:List Nd}{ops:Array ZX}{rest:List ZX}{o:ZX}{a:Act}{Q:Exit->Act->Z0->Prop}(h:GH w g D)(nd:Nd)(s:ByteArray)(hk:Ba nd.fin nd.arcs=s.data.toList)(hs:s.size<=maxLen)(jg:¬ D5 D s.data.toList<oB D)(hD:oB D<1000000)
  (jd:o.guard=oS) (m x v:Operand) (jh:o.op=Op.mapUpdate 131 m x v) (hm:a.eval m=.map (oT g)) (hx:a.eval x=.string s) (hv:a.eval v=.int .i64 (oB D:Int))
  (hK:∀ w',GH w' g (D ++ [nd])->w.grownBy w' (oT g)->wpList Z1 ops Q rest (a.put o.dst Z8) w'):wpList Z1 ops Q (o :: rest) a w:=by
 obtain⟨n,M,h1,h2,h3⟩:=h;have ji:(Lit.int .i64 (oB D:Int)).wf=oF:=by simp[Lit.wf,IntKind.min,IntKind.max,IntKind.bits,IntKind.signed];omega
 refine wpList_mapUpdate_own w jd m x v _ jh _ _ SR Tryz.underlying131 _ g n M hm h1 (by unfold maxLen;omega) _ _ _ hx hv (keyOf_string_mk XJ hs) _ _ (plainElem_int (H:=Unit) ZR ji) ?_;intro w' ja je;refine hK w' ⟨n+1,_,ja,by rw[AD];simp;omega,λt ht=>?_⟩ je;have hM:IsMap M:=h1.isMap;rw[Ot];by_cases e:t=s
 ·subst e;have jb:WideAt.IsKeyLit (.string t.data.toList):=trivial;rw[Maps.has_put_same hM jb,Maps.atKey_put_same hM jb,if_neg jg,if_pos hk];simp
 ·have jc:Lit.string t.data.toList≠Lit.string s.data.toList:=λh=>e (bytes_inj (by injection h));rw[Maps.has_put_other jc,Maps.atKey_put_other jc];obtain⟨e1,e2⟩:=h3 t ht;rw[e1,e2];have jf:¬ Ba nd.fin nd.arcs=t.data.toList:=λh=>e (bytes_inj (by rw[<- h,hk]));rw[if_neg jf];by_cases hf:D5 D t.data.toList<oB D
  · simp[hf];omega
  · simp[hf]
structure BSt (w:Z0)(B gB gM:Nat)(v:Z6)(N:List NV)(D:List Nd):Prop where
 rep:w.heap[gB]? = some (aK #[v,.map (some gM)] 133 (0,0))
 own:Af C7 w B v N
 len:oB N=oB D
 arcs:∀ k (h:k<oB N) (h2:k<oB D),N[k].fin=D[k].fin/\Af CK w B (aG N[k].a N[k].n N[k].c) D[k].arcs
 map:GH w gM D
 gB:B<=gB
 gM:B<=gM
structure Fr (gB gM:Nat)(vb:Option Nat)(w w':Z0):Prop where
 os:w'.os=w.os
 tape:w'.tape=w.tape
 output:w'.output=w.output
 size:w.heap.size<=w'.heap.size
 block:∀ q,q<w.heap.size->q≠gB->q≠gM->vb≠some q->w'.heap[q]? = w.heap[q]?
def Fr.refl (gB gM:Nat)(vb:Option Nat)(w:Z0):Fr gB gM vb w w:=⟨rfl,rfl,rfl,A5 _,λ_ _ _ _ _=>rfl⟩
def DY (vb vb1:Option Nat)(n:Nat):Prop:=vb1=vb\/∀ q,vb1=oT q->n<=q
def DY.trans {a b c:Option Nat}{n m:Nat}(h:DY a b n)(h2:DY b c m)(ja:n<=m):DY a c n:=by
 rcases h2 with rfl | h2
 · exact h
 · exact .inr λq hq=>AA ja (h2 q hq)
def Fr.trans {gB gM:Nat}{vb vb1:Option Nat}{a b c:Z0}(h:Fr gB gM vb a b)(h2:Fr gB gM vb1 b c)(hn:DY vb vb1 a.heap.size):Fr gB gM vb a c :=
 ⟨h2.os.trans h.os,h2.tape.trans h.tape,h2.output.trans h.output,AA h.size h2.size,λq hq h3 h4 h5=>(h2.block q (A9 hq h.size) h3 h4 (by
  rcases hn with rfl | hn
  · exact h5
  · intro e;have:=hn q e;omega)).trans (h.block q hq h3 h4 h5)⟩
def Fr.of_below {gB gM:Nat}{vb:Option Nat}{w w':Z0}(h:Below w.heap.size w w'):Fr gB gM vb w w':=⟨h.os,h.tape,h.output,h.size,λq hq _ _ _=>h.block q hq⟩
def BSt.keep {w w':Z0}{B gB gM:Nat}{v:Z6}{N:List NV}{D:List Nd}(h:BSt w B gB gM v N D)(hk:∀ q,q<w.heap.size->(q=gB\/q=gM\/v.ownBlock=oT q\/∃ x∈N,(Zk x.a x.n x.c).ownBlock=oT q)->w'.heap[q]? = w.heap[q]?):BSt w' B gB gM v N D:=by
 obtain⟨es,c,hm⟩:=h.map.obj;refine⟨(hk gB (A7.1 h.rep).1 (.inl rfl)).trans h.rep,h.own.keep λg hg=>hk g (h.own.lt g hg) (.inr (.inr (.inl hg))),h.len,λk h1 h2=>⟨(h.arcs k h1 h2).1,(h.arcs k h1 h2).2.keep λg hg=>hk g ((h.arcs k h1 h2).2.lt g hg) (.inr (.inr (.inr ⟨N[k],AI h1,hg⟩)))⟩,h.map.kept (hk gM (A7.1 hm).1 (.inr (.inl rfl))),h.gB,h.gM⟩
def BSt.ext {w w':Z0}{B gB gM:Nat}{v:Z6}{N:List NV}{D:List Nd}(h:BSt w B gB gM v N D)(hx:Ext w w'):BSt w' B gB gM v N D:=h.keep λq hq _=>Z7 hx q hq
abbrev Wd:=List UInt8
abbrev Rst:=List (List UInt8)
def Au (R:Rst)(c:Nat):Rst:=R.filterMap λs=>match s with | []=>oS | b :: t=>if b.toNat=c then oT t else oS
def GI (R:Rst):Bool:=match R with | [] :: _=>oF | _=>oH
def Gk (lo n:Nat)(R:Rst):List (Nat × Rst):=(Zd lo n).filterMap λc=>if Au R c=[] then oS else oT (c,Au R c)
def grp (R:Rst):List (Nat × Rst):=Gk 33 94 R
def Ck (R:Rst):Prop:=R.Pairwise λa b=>Zz a b=oF
def Ey (lo n:Nat)(R:Rst):Prop:=∀ s∈R,∃ b t,s=b :: t/\lo<=b.toNat/\b.toNat<lo+n
def F7 (R:Rst):Prop:=∀ s∈R,∀ b∈s,33<=UInt8.toNat b/\UInt8.toNat b<127
def EW {a b:UInt8}{x y:Wd}:Zz (a :: x) (b :: y)=oF↔a.toNat<b.toNat\/(a=b/\Zz x y=oF):=by
 simp only[Zz,Y2,Zg,decide_eq_true_eq,beq_iff_eq,XT]
def No:∀ (p:Wd) {x y:Wd},Zz (p ++ x) (p ++ y)=Zz x y
 | [],_,_=>rfl
 | a :: p,x,y=>by
  have h:¬ a<a:=by rw[XT];omega
  simp[Zz,h,No p]
def Jw {x:Wd}:Zz x []=oH:=by cases x <;> rfl
def Ck.tail {x:Wd}{R:Rst}(h:Ck (x :: R)):Ck R:=(AU.1 h).2
def Ck.nonempty {x:Wd}{R:Rst}(h:Ck (x :: R)):∀ s∈R,s≠[]:=λs hs e=>by
 have:=(AU.1 h).1 s hs;rw[e,Jw]at this;cases this
def Jy {b:UInt8}{t:Wd}{R:Rst}{c:Nat}(h:b.toNat=c):Au ((b :: t) :: R) c=t :: Au R c:=by simp[Au,h]
def Eg {R:Rst}{c:Nat}{t:Wd}:t∈Au R c↔∃ b:UInt8,b.toNat=c/\b :: t∈R:=by
 unfold Au;rw[X9];constructor
 ·rintro⟨s,hs,h⟩;cases s with
  | nil=>cases h
  | cons b u =>
   simp only at h;split at h
   · injection h with h;subst h;exact⟨b,by assumption,hs⟩
   · cases h
 ·rintro⟨b,hb,h⟩;exact⟨_,h,by simp[hb]⟩
def L8 (P Q:Rst)(c:Nat):Au (P ++ Q) c=Au P c ++ Au Q c:=List.filterMap_append
def afterL_sort {R:Rst}{c:Nat}(h:Ck R):Ck (Au R c):=by
 unfold Ck Au;rw[List.pairwise_filterMap];refine List.Pairwise.imp ?_ h;intro a b ja t ht u hu;cases a with
 | nil=>cases ht
 | cons x a =>
  cases b with
  | nil=>cases hu
  | cons y b =>
   simp only at ht hu;split at ht
   ·split at hu
    ·injection ht with ht;injection hu with hu;subst ht hu;rcases EW.1 ja with h | ⟨_,h⟩
     · omega
     · exact h
    · cases hu
   · cases ht
def MU {R:Rst}{c:Nat}(h:F7 R):F7 (Au R c):=λs hs b hb=>by
 obtain⟨x,_,hx⟩:=Eg.1 hs;exact h _ hx b (Zm _ hb)
def heads_split {b:UInt8}{n:Nat}:∀ {R:Rst},Ck R->Ey b.toNat n R->Au R b.toNat=(R.takeWhile λs=>s.head? == oT b).map List.tail /\
  Ey (b.toNat+1) (n - 1) (R.dropWhile λs=>s.head? == oT b)/\(R.takeWhile λs=>s.head? == oT b).map (λs=>b :: s.tail)=(R.takeWhile λs=>s.head? == oT b)
 | [],_,_=>⟨rfl,λs hs=>by simp at hs,rfl⟩
 | x
   :: r,hs,hh=>by
  obtain⟨y,t,rfl,h1,h2⟩:=hh x (by simp);by_cases e:y=b
  ·subst e;obtain⟨i1,i2,i3⟩:=heads_split (R:=r) (hs.tail) λs ja=>hh s (Zm _ ja);simp only[XC,XO,List.head?_cons,beq_self_eq_true,if_true,Y4,List.tail_cons];exact⟨by rw[Jy rfl,i1],i2,by rw[i3]⟩
  ·have jc:((y :: t).head? == oT b)=oH:=by simpa using e
   simp only[XC,XO,jc,Bool.false_eq_true,if_false];have hlt:b.toNat<y.toNat:=by
    have:y.toNat≠b.toNat:=λh=>e (zt.1 h);omega
   have jb:∀ s∈(y :: t) :: r,∃ c u,s=c :: u/\b.toNat+1<=c.toNat/\c.toNat<b.toNat+n:=λs ja=>by
    obtain⟨c,u,rfl,h3,h4⟩:=hh s ja;refine⟨c,u,rfl,?_,h4⟩;rcases AX.1 ja with h5 | h5
    · injection h5 with h5;subst h5;omega
    ·rcases EW.1 ((AU.1 hs).1 _ h5) with h6 | ⟨h6,_⟩
     · omega
     · subst h6;omega
   refine⟨?_,λs ja=>?_,rfl⟩
   ·rw[List.map_nil];unfold Au;rw[zu];intro s ja;obtain⟨c,u,rfl,h3,_⟩:=jb s ja;simp;omega
   ·obtain⟨c,u,rfl,h3,h4⟩:=jb s ja;exact⟨c,u,rfl,h3,by omega⟩
def Ou {lo n c:Nat}{R:Rst}(h:Ey lo n R)(hc:c<lo\/lo+n<=c):Au R c=[]:=by
 unfold Au;rw[zu];intro s hs;obtain⟨b,t,rfl,h3,h4⟩:=h s hs;simp;omega
def Jz {b:UInt8}{R:Rst}{c:Nat}(hc:c≠b.toNat):Au (R.takeWhile λs=>s.head? == oT b) c=[]:=by
 unfold Au;rw[zu];intro s hs;have h:=List.all_takeWhile (p:=λs:Wd=>s.head? == oT b) (l:=R);have h2:=Zr.1 h s hs;cases s with
 | nil=>rfl
 | cons y t =>
  have:y=b:=by simpa using h2
  subst this;simp;omega
def Np {b:UInt8}{R:Rst}{c:Nat}(hc:c≠b.toNat):Au R c=Au (R.dropWhile λs=>s.head? == oT b) c:=by
 conv=>lhs;rw[<- List.takeWhile_append_dropWhile (p:=λs:Wd=>s.head? == oT b) (l:=R)]
 rw[L8,Jz hc];rfl
def IA (lo n:Nat):Gk lo n []=[]:=by
 unfold Gk;rw[zu];intro c _;rfl
def Nq {α β:Type}{f g:α->Option β}:∀ {l:List α},(∀ x∈l,f x=g x)->l.filterMap f=l.filterMap g
 | [],_=>rfl
 | x :: r,h=>by rw[zH,zH,h x (by simp),Nq λy hy=>h y (Zm _ hy)]
def Ov {lo n:Nat}{R Q:Rst}(h:∀ c,lo<=c->c<lo+n->Au R c=Au Q c):Gk lo n R=Gk lo n Q:=by
 unfold Gk;refine Nq λc hc=>?_;have:=List.mem_range'_1.1 hc;rw[h c this.1 this.2]
def Lj {lo n:Nat}{b:UInt8}{t:Wd}{r:Rst}(hs:Ck ((b :: t) :: r))(hh:Ey lo n ((b :: t) :: r)) :
  Gk lo n ((b :: t) :: r)=(b.toNat,(((b :: t) :: r).takeWhile λs=>s.head? == oT b).map List.tail) :: Gk (b.toNat+1) (lo+n - (b.toNat+1)) (((b :: t) :: r).dropWhile λs=>s.head? == oT b):=by
 obtain⟨b',t',e,h1,h2⟩:=hh (b :: t) (by simp);injection e with e1 e2;subst e1 e2;have ja:Ey b.toNat (lo+n - b.toNat) ((b :: t) :: r):=λs jb=>by
  obtain⟨c,u,rfl,h3,h4⟩:=hh s jb;refine⟨c,u,rfl,?_,by omega⟩;rcases AX.1 jb with h5 | h5
  · injection h5 with h5;subst h5;exact A5 _
  ·rcases EW.1 ((AU.1 hs).1 _ h5) with h6 | ⟨h6,_⟩
   · omega
   · subst h6;exact A5 _
 obtain⟨i1,i2,_⟩:=heads_split hs ja;have hr:Zd lo n=Zd lo (b.toNat - lo) ++ (b.toNat :: Zd (b.toNat+1) (lo+n - (b.toNat+1))):=by
  have e1:b.toNat :: Zd (b.toNat+1) (lo+n - (b.toNat+1))=Zd b.toNat (lo+n - b.toNat):=by
   rw[show lo+n - b.toNat=(lo+n - (b.toNat+1))+1 from by omega,List.range'_succ]
  rw[e1];have:=List.range'_append (s:=lo) (m:=b.toNat - lo) (n:=lo+n - b.toNat) (step:=1);rw[show lo+1*(b.toNat - lo)=b.toNat from by omega,show b.toNat - lo+(lo+n - b.toNat)=n from by omega]at this;exact this.symm
 have jd:Au ((b :: t) :: r) b.toNat≠[]:=by rw[Jy rfl];simp
 have jc:=Ov (lo:=b.toNat+1) (n:=lo+n - (b.toNat+1)) (R:=(b :: t) :: r) (Q:=((b :: t) :: r).dropWhile λs=>s.head? == oT b) λc h3 h4=>Np (by omega);rw[<- jc,<- i1];unfold Gk;rw[hr,List.filterMap_append,zH,if_neg jd];have hz:(Zd lo (b.toNat - lo)).filterMap (λc=>if Au ((b :: t) :: r) c=[] then oS else oT (c,Au ((b :: t) :: r) c))=[]:=by
  rw[zu];intro c hc;have:=List.mem_range'_1.1 hc;rw[Ou ja (.inl (by omega)),if_pos rfl]
 rw[hz];rfl
def L9 (G:List (Nat × Rst)):Rst:=G.flatMap λg=>g.2.map (Zy g.1 :: ·)
def MV {b:UInt8}{R:Rst}:(R.dropWhile λs=>s.head? == oT b).length<=oB R:=(List.dropWhile_sublist _).length_le
def Qw {b:UInt8}{R:Rst}(h:Ck R):Ck (R.dropWhile λs=>s.head? == oT b):=List.Pairwise.sublist (List.dropWhile_sublist _) h
def K0 {b:UInt8}{t:Wd}{r:Rst}{lo n:Nat}(hs:Ck ((b :: t) :: r))(hh:Ey lo n ((b :: t) :: r)):Ey (b.toNat+1) (lo+n - (b.toNat+1)) (((b :: t) :: r).dropWhile λs=>s.head? == oT b):=by
 have ja:Ey b.toNat (lo+n - b.toNat) ((b :: t) :: r):=λs jb=>by
  obtain⟨c,u,rfl,h3,h4⟩:=hh s jb;refine⟨c,u,rfl,?_,by omega⟩;rcases AX.1 jb with h5 | h5
  · injection h5 with h5;subst h5;exact A5 _
  ·rcases EW.1 ((AU.1 hs).1 _ h5) with h6 | ⟨h6,_⟩
   · omega
   · subst h6;exact A5 _
 have:=(heads_split hs ja).2.1
 rwa [show lo+n - b.toNat - 1=lo+n - (b.toNat+1) from by omega]at this
def catG_grpR:∀ (k lo n:Nat) (R:Rst),oB R<=k->Ck R->Ey lo n R->L9 (Gk lo n R)=R
 | _,_,_,[],_,_,_=>by rw[IA];rfl
 | 0,_,_,_ :: _,h,_,_=>by simp at h
 | k
   +
    1,lo,n,x :: r,hk,hs,hh=>by
  obtain⟨b,t,rfl,h1,h2⟩:=hh x (by simp);rw[Lj hs hh];have ja:Ey b.toNat (lo+n - b.toNat) ((b :: t) :: r):=λs jb=>by
   obtain⟨c,u,rfl,h3,h4⟩:=hh s jb;refine⟨c,u,rfl,?_,by omega⟩;rcases AX.1 jb with h5 | h5
   · injection h5 with h5;subst h5;exact A5 _
   ·rcases EW.1 ((AU.1 hs).1 _ h5) with h6 | ⟨h6,_⟩
    · omega
    · subst h6;exact A5 _
  obtain⟨i1,i2,i3⟩:=heads_split hs ja;have hd:(((b :: t) :: r).dropWhile λs=>s.head? == oT b)=r.dropWhile λs=>s.head? == oT b:=by simp[XO]
  have ih:=catG_grpR k (b.toNat+1) (lo+n - (b.toNat+1)) (((b :: t) :: r).dropWhile λs=>s.head? == oT b) (by rw[hd];have:=MV (b:=b) (R:=r);simp at hk;omega) (Qw hs) (K0 hs hh);unfold L9 at ih ⊢;rw[ZA,ih];simp only[UInt8.ofNat_toNat,List.map_map];have:(λs:Wd=>b :: s) ∘ List.tail=λs:Wd=>b :: s.tail:=rfl;rw[this,i3];exact List.takeWhile_append_dropWhile
def U9 {R:Rst}:grp ([] :: R)=grp R:=rfl
def Nr {R:Rst}(hb:F7 R)(hn:∀ s∈R,s≠[]):Ey 33 94 R:=λs hs=>by
 cases s with
 | nil=>exact absurd rfl (hn _ hs)
 | cons b t=>exact⟨b,t,rfl,(hb _ hs b (by simp)).1,(hb _ hs b (by simp)).2⟩
def recon {R:Rst}(hs:Ck R)(hb:F7 R):R=(if GI R=oF then[[]] else[]) ++ L9 (grp R):=by
 cases R with
 | nil=>unfold grp;rw[IA];rfl
 | cons x r =>
  cases x with
  | nil =>
   have h1:GI ([] :: r)=oF:=rfl;rw[if_pos h1,U9];have:=catG_grpR r.length 33 94 r (A5 _) hs.tail (Nr (λs h=>hb s (Zm _ h)) hs.nonempty);unfold grp;rw[this];rfl
  | cons b t =>
   have h1:GI ((b :: t) :: r)=oH:=rfl;rw[h1];have hh:Ey 33 94 ((b :: t) :: r):=Nr hb λs h=>by
    rcases AX.1 h with rfl | h
    · simp
    · exact hs.nonempty s h
   have:=catG_grpR _ 33 94 _ (A5 _) hs hh;unfold grp;rw[this];simp
def Qx {R Q:Rst}(hs:Ck R)(hb:F7 R)(jb:Ck Q)(ja:F7 Q)(hf:GI R=GI Q)(hg:grp R=grp Q):R=Q:=by
 rw[recon hs hb,recon jb ja,hf,hg]
def Jd {R:Rst}{g:Nat × Rst}(h:g∈grp R):33<=g.1/\g.1<127/\g.2=Au R g.1/\g.2≠[]:=by
 unfold grp Gk at h;obtain⟨c,hc,h2⟩:=X9.1 h;have:=List.mem_range'_1.1 hc;split at h2
 · cases h2
 ·injection h2 with h2;subst h2;exact⟨this.1,this.2,rfl,by assumption⟩
def Q5 (R:Rst):(grp R).length<=94:=by
 have:=List.length_filterMap_le (λc=>if Au R c=[] then oS else oT (c,Au R c)) (Zd 33 94);simpa[grp,Gk] using this
def UA (l:List UInt8):Nat:=l.foldl (λa c=>a*10+(c.toNat - 48)) 0
def decD (u:Nat):UA (zI u)=u/\∀ c∈zI u,48<=c.toNat:=by
 induction u using zF with
 | _
   u
    ih =>
  rw[zI];have h1:∀ k,k<10->(Zy (48+k)).toNat=48+k:=λk hk=>by
   rw[zw];omega
  split
  ·rename_i h;refine⟨?_,λc hc=>?_⟩
   · simp only[UA,zQ,List.foldl_nil,h1 u h];omega
   · obtain rfl:=AF.1 hc;rw[h1 u h];omega
  ·rename_i h;obtain⟨i1,i2⟩:=ih (u / 10) (by omega);have h2:=h1 (u % 10) (by omega);refine⟨?_,λc hc=>?_⟩
   ·unfold UA at i1 ⊢;rw[List.foldl_append,i1];simp only[zQ,List.foldl_nil,h2];omega
   ·rcases AY.1 hc with hc | hc
    · exact i2 c hc
    · obtain rfl:=AF.1 hc;rw[h2];omega
def Ll {l r:List UInt8}(h:∀ c∈l,48<=c.toNat)(hr:r=[]\/∃ q,r=32 :: q):(l ++ r).takeWhile (λc=>decide (48<=UInt8.toNat c))=l/\(l ++ r).dropWhile (λc=>decide (48<=UInt8.toNat c))=r:=by
 induction l with
 | nil =>
  rcases hr with rfl | ⟨q,rfl⟩
  · exact⟨rfl,rfl⟩
  ·have:(decide (48<=UInt8.toNat (32:UInt8)))=oH:=rfl;simp[XC,XO]
 | cons c l ih =>
  have hc:=h c (by simp);obtain⟨i1,i2⟩:=ih λd hd=>h d (Zm _ hd);simp only[ZG,XC,XO,hc,decide_true,if_true];exact⟨by rw[i1],i2⟩
def Lm (X:List Ar):X.flatMap DX=[]\/∃ q,X.flatMap DX=32 :: q:=by
 cases X with
 | nil=>exact .inl rfl
 | cons x r=>exact .inr ⟨_,rfl⟩
def Ns (x:Ar):Prop:=0<=x.c/\x.c<256/\0<=x.t
def K1:∀ {X Y:List Ar},(∀ x∈X,Ns x)->(∀ x∈Y,Ns x)->X.flatMap DX=Y.flatMap DX->X=Y
 | [],[],_,_,_=>rfl
 | [],y :: s,_,_,h=>by rw[List.flatMap_nil,ZA,DX]at h;cases h
 | x :: r,[],_,_,h=>by rw[List.flatMap_nil,ZA,DX]at h;cases h
 | x
   :: r,y :: s,hX,hY,h=>by
  rw[ZA,ZA,DX,DX]at h;simp only[ZG,List.cons.injEq,true_and]at h;obtain⟨h1,h2⟩:=h;obtain⟨x0,x1,x2⟩:=hX x (by simp);obtain⟨y0,y1,y2⟩:=hY y (by simp);have e1:zD x.t=zI x.t.toNat:=by rw[zD,if_neg (by omega)]
  have e2:zD y.t=zI y.t.toNat:=by rw[zD,if_neg (by omega)]
  rw[e1,e2]at h2;obtain⟨a1,a2⟩:=Ll (decD x.t.toNat).2 (Lm r);obtain⟨b1,b2⟩:=Ll (decD y.t.toNat).2 (Lm s);rw[h2]at a1 a2;have h3:zI x.t.toNat=zI y.t.toNat:=a1.symm.trans b1;have h4:r.flatMap DX=s.flatMap DX:=a2.symm.trans b2;have h5:=K1 (λz hz=>hX z (Zm _ hz)) (λz hz=>hY z (Zm _ hz)) h4;have h6:x.t=y.t:=by
   have:=congrArg UA h3;rw[(decD _).1,(decD _).1]at this;omega
  have h7:x.c=y.c:=by
   have:=congrArg UInt8.toNat h1;rw[zw,zw]at this;omega
  obtain⟨xc,xt⟩:=x;obtain⟨yc,yt⟩:=y;simp only at h6 h7;rw[h5,h6,h7]
def SS {f g:Bool}{X Y:List Ar}(hX:∀ x∈X,Ns x)(hY:∀ x∈Y,Ns x)(h:Ba f X=Ba g Y):f=g/\X=Y:=by
 unfold Ba at h;have hT:zK oF=[116,114,117,101]:=by decide
 have hF:zK oH=[102,97,108,115,101]:=by decide
 cases f <;> cases g <;> simp only[hT,hF,ZG,ZP,List.cons.injEq]at h
 · exact⟨rfl,K1 hX hY h.2.2.2.2.2⟩
 · exact absurd h.1 (by decide)
 · exact absurd h.1 (by decide)
 · exact⟨rfl,K1 hX hY h.2.2.2.2⟩
inductive DA (R:List Rst)(n:Nat):List (Nat × Rst)->List Ar->Prop
 | nil:DA R n [] []
 | cons {c t:Nat} {g:Rst} {G:List (Nat × Rst)} {X:List Ar}:c<256->t<n->R[t]? = some g->DA R n G X->DA R n ((c,g) :: G) (⟨(c:Int),(t:Int)⟩ :: X)
def DA.mono {R R':List Rst}{n n':Nat}{G:List (Nat × Rst)}{X:List Ar}(h:DA R n G X)(hR:R <+: R')(hn:n<=n'):DA R' n' G X:=by
 induction h with
 | nil=>exact .nil
 | cons h1 h2 h3 _ ih =>
  refine .cons h1 (by omega) ?_ ih;obtain⟨E,rfl⟩:=hR;obtain⟨hl,he⟩:=Zh.1 h3;rw[AK hl];exact h3
def DA.snoc {R:List Rst}{n:Nat}{G:List (Nat × Rst)}{X:List Ar}{c t:Nat}{g:Rst}(h:DA R n G X)(hc:c<256)(ht:t<n)(hg:R[t]? = oT g):DA R n (G ++ [(c,g)]) (X ++ [⟨(c:Int),(t:Int)⟩]):=by
 induction h with
 | nil=>exact .cons hc ht hg .nil
 | cons h1 h2 h3 _ ih=>exact .cons h1 h2 h3 ih
def DA.len {R:List Rst}{n:Nat}{G:List (Nat × Rst)}{X:List Ar}(h:DA R n G X):oB X=oB G:=by
 induction h with
 | nil=>rfl
 | cons _ _ _ _ ih=>simp[ih]
def DA.mem {R:List Rst}{n:Nat}{G:List (Nat × Rst)}{X:List Ar}(h:DA R n G X):∀ x∈X,Ns x/\x.t<(n:Int):=by
 induction h with
 | nil=>intro x hx;cases hx
 | cons h1 h2 h3 _ ih =>
  intro x hx;rcases AX.1 hx with rfl | hx
  · exact⟨⟨by simp,by simp;omega,by simp⟩,by simp;omega⟩
  · exact ih x hx
def Ln {R:List Rst}(h:R.Nodup){i j:Nat}{g:Rst}(hi:R[i]? = oT g)(hj:R[j]? = oT g):i=j:=by
 obtain⟨h1,e1⟩:=Zh.1 hi;obtain⟨h2,e2⟩:=Zh.1 hj;exact(List.getElem_inj h).1 (e1.trans e2.symm)
def DA.inj {R:List Rst}(hR:R.Nodup){n n':Nat}{G:List (Nat × Rst)}{X Y:List Ar}(h:DA R n G X)(h2:DA R n' G Y):X=Y:=by
 induction h generalizing Y with
 | nil=>cases h2;rfl
 | cons h1 h3 h4 _ ih =>
  cases h2 with
  | cons k1 k2 k3 k4=>rw[Ln hR h4 k3,ih k4]
def DA.groups {R:List Rst}{n n':Nat}{G G':List (Nat × Rst)}{X:List Ar}(h:DA R n G X)(h2:DA R n' G' X):G=G':=by
 induction h generalizing G' with
 | nil=>cases h2;rfl
 | @cons c t g G X h1 h3 h4 _ ih =>
  generalize hY:(⟨(c:Int),(t:Int)⟩ :: X:List Ar)=Y at h2;cases h2 with
  | nil=>cases hY
  | @cons c' t' g' G' X' k1 k2 k3 k4 =>
   injection hY with e1 e2;injection e1 with e3 e4;obtain rfl:c=c':=by omega
   obtain rfl:t=t':=by omega
   subst e2;rw[h4]at k3;injection k3 with k3;rw[k3,ih k4]
structure IB (D:List Nd)(R:List Rst):Prop where
 len:oB R=oB D
 nodup:R.Nodup
 ok:∀ r∈R,Ck r/\F7 r/\r≠[]
 nd:∀ k (h:k<oB D) (h2:k<oB R),D[k].fin=GI R[k]/\DA R k (grp R[k]) D[k].arcs
def IB.nil:IB [] []:=⟨rfl,List.nodup_nil,λr h=>(by cases h),λk h=>(by simp at h)⟩
def IB.down {D:List Nd}{R:List Rst}(h:IB D R):∀ i (h:i<oB D),(∀ x∈D[i].arcs,0<=x.t/\x.t<(i:Int))/\D[i].arcs.length<=1000:=λi hi=>by
 obtain⟨h1,h2⟩:=h.nd i hi (by rw[h.len];exact hi);refine⟨λx hx=>⟨(h2.mem x hx).1.2.2,(h2.mem x hx).2⟩,?_⟩;rw[h2.len];have:=Q5 (R[i]'(by rw[h.len];exact hi));omega
def addN_tab {D:List Nd}{R:List Rst}(h:IB D R){r:Rst}(hs:Ck r)(hb:F7 r)(je:r≠[]){fin:Bool}{A:List Ar}(hf:fin=GI r)(hA:DA R D.length (grp r) A) :
  ∃ R',IB (addN fin A D).2 R'/\R <+: R'/\R'[(addN fin A D).1]? = oT r:=by
 unfold addN;by_cases hk:D.findIdx (λx=>decide (Ba x.fin x.arcs=Ba fin A))<oB D
 ·rw[if_pos hk];refine⟨R,h,Xt _,?_⟩;have ja:D.findIdx (λx=>decide (Ba x.fin x.arcs=Ba fin A))<oB R:=by rw[h.len];exact hk
  have h1:=List.findIdx_getElem (w:=hk);obtain⟨h2,h3⟩:=h.nd _ hk ja;obtain⟨h4,h5⟩:=SS (λx hx=>(h3.mem x hx).1) (λx hx=>(hA.mem x hx).1) (of_decide_eq_true h1);rw[h5]at h3;have h6:=h3.groups hA;obtain⟨o1,o2,_⟩:=h.ok _ (AI ja);rw[AC ja];exact congrArg oT (Qx o1 o2 hs hb (by rw[<- h2,h4,hf]) h6)
 ·rw[if_neg hk];have jf:r ∉ R:=λhr=>by
   obtain⟨k,ja,he⟩:=zr hr;have jc:k<oB D:=by rw[<- h.len];exact ja
   obtain⟨h2,h3⟩:=h.nd k jc ja;rw[he]at h2 h3;have h4:=h3.inj h.nodup hA;apply hk;refine List.findIdx_lt_length_of_exists ⟨D[k],AI jc,?_⟩;simp[h2,h4,hf]
  have jb:R <+: R ++ [r]:=List.prefix_append _ _;refine⟨R ++ [r],⟨by simp[h.len],?_,λx hx=>?_,λk jd hk2=>?_⟩,jb,?_⟩
  ·rw[List.nodup_append];exact⟨h.nodup,by simp,λa ha b hb e=>by
    obtain rfl:=AF.1 hb;subst e;exact jf ha⟩
  ·rcases AY.1 hx with hx | hx
   · exact h.ok x hx
   · obtain rfl:=AF.1 hx;exact⟨hs,hb,je⟩
  ·by_cases jc:k<oB D
   ·have ja:k<oB R:=by rw[h.len];exact jc
    simp only[Y8 jc,Y8 ja];obtain⟨h2,h3⟩:=h.nd k jc ja;exact⟨h2,h3.mono jb (A5 _)⟩
   ·obtain rfl:k=oB D:=by simp at jd;omega
    have e1:(D ++ [(⟨fin,A⟩:Nd)])[oB D]=⟨fin,A⟩:=by simp
    have e2:(R ++ [r])[oB D]=r:=by simp[<- h.len]
    rw[e1,e2];exact⟨hf,hA.mono jb (A5 _)⟩
  · rw[<- h.len];simp
def Am (d:Nat)(L:List ByteArray):Rst:=L.map λs=>s.data.toList.drop d
def F8 (L:List ByteArray):Prop:=∀ s∈L,∀ b∈s.data.toList,33<=UInt8.toNat b/\UInt8.toNat b<127
def GJ {d:Nat}{L:List ByteArray}(ja:∀ x∈L,∀ y∈L,x.data.toList.take d=y.data.toList.take d)(jb:L.Pairwise λx y=>ltS x y=oF):Ck (Am d L):=by
 unfold Ck Am;rw[AV];refine XY ?_ jb;intro a b ha hb jc;rw[ltS,ZQ,ZQ,<- XD d a.data.toList,<- XD d b.data.toList,ja a ha b hb,No]at jc;exact jc
def Fh {d:Nat}{L:List ByteArray}(h:F8 L):F7 (Am d L):=λs hs b hb=>by
 obtain⟨x,hx,rfl⟩:=AJ.1 hs;exact h x hx b (Xf hb)
def Gd {s:ByteArray}{d:Nat}(h:d<s.size):∃ b:UInt8,s.data.toList.drop d=b :: s.data.toList.drop (d+1)/\As s d=(b.toNat:Int):=by
 have h2:d<oB s.data.toList:=by simpa using h
 refine⟨s.data.toList[d],AG h2,?_⟩;unfold As;rw[AS,AC h2];rfl
def tw_rest {d:Nat}{b:UInt8}:∀ {L:List ByteArray},(∀ x∈L,d<x.size)->((Am d L).takeWhile λs=>s.head? == oT b)=Am d (L.take (Ef d L (b.toNat:Int)))/\((Am d L).dropWhile λs=>s.head? == oT b)=Am d (L.drop (Ef d L (b.toNat:Int)))
 | [],_=>⟨rfl,rfl⟩
 | x
   :: r,h=>by
  obtain⟨y,e1,e2⟩:=Gd (h x (by simp));obtain⟨i1,i2⟩:=tw_rest (d:=d) (b:=b) (L:=r) λz hz=>h z (Zm _ hz);unfold Am Ef at *;rw[Y4,XC,XO,XC,e1];by_cases e:y=b
  ·subst e;have:As x d=(y.toNat:Int):=e2;simp only[List.head?_cons,beq_self_eq_true,if_true,this,decide_true,Zs,zG,List.drop_succ_cons,Y4,e1];exact⟨by rw[i1],i2⟩
  ·have jb:((y :: List.drop (d+1) x.data.toList).head? == oT b)=oH:=by simpa using e
   have ja:decide (As x d=(b.toNat:Int))=oH:=by
    rw[e2];refine decide_eq_false λh=>e (zt.1 (by omega))
   rw[jb,ja];simp[e1]
def Qy {d:Nat}{L:List ByteArray}:(Am d L).map List.tail=Am (d+1) L:=by
 unfold Am;rw[List.map_map];refine List.map_congr_left λs _=>?_;simp
def Lo {rec:List ByteArray->List Nd->Nat × List Nd}{d m:Nat}(hr:∀ L D R,Pre (d+1) m L->F8 L->IB D R->∃ R',IB (rec L D).2 R'/\R <+: R'/\R'[(rec L D).1]? = oT (Am (d+1) L)) :
  ∀ n lo k L A D R G0,oB L<=n->Rest d (m+1) L->F8 L->Ey lo k (Am d L)->IB D R->DA R D.length G0 A->lo+k<=256 ->
  ∃ R',IB (DL rec d n L A D).2 R'/\R <+: R'/\DA R' (DL rec d n L A D).2.length (G0 ++ Gk lo k (Am d L)) (DL rec d n L A D).1
 | 0,lo,k,L,A,D,R,G0,hl,_,_,_,hT,hA,_=>by
  obtain rfl:L=[]:=Zo (by omega);rw[DL];exact⟨R,hT,Xt _,by show DA R D.length (G0 ++ Gk lo k []) A;rw[IA,Xe];exact hA⟩
 | n+1,lo,k,[],A,D,R,G0,hl,_,_,_,hT,hA,_=>by
  rw[DL];exact⟨R,hT,Xt _,by show DA R D.length (G0 ++ Gk lo k []) A;rw[IA,Xe];exact hA⟩
 | n
   + 1,lo,k,x :: r,A,D,R,G0,hl,hR,hB,hH,hT,hA,hk=>by
  rw[DL];obtain⟨b,e1,e2⟩:=Gd (hR.gt x (by simp));have hs:=GJ hR.same hR.inc;obtain⟨t1,t2⟩:=tw_rest (b:=b) hR.gt;rw[<- e2]at t1 t2;obtain⟨g,hg⟩:∃ g,Ef d (x :: r) (As x d)=g:=⟨_,rfl⟩
  have jm:=I9 (d:=d) (x:=x) (r:=r);have ja:=hR.group;rw[hg]at t1 t2 jm ja ⊢;have jk:F8 ((x :: r).take g):=λs hs=>hB s (Xo hs);have jj:F8 ((x :: r).drop g):=λs hs=>hB s (Xf hs);obtain⟨R1,jb,jd,jh⟩:=hr _ D R ja jk hT;have hL:Am d (x :: r)=(b :: x.data.toList.drop (d+1)) :: Am d r:=by unfold Am;rw[Y4,e1]
  have jg:=Lj (lo:=lo) (n:=k) (b:=b) (t:=x.data.toList.drop (d+1)) (r:=Am d r) (by rw[<- hL];exact hs) (by rw[<- hL];exact hH);have jf:=K0 (lo:=lo) (n:=k) (b:=b) (t:=x.data.toList.drop (d+1)) (r:=Am d r) (by rw[<- hL];exact hs) (by rw[<- hL];exact hH);rw[<- hL,t2]at jf;rw[<- hL,t1,t2,Qy]at jg;have jo:(rec ((x :: r).take g) D).1<(rec ((x :: r).take g) D).2.length:=by
   rw[<- jb.len];exact(Zh.1 jh).1
  have jc:b.toNat<256:=b.toNat_lt;have jn:oB D<=(rec ((x :: r).take g) D).2.length:=by
   rw[<- jb.len,<- hT.len];exact jd.length_le
  have je:=(hA.mono jd jn).snoc jc jo jh;rw[<- e2]at je;have hlo:b.toNat+1<=lo+k:=by
   obtain⟨b',t',e,h3,h4⟩:=hH (b :: x.data.toList.drop (d+1)) (by rw[hL];simp);injection e with e _;subst e;omega
  obtain⟨R2,jl,jp,ji⟩:=Lo hr n (b.toNat+1) (lo+k - (b.toNat+1)) ((x :: r).drop g) _ _ R1 _ (by rw[ZZ];simp at hl ⊢;omega) (hR.drop g) jj jf jb je (by omega);refine⟨R2,jl,jd.trans jp,?_⟩;rw[jg,List.append_cons G0];exact ji
def nodeW_tab:∀ m d L D R,Pre d m L->F8 L->IB D R->∃ R',IB (nodeW m d L D).2 R'/\R <+: R'/\R'[(nodeW m d L D).1]? = oT (Am d L)
 | 0,d,L,D,R,hP,_,_=>by
  exfalso;obtain⟨x,hx⟩:=List.exists_mem_of_ne_nil _ hP.ne;have:=hP.ge x hx;have:=hP.lt x hx;omega
 | m
   +
    1,d,L,D,R,hP,hB,hT=>by
  rw[nodeW];have ja:=hP.rest;have jc:∀ s∈Bm d L,s∈L:=λs hs=>by
   unfold Bm at hs;split at hs
   · exact List.mem_of_mem_tail hs
   · exact hs
  have je:F8 (Bm d L):=λs hs=>hB s (jc s hs);have hH:Ey 33 94 (Am d (Bm d L)):=λs hs=>by
   obtain⟨x,hx,rfl⟩:=AJ.1 hs;obtain⟨b,e1,_⟩:=Gd (ja.gt x hx);have:=Fh (d:=d) je _ hs b (by rw[e1];simp);exact⟨b,_,e1,this.1,this.2⟩
  obtain⟨R1,jf,jj,jd⟩:=Lo (rec:=nodeW m (d+1)) (d:=d) (m:=m) (λL D R h1 h2 h3=>nodeW_tab m (d+1) L D R h1 h2 h3) (Bm d L).length 33 94 (Bm d L) [] D R [] (A5 _) ja je hH hT .nil (by omega);have hs:=GJ hP.same hP.inc;have jh:=Fh (d:=d) hB;have jb:Nl d L=GI (Am d L)/\grp (Am d L)=Gk 33 94 (Am d (Bm d L)):=by
   cases hL:L with
   | nil=>exact absurd hL hP.ne
   | cons x r =>
    have hxge:=hP.ge x (by rw[hL];simp);unfold Bm Nl;by_cases e:x.size=d
    ·have e0:x.data.toList.drop d=[]:=List.drop_of_length_le (by simp;omega);have e1:Am d (x :: r)=[] :: Am d r:=by unfold Am;rw[Y4,e0]
     rw[if_pos (by simpa using e),e1];exact⟨by simpa[GI] using e,rfl⟩
    ·obtain⟨b,e1,_⟩:=Gd (s:=x) (d:=d) (by omega);have e2:Am d (x :: r)=(b :: x.data.toList.drop (d+1)) :: Am d r:=by unfold Am;rw[Y4,e1]
     rw[if_neg (by simpa using e)];exact⟨by rw[e2];simpa[GI] using e,rfl⟩
  rw[ZP,<- jb.2]at jd;obtain⟨R2,jg,jk,ji⟩:=addN_tab jf hs jh (λh=>hP.ne (List.map_eq_nil_iff.1 h)) jb.1 jd;exact⟨R2,jg,jj.trans jk,ji⟩
end Go.Proofs.YtpljngaejaehcaaGreatDoor
