/- Texts that the claims share. -/
import Derived.Test.YtpljngaejaehcaaGreatDoorMD2
import Derived.Test.YtpljngaejaehcaaGreatDoorMD1
import Derived.RangeFuncNested
import Derived.RangeFuncBound
import Derived.RangeFuncCalls
import Derived.RangeFuncLeaves
import Derived.Shelf.Abstract
import Derived.OwnWalkIn
import Derived.TacticsInMore
import Derived.LoopNIn
import Derived.LoopIn
import Derived.RangeFuncBox
import Derived.Maps.AppendAt
import Derived.Laws.Concat
import Derived.Deep.CutBlock
import Derived.Deep.QuietTactic
import Derived.BigQuiet
import Derived.Laws.RangeString
import Derived.Laws.Strings3
import Derived.Deep.Slices
import Derived.Deep.Strs
import Derived.Lib.LaidTab
import Derived.Deep.DeepHandedRow
import Derived.WalkKit
import Derived.ProofKit
import Derived.OpenShut
import Derived.Test.YtpljngaejaehcaaGreatDoorRows
open Option renaming none->oS,some->oT,getD_some->Xh
open Bool renaming true->oF,false->oH,and_eq_true->Zg,and_eq_false_iff->Xc,or_eq_true->Y2
open List renaming length->oB,all_eq_true->Zr,append_assoc->Zw,eq_nil_of_length_eq_zero->Zo,filterMap_cons->zH,findIdx_cons->zV,flatMap_cons->ZA,foldl->Zp,getElem?_eq_some_iff->Zh,getElem?_set_ne->Xy,getElem?_set_self->xg,getElem_append_left->Y8,getElem_of_mem->zr,getElem_set_self->XU,length_set->ZD,map_append->XI,map_cons->Y4,mem_cons_of_mem->Zm,nil_append->ZP,not_mem_nil->ZN,prefix_refl->Xt,range'->Zd,setIfInBounds_toArray->Z5,set_cons_succ->Za,set_cons_zero->Z9,append_nil->Xe,append_toArray->XP,cons_append->ZG,flatMap_append->XB,head_eq_of_cons_eq->Xb,length_cons->Zs,length_nil->X7,mem_of_getElem?->ze,push_toArray->zo,range->Zt,size_toArray->zm
open Go.Value renaming int->aA,pointer->aB,slice->aG,bool->aH,string->aI,agg->aJ,int->X3,slice->Zk,bool->Y7,string->xB
open Go.Obj renaming cells->aK,cells->Xa
open Go.IntKind renaming i64->aM,u8->aO
open Go.Ending renaming returned->aP
open Go.Act renaming eval->Zf,put->ZE
open Go renaming Addr->Zj,Calls->Zu,TypeId->X5,Value->Z6,World->Z0,cell_of_row->Z3,heap_alloc_new->Z4,undef->Z8,Oper->ZX
open Go.RowKit.Below renaming heap_alloc->ZF,heap_setCell->Zc,mono->ZT,refl->Z2,block->Z7
open Int renaming eq_ofNat_of_zero_le->ZY,toNat_natCast->ZW
open Nat renaming add_mul->Xp,le_add_right->z8,lt_succ_self->Y6,mul_le_mul_right->ZM,zero_add->ZS,zero_le->Ze
open Go.Op renaming bytesLess->Zz
open Go.Proofs.Tryz renaming prog->Z1,underlying26->Xv,underlying5->Xg,underlying9->XJ
open Go.World renaming frozen?->Zn,size_setCell->Zb,cell?_spot->xb,putObj_heap_other->Xu
open Array renaming getElem?_toList->ZL,replicate_succ->zc,replicate_zero->zd,toList_append->XQ
open Go.ByteArray renaming toList_eq->ZQ
open Classical renaming propDecidable->Xr
open Go.DataW renaming trod->z7,trod_int->zL
open Go.Fence renaming wide->xf
open Go.Instr renaming indexAt->ZK,slice->Xm,sliceBound->XA,sliceBounds->Xw
open Go.KeepsOthers renaming setCell->XR
open UInt8 renaming ofNat->Zy,toNat_ofNat'->zw
set_option maxHeartbeats 2000000
set_option maxRecDepth 100000
set_option linter.unusedVariables false
set_option linter.unusedSimpArgs false
set_option linter.defProp false
namespace Go.Proofs.YtpljngaejaehcaaGreatDoor
open Go.RowKit Go.WideShapes
def VT2 (wW w0:Z0)(B gMet gm gD gN gV:Nat)(aN:Option Zj)(nN cN:Nat)(vb0:Option Nat)(N0:List NV)(v:Z6)(N:List NV)(E:List Nd)(Mt:List Nat)(b1:Bool)(w:Z0):Prop :=
 match b1 with
 | false=>LV0 wW w0 B gMet gm gD gN gV aN nN cN vb0 N0 v N E Mt w
 | true=>True
def VT2.ext {wW w0:Z0}{B gMet gm gD gN gV:Nat}{aN:Option Zj}{nN cN:Nat}{vb0:Option Nat}{N0:List NV}{v:Z6}{N:List NV}{E:List Nd}{Mt:List Nat}:∀ (b1:Bool) (w w':Z0),VT2 wW w0 B gMet gm gD gN gV aN nN cN vb0 N0 v N E Mt b1 w->Ext w w'->VT2 wW w0 B gMet gm gD gN gV aN nN cN vb0 N0 v N E Mt b1 w':=by
 intro b1 w w' h hx;cases b1 with
 | false=>exact LV0.ext h hx
 | true=>trivial
def Dd {w:Z0}{g:Nat}{a:Z6}{t:X5}{f:Nat × Nat}(h:w.heap[g]? = oT (aK #[a] t f)):w.cell? ⟨g,0,oS⟩=oT a:=by
 rw[Z3 w g 0 _ _ f h];rfl
structure PVt (wW w0:Z0)(B gMet gm gD gN gV:Nat)(aN:Option Zj)(nN cN:Nat)(vb0:Option Nat)(N0:List NV)(v0:Z6)(N:List NV)(E:List Nd)(Mt:List Nat)(nv:NV)(va:Z6)(w:Z0):Prop where
 bst:VS0 w B gMet gm gD gN gV aN nN cN v0 N E Mt
 own:Af C7 w B va (N ++ [nv])
 bl:Below B wW w
 fr:Fr gD gm vb0 w0 w
 nr:DY vb0 va.ownBlock w0.heap.size
 ex:∃ X,N=N0 ++ X/\∀ x∈X,∀ g,nvB x=some g->w0.heap.size<=g
section
variable {wW w0 w w':World} {B gMet gm gD gN gV:Nat} {aN:Option Addr} {nN cN:Nat} {vb0:Option Nat} {N0:List NV} {v va:Value} {N:List NV} {E:List Nd} {Mt:List Nat} {nv:NV}
def RG:Bq (λva w=>PVt wW w0 B gMet gm gD gN gV aN nN cN vb0 N0 v N E Mt nv va w):=λva w w' h hx =>
 ⟨h.bst.ext hx,h.own.later hx (A5 _),h.bl.trans (ZT hx h.bst.size),h.fr.trans (Fr.of_below hx) h.nr,h.nr,h.ex⟩
def LV0.appN (h:LV0 wW w0 B gMet gm gD gN gV aN nN cN vb0 N0 v N E Mt w)(ho:Af C7 w' B va (N ++ [nv]))(hg:w.grownBy w' v.ownBlock)(jc:va.ownBlock=v.ownBlock\/va.ownBlock=oT w.heap.size):PVt wW w0 B gMet gm gD gN gV aN nN cN vb0 N0 v N E Mt nv va w':=by
 have hk:∀ q,q<w.heap.size->v.ownBlock≠oT q->w'.heap[q]? = w.heap[q]?:=λq hq jd=>hg.block q hq (λe=>jd e.symm);refine⟨h.bst.toVS0.keep λq hq hh=>hk q hq λe=>?_,ho,h.bl.grown hg h.bst.size λq hq=>h.bst.own.ge q hq,⟨hg.os.trans h.fr.os,hg.tape.trans h.fr.tape,hg.output.trans h.fr.output,AA h.fr.size hg.size,λq hq h3 h4 h5=>?_⟩,?_,h.ex⟩
 ·obtain⟨cs,jb⟩:=h.bst.own.obj e;obtain⟨h1,h2,h3,h4,h5⟩:=h.bst.apartT jb (by decide);rcases hh with(rfl | rfl | rfl) | rfl | rfl | ⟨x,hx,je⟩
  · exact h1 rfl
  · exact h2 rfl
  · exact h3 rfl
  · exact h4 rfl
  · exact h5 rfl
  ·obtain⟨_,cs2,ja⟩:=h.bst.rows_lt x hx q je;rw[jb]at ja;injection ja with ja;injection ja with _ h6;cases h6
 ·have h6:=h.fr.size;refine(hk q (by omega) λe=>?_).trans (h.fr.block q hq h3 h4 h5);rcases h.nr with h7 | h7
  · exact h5 (by rw[<- h7];exact e)
  · have:=h7 q e;omega
 ·rcases jc with h1 | h1
  · rw[h1];exact h.nr
  · rw[h1];exact .inr λq hq=>by injection hq with hq;have:=h.fr.size;omega
def PVt.store (h:PVt wW w0 B gMet gm gD gN gV aN nN cN vb0 N0 v N E Mt nv va w)(hB:B<=w0.heap.size){nd:Nd}(hf:nv.fin=nd.fin)(ha:nd.arcs=[])(hv:(Zk nv.a nv.n nv.c)=aG oS 0 0)(hgD:gD<w0.heap.size) :
  LV0 wW w0 B gMet gm gD gN gV aN nN cN vb0 N0 va (N ++ [nv]) (E ++ [nd]) Mt (w.setCell ⟨gD,0,oS⟩ va):=by
 have ja:∀ q,q≠gD->(w.setCell ⟨gD,0,oS⟩ va).heap[q]? = w.heap[q]?:=λq hq=>Zc _ _ _ _ hq;have jb:∀ {q:Nat} {cs:Array Z6} {t:X5} {fz:Nat × Nat},w.heap[q]? = oT (.cells cs t fz)->t≠69->q≠gD:=λ{q cs t fz} hq ht e=>by
  have h1:=h.bst.dd;rw[<- e,hq]at h1;injection h1 with h1;injection h1 with _ h2;exact ht h2
 obtain⟨es,c,jg⟩:=h.bst.map.obj;refine⟨⟨⟨h.bst.bx.keep λq hq hh=>ja q ?_,Aj h.bst.dd rfl,by simp[h.bst.len],λk h1 h2=>?_,h.bst.map.kept (ja gm λe=>?_),h.bst.hD,h.bst.hm,h.bst.dn⟩,h.own.keep λg hg=>ja g ?_⟩,h.bl.setCell h.bst.hD _,⟨h.fr.os,h.fr.tape,h.fr.output,by rw[Zb];exact h.fr.size,λq hq h3 h4 h5=>(ja q h3).trans (h.fr.block q hq h3 h4 h5)⟩,h.nr,?_⟩
 ·rcases hh with rfl | rfl | rfl
  · exact jb h.bst.bx.met (by decide)
  · exact h.bst.dn
  · exact jb h.bst.bx.vv (by decide)
 ·by_cases jd:k<oB N
  ·have je:k<oB E:=by rw[<- h.bst.len];exact jd
   obtain⟨h3,h4⟩:=h.bst.arcs k jd je;simp only[Y8 jd,Y8 je];exact⟨h3,h4.keep λg hg=>by
    obtain⟨cs,jc⟩:=h4.obj hg;exact ja g (jb jc (by decide))⟩
  ·obtain rfl:k=oB N:=by rw[AD]at h1;simp at h1;omega
   have e1:(N ++ [nv])[oB N]=nv:=by simp
   have e2:(E ++ [nd])[oB N]=nd:=by simp[h.bst.len]
   rw[e1,e2,ha,hv];exact⟨hf,Af.nil _ _ _⟩
 ·have h1:=h.bst.dd;rw[<- e,jg]at h1;cases h1
 ·obtain⟨cs,jc⟩:=h.own.obj hg;exact jb jc (by decide)
 ·obtain⟨X,hX,jf⟩:=h.ex;refine⟨X ++ [nv],by rw[hX,Zw],λx hx g hg=>?_⟩;rcases AY.1 hx with hx | hx
  · exact jf x hx g hg
  ·obtain rfl:=AF.1 hx;unfold nvB at hg;rw[hv]at hg;cases hg
def LVt.done {A:List Ar}{a:Option Zj}{c n:Nat}{gr cr:Nat}(h:LVt wW w0 B gMet gm gD gN gV aN nN cN vb0 N0 (aG a A.length c) A (aG (oT ⟨gr,0,oS⟩) N.length cr) N E Mt w)(hB:B<=w0.heap.size)(hn:oB N0=n)(je:n<oB N){f:Bool}(hE:E[n]? = oT ⟨f,[]⟩) :
  ∃ N',LV0 wW w0 B gMet gm gD gN gV aN nN cN vb0 N0 (aG (oT ⟨gr,0,oS⟩) N.length cr) N' (E.set n ⟨f,A⟩) Mt (w.setCell ⟨gr,n*2+1,oS⟩ (aG a A.length c)):=by
 have jh:n<oB E:=by rw[<- h.bst.len];exact je
 have ji:E[n]=⟨f,[]⟩:=by rw[AC jh]at hE;injection hE
 obtain⟨cs0,jf⟩:=h.bst.own.obj (g:=gr) rfl;have jb:∀ q,q≠gr->(w.setCell ⟨gr,n*2+1,oS⟩ (aG a A.length c)).heap[q]? = w.heap[q]?:=λq hq=>Zc _ _ _ _ hq;have ja:∀ {q:Nat} {cs:Array Z6} {t:X5} {fz:Nat × Nat},w.heap[q]? = oT (.cells cs t fz)->t≠168->q≠gr:=λ{q cs t fz} hq ht e=>by
  rw[e,jf]at hq;injection hq with hq;injection hq with _ h2;exact ht h2.symm
 obtain⟨es,cm,jg⟩:=h.bst.map.obj;have jd:N[n].fin=f:=by have:=(h.bst.arcs n je jh).1;rw[this,ji]
 refine⟨N.set n ⟨N[n].fin,a,oB A,c⟩,⟨⟨h.bst.bx.keep λq hq hh=>jb q ?_,(jb gD (ja h.bst.dd (by decide))).trans h.bst.dd,by simp[h.bst.len],λk h1 h2=>?_,h.bst.map.kept (jb gm λe=>?_),h.bst.hD,h.bst.hm,h.bst.dn⟩,h.bst.own.setArcs je a A.length c⟩,h.bl.setCell (h.bst.own.ge gr rfl) _,⟨h.fr.os,h.fr.tape,h.fr.output,by rw[Zb];exact h.fr.size,λq hq h3 h4 h5=>(jb q λe=>?_).trans (h.fr.block q hq h3 h4 h5)⟩,h.nr,?_⟩
 ·rcases hh with rfl | rfl | rfl
  · exact ja h.bst.bx.met (by decide)
  · exact ja h.bst.bx.nn (by decide)
  · exact ja h.bst.bx.vv (by decide)
 ·have jl:k<oB N:=by simpa using h1
  have jk:k<oB E:=by simpa using h2
  obtain⟨h3,h4⟩:=h.bst.arcs k jl jk;by_cases e:n=k
  ·subst e;simp only[XU];exact⟨jd,(h.own.mono hB).keep λg hg=>by
    obtain⟨cs,jc⟩:=h.own.obj hg;exact jb g (ja jc (by decide))⟩
  ·simp only[List.getElem_set_ne e];exact⟨h3,h4.keep λg hg=>by
    obtain⟨cs,jc⟩:=h4.obj hg;exact jb g (ja jc (by decide))⟩
 · rw[e,jf]at jg;cases jg
 ·rcases h.nr with h7 | h7
  · exact h5 (by rw[<- h7,e];rfl)
  · have:=h7 gr rfl;omega
 ·obtain⟨X,hX,jj⟩:=h.ex;refine⟨X.set 0 ⟨N[n].fin,a,oB A,c⟩,?_,λx hx g hg=>?_⟩
  ·generalize (⟨N[n].fin,a,oB A,c⟩:NV)=nv9;rw[hX,List.set_append_right _ _ (by omega),hn,Nat.sub_self]
  ·rcases List.mem_or_eq_of_mem_set hx with hx | rfl
   · exact jj x hx g hg
   · exact h.own.ge g hg
end
def VSt.mapped {wW w w1:Z0}{B gMet gm gD gN gV:Nat}{aN:Option Zj}{nN cN:Nat}{v:Z6}{N:List NV}{E:List Nd}{Mt Mt2:List Nat}(h:VSt w B gMet gm gD gN gV aN nN cN v N E Mt)(hb:Below B wW w)(hm:IJ w1 gm Mt2)(hg:w.grownBy w1 (oT gm)) :
  LV0 wW w B gMet gm gD gN gV aN nN cN v.ownBlock N v N E Mt2 w1:=by
 obtain⟨es,c,jd⟩:=h.map.obj;have hk:∀ q,q<w.heap.size->q≠gm->w1.heap[q]? = w.heap[q]?:=λq hq je=>hg.block q hq (λe=>je (by injection e));have ja:∀ {q:Nat} {cs:Array Z6} {t:X5} {fz:Nat × Nat},w.heap[q]? = oT (.cells cs t fz)->q≠gm:=λ{q cs t fz} hq e=>by
  rw[e,jd]at hq;cases hq
 refine⟨⟨⟨h.bx.keep λq hq hh=>hk q hq ?_,(hk gD (A7.1 h.dd).1 (ja h.dd)).trans h.dd,h.len,λk h1 h2=>⟨(h.arcs k h1 h2).1,(h.arcs k h1 h2).2.keep λg jb=>?_⟩,hm,h.hD,h.hm,h.dn⟩,h.own.keep λg jb=>?_⟩,hb.grown hg h.size (λq hq=>by injection hq with hq;rw[<- hq];exact h.hm),⟨hg.os,hg.tape,hg.output,hg.size,λq hq _ h4 _=>hk q hq h4⟩,.inl rfl,[],by simp,λx hx=>by cases hx⟩
 ·rcases hh with rfl | rfl | rfl
  · exact ja h.bx.met
  · exact ja h.bx.nn
  · exact ja h.bx.vv
 ·obtain⟨cs,jc⟩:=(h.arcs k h1 h2).2.obj jb;exact hk g ((h.arcs k h1 h2).2.lt g jb) (ja jc)
 ·obtain⟨cs,jc⟩:=h.own.obj jb;exact hk g (h.own.lt g jb) (ja jc)
def VT3 (wW w0:Z0)(B gMet gm gD gN gV:Nat)(aN:Option Zj)(nN cN:Nat)(vb0:Option Nat)(N0:List NV)(vA:Z6)(A:List Ar)(v:Z6)(N:List NV)(E E2:List Nd)(Mt Mt2:List Nat)(b1 b2:Bool)(w:Z0):Prop :=
 match b1,b2 with
 | false,_=>LVt wW w0 B gMet gm gD gN gV aN nN cN vb0 N0 vA A v N E Mt w
 | true,oH=>∃ v2 N2,LVt wW w0 B gMet gm gD gN gV aN nN cN vb0 N0 vA A v2 N2 E2 Mt2 w
 | true,oF=>True
def RH (wW w0:Z0)(B gMet gm gD gN gV:Nat)(aN:Option Zj)(nN cN:Nat)(vb0:Option Nat)(N0:List NV)(A2:List Ar)(E2:List Nd)(Mt2:List Nat)(va:Z6)(w:Z0):Prop :=
 ∃ v2 N2,LVt wW w0 B gMet gm gD gN gV aN nN cN vb0 N0 va A2 v2 N2 E2 Mt2 w
section
variable {wW w0:World} {B gMet gm gD gN gV:Nat} {aN:Option Addr} {nN cN:Nat} {vb0:Option Nat} {N0:List NV} {vA:Value} {A A2:List Ar} {v:Value} {N:List NV} {E E2:List Nd} {Mt Mt2:List Nat}
def VT3.ext:∀ (b1 b2:Bool) (w w':Z0),VT3 wW w0 B gMet gm gD gN gV aN nN cN vb0 N0 vA A v N E E2 Mt Mt2 b1 b2 w->Ext w w'->VT3 wW w0 B gMet gm gD gN gV aN nN cN vb0 N0 vA A v N E E2 Mt Mt2 b1 b2 w':=by
 intro b1 b2 w w' h hx;cases b1 with
 | false=>exact LVt.ext h hx
 | true =>
  cases b2 with
  | false =>
   obtain⟨v2,N2,h2⟩:=h;exact⟨v2,N2,h2.ext hx⟩
  | true=>trivial
def VT3.some {b1:Bool}{w:Z0}(h:VT3 wW w0 B gMet gm gD gN gV aN nN cN vb0 N0 vA A v N E E2 Mt Mt2 b1 oH w):VBx w gMet gm gD gN gV aN nN cN/\w0.heap.size<=w.heap.size/\Af CK w w0.heap.size vA A:=by
 cases b1 with
 | false=>exact⟨(LVt.bst h).bx,(LVt.fr h).size,LVt.own h⟩
 | true =>
  obtain⟨v2,N2,h2⟩:=h;exact⟨h2.bst.bx,h2.fr.size,h2.own⟩
def KA:Bq (RH wW w0 B gMet gm gD gN gV aN nN cN vb0 N0 A2 E2 Mt2):=by
 rintro va w w' ⟨v2,N2,h⟩ hx;exact⟨v2,N2,h.ext hx⟩
end
def visit_any
         (wW:Z0) (B gMet gm gD gN gV:Nat) (aN:Option Zj) (cN:Nat) (Dn:List Nd) (hWB:wW.heap.size<=B) (km:Cj wW aN Dn) (hDl:oB Dn<=500000) (jx:UK Dn) (kl:∀ i (h:i<oB Dn),Dn[i].arcs.length<=1000) :
  ∀ (m i:Nat) (Mt:List Nat) (E:List Nd) (v:Z6) (N:List NV) (w:Z0),i<oB Dn->i<m->VOk Dn Mt E->VSt w B gMet gm gD gN gV aN Dn.length cN v N E Mt->Below B wW w ->
  Zu Z1 102 #[aA aM (i:Int),aB (oT ⟨gMet,0,oS⟩),aB (oT ⟨gD,0,oS⟩),aB (oT ⟨gN,0,oS⟩),aB (oT ⟨gV,0,oS⟩)] w (VF wW B gMet gm gD gN gV aN Dn.length cN (numV Dn m i Mt E) v N w):=by
 intro m
 induction m with
 | zero=>intro i _ _ _ _ _ _ h;omega
 | succ m ih
       =>
  intro i Mt E v N w hi him ky jH hW;obtain⟨kF,jw,jX,jq,HW,IH,kD⟩:=oJ km jx ky jH hW ih kl;have j8:=jH.size;have kE:=A0 j8;clear km jx ky jH hW ih kl;have jn:=jq.map.look i (by omega);have kb:=Dd jq.bx.met;by_cases hp:EF Mt i<oB Mt
  ·rw[if_pos hp,decide_eq_true hp]at jn;have jT:numV Dn (m+1) i Mt E=(EF Mt i,Mt,E):=by rw[numV,if_pos hp]
   have j7:=A0 jT;clear hp jT
   go_enter Tryz.func102,Tryz.ntmps102
   go_wp2;go_ret;rw[j7.out];exact⟨rfl,v,N,jq,HW,Fr.refl _ _ _ _,.inl rfl,[],by simp,λx hx=>by cases hx⟩
  ·rw[if_neg hp,decide_eq_false hp]at jn;obtain⟨na,nc,kx, -, -⟩:=jq.own.form;rw[jq.out.len]at kx;subst kx;have kW:=Dd jq.dd;have jz:(oB E:Int)=(oB Mt:Int):=by rw[jX.out.len]
   have kL:=A0 jz;have hEl:oB E<=500000:=by have:=jX.le;omega
   have kT:oB Mt<1000000:=by have:=jX.len;omega
   have HP:=A0 hp;clear hp jz
   go_enter Tryz.func102,Tryz.ntmps102
   go_upto_region 6 with(first
    | (at_mapUpdate;go_loud (refine Hp jq.map i (by omega) HP kT rfl _ _ _ rfl rfl rfl (by show X3 aM (oB E:Int)=_;rw[kL.out]) ?_;intro w1 kw ks)))
   have kJ:=A0 (VSt.mapped jq HW kw ks);obtain⟨bN,oN,kr,hbN,f0,aa,cc,f1,kq,jY⟩:=kF.at hi;have hidxN:=Ih aN bN oN Dn.length cN i kr hi;have kt:Dn.getD i default=Dn[i]:=by rw[AS,AC hi];rfl
   have ki:=A0 kt;have je:=jw i hi;have jy:=kD i hi;obtain⟨nd0,jS⟩:∃ nd0,Dn[i]=nd0:=⟨_,rfl⟩
   rw[jS]at f0 f1 kq jY je jy ki;obtain⟨f,X⟩:=nd0;simp only at f0 f1 kq jY je jy;obtain⟨kG,kH,kS,kQ⟩:=oD f0 f1 jY je;obtain⟨FA,ko⟩:∃ FA,DE (numV Dn m) X [] (Mt ++ [i]) (E ++ [⟨f,[]⟩])=FA:=⟨_,rfl⟩
   have kh:=A0 ko;have Jx:gD<w.heap.size:=(A7.1 jq.dd).1;simp only[ZE];clear kw ks f0 f1 jY je kt jS kr ko jn kb kW;refine Ay (by kernel_rfl) (Vs [vq (aG na E.length nc),vq (aG aN Dn.length cN),vq (aA aM (i:Int)),vq (aB (oT ⟨bN,oN+i*2,oS⟩)),vq (aB (oT ⟨bN,oN+i*2,oS⟩)),vq (aH f),vq (aJ #[aH f,aG oS 0 0]),Ho (aG na E.length nc) (⟨f,oS,0,0⟩:NV),λva w9=>PVt wW w B gMet gm gD gN gV aN Dn.length cN (Zk na E.length nc).ownBlock N (aG na E.length nc) N E (Mt ++ [i]) (⟨f,oS,0,0⟩:NV) va w9]) (Xs [Ext,Ext,Ext,Ext,Ext,Ext,Ext,Ext,(λw w'=>w.grownBy w' (Zk na E.length nc).ownBlock)]) (λfL=>(λb1 W=>VT2 wW w B gMet gm gD gN gV aN Dn.length cN (Zk na E.length nc).ownBlock N (aG na E.length nc) N E (Mt ++ [i]) b1 W) (fL 8)) [0,0,0,6,14,30,62,126,255] 62 9 (by kernel_rfl) rfl ?hV ?hS ?hop ?hfin ?hlast
   case hV =>
    refine Bi (BB (by simp only[AX,ZN,or_false,forall_eq_or_imp,forall_eq];exact⟨Ab _,Ab _,Ab _,Ab _,Ab _,Ab _,Ab _,IG _ _,RG⟩)) ?_;exact⟨.inl rfl,.inl rfl,.inl rfl,.inl rfl,.inl rfl,.inl rfl,.inl rfl,.inl rfl,.inr (BU ⟨λ_ _=>λ_ _ _ h _=>h,λ_ _=>λ_ _ _ h _=>h,λ_ _=>λ_ _ _ h _=>h,λ_ _=>λ_ _ _ h _=>h,λ_ _=>λ_ _ _ h _=>h,λ_ _=>λ_ _ _ h _=>h,λ_ _=>λ_ _ _ h _=>h,λ_ _=>II _ _,λh=>absurd rfl h,trivial⟩),trivial⟩
   case hS =>
    intro fL hf;show(λb1 W=>VT2 wW w B gMet gm gD gN gV aN Dn.length cN (Zk na E.length nc).ownBlock N (aG na E.length nc) N E (Mt ++ [i]) b1 W) (fL 8) _;rw[hf 8 (by decide)];exact VT2.ext oH _ _ kJ ⟨rfl,rfl,rfl,A5 _,λ_ _=>rfl⟩
   case hop =>
    refine⟨?_,?_,?_,?_,?_,?_,?_,?c7,?c8,?_,trivial⟩
    all_goals first | rw[if_neg (by decide)] | rw[if_pos (by decide)]
    all_goals try exact True.intro
    all_goals try intro ac W fL jj jl jF jB jb jc ja jv
    all_goals try have hS:(λb1 W=>VT2 wW w B gMet gm gD gN gV aN Dn.length cN (Zk na E.length nc).ownBlock N (aG na E.length nc) N E (Mt ++ [i]) b1 W) (fL 8) W:=jb
    all_goals try (have jC:fL 8=oF:=jF 8 (by decide);rw[jC]at hS)
    all_goals try (have jC:fL 8=oH:=(by first | exact jl | exact jB 8 (by decide) (by decide));rw[jC]at hS)
    all_goals try (
     have jf:LV0 wW w B gMet gm gD gN gV aN Dn.length cN (Zk na E.length nc).ownBlock N (aG na E.length nc) N E (Mt ++ [i]) W:=hS;have hcD:=Dd jf.bst.dd;have hcN:=Dd jf.bst.bx.nn;have hcF:=(jf.bl.cell (p:=⟨bN,oN+i*2,oS⟩) (by show bN<B;omega)).trans kG)
    all_goals try have hh2:=gdA ac 2 (aB (oT ⟨gD,0,oS⟩)) (ja 2 (by kernel_rfl))
    all_goals try have hh3:=gdA ac 3 (aB (oT ⟨gN,0,oS⟩)) (ja 3 (by kernel_rfl))
    all_goals try have hh0:=gdA ac 0 (aA aM (i:Int)) (ja 0 (by kernel_rfl))
    all_goals try (have d26:ac.tmps.getD 26 Z8=aG na E.length nc:=jc 0 (by decide);have dd26:=d26;rw[A6]at dd26)
    all_goals try have d33:(Ho (aG na E.length nc) (⟨f,oS,0,0⟩:NV)) (ac.tmps.getD 33 Z8) W:=jc 7 (by decide)
    all_goals try (have jc:=GC jc;simp[FK,Ae,vq]at jc)
    all_goals try clear ja jF jB jv
    case c7 =>
     have jr:(λb1 W=>VT2 wW w B gMet gm gD gN gV aN Dn.length cN (Zk na E.length nc).ownBlock N (aG na E.length nc) N E (Mt ++ [i]) b1 W) ((upd fL 7) 8) W:=jb;have jo:(Zk na E.length nc).ownBlock≠oT W.heap.size:=λe=>by
      have:=jf.bst.own.lt _ e;omega
     refine Ag rfl (.inl ⟨aG (oT ⟨W.heap.size,0,oS⟩) 1 1,W.alloc (aK #[aH f,aG oS 0 0] 168),?_,⟨_,rfl,Z4 _ _,jo⟩,(Z2 _ _).alloc (A5 _) _,(show(λb1 W=>VT2 wW w B gMet gm gD gN gV aN Dn.length cN (Zk na E.length nc).ownBlock N (aG na E.length nc) N E (Mt ++ [i]) b1 W) ((upd fL 7) 8) _ by
      rw[show upd fL 7 8=fL 8 from if_neg (by decide)];exact VT2.ext _ _ _ jb ((Z2 _ _).alloc (A5 _) _))⟩)
     clear jj hS jb jr jl jf;simp[go_sem,Zf, *]
    case c8 =>
     obtain⟨g62,e62,jD,kc⟩:=d33;refine Ag rfl ((DD DW (.tmp 26) (.tmp 33) rfl (Al d26) jf.bst.own ⟨g62,0,oS⟩ 1 [(⟨f,oS,0,0⟩:NV)] (Al e62) (Ai jD) (by rw[jf.bst.len];simp only[AE];omega) jf.bst.size).mono ?_);rintro va w' ⟨ho,jE,j9⟩;refine⟨jf.appN ho jE j9,jE,?_⟩;show VT2 wW w B gMet gm gD gN gV aN Dn.length cN (Zk na E.length nc).ownBlock N (aG na E.length nc) N E (Mt ++ [i]) (upd fL 8 8) w';rw[show upd fL 8 8=oF from if_pos rfl];trivial
    all_goals (refine Ag rfl (.inl ⟨_,W,?_,rfl,Ext.refl _,jb⟩);clear jj hS jb jl;simp[go_sem,Zf, *];done)
   case hfin =>
    intro h;exact absurd h (by decide)
   case hlast =>
    intro _ ac W jj jO fL hf jb hv ja;have hS:(λb1 W=>VT2 wW w B gMet gm gD gN gV aN Dn.length cN (Zk na E.length nc).ownBlock N (aG na E.length nc) N E (Mt ++ [i]) b1 W) (fL 8) W:=jb;clear jb;rw[hf 8 (by decide)]at hS;have jH:ac.tmps.getD 2 Z8=aB (oT ⟨gD,0,oS⟩):=ja 2 (by kernel_rfl);have jG:PVt wW w B gMet gm gD gN gV aN Dn.length cN (Zk na E.length nc).ownBlock N (aG na E.length nc) N E (Mt ++ [i]) (⟨f,oS,0,0⟩:NV) (ac.tmps.getD 34 Z8) W:=hv 8 (by decide);obtain⟨ya,yc,ke, -, -⟩:=jG.own.form;rw[ke]at jG;refine Bw rfl rfl rfl rfl (Al jH) (Al ke) (by simp[Zn,jG.bst.dd]) (Dd jG.bst.dd) (by kernel_rfl) ?_;have ji:=jG.store j8 (nd:=⟨f,[]⟩) rfl rfl rfl Jx;obtain⟨wz2,jW⟩:∃ wz2,W.setCell ⟨gD,0,oS⟩ (aG ya (N ++ [(⟨f,oS,0,0⟩:NV)]).length yc)=wz2:=⟨_,rfl⟩
    rw[jW]at ji ⊢;have jA:=A0 ji;clear hS jG jW jH ji;obtain⟨sx,j3,jU⟩:=B7 [26,27,28,29,30,31,32,33,34] (by kernel_rfl) jj jO ja;clear ke;rw[jU];simp only[Zp];simp only[ZE,Z5,Za,Z9];clear jU j3 hv ja jj jO hf;have kM:Hid (LVt wW w B gMet gm gD gN gV aN Dn.length cN (Zk na E.length nc).ownBlock N (aG oS 0 0) [] (aG ya (N ++ [(⟨f,oS,0,0⟩:NV)]).length yc) (N ++ [(⟨f,oS,0,0⟩:NV)]) (E ++ [⟨f,[]⟩]) (Mt ++ [i]) wz2):=⟨jA.bst,jA.bl,jA.fr,jA.nr,jA.ex,Af.nil _ _ _,λx _ g _ e=>by cases e⟩
    have hcN2:=Dd jA.bst.bx.nn;have hcA2:=(jA.bl.cell (p:=⟨bN,oN+i*2+1,oS⟩) (by show bN<B;omega)).trans kH;have j6:=A0 (jX.snoc hi HP (⟨f,[]⟩:Nd))
    go_wp2_with fail
    go_loopw [41,10] (λs41 s10 wr=>∃ (k:Nat) (A:List Ar) (vA vE:Z6) (N':List NV) (E':List Nd) (Mt':List Nat),s41=aA aM (k:Int)/\k<=oB X/\vA=s10/\LVt wW w B gMet gm gD gN gV aN Dn.length cN (Zk na E.length nc).ownBlock N vA A vE N' E' Mt' wr /\
     DE (numV Dn m) (X.drop k) A Mt' E'=FA/\VOk Dn Mt' E'/\E.length<oB E'/\E'[oB E]? = oT ⟨f,[]⟩/\A.length<=k) (λs41 _ _=>oB X - (intOf s41).toNat)
    case atStart=>exact⟨0,[],aG oS 0 0,_,_,_,_,rfl,Ze _,rfl,kM,kh,j6,by simp,by simp,A5 _⟩
    case round =>
     obtain⟨k,A,vA,vE,N',E',Mt',rfl,hk,rfl,kv,jk,jV,jm,kn,hAk⟩:=hrel;obtain⟨jg,jI,jJ,kg⟩:=oD kv jk jV kn;clear kv jk jV kn;by_cases j2:k<oB X
     ·obtain⟨
          b3,o3,ha3,hb3,q0,q1⟩:=kS.at j2
      have hidx3:=FS9 aa b3 o3 X.length cc k ha3 j2;have j5:=kQ X[k] (AI j2);obtain⟨x,hx⟩:∃ x,X[k]=x:=⟨_,rfl⟩
      have jL:=A0 hx;rw[hx]at q0 q1 j5;obtain⟨xc,xt⟩:=x;simp only at q0 q1 j5;obtain⟨tn,rfl⟩:=ZY j5.1;have htn:tn<i:=by omega
      have kR:Hid (X[k]=⟨xc,(tn:Int)⟩):=jL.out;have c0:=(jg.bl.cell (p:=⟨b3,o3+k*2,oS⟩) (by show b3<B;omega)).trans q0;have c1:=(jg.bl.cell (p:=⟨b3,o3+k*2+1,oS⟩) (by show b3<B;omega)).trans q1;clear ha3 hx jL q0 q1 j5;obtain⟨qi,qM,qE,hq⟩:∃ qi qM qE,numV Dn m tn Mt' E'=(qi,qM,qE):=⟨_,_,_,rfl⟩
      have HQ:=A0 hq;have jp:=QD jw m tn Mt' E' (by omega) (by omega) jJ;rw[hq]at jp;have jK:=A0 jp;have jZ:=JJ Dn m tn Mt' E';rw[hq]at jZ;have kf:Hid (oB E<oB qE/\qE[oB E]? = oT ⟨f,[]⟩):=⟨A9 jm jZ.1,(jZ.2 _ jm).trans kg⟩
      clear hq jp jZ
      go_upto_region 11 with fail
      obtain⟨wy,j4⟩:∃ wy,wy=wr.alloc (aK #[aA aO xc,aA aM (tn:Int)] 170):=⟨_,rfl⟩
      have kB:Below wr.heap.size wr wy:=by rw[j4];exact(Z2 _ _).alloc (A5 _) _
      have kP:Hid (wy.heap[wr.heap.size]? = oT (aK #[aA aO xc,aA aM (tn:Int)] 170 (0,0))):=by show _=_;rw[j4];exact Z4 _ _
      have kN:=A0 (jg.ext kB);have kO:Hid (vA.ownBlock≠oT wr.heap.size):=λe=>by have:=jg.own.lt _ e;omega
      rw[<- j4];clear j4 kB;refine Ay (by kernel_rfl) (Vs [vq (vA),vq (aB (oT ⟨wr.heap.size,0,oS⟩)),vq (aA aO xc),vq (.func (.func 102) #[] #[aB (oT ⟨gMet,0,oS⟩),aB (oT ⟨gD,0,oS⟩),aB (oT ⟨gN,0,oS⟩),aB (oT ⟨gV,0,oS⟩)]),vq (aB (oT ⟨wr.heap.size,1,oS⟩)),vq (aA aM (tn:Int)),vq (aA aM (qi:Int)),vq (aJ #[aA aO xc,aA aM (qi:Int)]),Fk vA (⟨xc,(qi:Int)⟩:Ar),RH wW w B gMet gm gD gN gV aN Dn.length cN (Zk na E.length nc).ownBlock N (A ++ [(⟨xc,(qi:Int)⟩:Ar)]) qE qM,RH wW w B gMet gm gD gN gV aN Dn.length cN (Zk na E.length nc).ownBlock N (A ++ [(⟨xc,(qi:Int)⟩:Ar)]) qE qM]) (Xs [Ext,Ext,Ext,Ext,Ext,Ext,(λ_ _=>True),Ext,Ext,(λw w'=>w.grownBy w' vA.ownBlock),Ext]) (λfL=>(λb1 b2 W=>VT3 wW w B gMet gm gD gN gV aN Dn.length cN (Zk na E.length nc).ownBlock N vA A vE N' E' qE Mt' qM b1 b2 W/\W.heap[wr.heap.size]? = oT (aK #[aA aO xc,aA aM (tn:Int)] 170 (0,0))) (fL 6) (fL 9)) [0,0,2,0,0,16,56,126,254,511,1023] 62 11 (by kernel_rfl) rfl ?hV ?hS ?hop ?hfin ?hlast
      case hV =>
       refine Bi (BB (by simp only[AX,ZN,or_false,forall_eq_or_imp,forall_eq];exact⟨Ab _,Ab _,Ab _,Ab _,Ab _,Ab _,Ab _,Ab _,Gv _ _,KA,KA⟩)) ?_;exact⟨.inl rfl,.inl rfl,.inl rfl,.inl rfl,.inl rfl,.inl rfl,.inr (BU ⟨λ_ _=>λ_ _ _ h _=>h,λ_ _=>λ_ _ _ h _=>h,λ_ _=>λ_ _ _ h _=>h,λ_ _=>λ_ _ _ h _=>h,λ_ _=>λ_ _ _ h _=>h,λ_ _=>λ_ _ _ h _=>h,λh=>absurd rfl h,λ_ h=>absurd h (by decide),λ_ h=>absurd h (by decide),λ_ h=>absurd h (by decide),λ_ h=>absurd h (by decide),trivial⟩),.inl rfl,.inl rfl,.inr (BU ⟨λ_ _=>λ_ _ _ h _=>h,λ_ _=>λ_ _ _ h _=>h,λ_ _=>λ_ _ _ h _=>h,λ_ _=>λ_ _ _ h _=>h,λ_ _=>λ_ _ _ h _=>h,λ_ _=>λ_ _ _ h _=>h,λ_ _=>λ_ _ _ h _=>h,λ_ _=>λ_ _ _ h _=>h,λ_ _=>Gw _ _,λh=>absurd rfl h,λ_ h=>absurd h (by decide),trivial⟩),.inl rfl,trivial⟩
      case hS =>
       intro fL hf;show(λb1 b2 W=>VT3 wW w B gMet gm gD gN gV aN Dn.length cN (Zk na E.length nc).ownBlock N vA A vE N' E' qE Mt' qM b1 b2 W/\W.heap[wr.heap.size]? = oT (aK #[aA aO xc,aA aM (tn:Int)] 170 (0,0))) (fL 6) (fL 9) _;rw[hf 6 (by decide),hf 9 (by decide)];exact⟨VT3.ext oH oH _ _ kN ⟨rfl,rfl,rfl,A5 _,λ_ _=>rfl⟩,kP⟩
      case hop =>
       refine⟨?_,?_,?_,?c3,?_,?_,?c6,?_,?c8,?c9,?c10,trivial⟩
       all_goals first | rw[if_neg (by decide)] | rw[if_pos (by decide)]
       all_goals try intro ac W fL jj jl jF jB jb jc ja jv
       all_goals try have hS:(λb1 b2 W=>VT3 wW w B gMet gm gD gN gV aN Dn.length cN (Zk na E.length nc).ownBlock N vA A vE N' E' qE Mt' qM b1 b2 W/\W.heap[wr.heap.size]? = oT (aK #[aA aO xc,aA aM (tn:Int)] 170 (0,0))) (fL 6) (fL 9) W:=jb
       all_goals try (have jt:fL 6=oF:=jF 6 (by decide);rw[jt]at hS)
       all_goals try (have jt:fL 6=oH:=(by first | exact jl | exact jB 6 (by decide) (by decide));rw[jt]at hS)
       all_goals try (have ju:fL 9=oF:=jF 9 (by decide);rw[ju]at hS)
       all_goals try (have ju:fL 9=oH:=(by first | exact jl | exact jB 9 (by decide) (by decide));rw[ju]at hS)
       all_goals try (
        have kA:=hS.2;obtain⟨vb0',vb1'⟩:=CC kA;clear kA)
       all_goals try (have jM:ac.tmps.getD 10 Z8=vA:=jv 10 10 (by decide) (jB 10 (by decide) (by decide)) rfl;have ka:=jM;rw[A6]at ka)
       all_goals try have hh12:=gdA ac 12 (aB (oT ⟨wr.heap.size,0,oS⟩)) (ja 12 (by kernel_rfl))
       all_goals try (have h4:ac.tmps.getD 4 Z8=aB (oT ⟨gV,0,oS⟩):=ja 4 (by kernel_rfl);have kX:=h4;rw[A6]at kX)
       all_goals try (have d45:ac.tmps.getD 45 Z8=vA:=jc 0 (by decide);have dd45:=d45;rw[A6]at dd45)
       all_goals try have d53:(Fk vA (⟨xc,(qi:Int)⟩:Ar)) (ac.tmps.getD 53 Z8) W:=jc 8 (by decide)
       all_goals try have d54:(RH wW w B gMet gm gD gN gV aN Dn.length cN (Zk na E.length nc).ownBlock N (A ++ [(⟨xc,(qi:Int)⟩:Ar)]) qE qM) (ac.tmps.getD 54 Z8) W:=jc 9 (by decide)
       all_goals try (have jc:=GC jc;simp[FK,Ae,vq]at jc)
       all_goals try clear ja jF jB jv
       case c3 =>
        have jr:(λb1 b2 W=>VT3 wW w B gMet gm gD gN gV aN Dn.length cN (Zk na E.length nc).ownBlock N vA A vE N' E' qE Mt' qM b1 b2 W/\W.heap[wr.heap.size]? = oT (aK #[aA aO xc,aA aM (tn:Int)] 170 (0,0))) ((upd fL 3) 6) ((upd fL 3) 9) W:=jb;have kZ:=Dd (VT3.some hS.1).1.vv;unfold VFn at kZ;refine Ag rfl (.inl ⟨_,W,?_,rfl,Ext.refl _,jr⟩);clear jj hS jb jr jl;simp[go_sem,Zf, *]
       case c6 =>
        have jd:LVt wW w B gMet gm gD gN gV aN Dn.length cN (Zk na E.length nc).ownBlock N vA A vE N' E' Mt' W:=hS.1;have js:=IH tn Mt' E' vE N' W (by omega) (by omega) jJ jd.bst jd.bl;rw[HQ.out]at js;refine Ag rfl (.inr ⟨102,#[aA aM (tn:Int),aB (oT ⟨gMet,0,oS⟩),aB (oT ⟨gD,0,oS⟩),aB (oT ⟨gN,0,oS⟩),aB (oT ⟨gV,0,oS⟩)],W,by(clear jj hS jb jl js jd;simp[go_sem,Zf, *]),?_⟩);refine js.mono ?_;clear js;rintro e w' hp;obtain⟨he,v2,N2,ji⟩:=jd.called hp;refine⟨_,he,rfl,trivial,?_⟩;have j0:w'.heap[wr.heap.size]? = W.heap[wr.heap.size]?:=by
         obtain⟨_,_,_,h4,h5⟩:=jd.bst.apartT hS.2 (by decide);obtain⟨_,v3,N3,kY⟩:=hp;exact kY.fr.block _ (A7.1 hS.2).1 h4 h5 (λe=>by
          obtain⟨cs2,kU⟩:=jd.bst.own.obj e;have j1:=hS.2;rw[kU]at j1;injection j1 with j1;injection j1 with _ h6;cases h6)
        refine⟨?_,j0.trans hS.2⟩;show VT3 wW w B gMet gm gD gN gV aN Dn.length cN (Zk na E.length nc).ownBlock N vA A vE N' E' qE Mt' qM (upd fL 6 6) (upd fL 6 9) w';rw[show upd fL 6 6=oF from if_pos rfl,show upd fL 6 9=fL 9 from if_neg (by decide),show fL 9=oH from ju];exact⟨v2,N2,ji⟩
       case c8 =>
        have jr:(λb1 b2 W=>VT3 wW w B gMet gm gD gN gV aN Dn.length cN (Zk na E.length nc).ownBlock N vA A vE N' E' qE Mt' qM b1 b2 W/\W.heap[wr.heap.size]? = oT (aK #[aA aO xc,aA aM (tn:Int)] 170 (0,0))) ((upd fL 8) 6) ((upd fL 8) 9) W:=jb;have jo:vA.ownBlock≠oT W.heap.size:=λe=>by
         have:=(VT3.some hS.1).2.2.lt _ e;omega
        refine Ag rfl (.inl ⟨aG (oT ⟨W.heap.size,0,oS⟩) 1 1,W.alloc (aK #[aA aO xc,aA aM (qi:Int)] 170),?_,⟨_,rfl,Z4 _ _,jo⟩,(Z2 _ _).alloc (A5 _) _,(show(λb1 b2 W=>VT3 wW w B gMet gm gD gN gV aN Dn.length cN (Zk na E.length nc).ownBlock N vA A vE N' E' qE Mt' qM b1 b2 W/\W.heap[wr.heap.size]? = oT (aK #[aA aO xc,aA aM (tn:Int)] 170 (0,0))) ((upd fL 8) 6) ((upd fL 8) 9) _ by
         rw[show upd fL 8 6=fL 6 from if_neg (by decide),show upd fL 8 9=fL 9 from if_neg (by decide)];exact⟨VT3.ext _ _ _ _ jb.1 ((Z2 _ _).alloc (A5 _) _),(ZF _ _ _ (A7.1 jb.2).1).trans jb.2⟩)⟩)
        clear jj hS jb jr jl;simp[go_sem,Zf, *]
       case c9 =>
        obtain⟨g62,e62,jD,kc⟩:=d53;obtain⟨⟨v2,N2,ji⟩,j0⟩:=hS;refine Ag rfl ((DD EU (.tmp 45) (.tmp 53) rfl (Al d45) ji.own ⟨g62,0,oS⟩ 1 [(⟨xc,(qi:Int)⟩:Ar)] (Al e62) (Ai jD) (by simp only[AE];omega) ji.fr.size).mono ?_);rintro va w' ⟨ho,jE,j9⟩;have jQ:=ji.app kE jE;refine⟨⟨v2,N2,jQ.bst,jQ.bl,jQ.fr,jQ.nr,jQ.ex,ho,λy hy g hg e=>?_⟩,jE,?_⟩
        ·rcases j9 with h1 | h1
         · rw[h1]at e;exact ji.apart y hy g hg e
         ·rw[h1]at e;injection e with e;have:=(ji.bst.rows_lt y hy g hg).1;omega
        ·refine⟨?_,(jE.block _ (A7.1 j0).1 (λe=>kO e.symm)).trans j0⟩;show VT3 wW w B gMet gm gD gN gV aN Dn.length cN (Zk na E.length nc).ownBlock N vA A vE N' E' qE Mt' qM (upd fL 9 6) (upd fL 9 9) w';rw[show upd fL 9 9=oF from if_pos rfl,show upd fL 9 6=fL 6 from if_neg (by decide),jt];trivial
       case c10 =>
        have jr:(λb1 b2 W=>VT3 wW w B gMet gm gD gN gV aN Dn.length cN (Zk na E.length nc).ownBlock N vA A vE N' E' qE Mt' qM b1 b2 W/\W.heap[wr.heap.size]? = oT (aK #[aA aO xc,aA aM (tn:Int)] 170 (0,0))) ((upd fL 10) 6) ((upd fL 10) 9) W:=jb;have jM:RH wW w B gMet gm gD gN gV aN Dn.length cN (Zk na E.length nc).ownBlock N (A ++ [(⟨xc,(qi:Int)⟩:Ar)]) qE qM (ac.tmps.getD 54 Z8) W:=d54;rw[A6]at jM;refine Ag rfl (.inl ⟨_,W,?_,jM,Ext.refl _,jr⟩);clear jj hS jb jr jl jM;simp[go_sem,Zf, *]
       all_goals (refine Ag rfl (.inl ⟨_,W,?_,rfl,Ext.refl _,jb⟩);clear jj hS jb jl;simp[go_sem,Zf, *];done)
      case hlast =>
       intro h;exact absurd rfl h
      case hfin =>
       intro _ ac W jj jO fL hf jb hv ja;have hS:(λb1 b2 W=>VT3 wW w B gMet gm gD gN gV aN Dn.length cN (Zk na E.length nc).ownBlock N vA A vE N' E' qE Mt' qM b1 b2 W/\W.heap[wr.heap.size]? = oT (aK #[aA aO xc,aA aM (tn:Int)] 170 (0,0))) (fL 6) (fL 9) W:=jb;clear jb;rw[hf 6 (by decide),hf 9 (by decide)]at hS;obtain⟨sx,j3,jU⟩:=B7 [45,46,47,48,49,50,51,52,53,54,10] (by kernel_rfl) jj jO ja;have kd:RH wW w B gMet gm gD gN gV aN Dn.length cN (Zk na E.length nc).ownBlock N (A ++ [(⟨xc,(qi:Int)⟩:Ar)]) qE qM (sx 10) W:=by rw[j3 10];exact hv 10 (by decide)
       obtain⟨v2,N2,ji⟩:=kd;have kj:=A0 ji;clear ji hS;rw[jU];simp only[Zp];simp only[ZE,Z5,Za,Z9];clear jU j3 hv ja jj jO hf;obtain⟨va,kz⟩:∃ va,sx 10=va:=⟨_,rfl⟩
       rw[kz]at kj ⊢;clear kz;have kk:DE (numV Dn m) (X.drop (k+1)) (A ++ [(⟨xc,(qi:Int)⟩:Ar)]) qM qE=FA:=by
        have h:=jI.out;rw[AG j2,kR.out,DE]at h;simp only[ZW]at h;rw[HQ.out]at h;exact h
       have kC:=A0 kk;clear kk
       go_wp2_with fail
       go_roundw
       case rel=>exact⟨k+1,_,va,v2,N2,qE,qM,by go_num,by omega,rfl,kj,kC,jK,kf.1,kf.2,by rw[AD];simp;omega⟩
       case measure=>simp[intOf];omega
     ·obtain rfl:k=oB X:=by omega
      have jk:=jI.out;rw[List.drop_length,DE]at jk;obtain⟨a4,c4,rfl, -, -⟩:=jg.own.form;have jN:=jg.bst.len;have jh:=jg.out;rcases jh.bst.own.blk with⟨_,h0⟩ | ⟨g4,c5,h0, -, -, -⟩
      · exfalso;rw[h0]at jN;simp at jN;omega
      rw[h0]at jh;have kp:=jq.len;obtain⟨N5,ku⟩:=jh.done j8 kp (by omega) kg;have kK:=A0 ku;have hcd:=Dd jh.bst.dd;have jR:oB E<oB N':=by rw[jN];exact jm
      have hcell:wr.cell? ⟨g4,oB E*2+1,oS⟩=oT (aG N'[oB E].a N'[oB E].n N'[oB E].c):=jh.bst.own.cell DW (i:=oB E) (j:=1) jR (by decide);have hfz5:wr.frozen? ⟨g4,oB E*2+1,oS⟩=oH:=by
       obtain⟨cs,kV⟩:=jh.bst.own.obj (g:=g4) rfl;simp[Zn,kV]
      have jP:=Ih _ g4 0 N'.length c5 E.length rfl jR;simp only[ZS]at jP;have HHN:=A0 jN;have kI:=A0 jk;clear jk jN ku jh h0 kp
      go_wp2_with fail
      go_ret;rw[numV,if_neg HP.out,ki.out];simp only;rw[kh.out,<- kI.out];exact⟨rfl,_,_,kK⟩
def UM (w:Z0)(B:Nat)(v:Z6)(D:List Nd):Prop:=∃ N:List NV,Af C7 w B v N/\N.length=oB D/\∀ k (h:k<oB N) (h2:k<oB D),N[k].fin=D[k].fin/\Af CK w B (aG N[k].a N[k].n N[k].c) D[k].arcs
def UM.dawg {w:Z0}{B:Nat}{v:Z6}{D:List Nd}(h:UM w B v D)(hl:∀ i (h:i<oB D),D[i].arcs.length<=1000):∃ a c,v=aG a D.length c/\D.length<=c/\Cj w a D:=by
 obtain⟨N,ho,hn,ha⟩:=h;rcases ho.blk with⟨rfl,h0⟩ | ⟨g,c,rfl,h1,h2,h3⟩
 ·have:D=[]:=Zo (by rw[<- hn,h0];rfl);subst this;exact⟨oS,0,rfl,A5 _,Cj.nil _ _⟩
 ·refine⟨oT ⟨g,0,oS⟩,c,by rw[hn],by omega,λk hk=>?_⟩;have ja:k<oB N:=by omega
  obtain⟨hf,hr⟩:=ha k ja hk;have c0:w.cell? ⟨g,k*2,oS⟩=oT (aH N[k].fin):=ho.cell DW (i:=k) (j:=0) ja (by decide);have c1:w.cell? ⟨g,k*2+1,oS⟩=oT (aG N[k].a N[k].n N[k].c):=ho.cell DW (i:=k) (j:=1) ja (by decide);obtain⟨hA,jb,_⟩:=hr.arcs;have hk1:=hl k hk;refine⟨g,0,rfl,h2,by rw[ZS,c0,hf],N[k].a,N[k].c,by rw[ZS,c1,jb],by omega,hA⟩
def VOk.nil (Dn:List Nd):VOk Dn [] []:=⟨rfl,List.nodup_nil,λj hj=>by cases hj⟩
def w5 (w:Z0)(vN:Z6):Z0:=((((w.alloc (Xa #[vN] 69)).alloc (Xa #[Zk oS 0 0] 69)).alloc (Obj.map #[] 0)).alloc (Xa #[Value.map (oT (w.heap.size+1+1))] 173)).alloc
 (Xa #[VFn (w.heap.size+1+1+1) (w.heap.size+1) w.heap.size (w.heap.size+1+1+1+1)] 174)
def Si (w:Z0)(vN:Z6):Below w.heap.size w (w5 w vN):=by
 have e:∀ (wx:Z0) (o:Obj),w.heap.size<=wx.heap.size->Below w.heap.size w wx->Below w.heap.size w (wx.alloc o):=λwx o h hb=>hb.alloc h _;unfold w5
 iterate 5 refine e _ _ (by first | omega | (simp only[A8];omega)) ?_
 exact Z2 _ _
def skip {w:Z0}{o:Obj}{g:Nat}{x:Option Obj}(h:g<w.heap.size)(hx:w.heap[g]? = x):(w.alloc o).heap[g]? = x:=(ZF _ _ _ h).trans hx
def VG (w:Z0)(aN:Option Zj)(nN cN:Nat):VSt (w5 w (aG aN nN cN)) w.heap.size (w.heap.size+1+1+1) (w.heap.size+1+1) (w.heap.size+1) w.heap.size (w.heap.size+1+1+1+1) aN nN cN (aG oS 0 0) [] [] []:=by
 refine⟨⟨⟨?_,?_,?_⟩,?_,rfl,λk h=>by simp at h,?_,by omega,by omega,by omega⟩,Af.nil _ _ _⟩
 all_goals unfold w5
 ·refine skip (by simp only[A8];omega) ?_;have h:=Z4 (((w.alloc (Xa #[aG aN nN cN] 69)).alloc (Xa #[Zk oS 0 0] 69)).alloc (Obj.map #[] 0)) (Xa #[Value.map (oT (w.heap.size+1+1))] 173);simp only[A8]at h;exact h
 ·iterate 4 refine skip (by simp only[A8];omega) ?_
  exact Z4 _ _
 ·have h:=Z4 ((((w.alloc (Xa #[aG aN nN cN] 69)).alloc (Xa #[Zk oS 0 0] 69)).alloc (Obj.map #[] 0)).alloc (Xa #[Value.map (oT (w.heap.size+1+1))] 173)) (Xa #[VFn (w.heap.size+1+1+1) (w.heap.size+1) w.heap.size (w.heap.size+1+1+1+1)] 174);simp only[A8]at h;exact h
 ·iterate 3 refine skip (by simp only[A8];omega) ?_
  have h:=Z4 (w.alloc (Xa #[aG aN nN cN] 69)) (Xa #[Zk oS 0 0] 69);simp only[A8]at h;exact h
 ·have h:=IJ.new ((w.alloc (Xa #[Zk aN nN cN] 69)).alloc (Xa #[Zk oS 0 0] 69));simp only[A8]at h;refine h.kept ?_
  iterate 2 refine skip (by simp only[A8];omega) ?_
  rfl
def Md (Dn:List Nd)(s:Nat)(aN:Option Zj)(cN:Nat)(w:Z0)(jc:Cj w aN Dn)(jf:oB Dn<=500000)(ja:UK Dn)(jb:∀ i (h:i<oB Dn),Dn[i].arcs.length<=1000)(hs:s<oB Dn) :
  Zu Z1 76 #[aG aN Dn.length cN,aA aM (s:Int)] w λe w'=>∃ v,e=aP v/\UM w' w.heap.size v (numV Dn (s+1) s [] []).2.2/\Below w.heap.size w w':=by
 have HV:=A0 (visit_any w w.heap.size (w.heap.size+1+1+1) (w.heap.size+1+1) (w.heap.size+1) w.heap.size (w.heap.size+1+1+1+1) aN cN Dn (A5 _) jc jf ja jb (s+1) s [] [] (aG oS 0 0) [] (w5 w (aG aN Dn.length cN)) hs (Y6 _) (VOk.nil _) (VG _ _ _ _) (Si _ _));clear jc ja jb hs;have jg:=@run_makeMap Z1;have jh:∀ (fn:Fn) (x y:Array Z6) (a:Zj) (m:Mode) (w:Z0),(store a (.func fn x y) m).run Z1 w=stored Z1 w a (.func fn x y) m:=λfn x y a m w=>run_store Z1 w a (.func fn x y) m rfl
 go_enter Tryz.func76,Tryz.ntmps76
 go_upto_region 5 with fail
 clear jg jh;change Code.wp _ _ _ _ (w5 w (aG aN Dn.length cN));have jd:=Dd (VG w aN Dn.length cN).bx.vv;unfold VFn at jd;obtain⟨wz,je⟩:∃ wz,w5 w (aG aN Dn.length cN)=wz:=⟨_,rfl⟩
 rw[je]at HV jd ⊢;clear je
 go_wp2_with (first
  | (go_at_call 102;refine HV.mono ?_;rintro e w6 ⟨rfl,v,N,hl⟩;have hcd:=Dd hl.bst.dd;have HL:=A0 hl;clear hl))
 go_ret;refine⟨v,rfl,⟨N,HL.bst.own,HL.bst.len,HL.bst.arcs⟩,HL.bl⟩
def Me (Mt:List Rst)(r:Rst):Nat:=Mt.findIdx λq=>decide (q=r)
def KB (rec:Rst->List Rst->List Nd->Nat × List Rst × List Nd)(r:Rst):List Nat->List Ar->List Rst->List Nd->List Ar × List Rst × List Nd
 | [],A,Mt,E=>(A,Mt,E)
 | c :: C,A,Mt,E=>if Au r c=[] then KB rec r C A Mt E else KB rec r C (A ++ [⟨(c:Int),((rec (Au r c) Mt E).1:Nat)⟩]) (rec (Au r c) Mt E).2.1 (rec (Au r c) Mt E).2.2
def Ds (rec:Rst->List Rst->List Nd->Nat × List Rst × List Nd):List (Nat × Rst)->List Ar->List Rst->List Nd->List Ar × List Rst × List Nd
 | [],A,Mt,E=>(A,Mt,E)
 | g :: G,A,Mt,E=>Ds rec G (A ++ [⟨(g.1:Int),((rec g.2 Mt E).1:Nat)⟩]) (rec g.2 Mt E).2.1 (rec g.2 Mt E).2.2
def
  refV:Nat->Rst->List Rst->List Nd->Nat × List Rst × List Nd
 | 0,_,Mt,E=>(0,Mt,E)
 | m+1,r,Mt,E=>if Me Mt r<oB Mt then(Me Mt r,Mt,E) else
  (oB E,(KB (refV m) r (Zd 33 94) [] (Mt ++ [r]) (E ++ [⟨oH,[]⟩])).2.1,(KB (refV m) r (Zd 33 94) [] (Mt ++ [r]) (E ++ [⟨oH,[]⟩])).2.2.set E.length ⟨GI r,(KB (refV m) r (Zd 33 94) [] (Mt ++ [r]) (E ++ [⟨oH,[]⟩])).1⟩)
def IL (rec:Rst->List Rst->List Nd->Nat × List Rst × List Nd)(r:Rst):∀ C A Mt E,KB rec r C A Mt E=Ds rec (C.filterMap λc=>if Au r c=[] then oS else oT (c,Au r c)) A Mt E
 | [],_,_,_=>rfl
 | c
   :: C,A,Mt,E=>by
  rw[KB,zH];by_cases h:Au r c=[]
  · rw[if_pos h,if_pos h];exact IL rec r C _ _ _
  ·rw[if_neg h,if_neg h];simp only;rw[Ds];exact IL rec r C _ _ _
def ofF (r:Rst):List Nd:=(refV 21 r [] []).2.2
def RI (P:List Nat)(E1 E2:List Nd):Prop:=oB E1=oB E2/\∀ k,k ∉ P->E1[k]? = E2[k]?
def Gx {α:Type}{p q:α->Bool}:∀ {l:List α},(∀ x∈l,p x=q x)->l.findIdx p=l.findIdx q
 | [],_=>rfl
 | x :: r,h=>by rw[zV,zV,h x (by simp),Gx λy hy=>h y (Zm _ hy)]
def IM {α β:Type}{f:α->β}{p:β->Bool}:∀ {l:List α},(l.map f).findIdx p=l.findIdx λx=>p (f x)
 | []=>rfl
 | x :: r=>by rw[Y4,zV,zV,IM]
def Rf (R:List Rst)(i:Nat):Rst:=R.getD i []
def Lt {R:List Rst}{i:Nat}{g:Rst}(h:R[i]? = oT g):Rf R i=g:=by rw[Rf,AS,h];rfl
def UN {R:List Rst}(hR:R.Nodup){Mt:List Nat}(hM:∀ j∈Mt,j<oB R){i:Nat}(hi:i<oB R):Me (Mt.map (Rf R)) (Rf R i)=EF Mt i:=by
 unfold Me EF;rw[IM];refine Gx λj hj=>?_;have h1:R[j]? = oT (Rf R j):=by rw[Rf,AS,AC (hM j hj)];rfl
 have h2:R[i]? = oT (Rf R i):=by rw[Rf,AS,AC hi];rfl
 by_cases e:j=i
 · subst e;simp
 ·have:Rf R j≠Rf R i:=λh=>e (Ln hR h1 (by rw[h2,h]));simp[e,this]
def WX (R:List Rst)(n:Nat)(P:List Nat)(q:Nat × List Nat × List Nd)(q2:Nat × List Rst × List Nd):Prop:=q.1=q2.1/\q.2.1.map (Rf R)=q2.2.1/\RI P q.2.2 q2.2.2/\∀ j∈q.2.1,j<n
def Sj {R:List Rst}{n:Nat}{P:List Nat}{rec:Nat->List Nat->List Nd->Nat × List Nat × List Nd}{rec2:Rst->List Rst->List Nd->Nat × List Rst × List Nd}{b:Nat}{G:List (Nat × Rst)}{X:List Ar}(hA:DA R b G X)
  (hr:∀ t g Mt E1 E2,t<b->(∃ c,(c,g)∈G)->R[t]? = oT g->(∀ j∈Mt,j<n)->RI P E1 E2->WX R n P (rec t Mt E1) (rec2 g (Mt.map (Rf R)) E2)) :
  ∀ A Mt E1 E2,(∀ j∈Mt,j<n)->RI P E1 E2->(DE rec X A Mt E1).1=(Ds rec2 G A (Mt.map (Rf R)) E2).1/\(DE rec X A Mt E1).2.1.map (Rf R)=(Ds rec2 G A (Mt.map (Rf R)) E2).2.1/\RI P (DE rec X A Mt E1).2.2 (Ds rec2 G A (Mt.map (Rf R)) E2).2.2/\∀ j∈(DE rec X A Mt E1).2.1,j<n:=by
 induction hA with
 | nil=>intro A Mt E1 E2 hM hE;exact⟨rfl,rfl,hE,hM⟩
 | @cons c t g G X h1 h2 h3 _ ih =>
  intro A Mt E1 E2 hM hE;rw[DE,Ds];simp only[ZW];obtain⟨k1,k2,k3,k4⟩:=hr t g Mt E1 E2 h2 ⟨c,by simp⟩ h3 hM hE;have:=ih (λt g Mt E1 E2 a b=>hr t g Mt E1 E2 a (by obtain⟨c,b⟩:=b;exact⟨c,Zm _ b⟩)) (A ++ [⟨(c:Int),((rec t Mt E1).1:Nat)⟩]) _ _ _ k4 k3;rw[k2,k1]at this;rw[k1];exact this
def num_sim {D:List Nd}{R:List Rst}(hT:IB D R):∀ m2 m i Mt E1 E2 P,i<oB D->i<m->(∀ s∈Rf R i,oB s<m2)->(∀ j∈Mt,j<oB D)->RI P E1 E2 ->
  WX R D.length P (numV D m i Mt E1) (refV m2 (Rf R i) (Mt.map (Rf R)) E2)
 | 0,m,i,Mt,E1,E2,P,hi,_,hs,_,_=>by
  exfalso;have ja:i<oB R:=by rw[hT.len];exact hi
  have h1:Rf R i=R[i]:=Lt (AC ja);obtain⟨x,hx⟩:=List.exists_mem_of_ne_nil _ (hT.ok _ (AI ja)).2.2;have:=hs x (by rw[h1];exact hx);omega
 | m2+1,0,i,_,_,_,_,_,h,_,_,_=>by omega
 | m2+1,m+1,i,Mt,E1,E2,P,hi,him,hs,hM,hE=>by
  have ja:i<oB R:=by rw[hT.len];exact hi
  have h1:Rf R i=R[i]:=Lt (AC ja);rw[numV,refV,UN hT.nodup (by rw[hT.len];exact hM) ja,AQ];by_cases h:EF Mt i<oB Mt
  · rw[if_pos h,if_pos h];exact⟨rfl,rfl,hE,hM⟩
  ·rw[if_neg h,if_neg h];obtain⟨n1,n2⟩:=hT.nd i hi ja;have hg:D.getD i default=D[i]:=by rw[AS,AC hi];rfl
   rw[hg,IL];have je:∀ j∈Mt ++ [i],j<oB D:=λj hj=>by
    rcases AY.1 hj with hj | hj
    · exact hM j hj
    · obtain rfl:=AF.1 hj;exact hi
   have jd:RI (oB E1 :: P) (E1 ++ [⟨D[i].fin,[]⟩]) (E2 ++ [⟨oH,[]⟩]):=by
    refine⟨by simp[hE.1],λk hk=>?_⟩;simp only[AX,not_or]at hk;by_cases h3:k<oB E1
    · rw[AK h3,AK (by rw[<- hE.1];exact h3)];exact hE.2 k hk.2
    · rw[AT (by simp;omega),AT (by simp[<- hE.1];omega)]
   obtain⟨a1,a2,a3,a4⟩:=Sj (n:=oB D) (P:=oB E1 :: P) (rec:=numV D m) (rec2:=refV m2) n2 (λt g Mt E1 E2 ht hg hR hM hE=>by
    have:=num_sim hT m2 m t Mt E1 E2 _ (by omega) (by omega) (by
     rw[Lt hR];intro s jc;obtain⟨c,hc⟩:=hg;have h4:=(Jd hc).2.2.1;simp only at h4;rw[h4]at jc;obtain⟨b,_,h5⟩:=Eg.1 jc;have:=hs (b :: s) (by rw[h1];exact h5);simp at this;omega) hM hE
    rwa [Lt hR]at this) [] (Mt ++ [i]) (E1 ++ [⟨D[i].fin,[]⟩]) (E2 ++ [⟨oH,[]⟩]) je jd
   have jb:(Mt ++ [i]).map (Rf R)=Mt.map (Rf R) ++ [R[i]]:=by rw[XI,List.map_singleton,h1]
   rw[jb]at a1 a2 a3;rw[n1]at a1 a2 a3 a4;rw[h1];have jf:(Zd 33 94).filterMap (λc=>if Au R[i] c=[] then oS else oT (c,Au R[i] c))=grp R[i]:=rfl;rw[jf,n1];refine⟨hE.1,a2,⟨by simp only[ZD];exact a3.1,λk hk=>?_⟩,a4⟩;simp only;rw[a1,<- hE.1];by_cases e:k=oB E1
   ·subst e;rw[List.getElem?_set,List.getElem?_set,if_pos rfl,if_pos rfl,a3.1]
   ·rw[Xy (Ne.symm e),Xy (Ne.symm e)];exact a3.2 k (by simp only[AX,not_or];exact⟨e,hk⟩)
def Sk {L:List ByteArray}(hP:Pre 0 21 L)(hB:F8 L):(numV (nodeW 21 0 L []).2 ((nodeW 21 0 L []).1+1) (nodeW 21 0 L []).1 [] []).2.2=ofF (Am 0 L)/\(nodeW 21 0 L []).1<(nodeW 21 0 L []).2.length/\UK (nodeW 21 0 L []).2/\∀ i (h:i<(nodeW 21 0 L []).2.length),(nodeW 21 0 L []).2[i].arcs.length<=1000:=by
 obtain⟨R,hT,_,hi⟩:=nodeW_tab 21 0 L [] [] hP hB IB.nil;have ja:(nodeW 21 0 L []).1<(nodeW 21 0 L []).2.length:=by rw[<- hT.len];exact(Zh.1 hi).1
 have h:=num_sim hT 21 ((nodeW 21 0 L []).1+1) (nodeW 21 0 L []).1 [] [] [] [] ja (Y6 _) (by
  rw[Lt hi];intro s hs;obtain⟨x,hx,rfl⟩:=AJ.1 hs;have:=hP.lt x hx;simpa using this) (λj hj=>by cases hj) ⟨rfl,λ_ _=>rfl⟩
 refine⟨?_,ja,λi hi=>(hT.down i hi).1,λi hi=>(hT.down i hi).2⟩;obtain⟨_,_,h3,_⟩:=h;rw[Lt hi]at h3;exact List.ext_getElem? λk=>h3.2 k (by simp)
def OkR (r:Rst):Prop:=Ck r/\F7 r/\r≠[]
def Mf (Mt:List Rst)(E:List Nd)(k:Nat):Prop:=∃ r X,Mt[k]? = oT r/\E[k]? = oT ⟨GI r,X⟩/\DA Mt E.length (grp r) X
def Mf.mono {Mt Mt':List Rst}{E E':List Nd}{k:Nat}(h:Mf Mt E k)(hM:Mt <+: Mt')(hl:oB E<=oB E')(hE:E'[k]? = E[k]?):Mf Mt' E' k:=by
 obtain⟨r,X,h1,h2,h3⟩:=h;refine⟨r,X,?_,hE.trans h2,h3.mono hM hl⟩;obtain⟨S,rfl⟩:=hM;rw[AK (Zh.1 h1).1];exact h1
structure IN (Mt:List Rst)(E:List Nd)(Mt':List Rst)(E':List Nd):Prop where
 pre:Mt <+: Mt'
 len:oB Mt'=oB E'
 nodup:Mt'.Nodup
 ok:∀ r∈Mt',OkR r
 old:∀ k,k<oB E->E'[k]? = E[k]?
 new:∀ k,oB E<=k->k<oB E'->Mf Mt' E' k
def IN.le {Mt Mt':List Rst}{E E':List Nd}(h:IN Mt E Mt' E')(hl:oB Mt=oB E):oB E<=oB E':=by
 rw[<- h.len,<- hl];exact h.pre.length_le
def IN.trans {Mt Mt' Mt2:List Rst}{E E' E2:List Nd}(h:IN Mt E Mt' E')(hl:oB Mt=oB E)(h2:IN Mt' E' Mt2 E2):IN Mt E Mt2 E2:=by
 have h3:=h.le hl;have h4:=h2.le h.len;refine⟨h.pre.trans h2.pre,h2.len,h2.nodup,h2.ok,λk hk=>(h2.old k (by omega)).trans (h.old k hk),λk hk ja=>?_⟩;by_cases h5:k<oB E'
 · exact(h.new k hk h5).mono h2.pre h4 (h2.old k h5)
 · exact h2.new k (by omega) ja
def OkR.after {r:Rst}(h:OkR r){c:Nat}(hc:Au r c≠[]):OkR (Au r c):=⟨afterL_sort h.1,MU h.2.1,hc⟩
def Lu {rec:Rst->List Rst->List Nd->Nat × List Rst × List Nd}{m:Nat}
  (hr:∀ r Mt E,oB Mt=oB E->Mt.Nodup->(∀ x∈Mt,OkR x)->OkR r->(∀ s∈r,oB s<m)->IN Mt E (rec r Mt E).2.1 (rec r Mt E).2.2/\(rec r Mt E).2.1[(rec r Mt E).1]? = oT r) :
  ∀
   G A Mt E,oB Mt=oB E->Mt.Nodup->(∀ x∈Mt,OkR x)->(∀ g∈G,OkR g.2/\g.1<256/\∀ s∈g.2,oB s<m) ->
   IN Mt E (Ds rec G A Mt E).2.1 (Ds rec G A Mt E).2.2/\∃ X,(Ds rec G A Mt E).1=A ++ X/\DA (Ds rec G A Mt E).2.1 (Ds rec G A Mt E).2.2.length G X
 | [],A,Mt,E,hl,hn,ho,_=>by
  rw[Ds];exact⟨⟨Xt _,hl,hn,ho,λ_ _=>rfl,λk h1 h2=>by simp only at h2;omega⟩,[],by simp,.nil⟩
 | (c,g) :: G,A,Mt,E,hl,hn,ho,hG=>by
  rw[Ds];obtain⟨o1,o2,o3⟩:=hG (c,g) (by simp);simp only at o1 o2 o3 ⊢;obtain⟨s1,s2⟩:=hr g Mt E hl hn ho o1 o3;obtain⟨t1,X,t2,t3⟩:=Lu hr G (A ++ [⟨(c:Int),((rec g Mt E).1:Nat)⟩]) _ _ s1.len s1.nodup s1.ok λg hg=>hG g (Zm _ hg);refine⟨s1.trans hl t1,_ :: X,by rw[t2,Zw];rfl,.cons o2 ?_ ?_ t3⟩
  ·have:=(Zh.1 s2).1;rw[s1.len]at this;have:=t1.le s1.len;omega
  ·obtain⟨S,hS⟩:=t1.pre;rw[<- hS,AK (Zh.1 s2).1];exact s2
def UO {Mt:List Rst}{r:Rst}(h:Me Mt r<oB Mt):Mt[Me Mt r]? = oT r:=by
 rw[AC h];have:=List.findIdx_getElem (w:=h);exact congrArg oT (of_decide_eq_true this)
def UP {Mt:List Rst}{r:Rst}(h:¬ Me Mt r<oB Mt):r ∉ Mt:=λhr=>h (List.findIdx_lt_length_of_exists ⟨r,hr,by simp⟩)
def refV_tab:∀ m r Mt E,oB Mt=oB E->Mt.Nodup->(∀ x∈Mt,OkR x)->OkR r->(∀ s∈r,oB s<m)->IN Mt E (refV m r Mt E).2.1 (refV m r Mt E).2.2/\(refV m r Mt E).2.1[(refV m r Mt E).1]? = oT r
 | 0,r,Mt,E,hl,hn,ho,hr,hs=>by
  exfalso;obtain⟨x,hx⟩:=List.exists_mem_of_ne_nil _ hr.2.2;have:=hs x hx;omega
 | m
   +
    1,r,Mt,E,hl,hn,ho,hr,hs=>by
  rw[refV,IL];by_cases h:Me Mt r<oB Mt
  ·rw[if_pos h];exact⟨⟨Xt _,hl,hn,ho,λ_ _=>rfl,λk h1 h2=>by simp only at h2;omega⟩,UO h⟩
  ·rw[if_neg h];have jg:=UP h;have je:(Zd 33 94).filterMap (λc=>if Au r c=[] then oS else oT (c,Au r c))=grp r:=rfl;rw[je];obtain⟨s1,X,s2,s3⟩:=Lu (rec:=refV m) (m:=m) (refV_tab m) (grp r) [] (Mt ++ [r]) (E ++ [⟨oH,[]⟩]) (by simp[hl]) (by
    rw[List.nodup_append];exact⟨hn,by simp,λa ha b hb e=>by
     obtain rfl:=AF.1 hb;subst e;exact jg ha⟩) (λx hx=>by
    rcases AY.1 hx with hx | hx
    · exact ho x hx
    ·obtain rfl:=AF.1 hx;exact hr) λg hg=>by
     obtain⟨g1,g2,g3,g4⟩:=Jd hg;refine⟨by rw[g3];exact hr.after (by rw[<- g3];exact g4),by omega,λs jc=>?_⟩;rw[g3]at jc;obtain⟨b,_,h5⟩:=Eg.1 jc;have:=hs _ h5;simp at this;omega
   simp only[ZP]at s2;obtain⟨q,hq⟩:∃ q,Ds (refV m) (grp r) [] (Mt ++ [r]) (E ++ [⟨oH,[]⟩])=q:=⟨_,rfl⟩
   rw[hq]at s1 s2 s3 ⊢;have jf:=s1.le (by simp[hl]);simp at jf;have jd:oB E<q.2.2.length:=by omega
   have ja:q.2.1[oB E]? = oT r:=by
    obtain⟨S,hS⟩:=s1.pre;rw[<- hS,AK (by simp[hl]),<- hl];simp
   refine⟨⟨(List.prefix_append _ _).trans s1.pre,by rw[ZD];exact s1.len,s1.nodup,s1.ok,λk hk=>?_,λk hk jb=>?_⟩,ja⟩
   · rw[Xy (by omega),s1.old k (by simp;omega),AK hk]
   ·by_cases e:k=oB E
    ·subst e;refine⟨r,X,ja,?_,by rw[ZD];exact s3⟩;rw[xg jd,s2]
    ·rw[ZD]at jb;exact(s1.new k (by simp;omega) jb).mono (Xt _) (by rw[ZD];exact A5 _) (by rw[Xy (Ne.symm e)])
structure WY (Mt:List Rst)(E:List Nd):Prop where
 len:oB Mt=oB E
 nodup:Mt.Nodup
 ok:∀ r∈Mt,OkR r
 nd:∀ k (h:k<oB E),∃ r,Mt[k]? = some r/\E[k].fin=GI r/\DA Mt E.length (grp r) E[k].arcs
def P0 {r:Rst}(hr:OkR r)(hs:∀ s∈r,oB s<21):∃ Mt,WY Mt (ofF r)/\Mt[0]? = oT r:=by
 obtain⟨h1,h2⟩:=refV_tab 21 r [] [] rfl List.nodup_nil (λx hx=>by cases hx) hr hs;refine⟨_,⟨h1.len,h1.nodup,h1.ok,λk hk=>?_⟩,?_⟩
 ·obtain⟨q,X,e1,e2,e3⟩:=h1.new k (Ze _) hk;have:(ofF r)[k]=⟨GI q,X⟩:=by
   have h3:=AC hk;rw[show(ofF r)[k]? = oT ⟨GI q,X⟩ from e2]at h3;injection h3 with h3;exact h3.symm
  rw[this];exact⟨q,e1,rfl,e3⟩
 ·have h0:(refV 21 r [] []).1=0:=by rw[refV,if_neg (by simp[Me])];rfl
  rw[h0]at h2;exact h2
def P1 (G:List (Nat × Rst)):Nat:=(G.map λg=>g.2.length).sum
def O1:∀ G:List (Nat × Rst),(L9 G).length=P1 G
 | []=>rfl
 | g :: G=>by
  have:=O1 G;unfold L9 P1 at this ⊢;rw[ZA,AD,this];simp
def UQ {r:Rst}(h:OkR r):P1 (grp r)<=oB r:=by
 have:=congrArg List.length (recon h.1 h.2.1);rw[AD,O1]at this;omega
def O2 {rec:Rst->List Rst->List Nd->Nat × List Rst × List Nd}{k:Nat}(hr:∀ r Mt E,OkR r->(rec r Mt E).2.2.length<=oB E+oB r*k):∀ G A Mt E,(∀ g∈G,OkR g.2)->(Ds rec G A Mt E).2.2.length<=oB E+P1 G*k
 | [],_,_,_,_=>z8 _ _
 | g :: G,A,Mt,E,h=>by
  rw[Ds];have h1:=O2 hr G (A ++ [⟨(g.1:Int),((rec g.2 Mt E).1:Nat)⟩]) (rec g.2 Mt E).2.1 (rec g.2 Mt E).2.2 λx hx=>h x (Zm _ hx);have h2:=hr g.2 Mt E (h g (by simp));have h3:P1 (g :: G)*k=g.2.length*k+P1 G*k:=by rw[<- Xp];rfl
  omega
def refV_le:∀ m r Mt E,OkR r->(refV m r Mt E).2.2.length<=oB E+oB r*m
 | 0,_,_,_,_=>z8 _ _
 | m
   +
    1,r,Mt,E,hr=>by
  rw[refV,IL];have ja:(Zd 33 94).filterMap (λc=>if Au r c=[] then oS else oT (c,Au r c))=grp r:=rfl;rw[ja];split
  · exact z8 _ _
  ·have h1:=O2 (rec:=refV m) (k:=m) (refV_le m) (grp r) [] (Mt ++ [r]) (E ++ [⟨oH,[]⟩]) λg hg=>by
    obtain⟨g1,g2,g3,g4⟩:=Jd hg;rw[g3];exact hr.after (by rw[<- g3];exact g4)
   have h2:P1 (grp r)*m<=oB r*m:=ZM _ (UQ hr);have h3:1<=oB r:=by
    cases r with
    | nil=>exact absurd rfl hr.2.2
    | cons=>simp
   have h4:oB r*(m+1)=oB r*m+oB r:=Nat.mul_succ _ _;simp only[ZD];simp at h1;omega
def Sl {r:Rst}(hr:OkR r):(ofF r).length<=oB r*21:=by
 have:=refV_le 21 r [] [] hr;simpa[ofF] using this
def KC:∀ {a b c:List UInt8},Zz a b=oF->Zz b c=oF->Zz a c=oF
 | _,[],_,h,_=>by rw[Jw]at h;cases h
 | _,_ :: _,[],_,h=>by rw[Jw]at h;cases h
 | [],_ :: _,_ :: _,_,_=>rfl
 | x
   :: a,y :: b,z :: c,h1,h2=>by
  rw[EW]at *;rcases h1 with h1 | ⟨rfl,h1⟩
  ·rcases h2 with h2 | ⟨rfl,h2⟩
   · exact .inl (by omega)
   · exact .inl h1
  ·rcases h2 with h2 | ⟨rfl,h2⟩
   · exact .inl h2
   · exact .inr ⟨rfl,KC h1 h2⟩
def Ip {a b c:ByteArray}(h1:ltS a b=oF)(h2:ltS b c=oF):ltS a c=oF:=KC h1 h2
def IO9 {α:Type}{p:α->α->Prop}(ht:∀ a b c,p a b->p b c->p a c):∀ {L:List α},(∀ i (h:i+1<oB L),p (L[i]'(by omega)) L[i+1])->L.Pairwise p
 | [],_=>.nil
 | [x],_=>by simp
 | x
   :: y :: r,h=>by
  have ih:=IO9 (p:=p) ht (L:=y :: r) (λi hi=>by
   have h2:=h (i+1) (by simpa using hi);simpa using h2)
  have h0:p x y:=h 0 (by simp);refine AU.2 ⟨λz hz=>?_,ih⟩;rcases AX.1 hz with rfl | hz
  · exact h0
  · exact ht _ _ _ h0 ((AU.1 ih).1 z hz)
def Cx.sorted {L:List ByteArray}(h:Cx L):L.Pairwise λx y=>ltS x y=oF :=
 IO9 (p:=λx y=>ltS x y=oF) (λ_ _ _ h1 h2=>Ip h1 h2) λi hi=>(h.2.2 (i+1) hi hi).2 (by omega)
def Cx.word {L:List ByteArray}(h:Cx L):∀ x∈L,D4 x=oF:=λx hx=>by
 obtain⟨i,hi,rfl⟩:=zr hx;exact(h.2.2 i hi hi).1
def Fo {x:ByteArray}(h:D4 x=oF):1<=x.size/\x.size<=20/\∀ b∈x.data.toList,33<=UInt8.toNat b/\UInt8.toNat b<127:=by
 unfold D4 at h;simp only[Zg,decide_eq_true_eq]at h;refine⟨h.1,h.2.1,λb hb=>?_⟩;have:=Zr.1 h.2.2 b hb;unfold BD at this;split at this
 · omega
 ·split at this
  · omega
  ·split at this
   · omega
   · simp at this
def Cx.pre {L:List ByteArray}(h:Cx L):Pre 0 21 L/\F8 L:=by
 refine⟨⟨λe=>by have:=h.1;rw[e]at this;simp at this,λ_ _=>Ze _,λx hx=>?_,λx hx c hc=>?_,λ_ _ _ _=>by simp,h.sorted⟩,λx hx=>(Fo (h.word x hx)).2.2⟩
 · have:=(Fo (h.word x hx)).2.1;omega
 · have:=(Fo (h.word x hx)).2.2 c hc;omega
def Cx.okR {L:List ByteArray}(h:Cx L):OkR (Am 0 L)/\∀ s∈Am 0 L,oB s<21:=by
 obtain⟨hP,hB⟩:=h.pre;refine⟨⟨GJ hP.same hP.inc,Fh hB,λe=>hP.ne (List.map_eq_nil_iff.1 e)⟩,λs hs=>?_⟩;obtain⟨x,hx,rfl⟩:=AJ.1 hs;have:=hP.lt x hx;simpa using this
def Ve (L:List ByteArray)(w:Z0)(e:Ending)(w':Z0):Prop :=
 (Cx L/\∃ a c,e=aP (.tuple #[aG a (ofF (Am 0 L)).length c,aA aM 0])/\(ofF (Am 0 L)).length<=c/\(ofF (Am 0 L)).length<=4200/\Cj w' a (ofF (Am 0 L))/\Below w.heap.size w w') \/
 (¬ Cx L/\e=aP (.tuple #[aG oS 0 0,aA aM 90])/\Below w.heap.size w w')
def build_any (L:List ByteArray)(n:Nat)(a:Option Zj)(cap:Nat)(w:Z0)(hR:BZ w a L)(hL:n=oB L)(hn:n<=9223372036854775807)(hc:n<=cap)(hT:Tab w) :
  Zu Z1 42 #[aG a n cap] w (Ve L w):=by
 subst hL;have HR:=A0 hR;have HT:=A0 hT;clear hR hT;by_cases hd:Cx L
 ·have HD:=A0 hd;have jj:=Gb hd;clear hd;have jC:=@run_makeMap Z1
  go_enter Tryz.func42,Tryz.ntmps42
  go_upto_region 4 with(first
   | (go_at_call 74;refine(dictionary_any L _ a cap _ HR rfl hn).mono ?_;rintro e w1 ⟨rfl,rfl⟩;rw[jj]))
  clear jC;obtain⟨b,o,rfl, -, -⟩:=HR.at (k:=0) (by have:=HD.1;omega);obtain⟨w2,jh⟩:∃ w2,w2=(w.alloc (Obj.map #[] 0)).alloc (Xa #[Zk oS 0 0,Value.map (oT w.heap.size)] 133):=⟨_,rfl⟩
  have jt:Hid (Below w.heap.size w w2):=by
   show Below _ _ _;rw[jh];exact((Z2 _ _).alloc (A5 _) _).alloc (by simp only[A8];omega) _
  have jz:Hid (BSt w2 w.heap.size (w.heap.size+1) w.heap.size (aG oS 0 0) [] []):=by
   show BSt _ _ _ _ _ _ _;rw[jh];refine⟨?_,Af.nil _ _ _,rfl,λk h=>by simp at h,?_,by omega,by omega⟩
   ·have h:=Z4 (w.alloc (Obj.map #[] 0)) (Xa #[Zk oS 0 0,Value.map (oT w.heap.size)] 133);simp only[A8]at h;exact h
   · refine(GH.new w).kept (skip (by simp only[A8];omega) rfl)
  rw[<- jh];clear jh;obtain⟨HP,jw⟩:Hid (Pre 0 21 L)/\Hid (F8 L):=HD.pre;obtain⟨jf,ji,je,jb⟩:=Sk HP.out jw.out;have hl200:oB L<=200:=HD.2.1;have jg:=Ju 21 0 L [] HP.out.ne;have ja:=A0 HD.okR;obtain⟨s0,D0,hq⟩:∃ s0 D0,nodeW 21 0 L []=(s0,D0):=⟨_,_,rfl⟩
  have jm:=A0 (node_any w w.heap.size (w.heap.size+1) w.heap.size (A5 _) HT 21 0 L b o cap (aG oS 0 0) [] [] w2 HR hc (by omega) HP.out (by omega) (by simp;omega) jz jt);rw[hq]at jf ji je jb jg jm;simp only at jf ji je jb jg;obtain⟨jv,jx,jl⟩:=oC jf je jb;have hdl2:oB D0<=4200:=by simp at jg;omega
  clear jf je jb hq jg
  go_upto_region 5 with(first
   | (go_at_call 75;refine jm.mono ?_;rintro e w3 ⟨v3,N3,E3,rfl,jb, -, -,jp, -, -⟩;have jd:=A0 jb;have jo:=A0 jp;clear jb jp))
  have jc:=jd.rep;obtain⟨a3,c3,jD,hc3,jr⟩:=UM.dawg (w:=w3) (B:=w.heap.size) (v:=v3) (D:=D0) ⟨N3,jd.own,jd.len,jd.arcs⟩ jl;subst jD;have jy:=A0 jr;have hr0:w3.cell? ⟨w.heap.size+1,0,oS⟩=oT (aG a3 D0.length c3):=by
   rw[Z3 _ _ _ _ _ _ jc];rfl
  clear jc jr
  go_wp2_with (first
   | (go_at_call 76;refine(Md D0 s0 a3 c3 w3 jy (by omega) jx jl ji).mono ?_;rintro e w4 ⟨v4,rfl,js,jq⟩;have jn:=A0 js;have ju:=A0 jq;clear js jq))
  rw[jv.out]at jn;obtain⟨Mt,jB, -⟩:=P0 ja.1 ja.2;obtain⟨a4,c4,rfl,jA,jk⟩:=jn.dawg λi hi=>by
   obtain⟨r,_,_,h3⟩:=jB.nd i hi;rw[h3.len];have:=Q5 r;omega
  have hle:=Sl ja.1;have hln:(Am 0 L).length=oB L:=by simp[Am]
  go_ret2
  exact .inl ⟨HD,a4,c4,rfl,jA,by omega,jk,jo.trans (ju.mono jo.size)⟩
 ·have HD:=A0 hd;have jj:=Cq hd;clear hd
  go_enter Tryz.func42,Tryz.ntmps42
  go_wp2_with (first
   | (go_at_call 74;refine(dictionary_any L _ a cap _ HR rfl hn).mono ?_;rintro e w1 ⟨rfl,rfl⟩;rw[jj]))
  go_ret2
  exact .inr ⟨HD,rfl,Z2 _ _⟩
def JK (D:List Nd)(i:Int)(ws:List UInt8):Bool :=
 decide (i<0) || decide ((oB D:Int)<=i) || decide (20<oB ws) || (!(D.getD i.toNat default).fin && decide ((D.getD i.toNat default).arcs=[]))
def EJ (rec:Int->List UInt8->List (ByteArray × Bool) × Bool)(ws:List UInt8):List Ar->List (ByteArray × Bool) × Bool
 | []=>([],oF)
 | x :: r=>if(rec x.t (ws ++ [Zy x.c.toNat])).2=oF then((rec x.t (ws ++ [Zy x.c.toNat])).1 ++ (EJ rec ws r).1,(EJ rec ws r).2) else((rec x.t (ws ++ [Zy x.c.toNat])).1,oH)
def
  visitL (D:List Nd):Nat->Int->List UInt8->List (ByteArray × Bool) × Bool
 | 0,_,_=>([],oF)
 | m+1,i,ws=>if JK D i ws=oF then([(⟨#[]⟩,oH)],oH)
  else((if(D.getD i.toNat default).fin=oF then[(⟨ws.toArray⟩,oF)] else[]) ++ (EJ (visitL D m) ws (D.getD i.toNat default).arcs).1,(EJ (visitL D m) ws (D.getD i.toNat default).arcs).2)
def DF (W:Z0)(a:Option Zj)(l:List UInt8):Prop:=(a=oS/\l=[])\/∃ b cs,a=oT ⟨b,0,oS⟩/\W.heap[b]? = oT (.cells cs 5 (0,0))/\cs.toList.take l.length=l.map λc=>X3 aO (c.toNat:Int)
def DF.nil (W:Z0):DF W oS []:=.inl ⟨rfl,rfl⟩
def DF.keep {W W':Z0}{a:Option Zj}{l:List UInt8}(h:DF W a l)(hk:∀ (b:Nat) (cs:Array Z6),W.heap[b]? = oT (.cells cs 5 (0,0))->W'.heap[b]? = W.heap[b]?):DF W' a l:=by
 rcases h with h | ⟨b,cs,h1,h2,h3⟩
 · exact .inl h
 · exact .inr ⟨b,cs,h1,(hk b cs h2).trans h2,h3⟩
def DF.cells {W:Z0}{b:Nat}{l:List UInt8}(h:DF W (oT ⟨b,0,oS⟩) l):∀ j v,(l.map λc=>X3 aO (c.toNat:Int))[j]? = oT v->W.cell? ((⟨b,0,oS⟩:Zj).add j)=oT v:=by
 rcases h with⟨h,_⟩ | ⟨b',cs,h1,h2,h3⟩
 · cases h
 ·injection h1 with h1;injection h1 with h1;subst h1;intro j v hj;rw[<- h3]at hj;have hlt:=(Zh.1 hj).1;rw[AP]at hj;split at hj
  ·rw[Ii,ZS,Z3 _ _ _ _ _ _ h2];simpa using hj
  · cases hj
def conv_bytes {W:Z0}{a:Option Zj}{l:List UInt8}(h:DF W a l)(c:Nat):(convert 26 9 (aG a l.length c)).run Z1 W=.ok (aI ⟨l.toArray⟩) W:=by
 rcases id h with⟨rfl,rfl⟩ | ⟨b,cs,rfl,h2,h3⟩
 · exact run_convert_bytes_nil W 26 5 Xv Xg 0 c 9 XJ
 ·have:=run_convert_bytes_arg W 26 5 Xv Xg b 0 l.length c (l.map λc=>(c.toNat:Int)) (by simp) (λi hi=>by
   have hc:=h.cells i (aA aO (l[i].toNat:Int)) (by simp[hi]);rw[Ii]at hc;rw[hc];simp[AS,hi]) 9 XJ
  refine this.trans ?_;have e0:((l.map λc=>(c.toNat:Int)).map λn=>Zy n.toNat)=l:=by
   rw[List.map_map];have h1:((λn:Int=>Zy n.toNat) ∘ λc:UInt8=>(c.toNat:Int))=id:=by
    funext c;show Zy ((c.toNat:Int).toNat)=c;rw[ZW,UInt8.ofNat_toNat]
   rw[h1,List.map_id]
  have e:strOfNums (l.map λc=>(c.toNat:Int))=⟨l.toArray⟩:=by
   unfold strOfNums;rw[e0]
  rw[e]
def P2 (a:Option Zj)(n c:Nat)(hn:n<=c)(ha:a=oS->n=0)(w:Z0) :
  (Xm 26 (aG a n c) oS (oT (aA aM (n:Int))) (oT (aA aM (n:Int)))).run Z1 w=.ok (aG a n n) w:=by
 have h0:(0:Int)<=(n:Int):=by omega
 have h1:(n:Int)<=(c:Int):=by omega
 cases a with
 | none =>
  obtain rfl:=ha rfl;simp[go_sem,Xm,Xw,XA,asIntOf]
 | some p=>simp[go_sem,Xm,Xw,XA,asIntOf,h0,h1];intro h;omega
def UR:(Tryz.prog.info? 5).map (λi=>(i.zero,i.size,i.bytes))=oT (oT (aA aO 0),1,1):=by kernel_rfl
def Wq {W:Z0}:Ext W W.drew:=(Z2 _ W).drew
def Sn {W:Z0}{a:Option Zj}{l:List UInt8}(h:DF W a l)(hl:oB l<=1000)(x:UInt8)(g:Nat)(hg:W.heap[g]? = oT (aK #[aA aO (x.toNat:Int)] 5 (0,0)))(ty:X5) :
  ∃ c W',(Builtin.append_ #[26,26] ty #[aG a l.length l.length,aG (oT ⟨g,0,oS⟩) 1 1]).run Z1 W=.ok (aG (oT ⟨W.heap.size,0,oS⟩) (l ++ [x]).length c) W'/\DF W' (oT ⟨W.heap.size,0,oS⟩) (l ++ [x])/\(l ++ [x]).length<=c/\Ext W W':=by
 obtain⟨i0,hi,jc,jb,jd⟩:=info_parts UR;have hn:∀ j v,([X3 aO (x.toNat:Int)]:List Z6)[j]? = oT v->W.cell? ((⟨g,0,oS⟩:Zj).add j)=oT v:=λj v hj=>by
  rw[Ii,ZS,Z3 _ _ _ _ _ _ hg];simpa using hj
 have hx:∀ o,Ext W (W.drew.alloc o):=λo=>Wq.alloc (by exact A5 _) _;rcases id h with⟨rfl,rfl⟩ | ⟨b,cs,rfl,h2,h3⟩
 ·have hr:=run_append_nil (P:=Z1) (w:=W) 26 ty 5 i0 (aA aO 0) Xv hi jc ⟨g,0,oS⟩ 1 1 [aA aO (x.toNat:Int)] (by rw[jb];rfl) hn (by omega) (by omega) (by rw[jd];omega);have ja:=grownCap_ge W 1 0 5;refine⟨_,_,hr,.inr ⟨_,_,rfl,Z4 W.drew _,?_⟩,ja,hx _⟩;simp
 ·have hr:=run_append_grow (P:=Z1) (w:=W) 26 ty 5 i0 (aA aO 0) Xv hi jc ⟨b,0,oS⟩ l.length l.length (l.map λc=>X3 aO (c.toNat:Int)) (by rw[jb];simp) h.cells ⟨g,0,oS⟩ 1 1 [aA aO (x.toNat:Int)] (by rw[jb];rfl) hn (by omega) (by omega) (growslice_fits (by omega) (by rw[jd];omega));have ja:=grownCap_ge W (oB l+1) l.length 5;rw[show(l ++ [x]).length=oB l+1 by simp];refine⟨grownCap W (oB l+1) l.length 5,_,hr,.inr ⟨_,_,rfl,Z4 W.drew _,?_⟩,ja,hx _⟩;simp only[Builtin.zeroCells,XP,XQ,AD,XI];simp[List.take_append,AH]
def Kp (n₀:Nat)(W W':Z0):Prop:=Below n₀ W W'/\∀ (q:Nat) (cs:Array Z6) (t:X5) (fz:Nat × Nat),W.heap[q]? = oT (.cells cs t fz)->t≠9->t≠35->t≠4->W'.heap[q]? = W.heap[q]?
def Kp.trans {n₀:Nat}{A B C:Z0}(h:Kp n₀ A B)(h2:Kp n₀ B C):Kp n₀ A C :=
 ⟨h.1.trans h2.1,λq cs t fz hq h3 h4 h5=>by
  have e:=h.2 q cs t fz hq h3 h4 h5;exact(h2.2 q cs t fz (e.trans hq) h3 h4 h5).trans e⟩
def Kp.of_ext {n₀:Nat}{A B:Z0}(h:Ext A B)(hn:n₀<=A.heap.size):Kp n₀ A B:=⟨ZT h hn,λq cs t fz hq _ _ _=>Z7 h q (A7.1 hq).1⟩
def Kp.refl (n₀:Nat)(A:Z0):Kp n₀ A A:=⟨Z2 _ _,λ_ _ _ _ _ _ _ _=>rfl⟩
def Kp.obj {n₀:Nat}{W:Z0}(hn:n₀<=W.heap.size)(X:Z0)(l:Nat)(o o':Obj)(hl:W.heap.size<=l)(h:X.heap[l]? = oT o)(ho:o.isCells=oH)(hw:o.isWalk=oH):Kp n₀ X (X.putObj l o') :=
 ⟨belowK_b hn X l o o' hl h ho hw,λq cs t fz hq _ _ _=>by
  have ja:q≠l:=λe=>by subst e;rw[hq]at h;injection h with h;subst h;cases ho
  exact Xu ja⟩
def DF.kp {n₀:Nat}{W W':Z0}{a:Option Zj}{l:List UInt8}(h:DF W a l)(hk:Kp n₀ W W'):DF W' a l:=h.keep λb cs hb=>hk.2 b cs _ _ hb (by decide) (by decide) (by decide)
structure VBy (l gD gY gV:Nat)(aD:Option Zj)(nD cD:Nat)(W:Z0):Prop where
 dd:W.heap[gD]? = some (aK #[aG aD nD cD] 69 (0,0))
 yy:W.heap[gY]? = some (aK #[.func (.yield l) #[] #[]] 247 (0,0))
 vv:W.heap[gV]? = some (aK #[.func (.func 156) #[] #[aB (some ⟨gD,0,none⟩),aB (some ⟨gY,0,none⟩),aB (some ⟨gV,0,none⟩)]] 248 (0,0))
def VBy.kp {n₀ l gD gY gV:Nat}{aD:Option Zj}{nD cD:Nat}{W W':Z0}(h:VBy l gD gY gV aD nD cD W)(hk:Kp n₀ W W'):VBy l gD gY gV aD nD cD W' :=
 ⟨(hk.2 _ _ _ _ h.dd (by decide) (by decide) (by decide)).trans h.dd,(hk.2 _ _ _ _ h.yy (by decide) (by decide) (by decide)).trans h.yy,(hk.2 _ _ _ _ h.vv (by decide) (by decide) (by decide)).trans h.vv⟩
def VBy.cells {l gD gY gV:Nat}{aD:Option Zj}{nD cD:Nat}{W:Z0}(h:VBy l gD gY gV aD nD cD W):W.cell? ⟨gD,0,oS⟩=oT (aG aD nD cD)/\W.cell? ⟨gY,0,oS⟩=oT (.func (.yield l) #[] #[])/\W.cell? ⟨gV,0,oS⟩=oT (.func (.func 156) #[] #[aB (oT ⟨gD,0,oS⟩),aB (oT ⟨gY,0,oS⟩),aB (oT ⟨gV,0,oS⟩)]) :=
 ⟨Dd h.dd,Dd h.yy,Dd h.vv⟩
def YieldAt.anyD {m:Nat}(m':Nat){P:Program}{l:Nat}{args:Array Z6}{W:Z0}{R:Ending->Z0->Prop}(h:YieldAt xf m P l args W R):YieldAt xf m' P l args W R:=by
 obtain⟨fn,tmps,assign,body,hy,hR⟩:=h;exact⟨fn,tmps,assign,body,hy,hR.1,λc cs _=>hR.2 c cs (room_wide _)⟩
def LB (J:List (ByteArray × Bool)->Z0->Prop):Prop:=∀ s W W',J s W->Ext W W'->J s W'
def LB.of {B:Nat}{J:List (ByteArray × Bool)->Z0->Prop}(h:AbidesFrom B J):LB J:=λs W W' hs hx =>
 h s W W' oS hs ⟨hx.os,hx.tape,hx.output,hx.size,λk hk _=>hx.block k hk⟩ (λr e=>by cases e)
attribute [local go_sem] Oper.semAt_some
def Mg (D:List Nd):Prop:=∀ i (h:i<oB D),∀ x∈D[i].arcs,0<=x.c/\x.c<=255/\-9223372036854775808<=x.t/\x.t<=9223372036854775807
def Wt (n₀:Nat)(J Jx:List (ByteArray × Bool)->Z0->Prop)(q:List (ByteArray × Bool) × Bool)(pre:List (ByteArray × Bool))(W:Z0)(e:Ending)(W':Z0):Prop :=
 (e=aP (aH oF)/\q.2=oF/\J (pre ++ q.1) W'/\Kp n₀ W W')\/(e=aP (aH oH)/\q.2=oH/\J (pre ++ q.1) W')\/(e=aP (aH oH)/\∃ p,p <+: q.1/\Jx (pre ++ p) W')
def PV (b:Bool)(n₀:Nat)(J Jx:List (ByteArray × Bool)->Z0->Prop)(wz:Z0)(pre S:List (ByteArray × Bool))(q:List (ByteArray × Bool) × Bool)(v:Z6)(W:Z0):Prop :=
 (v=aH b/\q.2=oF/\J (pre ++ (S ++ q.1)) W/\Kp n₀ wz W)\/(v=aH (!b)/\((q.2=oH/\J (pre ++ (S ++ q.1)) W)\/∃ p,p <+: q.1/\Jx (pre ++ (S ++ p)) W))
def O3 {b:Bool}{n₀:Nat}{J Jx:List (ByteArray × Bool)->Z0->Prop}(hJ:LB J)(ja:LB Jx){wz:Z0}(hn:n₀<=wz.heap.size){pre S:List (ByteArray × Bool)}{q:List (ByteArray × Bool) × Bool}:Bq (PV b n₀ J Jx wz pre S q):=by
 rintro v w w' (⟨h1,h2,h3,h4⟩ | ⟨h1,⟨h2,h3⟩ | ⟨p,h2,h3⟩⟩) hx
 · exact .inl ⟨h1,h2,hJ _ _ _ h3 hx,h4.trans (Kp.of_ext hx (AA hn h4.1.size))⟩
 · exact .inr ⟨h1,.inl ⟨h2,hJ _ _ _ h3 hx⟩⟩
 · exact .inr ⟨h1,.inr ⟨p,h2,ja _ _ _ h3 hx⟩⟩
def US (g n:Nat)(v:Z6)(_:Z0):Prop:=∃ c,v=aG (oT ⟨g,0,oS⟩) n c/\n<=c
def P3 (g n:Nat):Bq (US g n):=λ_ _ _ h _=>h
def KD {W:Z0}{A:Act}{o:ZX}{s y:Operand}{a:Option Zj}{l:List UInt8}{x:UInt8}{g:Nat}(h:DF W a l)(hl:oB l<=1000)(hg:W.heap[g]? = oT (aK #[aA aO (x.toNat:Int)] 5 (0,0)))
  (ho:o.op=.call { callee:=.builtin .append,args:=#[s,y],argTypes:=#[26,26] }) (hs:A.eval s=aG a l.length l.length) (hy:A.eval y=aG (oT ⟨g,0,oS⟩) 1 1) :
  EY Z1 A o W (λv w'=>US W.heap.size (l ++ [x]).length v w'/\DF w' (oT ⟨W.heap.size,0,oS⟩) (l ++ [x])/\Ext W w'):=by
 obtain⟨c,W',hr,h1,h2,h3⟩:=Sn h hl x g hg o.type;refine .inl ⟨_,W',?_,⟨c,rfl,h2⟩,h1,h3⟩;unfold execOp;simp only[ho,resolve,invoke,builtin,Sem.run_bind,Sem.run_pure,Result.andThen_ok,List.map_toArray,Y4,List.map_nil,hs,hy,hr]
def TV (n₀:Nat)(J:List (ByteArray × Bool)->Z0->Prop)(wz:Z0)(g s0:Nat)(cs:Array Z6)(y:UInt8)(l:List UInt8)(pre:List (ByteArray × Bool))(b1 b2 b3:Bool)(W:Z0):Prop :=
 match b3 with
 | false=>J pre W/\Kp n₀ wz W/\W.heap[g]? = oT (.cells cs 170 (0,0))/\(b2=oH->W.heap.size=s0+b1.toNat)/\(b1=oF->W.heap[s0]? = oT (aK #[aA aO (y.toNat:Int)] 5 (0,0)))/\(b2=oF->DF W (oT ⟨s0+1,0,oS⟩) l)
 | true=>True
def TV.keep {n₀:Nat}{J:List (ByteArray × Bool)->Z0->Prop}(hJ:LB J){wz:Z0}(hn:n₀<=wz.heap.size){g s0:Nat}{cs:Array Z6}{y:UInt8}{l:List UInt8}{pre:List (ByteArray × Bool)}{w w':Z0}{b1 b2:Bool}(h:TV n₀ J wz g s0 cs y l pre b1 b2 oH w)(hx:Ext w w') :
  J pre w'/\Kp n₀ wz w'/\w'.heap[g]? = oT (.cells cs 170 (0,0)) :=
 ⟨hJ _ _ _ h.1 hx,h.2.1.trans (Kp.of_ext hx (AA hn h.2.1.1.size)),(Z7 hx g (A7.1 h.2.2.1).1).trans h.2.2.1⟩
def RJ {i:Int}(h:¬ i<0):∃ k:Nat,i=(k:Int):=⟨i.toNat,by omega⟩
def vis_any
        (l gD gY gV n₀ N:Nat) (aD:Option Zj) (cD:Nat) (D:List Nd) (wW:Z0) (hWB:wW.heap.size<=n₀) (hD:Cj wW aD D) (hDl:oB D<=9223372036854775807) (hC:Mg D)
  (J Jx:List (ByteArray × Bool)->Z0->Prop) (hJ:LB J) (kf:LB Jx)
  (hY:∀ pre (x:ByteArray × Bool) W,J pre W->oB pre<N->YieldAt xf 8 Z1 l #[aI x.1,aH x.2] W λe W' =>
   (e=aP (aH oF)/\J (pre ++ [x]) W'/\Kp n₀ W W')\/(e=aP (aH oH)/\Jx (pre ++ [x]) W')) :
  ∀
   (m:Nat) (i:Int) (ws:List UInt8) (aw:Option Zj) (cw:Nat) (pre:List (ByteArray × Bool)) (W:Z0),m+oB ws=22->1<=m->DF W aw ws->oB ws<=cw->VBy l gD gY gV aD D.length cD W->n₀<=W.heap.size->Below n₀ wW W->J pre W ->
   pre.length+(visitL D m i ws).1.length<=N->Zu Z1 156 #[aA aM i,aG aw ws.length cw,aB (oT ⟨gD,0,oS⟩),aB (oT ⟨gY,0,oS⟩),aB (oT ⟨gV,0,oS⟩)] W (Wt n₀ J Jx (visitL D m i ws) pre W):=by
 intro m
 induction m with
 | zero=>intro i ws aw cw pre W _ h;omega
 | succ m ih
       =>
  intro i ws aw cw pre W hm _ hB kQ hV hn hW ke hN;obtain⟨q,hq⟩:∃ q,visitL D (m+1) i ws=q:=⟨_,rfl⟩
  rw[hq]at hN ⊢;obtain⟨jz,HJ,kd,HD,HC,IH,HB,HV⟩:=oK hY hJ kf hD hC ih hB hV;obtain⟨HW,jw,HN,HQ⟩:=oD hW ke hN hq;clear hY hJ kf hD hC ih hB hV hW ke hN hq;obtain⟨kO,kR,kP⟩:=HV.cells;by_cases j6:i<0
  ·have kC:=A0 j6;have je:q=([(⟨#[]⟩,oH)],oH):=by rw[<- HQ.out,visitL,if_pos (by simp[JK,kC.out])]
   obtain⟨fn,tmps,assign,body,hy,hR⟩:=YieldAt.anyD 8 (jz pre (⟨#[]⟩,oH) W jw (by have:=HN.out;rw[je]at this;simp at this;omega));dsimp only at hy;have jj:=A0 je;have HR:=A0 hR;clear je hR
   go_enter Tryz.func156,Tryz.ntmps156
   go_upto_region 2 with fail
   refine(wpIn_wide (n:=9)).1 ?_
   gi_wp2
   refine HR.mono ?_;rintro e W2 (⟨rfl,ja,jp⟩ | ⟨rfl,ja⟩)
   ·dsimp only
    apply_assumption -exfalso
    gi_wp2
    try apply_assumption -exfalso
    go_wp2_with fail
    go_ret;rw[jj.out];exact .inr (.inl ⟨rfl,rfl,ja⟩)
   ·dsimp only
    apply_assumption -exfalso
    gi_wp2
    try apply_assumption -exfalso
    go_wp2_with fail
    go_ret;rw[jj.out];exact .inr (.inr ⟨rfl,_,Xt _,ja⟩)
  by_cases j4:(oB D:Int)<=i
  ·have kB:=A0 j4;have je:q=([(⟨#[]⟩,oH)],oH):=by rw[<- HQ.out,visitL,if_pos (by simp[JK,kB.out])]
   obtain⟨fn,tmps,assign,body,hy,hR⟩:=YieldAt.anyD 8 (jz pre (⟨#[]⟩,oH) W jw (by have:=HN.out;rw[je]at this;simp at this;omega));dsimp only at hy;have jj:=A0 je;have HR:=A0 hR;clear je hR
   go_enter Tryz.func156,Tryz.ntmps156
   go_upto_region 2 with fail
   refine(wpIn_wide (n:=9)).1 ?_
   gi_wp2
   refine HR.mono ?_;rintro e W2 (⟨rfl,ja,jp⟩ | ⟨rfl,ja⟩)
   ·dsimp only
    apply_assumption -exfalso
    gi_wp2
    try apply_assumption -exfalso
    go_wp2_with fail
    go_ret;rw[jj.out];exact .inr (.inl ⟨rfl,rfl,ja⟩)
   ·dsimp only
    apply_assumption -exfalso
    gi_wp2
    try apply_assumption -exfalso
    go_wp2_with fail
    go_ret;rw[jj.out];exact .inr (.inr ⟨rfl,_,Xt _,ja⟩)
  obtain⟨k,rfl⟩:=RJ j6;have jQ:k<oB D:=by omega
  have hkI:¬ (oB D:Int)<=(k:Int):=j4;by_cases jX:20<oB ws
  ·have jY:(20:Int)<(oB ws:Int):=by omega
   have kv:=A0 jX;clear jX;have je:q=([(⟨#[]⟩,oH)],oH):=by rw[<- HQ.out,visitL,if_pos (by simp[JK,kv.out])]
   obtain⟨fn,tmps,assign,body,hy,hR⟩:=YieldAt.anyD 8 (jz pre (⟨#[]⟩,oH) W jw (by have:=HN.out;rw[je]at this;simp at this;omega));dsimp only at hy;have jj:=A0 je;have HR:=A0 hR;clear je hR
   go_enter Tryz.func156,Tryz.ntmps156
   go_upto_region 2 with fail
   refine(wpIn_wide (n:=9)).1 ?_
   gi_wp2
   refine HR.mono ?_;rintro e W2 (⟨rfl,ja,jp⟩ | ⟨rfl,ja⟩)
   ·dsimp only
    apply_assumption -exfalso
    gi_wp2
    try apply_assumption -exfalso
    go_wp2_with fail
    go_ret;rw[jj.out];exact .inr (.inl ⟨rfl,rfl,ja⟩)
   ·dsimp only
    apply_assumption -exfalso
    gi_wp2
    try apply_assumption -exfalso
    go_wp2_with fail
    go_ret;rw[jj.out];exact .inr (.inr ⟨rfl,_,Xt _,ja⟩)
  have jY:¬ (20:Int)<(oB ws:Int):=by omega
  obtain⟨bN,oN,kj,hbN,f0,aa,cc,f1,kh,jM⟩:=HD.at jQ;have hidxN:=Ih aD bN oN D.length cD k kj jQ;have j5:D.getD k default=D[k]:=by rw[AS,AC jQ];rfl
  have jL:=HC k jQ;obtain⟨nd0,jE⟩:∃ nd0,D[k]=nd0:=⟨_,rfl⟩
  rw[jE]at f0 f1 kh jM j5 jL;obtain⟨f,X⟩:=nd0;simp only at f0 f1 kh jM jL;have c0:=(HW.cell (p:=⟨bN,oN+k*2,oS⟩) (by show bN<n₀;omega)).trans f0;have c1:=(HW.cell (p:=⟨bN,oN+k*2+1,oS⟩) (by show bN<n₀;omega)).trans f1;obtain⟨HF0,kA,kM,jU,kz⟩:=oE f0 f1 jM j5 jL;clear f0 f1 jM j5 jL jE kj;by_cases jf:f=oH/\X=[]
  ·obtain⟨rfl,rfl⟩:=jf;have je:q=([(⟨#[]⟩,oH)],oH):=by rw[<- HQ.out,visitL,if_pos (by unfold JK;rw[ZW,jU.out];simp)]
   obtain⟨fn,tmps,assign,body,hy,hR⟩:=YieldAt.anyD 8 (jz pre (⟨#[]⟩,oH) W jw (by have:=HN.out;rw[je]at this;simp at this;omega));dsimp only at hy;have jj:=A0 je;have HR:=A0 hR;clear je hR;simp only[X7]at c1
   go_enter Tryz.func156,Tryz.ntmps156
   go_upto_region 2 with fail
   refine(wpIn_wide (n:=9)).1 ?_
   gi_wp2
   refine HR.mono ?_;rintro e W2 (⟨rfl,ja,jp⟩ | ⟨rfl,ja⟩)
   ·dsimp only
    apply_assumption -exfalso
    gi_wp2
    try apply_assumption -exfalso
    go_wp2_with fail
    go_ret;rw[jj.out];exact .inr (.inl ⟨rfl,rfl,ja⟩)
   ·dsimp only
    apply_assumption -exfalso
    gi_wp2
    try apply_assumption -exfalso
    go_wp2_with fail
    go_ret;rw[jj.out];exact .inr (.inr ⟨rfl,_,Xt _,ja⟩)
  have jy:=A0 jf;obtain⟨L1,j0⟩:∃ L1:List (ByteArray × Bool),(if f=oF then[(⟨ws.toArray⟩,oF)] else[])=L1:=⟨_,rfl⟩
  obtain⟨FA,jZ⟩:∃ FA,EJ (visitL D m) ws X=FA:=⟨_,rfl⟩
  have kn:q=(L1 ++ FA.1,FA.2):=by
   rw[<- HQ.out,visitL,if_neg (by unfold JK;rw[ZW,jU.out];simp;simp at jf;exact⟨⟨by omega,by omega⟩,jf⟩),ZW,jU.out,<- j0,<- jZ]
  obtain⟨jq,jJ,kb⟩:=oC kn j0 jZ;have hws:oB ws<=20:=by omega
  have ky:Hid (aw=oS->oB ws=0):=λe=>by
   rcases HB with⟨_,h⟩ | ⟨b,cs,h,_⟩
   · rw[h];rfl
   · rw[e]at h;cases h
  clear kn j0 jZ jf jX j4 j6
  go_enter Tryz.func156,Tryz.ntmps156
  go_upto_region 1 with fail
  go_cut [39] (λs39 wx=>∃ wz,wz=wx/\wz=W/\s39=aH oH)
  case first =>
   cases f with
   | true =>
    go_wp2
    go_meet
    exact⟨_,rfl,rfl,rfl⟩
   | false =>
    have hx0:((oB X:Int) == 0)=oH:=by
     have:=jy.out;cases X with
     | nil=>simp at this
     | cons=>simp;omega
    go_wp2
    go_meet
    exact⟨_,rfl,rfl,rfl⟩
  case rest
       =>
   obtain⟨wz,rfl,rfl,rfl⟩:=hcut
   apply_assumption -exfalso
   go_upto_region 4 with fail
   go_cut [53] (λs53 wx=>∃ wz2,wz2=wx/\((s53=aH oH/\J (pre ++ L1) wz2/\Kp n₀ wz wz2)\/(s53=aH oF/\Jx (pre ++ L1) wz2)))
   case first =>
    cases f with
    | true =>
     obtain⟨fn,tmps,assign,body,hy,hR⟩:=YieldAt.anyD 8 (jz pre (⟨ws.toArray⟩,oF) wz jw (by have:=HN.out;rw[jq.out,<- jJ.out]at this;simp at this;omega));dsimp only at hy;have HR:=A0 hR;clear hR;have hconv:=conv_bytes HB cw;refine(wpIn_wide (n:=9)).1 ?_
     gi_wp2
     refine HR.mono ?_;rintro e W2 (⟨rfl,ja,jp⟩ | ⟨rfl,ja⟩)
     ·dsimp only
      apply_assumption -exfalso
      gi_wp2
      go_meet
      exact⟨_,rfl,.inl ⟨rfl,by rw[<- jJ.out];exact ja,jp⟩⟩
     ·dsimp only
      apply_assumption -exfalso
      gi_wp2
      go_meet
      exact⟨_,rfl,.inr ⟨rfl,by rw[<- jJ.out];exact ja⟩⟩
    | false =>
     go_wp2
     go_meet
     exact⟨_,rfl,.inl ⟨rfl,by rw[<- jJ.out];simpa using jw.out,Kp.refl _ _⟩⟩
   case rest
        =>
    obtain⟨wz2,rfl,kU⟩:=hcut
    apply_assumption -exfalso
    rcases kU with⟨rfl,ja,jp⟩ | ⟨rfl,ja⟩
    ·have kK:=A0 (HV.kp jp);have kL:=A0 (HW.trans jp.1);have kD:=A0 ja;have kF:=A0 jp;obtain⟨hcd2, -, -⟩:=kK.cells;have c1b:=(kL.cell (p:=⟨bN,oN+k*2+1,oS⟩) (by show bN<n₀;omega)).trans kA;clear kO kR kP c0 c1 ja jp
     go_wp2_with fail
     go_loopw [60] (λs60 wr=>∃ (j:Nat) (S:List (ByteArray × Bool)),j<=oB X/\s60=aA aM (j:Int)/\J (pre ++ S) wr/\Kp n₀ wz wr/\S ++ (EJ (visitL D m) ws (X.drop j)).1=L1 ++ FA.1/\(EJ (visitL D m) ws (X.drop j)).2=FA.2) (λs60 _=>oB X - (intOf s60).toNat)
     case atStart=>exact⟨0,L1,Ze _,rfl,kD,kF,by rw[List.drop_zero,kb.out],by rw[List.drop_zero,kb.out]⟩
     case round =>
      obtain⟨j,S,hj,rfl,kl,j7,jd,kg⟩:=hrel;obtain⟨kc,jI,jK,jV⟩:=oD kl j7 jd kg;have kT:n₀<=wr.heap.size:=AA hn j7.1.size;clear kl j7 jd kg;by_cases jP:j<oB X
      ·obtain⟨b3,o3,ki,hb3,q0,q1⟩:=kM.at jP;have hidx3:=FS9 aa b3 o3 X.length cc j ki jP;have j2:=kz X[j] (AI jP);have j3:=AG jP;obtain⟨x,hx⟩:∃ x,X[j]=x:=⟨_,rfl⟩
       rw[hx]at q0 q1 j2 j3;obtain⟨xc,xt⟩:=x;simp only at q0 q1 j2;obtain⟨y,hy,ku⟩:∃ y:UInt8,xc=(y.toNat:Int)/\Zy xc.toNat=y:=⟨Zy xc.toNat,by rw[zw];omega,rfl⟩
       obtain⟨q2,je⟩:∃ q2,visitL D m xt (ws ++ [y])=q2:=⟨_,rfl⟩
       have js:EJ (visitL D m) ws (X.drop j)=if q2.2=oF then(q2.1 ++ (EJ (visitL D m) ws (X.drop (j+1))).1,(EJ (visitL D m) ws (X.drop (j+1))).2) else(q2.1,oH):=by
        rw[j3,EJ];simp only[ku,je]
       subst hy;have jr:=A0 js;have jj:=A0 je;have c3:=((HW.trans jI.1).cell (p:=⟨b3,o3+j*2,oS⟩) (by show b3<n₀;omega)).trans q0;have c4:=((HW.trans jI.1).cell (p:=⟨b3,o3+j*2+1,oS⟩) (by show b3<n₀;omega)).trans q1;have j8:(S ++ q2.1) <+: (L1 ++ FA.1):=by
        rw[<- jK.out,js];split
        · exact List.prefix_append_right_inj _ |>.2 (List.prefix_append _ _)
        · exact Xt _
       have kH:=A0 j8;have kN:(pre ++ S).length+q2.1.length<=N:=by
        have h1:=HN.out;have h2:=j8.length_le;rw[jq.out]at h1;simp only[AD]at h1 h2 ⊢;omega
       clear ki hx j3 q0 q1 j2 js je ku j8
       go_upto_region 9 with fail
       obtain⟨wy,jS⟩:∃ wy,wy=wr.alloc (aK #[aA aO (y.toNat:Int),aA aM xt] 170):=⟨_,rfl⟩
       have kJ:Hid (TV n₀ J wz wr.heap.size wy.heap.size #[aA aO (y.toNat:Int),aA aM xt] y (ws ++ [y]) (pre ++ S) oH oH oH wy):=by
        have jx:Ext wr wy:=by rw[jS];exact(Z2 _ _).alloc (A5 _) _
        exact⟨HJ _ _ _ kc jx,jI.trans (Kp.of_ext jx kT),by rw[jS];exact Z4 _ _,λ_=>rfl,λh=>(by cases h),λh=>(by cases h)⟩
       rw[<- jS];clear jS;refine Ay (by kernel_rfl) (Vs [vq (.func (.func 156) #[] #[aB (oT ⟨gD,0,oS⟩),aB (oT ⟨gY,0,oS⟩),aB (oT ⟨gV,0,oS⟩)]),vq (aB (oT ⟨wr.heap.size,1,oS⟩)),vq (aA aM xt),vq (aG aw ws.length cw),vq (aG aw ws.length cw),vq (aA aM (oB ws:Int)),vq (aG aw ws.length cw),vq (aA aM (oB ws:Int)),vq (aG aw ws.length ws.length),vq (aB (oT ⟨wr.heap.size,0,oS⟩)),vq (aA aO (y.toNat:Int)),vq (aG (oT ⟨wy.heap.size,0,oS⟩) 1 1),US (wy.heap.size+1) (ws ++ [y]).length,PV oF n₀ J Jx wz pre S q2,PV oH n₀ J Jx wz pre S q2]) (Xs [Ext,Ext,Ext,Ext,Ext,Ext,Ext,Ext,Ext,Ext,Ext,(Ext),(Ext),(λ_ _=>True),Ext]) (λfL=>(λb1 b2 b3 W=>TV n₀ J wz wr.heap.size wy.heap.size #[aA aO (y.toNat:Int),aA aM xt] y (ws ++ [y]) (pre ++ S) b1 b2 b3 W) (fL 11) (fL 12) (fL 13)) [0,0,2,0,0,16,0,64,248,0,512,1536,4088,8191,16383] 80 15 (by kernel_rfl) rfl ?hV ?hS ?hop ?hfin ?hlast
       case hV =>
        refine Bi (BB (by simp only[AX,ZN,or_false,forall_eq_or_imp,forall_eq];exact⟨Ab _,Ab _,Ab _,Ab _,Ab _,Ab _,Ab _,Ab _,Ab _,Ab _,Ab _,Ab _,P3 _ _,O3 HJ kd hn,O3 HJ kd hn⟩)) ?_;exact⟨.inl rfl,.inl rfl,.inl rfl,.inl rfl,.inl rfl,.inl rfl,.inl rfl,.inl rfl,.inl rfl,.inl rfl,.inl rfl,.inr (BU ⟨λ_ _=>λ_ _ _ h _=>h,λ_ _=>λ_ _ _ h _=>h,λ_ _=>λ_ _ _ h _=>h,λ_ _=>λ_ _ _ h _=>h,λ_ _=>λ_ _ _ h _=>h,λ_ _=>λ_ _ _ h _=>h,λ_ _=>λ_ _ _ h _=>h,λ_ _=>λ_ _ _ h _=>h,λ_ _=>λ_ _ _ h _=>h,λ_ _=>λ_ _ _ h _=>h,λ_ _=>λ_ _ _ h _=>h,λh=>absurd rfl h,λ_ h=>absurd h (by decide),λ_ h=>absurd h (by decide),λ_ h=>absurd h (by decide),trivial⟩),.inr (BU ⟨λ_ _=>λ_ _ _ h _=>h,λ_ _=>λ_ _ _ h _=>h,λ_ _=>λ_ _ _ h _=>h,λ_ _=>λ_ _ _ h _=>h,λ_ _=>λ_ _ _ h _=>h,λ_ _=>λ_ _ _ h _=>h,λ_ _=>λ_ _ _ h _=>h,λ_ _=>λ_ _ _ h _=>h,λ_ _=>λ_ _ _ h _=>h,λ_ _=>λ_ _ _ h _=>h,λ_ _=>λ_ _ _ h _=>h,λ_ _=>λ_ _ _ h _=>h,λh=>absurd rfl h,λ_ h=>absurd h (by decide),λ_ h=>absurd h (by decide),trivial⟩),.inr (BU ⟨λ_ _=>λ_ _ _ h _=>h,λ_ _=>λ_ _ _ h _=>h,λ_ _=>λ_ _ _ h _=>h,λ_ _=>λ_ _ _ h _=>h,λ_ _=>λ_ _ _ h _=>h,λ_ _=>λ_ _ _ h _=>h,λ_ _=>λ_ _ _ h _=>h,λ_ _=>λ_ _ _ h _=>h,λ_ _=>λ_ _ _ h _=>h,λ_ _=>λ_ _ _ h _=>h,λ_ _=>λ_ _ _ h _=>h,λ_ _=>λ_ _ _ h _=>h,λ_ _=>λ_ _ _ h _=>h,λh=>absurd rfl h,λ_ h=>absurd h (by decide),trivial⟩),.inl rfl,trivial⟩
       case hS =>
        intro fL hf;show(λb1 b2 b3 W=>TV n₀ J wz wr.heap.size wy.heap.size #[aA aO (y.toNat:Int),aA aM xt] y (ws ++ [y]) (pre ++ S) b1 b2 b3 W) (fL 11) (fL 12) (fL 13) _;rw[hf 11 (by decide),hf 12 (by decide),hf 13 (by decide)];have kV:Ext wy { heap:=wy.heap,tape:=wy.tape,drawn:=wy.drawn+1,os:=wy.os,output:=wy.output }:=⟨rfl,rfl,rfl,A5 _,λ_ _=>rfl⟩
        obtain⟨k1,k2,k3⟩:=TV.keep HJ hn kJ kV;exact⟨k1,k2,k3,λ_=>rfl,λh=>(by cases h),λh=>(by cases h)⟩
       case hop =>
        refine⟨?c0,?_,?c2,?_,?_,?_,?_,?_,?c8,?_,?c10,?c11,?c12,?c13,?c14,trivial⟩
        all_goals first | rw[if_neg (by decide)] | rw[if_pos (by decide)]
        all_goals try intro ac W fL jo jn jR jO jc jh jb ka
        all_goals try have hS:(λb1 b2 b3 W=>TV n₀ J wz wr.heap.size wy.heap.size #[aA aO (y.toNat:Int),aA aM xt] y (ws ++ [y]) (pre ++ S) b1 b2 b3 W) (fL 11) (fL 12) (fL 13) W:=jc
        all_goals try (have jl:fL 11=oF:=jR 11 (by decide);rw[jl]at hS)
        all_goals try (have jl:fL 11=oH:=(by first | exact jn | exact jO 11 (by decide) (by decide));rw[jl]at hS)
        all_goals try (have jm:fL 12=oF:=jR 12 (by decide);rw[jm]at hS)
        all_goals try (have jm:fL 12=oH:=(by first | exact jn | exact jO 12 (by decide) (by decide));rw[jm]at hS)
        all_goals try (have jg:fL 13=oF:=jR 13 (by decide);rw[jg]at hS)
        all_goals try (have jg:fL 13=oH:=(by first | exact jn | exact jO 13 (by decide) (by decide));rw[jg]at hS)
        all_goals try have hh4:=gdA ac 4 (aB (oT ⟨gV,0,oS⟩)) (jb 4 (by kernel_rfl))
        all_goals try have hh9:=gdA ac 9 (aB (oT ⟨wr.heap.size,0,oS⟩)) (jb 9 (by kernel_rfl))
        all_goals try (have h1:ac.tmps.getD 1 Z8=aG aw ws.length cw:=jb 1 (by kernel_rfl);have kS:=h1;rw[A6]at kS)
        all_goals try (have d72:ac.tmps.getD 72 Z8=aG aw ws.length ws.length:=jh 8 (by decide);have dd72:=d72;rw[A6]at dd72)
        all_goals try (have d75:ac.tmps.getD 75 Z8=aG (oT ⟨wy.heap.size,0,oS⟩) 1 1:=jh 11 (by decide);have dd75:=d75;rw[A6]at dd75)
        all_goals try have d76:(US (wy.heap.size+1) (ws ++ [y]).length) (ac.tmps.getD 76 Z8) W:=jh 12 (by decide)
        all_goals try have d77:(PV oF n₀ J Jx wz pre S q2) (ac.tmps.getD 77 Z8) W:=jh 13 (by decide)
        all_goals try (have jh:=GC jh;simp[FK,Ae,vq]at jh)
        all_goals try clear jb jR jO ka
        case c0 =>
         have jd:(λb1 b2 b3 W=>TV n₀ J wz wr.heap.size wy.heap.size #[aA aO (y.toNat:Int),aA aM xt] y (ws ++ [y]) (pre ++ S) b1 b2 b3 W) ((upd fL 0) 11) ((upd fL 0) 12) ((upd fL 0) 13) W:=jc;have hvv:=(HV.kp hS.2.1).cells.2.2;refine Ag rfl (.inl ⟨_,W,?_,rfl,Ext.refl _,jd⟩);clear jo hS jc jd jn;simp[go_sem,Zf, *]
        case c2 =>
         have jd:(λb1 b2 b3 W=>TV n₀ J wz wr.heap.size wy.heap.size #[aA aO (y.toNat:Int),aA aM xt] y (ws ++ [y]) (pre ++ S) b1 b2 b3 W) ((upd fL 2) 11) ((upd fL 2) 12) ((upd fL 2) 13) W:=jc;obtain⟨v0,v1⟩:=CC hS.2.2.1;refine Ag rfl (.inl ⟨_,W,?_,rfl,Ext.refl _,jd⟩);clear jo hS jc jd jn;simp[go_sem,Zf, *]
        case c8 =>
         have jd:(λb1 b2 b3 W=>TV n₀ J wz wr.heap.size wy.heap.size #[aA aO (y.toNat:Int),aA aM xt] y (ws ++ [y]) (pre ++ S) b1 b2 b3 W) ((upd fL 8) 11) ((upd fL 8) 12) ((upd fL 8) 13) W:=jc;have hsl:=P2 aw ws.length cw kQ ky;refine Ag rfl (.inl ⟨_,W,?_,rfl,Ext.refl _,jd⟩);clear jo hS jc jd jn;simp[go_sem,Zf, *]
        case c10 =>
         have jd:(λb1 b2 b3 W=>TV n₀ J wz wr.heap.size wy.heap.size #[aA aO (y.toNat:Int),aA aM xt] y (ws ++ [y]) (pre ++ S) b1 b2 b3 W) ((upd fL 10) 11) ((upd fL 10) 12) ((upd fL 10) 13) W:=jc;obtain⟨v0,v1⟩:=CC hS.2.2.1;refine Ag rfl (.inl ⟨_,W,?_,rfl,Ext.refl _,jd⟩);clear jo hS jc jd jn;simp[go_sem,Zf, *]
        case c11 =>
         have ju:W.heap.size=wy.heap.size:=hS.2.2.2.1 rfl;have jv:Ext W (W.alloc (aK #[aA aO (y.toNat:Int)] 5)):=(Z2 _ _).alloc (A5 _) _;obtain⟨k1,k2,k3⟩:=TV.keep HJ hn hS jv;refine Ag rfl (.inl ⟨aG (oT ⟨W.heap.size,0,oS⟩) 1 1,W.alloc (aK #[aA aO (y.toNat:Int)] 5),?_,(by show _=_;rw[ju]),jv,?_⟩)
         · clear jo hS jc jn k1 k2 k3 jv;simp[go_sem,Zf, *]
         ·show TV n₀ J wz wr.heap.size wy.heap.size #[aA aO (y.toNat:Int),aA aM xt] y (ws ++ [y]) (pre ++ S) (upd fL 11 11) (upd fL 11 12) (upd fL 11 13) _;rw[show upd fL 11 11=oF from if_pos rfl,show upd fL 11 12=fL 12 from if_neg (by decide),show upd fL 11 13=fL 13 from if_neg (by decide),jm,jg];exact⟨k1,k2,k3,λ_=>(by rw[A8,ju];rfl),λ_=>(by rw[<- ju];exact Z4 _ _),λh=>(by cases h)⟩
        case c12 =>
         have j9:W.heap.size=wy.heap.size+1:=hS.2.2.2.1 rfl;have jt:=hS.2.2.2.2.1 rfl;have jD:=(A7.1 jt).1;refine Ag rfl ((KD (HB.kp hS.2.1) (by omega) jt rfl (Al d72) (Al d75)).mono ?_);rintro v w' ⟨kq,ko,jx⟩;rw[j9]at kq ko;obtain⟨k1,k2,k3⟩:=TV.keep HJ hn hS jx;refine⟨kq,jx,?_⟩;show TV n₀ J wz wr.heap.size wy.heap.size #[aA aO (y.toNat:Int),aA aM xt] y (ws ++ [y]) (pre ++ S) (upd fL 12 11) (upd fL 12 12) (upd fL 12 13) _;rw[show upd fL 12 12=oF from if_pos rfl,show upd fL 12 11=fL 11 from if_neg (by decide),show upd fL 12 13=fL 13 from if_neg (by decide),jl,jg];exact⟨k1,k2,k3,λh=>(by cases h),λ_=>(Z7 jx _ jD).trans jt,λ_=>ko⟩
        case c13 =>
         obtain⟨c76,e76,j1⟩:=d76;have ee76:=e76;rw[A6]at ee76;have jB:=hS.2.2.2.2.2 rfl;have jN:=IH xt (ws ++ [y]) (oT ⟨wy.heap.size+1,0,oS⟩) c76 (pre ++ S) W (by simp;omega) (by omega) jB j1 (HV.kp hS.2.1) (AA hn hS.2.1.1.size) (HW.trans hS.2.1.1) hS.1 (by rw[jj.out];exact kN);rw[jj.out]at jN;have km:=hS.2.1;refine Ag rfl (.inr ⟨156,#[aA aM xt,aG (oT ⟨wy.heap.size+1,0,oS⟩) (ws ++ [y]).length c76,aB (oT ⟨gD,0,oS⟩),aB (oT ⟨gY,0,oS⟩),aB (oT ⟨gV,0,oS⟩)],W,by(clear jo hS jc jn jN km jB;simp[go_sem,Zf, *]),?_⟩);refine jN.mono ?_;clear jN;have ji:∀ w',TV n₀ J wz wr.heap.size wy.heap.size #[aA aO (y.toNat:Int),aA aM xt] y (ws ++ [y]) (pre ++ S) (upd fL 13 11) (upd fL 13 12) (upd fL 13 13) w':=λw'=>by
          rw[show upd fL 13 13=oF from if_pos rfl];trivial
         rintro e w' (⟨rfl,h1,h2,h3⟩ | ⟨rfl,h1,h2⟩ | ⟨rfl,p,h1,h2⟩)
         · exact⟨_,rfl,.inl ⟨rfl,h1,by rw[<- Zw];exact h2,km.trans h3⟩,trivial,ji _⟩
         · exact⟨_,rfl,.inr ⟨rfl,.inl ⟨h1,by rw[<- Zw];exact h2⟩⟩,trivial,ji _⟩
         · exact⟨_,rfl,.inr ⟨rfl,.inr ⟨p,h1,by rw[<- Zw];exact h2⟩⟩,trivial,ji _⟩
        case c14 =>
         have jd:(λb1 b2 b3 W=>TV n₀ J wz wr.heap.size wy.heap.size #[aA aO (y.toNat:Int),aA aM xt] y (ws ++ [y]) (pre ++ S) b1 b2 b3 W) ((upd fL 14) 11) ((upd fL 14) 12) ((upd fL 14) 13) W:=jc;rcases d77 with⟨e77,jA⟩ | ⟨e77,jA⟩
         ·rw[A6]at e77;refine Ag rfl (.inl ⟨aH oH,W,?_,.inl ⟨rfl,jA⟩,Ext.refl _,jd⟩);clear jo hS jc jd jn jA;simp[go_sem,Zf, *]
         ·rw[A6]at e77;refine Ag rfl (.inl ⟨aH oF,W,?_,.inr ⟨rfl,jA⟩,Ext.refl _,jd⟩);clear jo hS jc jd jn jA;simp[go_sem,Zf, *]
        all_goals (refine Ag rfl (.inl ⟨_,W,?_,rfl,Ext.refl _,jc⟩);clear jo hS jc jn;simp[go_sem,Zf, *];done)
       case hlast =>
        intro h;exact absurd rfl h
       case hfin =>
        intro _ ac W jo kk fL hf jc hv jb;have hS:(λb1 b2 b3 W=>TV n₀ J wz wr.heap.size wy.heap.size #[aA aO (y.toNat:Int),aA aM xt] y (ws ++ [y]) (pre ++ S) b1 b2 b3 W) (fL 11) (fL 12) (fL 13) W:=jc;clear jc;rw[hf 11 (by decide),hf 12 (by decide),hf 13 (by decide)]at hS;obtain⟨sx,kt,ks⟩:=B7 [64,65,66,67,68,69,70,71,72,73,74,75,76,77,78] (by kernel_rfl) jo kk jb;have jF:PV oH n₀ J Jx wz pre S q2 (sx 78) W:=by rw[kt 78];exact hv 14 (by decide)
        rw[ks];simp only[Zp];simp only[ZE,Z5,Za,Z9];clear ks kt hv jb jo kk hf;obtain⟨v78,jH⟩:∃ v78,sx 78=v78:=⟨_,rfl⟩
        rw[jH]at jF ⊢;clear jH;rcases jF with⟨rfl,h1,h2,h3⟩ | ⟨rfl,jC⟩
        ·have kE:=A0 h2;have kG:=A0 h3;have jk:=jr.out;rw[if_pos h1]at jk;have kr:S ++ q2.1 ++ (EJ (visitL D m) ws (X.drop (j+1))).1=L1 ++ FA.1:=by have:=jK.out;rw[jk]at this;rw[Zw];exact this
         have jG:(EJ (visitL D m) ws (X.drop (j+1))).2=FA.2:=by have:=jV.out;rw[jk]at this;exact this
         have kI:=A0 kr;have jW:=A0 jG;clear hS h1 h2 h3 jk kr jG
         go_wp2_with fail
         go_roundw
         case rel=>exact⟨j+1,S ++ q2.1,by omega,by go_num,kE,kG,kI,jW⟩
         case measure=>simp[intOf];omega
        ·have jT:=A0 jC;clear hS jC
         go_wp2_with fail
         go_ret;rcases jT with⟨h1,h2⟩ | ⟨p,h1,h2⟩
         ·refine .inr (.inl ⟨rfl,?_,?_⟩)
          · rw[jq.out];have:=jV.out;rw[jr.out,if_neg (by rw[h1];decide)]at this;exact this.symm
          · rw[jq.out];have:=jK.out;rw[jr.out,if_neg (by rw[h1];decide)]at this;rw[<- this];exact h2
         ·refine .inr (.inr ⟨rfl,S ++ p,?_,h2⟩);rw[jq.out];exact((List.prefix_append_right_inj _).2 h1).trans kH
      ·obtain rfl:j=oB X:=by omega
       have h1:=jK.out;have h2:=jV.out;rw[List.drop_length,EJ]at h1 h2;have kw:=A0 h1;have kx:=A0 h2;clear h1 h2
       go_wp2_with fail
       go_ret;refine .inl ⟨rfl,?_,?_,jI⟩
       · rw[jq.out];exact kx.symm
       ·rw[jq.out];simp only;rw[<- kw.out,Xe];exact kc
    ·go_wp2_with fail
     go_ret;rw[jq.out];exact .inr (.inr ⟨rfl,L1,List.prefix_append _ _,ja⟩)
def w2b (W:Z0)(l gD:Nat):Z0:=(W.alloc (Xa #[.func (.yield l) #[] #[]] 247)).alloc (Xa #[.func (.func 156) #[] #[aB (oT ⟨gD,0,oS⟩),aB (oT ⟨W.heap.size,0,oS⟩),aB (oT ⟨W.heap.size+1,0,oS⟩)]] 248)
def Jf (W:Z0)(l gD:Nat):Ext W (w2b W l gD):=((Z2 _ W).alloc (A5 _) _).alloc (by simp only[A8];omega) _
def So {W:Z0}{l gD:Nat}{aD:Option Zj}{nD cD:Nat}(h:W.heap[gD]? = oT (aK #[aG aD nD cD] 69 (0,0))):VBy l gD W.heap.size (W.heap.size+1) aD nD cD (w2b W l gD):=by
 refine⟨(Z7 (Jf W l gD) gD (A7.1 h).1).trans h,?_,?_⟩
 · exact skip (by simp only[A8];omega) (Z4 _ _)
 ·have h:=Z4 (W.alloc (Xa #[.func (.yield l) #[] #[]] 247)) (Xa #[.func (.func 156) #[] #[aB (oT ⟨gD,0,oS⟩),aB (oT ⟨W.heap.size,0,oS⟩),aB (oT ⟨W.heap.size+1,0,oS⟩)]] 248);simp only[A8]at h;exact h
def P4 (n gD n₀:Nat)(aD:Option Zj)(cD:Nat)(D:List Nd)(wW w:Z0)(jh:wW.heap.size<=n₀)(hn:n₀<=w.heap.size)(hb:Below n₀ wW w)(hg:w.heap[gD]? = oT (aK #[aG aD D.length cD] 69 (0,0)))(hD:Cj wW aD D)(jg:oB D<=9223372036854775807)(hC:Mg D) :
  SeqStopsK xf n Z1 155 #[aB (oT ⟨gD,0,oS⟩)] (λx:ByteArray × Bool=>#[xB x.1,Y7 x.2]) (Kp n₀) (λys=>ys=(visitL D 22 0 []).1) (λpre=>pre <+: (visitL D 22 0 []).1) (visitL D 22 0 []).1.length w:=by
 intro l J Jx W hW hJ jb hY h0;refine callsIn_wide.2 ?_;show Zu _ _ #[.func (.yield l) #[] #[],aB (oT ⟨gD,0,oS⟩)] _ _;have jd:W.heap[gD]? = oT (aK #[aG aD D.length cD] 69 (0,0)):=(hW.block gD (A7.1 hg).1).trans hg;have je:n₀<=W.heap.size:=AA hn hW.size;have jc:=vis_any l gD W.heap.size (W.heap.size+1) n₀ (visitL D 22 0 []).1.length aD cD D wW jh hD jg hC J Jx (LB.of hJ) (LB.of jb) (λpre x W h1 h2=>YieldAt.anyD 8 (hY pre x W h1 h2)) 22 0 [] oS 0 [] (w2b W l gD) rfl (by omega) (DF.nil _) (A5 _) (So jd) (AA je (Jf W l gD).size) ((hb.trans (hW.mono hn)).trans ((Jf W l gD).mono je)) ((LB.of hJ) _ _ _ h0 (Jf W l gD)) (by simp);have ja:=A0 jc;clear jc hJ jb hY h0 hD hC;have ji:∀ (fn:Fn) (x y:Array Z6) (a:Zj) (m:Mode) (w:Z0),(store a (.func fn x y) m).run Z1 w=stored Z1 w a (.func fn x y) m:=λfn x y a m w=>run_store Z1 w a (.func fn x y) m rfl
 go_enter Tryz.func155,Tryz.ntmps155
 go_upto_region 3 with fail
 clear ji;have jj:=(So (l:=l) jd).cells.2.2;change Code.wp _ _ _ _ (w2b W l gD);obtain⟨wz,jf⟩:∃ wz,w2b W l gD=wz:=⟨_,rfl⟩
 rw[jf]at ja jj ⊢;clear jf
 go_wp2_with (first
  | (go_at_call 156;refine ja.mono ?_;rintro e w6 (⟨rfl,h1,h2,h3⟩ | ⟨rfl,h1,h2⟩ | ⟨rfl,p,h1,h2⟩)))
 ·go_end0
  exact⟨⟨_,rfl⟩,.inl ⟨_,rfl,by simpa using h2⟩⟩
 ·go_end0
  exact⟨⟨_,rfl⟩,.inl ⟨_,rfl,by simpa using h2⟩⟩
 ·go_end0
  exact⟨⟨_,rfl⟩,.inr ⟨p,h1,by simpa using h2⟩⟩
def UT (a:Option Zj)(n c:Nat)(w:Z0):Zu Z1 147 #[aG a n c] w λe w'=>e=aP (.func (.func 155) #[] #[aB (oT ⟨w.heap.size,0,oS⟩)])/\w'=w.alloc (aK #[aG a n c] 69):=by
 have hmf:∀ (fn:Fn) (first cap:Array Z6) (w:Z0),(Instr.makeFunc fn first cap).run Z1 w=.ok (.func fn first cap) w:=λ_ _ _ _=>rfl
 go_enter Tryz.func147,Tryz.ntmps147
 go_wp2;go_ret;exact⟨rfl,rfl⟩
attribute [local go_sem] Oper.semAt_some
def EK (l:List (ByteArray × Bool)):Prop:=(∀ x∈l,x.2=oF)/\l.length<=200
def EK.pre {l m:List (ByteArray × Bool)}(h:EK l)(hp:m <+: l):EK m:=⟨λx hx=>h.1 x (hp.subset hx),AA hp.length_le h.2⟩
def Cp (l:List (ByteArray × Bool)):List ByteArray:=l.map Prod.fst
def Vf (w:Z0)(pre:List (ByteArray × Bool))(W:Z0):Prop :=
 (((EK pre/\Boxed W w.heap.size 35 (aG oS 0 0))/\Boxed W (w.heap.size+1) 4 (aH oH))/\(∃ v,Boxed W (w.heap.size+1+1) 35 v/\Af Co W w.heap.size v (Cp pre)/\True))/\Below w.heap.size w W
def Vg (w:Z0)(c:Code)(pre:List (ByteArray × Bool))(W:Z0):Prop :=
 (((c=.ret/\¬ EK pre)/\Boxed W w.heap.size 35 (aG oS 0 0))/\Boxed W (w.heap.size+1) 4 (aH oH))/\Below w.heap.size w W
def Sp (w:Z0)(B:Nat)(hB:w.heap.size<=B):OwnFrom B (Vf w) :=
 OwnFrom.and (OwnFrom.and (OwnFrom.and (OwnFrom.and (ownFrom_pure _ _) (Own.from (boxed_own _ _ (λ_=>aG oS 0 0)) _)) (Own.from (boxed_own _ _ (λ_=>aH oH)) _))
  (Own.from (holdsRow_own w.heap.size (w.heap.size+1+1) 35 9 1 (λpre=>(Cp pre).length) (λpre=>(Cp pre).flatMap Co.enc) (λ_ _=>True)) _)) (ownFrom_below (A5 _) hB)
def Sq (w:Z0)(B:Nat)(hB:w.heap.size<=B)(c:Code):OwnFrom B (Vg w c) :=
 OwnFrom.and (OwnFrom.and (OwnFrom.and (ownFrom_pure _ _) (Own.from (boxed_own _ _ (λ_=>aG oS 0 0)) _)) (Own.from (boxed_own _ _ (λ_=>aH oH)) _)) (ownFrom_below (A5 _) hB)
def Vh {W w1:Z0}{n₀ B:Nat}{v v':Z6}{k:Nat}{xs:List Z6}{tmp:Obj}(hv:Boxed W B 35 v)(jc:W.ownsRow n₀ 9 1 v k xs)(ja:(W.alloc tmp).grownBy w1 v.ownBlock)(hb:Below n₀ W (w1.setCell ⟨B,0,oS⟩ v')):Kp n₀ W (w1.setCell ⟨B,0,oS⟩ v'):=by
 refine⟨hb,λq cs t fz hq h1 h2 h3=>?_⟩;have je:q≠B:=λe=>by
  subst e;have h4:W.heap[q]? = _:=hv;rw[hq]at h4;injection h4 with h4;injection h4 with _ h5;exact h2 h5
 have jd:=(A7.1 hq).1;rw[Zc _ _ _ _ je,ja.block q (by rw[A8];omega) ?_]
 · exact ZF _ _ _ jd
 ·intro e;rcases jc.2 with⟨rfl,_⟩ | ⟨g,cap,cur,rfl,_,jb,_⟩
  · cases e
  ·injection e with e;rw[e]at hq;rw[show W.heap[g]? = oT (.cells cs t fz) from hq]at jb;injection jb with jb;injection jb with _ h5;exact h1 h5
def Wu (l:List (ByteArray × Bool))(w:Z0)(e:Ending)(w':Z0):Prop :=
 (EK l/\∃ v,e=aP (.tuple #[v,aH oF])/\Af Co w' w.heap.size v (Cp l)/\Below w.heap.size w w')\/(¬ EK l/\e=aP (.tuple #[aG oS 0 0,aH oH])/\Below w.heap.size w w')
def collect_any (D:List Nd)(a:Option Zj)(c:Nat)(w:Z0)(hD:Cj w a D)(jw:oB D<=9223372036854775807)(hC:Mg D) :
  Zu Z1 131 #[aG a D.length c] w (Wu (visitL D 22 0 []).1 w):=by
 obtain⟨i0,hi,jB,jC,jD⟩:=info_parts DV.info;obtain⟨LL,jr⟩:∃ LL,(visitL D 22 0 []).1=LL:=⟨_,rfl⟩
 refine(callsIn_wide (n:=9)).1 ?_;refine callsIn_of_wp_marks Tryz.func131 rfl trivial ?_ rfl;simp only[Tryz.ntmps131,zm,Zs,X7,Nat.reduceAdd,Nat.reduceSub,zc,zd,zo,XP,ZP,ZG];have hfn:Fence.wide.fn 147:=trivial
 gi_wp2_with (gi_at_call 147;refine(callsIn_wide.2 (UT _ _ _ _)).mono ?_;rintro e w' ⟨rfl,rfl⟩)
 obtain⟨w4,ji⟩:∃ w4,(((w.alloc (Xa #[Zk oS 0 0] 35)).alloc (Xa #[Y7 oH] 4)).alloc (Xa #[Zk oS 0 0] 35)).alloc (Xa #[aG a D.length c] 69)=w4:=⟨_,rfl⟩
 have jq:Below w.heap.size w w4:=by
  rw[<- ji];exact((((Z2 _ w).alloc (A5 _) _).alloc (by simp only[A8];omega) _).alloc (by simp only[A8];omega) _).alloc (by simp only[A8];omega) _
 have hs4:w4.heap.size=w.heap.size+4:=by rw[<- ji];simp only[A8]
 have b2:Boxed w4 w.heap.size 35 (aG oS 0 0):=by
  rw[<- ji];exact(((Boxed.new w _ _).alloc _).alloc _).alloc _
 have b3:Boxed w4 (w.heap.size+1) 4 (aH oH):=by
  rw[<- ji];have h:=Boxed.new (w.alloc (Xa #[Zk oS 0 0] 35)) 4 (aH oH);rw[A8]at h;exact(h.alloc _).alloc _
 have b4:Boxed w4 (w.heap.size+1+1) 35 (aG oS 0 0):=by
  rw[<- ji];have h:=Boxed.new ((w.alloc (Xa #[Zk oS 0 0] 35)).alloc (Xa #[Y7 oH] 4)) 35 (aG oS 0 0);simp only[A8]at h;exact h.alloc _
 have b5:Boxed w4 (w.heap.size+1+1+1) 69 (aG a D.length c):=by
  rw[<- ji];have h:=Boxed.new (((w.alloc (Xa #[Zk oS 0 0] 35)).alloc (Xa #[Y7 oH] 4)).alloc (Xa #[Zk oS 0 0] 35)) 69 (aG a D.length c);simp only[A8]at h;exact h
 rw[ji];clear ji;refine wpIn_rangeFunc_ownF (w0:=w4) rfl (by omega) (gf:=155) (lb:=#[aB (oT ⟨w.heap.size+1+1+1,0,oS⟩)]) rfl trivial (enters_of Tryz.func155 (by kernel_rfl) rfl)
  (P4 8 (w.heap.size+1+1+1) w.heap.size a c D w w4 (A5 _) (by omega) jq b5 hD jw hC) (λh k=>h.trans k) (Kp.obj (by omega)) (Z2 _ _) (λ_=>rfl)
  (Vf w) (Vg w) (Sp w _ (by omega)) (λc=>Sq w _ (by omega) c) ⟨⟨⟨⟨⟨λx hx=>by(cases hx),by simp⟩,b2⟩,b3⟩,_,b4,Af.nil Co _ _,trivial⟩,jq⟩
  (λx=>{ tmps:=#[aG a D.length c,Z8,aB (oT ⟨w.heap.size,0,oS⟩),aB (oT ⟨w.heap.size+1,0,oS⟩),aB (oT ⟨w.heap.size+1+1,0,oS⟩),aI x.1,aH x.2,aG a D.length c,.func (.func 155) #[] #[aB (oT ⟨w.heap.size+1+1+1,0,oS⟩)],aI x.1,aH x.2,Z8,Z8,Z8,Z8,Z8,Z8,Z8,Z8,Z8,Z8,Z8,Z8],defers:=[] }) ?assign ?body ?done ?stop
 case assign =>
  intro l x W K hK
  gi_wp2
  exact hK
 case body =>
  rintro l pre ⟨s,ok⟩ W ⟨⟨⟨⟨jl,jb⟩,jc⟩,v,hv,ja, -⟩,hB⟩ -;have jt:w.heap.size<=W.heap.size:=hB.size;have e1:=jb.cell;have e2:=jb.frozen;have e3:=jc.cell;have e4:=jc.frozen;have e5:=hv.cell;have e6:=hv.frozen;have je:∀ ac,¬ EK (pre ++ [(s,ok)])->ownPostK (Kp w.heap.size) (Vf w) (Vg w) (pre ++ [(s,ok)]) W Exit.ret ac ((W.setCell ⟨w.heap.size,0,oS⟩ (aG oS 0 0)).setCell ⟨w.heap.size+1,0,oS⟩ (aH oH)):=λac jo=>by
   refine⟨(XR _ _ _).trans (XR _ _ _),⟨⟨⟨rfl,jo⟩,?_⟩,?_⟩,?_⟩
   · exact(jb.set _).kept (grownBy_setCell' _ _ _) (by simp)
   · exact(jc.kept (grownBy_setCell' _ _ _) (by simp)).set _
   · exact(hB.setCell (p:=⟨w.heap.size,0,oS⟩) (A5 _) _).setCell (p:=⟨w.heap.size+1,0,oS⟩) (by show w.heap.size<=w.heap.size+1;omega) _
  obtain⟨a0,c0,rfl, -, -⟩:=ja.form;have jm:Hid ((Cp pre).length=oB pre):=by show _=_;simp[Cp]
  cases ok with
  | false =>
   gi_wp2
   exact je _ (λh=>by have:=h.1 (s,oH) (by simp);cases this)
  | true =>
   by_cases jg:oB pre=200
   ·have HH:=A0 jg;have h2:(((Cp pre).length:Int) == 200)=oF:=by rw[jm.out,jg];rfl
    clear jg
    gi_wp2
    exact je _ (λh=>by have:=h.2;have:=HH.out;simp at *;omega)
   ·have
       h2:(((Cp pre).length:Int) == 200)=oH:=by rw[jm.out];simp;omega
    have hle:(Cp pre).length<200:=by rw[jm.out];have:=jl.2;omega
    clear jg
    gi_wp2_with (first
     | (
       gi_at_builtin;refine wpListIn_append_own _ rfl _ _ 35 rfl w.heap.size 9 i0 (aI ⟨#[]⟩) 1 16 Tryz.underlying35 hi jB jC jD rfl (by decide) _ _ _ rfl (ja.alloc _) ⟨W.heap.size,0,oS⟩ 1 1 [aI s] rfl rfl (cell_one_new _ _ _) (by simp[Value.oneCell']) (by unfold maxLen;omega) (by omega) (by simp;omega) ?_;intro v' w3 jf js jk
       have jh:Af Co w3 w.heap.size v' (Cp pre ++ [s]):=by unfold Af;rw[AD,XB];exact jf
       have jd:(W.alloc (aK #[aI s] 9)).grownBy w3 (Zk a0 (Cp pre).length c0).ownBlock:=js;obtain⟨g1,c1,rfl⟩:=ownsRow_succ jf;obtain⟨p1,p2,p3,p4,p5⟩:=Boxed.appended hv (by decide) ja jt (by omega) jh jd;have q1:=p1.cell;have q2:=p1.frozen;have r2:=(((jb.alloc (aK #[aI s] 9)).kept jd (jb.not_row (by decide) ja)).kept (grownBy_setCell' w3 (w.heap.size+1+1) (aG (oT ⟨g1,0,oS⟩) ((Cp pre).length+1) c1)) (by simp;omega))
       have r3:=(((jc.alloc (aK #[aI s] 9)).kept jd (jc.not_row (by decide) ja)).kept (grownBy_setCell' w3 (w.heap.size+1+1) (aG (oT ⟨g1,0,oS⟩) ((Cp pre).length+1) c1)) (by simp))
       have r4:=Vh hv ja jd p5;have HR:=A0 (And.intro p2 (And.intro p3 (And.intro p4 (And.intro p5 (And.intro r2 (And.intro r3 r4))))));clear p1 p2 p3 p4 p5 r2 r3 r4 jd js jk jh jf))
    obtain⟨p2,p3,p4,p5,r2,r3,r4⟩:=HR;have jx:Cp (pre ++ [(s,oF)])=Cp pre ++ [s]:=by simp[Cp]
    refine⟨p4,r4,⟨⟨⟨⟨λx hx=>?_,?_⟩,r2⟩,r3⟩,_,p2,?_,trivial⟩,hB.trans p5⟩
    ·rcases AY.1 hx with hx | hx
     · exact jl.1 x hx
     · obtain rfl:=AF.1 hx;rfl
    · have:=jm.out;simp;omega
    · rw[jx];exact p3
 case done =>
  rintro D' ys W jv rfl ⟨⟨⟨⟨jl,jb⟩,jc⟩,v,hv,ja, -⟩,hB⟩ hK;rw[jr]at jl ja;obtain⟨a0,c0,rfl, -, -⟩:=ja.form;have jt:w.heap.size<=W.heap.size:=hB.size;have e1:=jb.cell;have e2:=jb.frozen;have e3:=jc.cell;have e4:=jc.frozen;have e5:=hv.cell;have e6:=hv.frozen
  gi_wp2
  obtain⟨W2,jj⟩:∃ W2,(W.setCell ⟨w.heap.size,0,oS⟩ (aG a0 (Cp LL).length c0)).setCell ⟨w.heap.size+1,0,oS⟩ (aH oF)=W2:=⟨_,rfl⟩
  have jn:W2.heap[D']? = oT (.deferred (oT [])):=by
   rw[<- jj];exact((XR W _ _).trans (XR _ _ _)).same D' _ hK rfl
  have r2:Boxed W2 w.heap.size 35 (aG a0 (Cp LL).length c0):=by
   rw[<- jj];exact(jb.set _).kept (grownBy_setCell' _ _ _) (by simp)
  have r3:Boxed W2 (w.heap.size+1) 4 (aH oF):=by
   rw[<- jj];exact(jc.kept (grownBy_setCell' _ _ _) (by simp)).set _
  have ju:Below w.heap.size w W2:=by
   rw[<- jj];exact(hB.setCell (p:=⟨w.heap.size,0,oS⟩) (A5 _) _).setCell (p:=⟨w.heap.size+1,0,oS⟩) (by show w.heap.size<=w.heap.size+1;omega) _
  have jy:Af Co (W.setCell ⟨w.heap.size,0,oS⟩ (aG a0 (Cp LL).length c0)) w.heap.size (aG a0 (Cp LL).length c0) (Cp LL):=ja.grown (grownBy_setCell' _ _ _) λq hq=>λe=>by
   have:=jb.not_row (e:=9) (by decide) ja;injection e with e;exact this (by rw[hq,e])
  have jz:Af Co W2 w.heap.size (aG a0 (Cp LL).length c0) (Cp LL):=by
   rw[<- jj];refine jy.grown (grownBy_setCell' _ _ _) λq hq=>λe=>?_;have:=jc.not_row (e:=9) (by decide) ja;injection e with e;exact this (by rw[hq,e])
  have jA:Af Co (W2.putObj D' (.deferred oS)) w.heap.size (aG a0 (Cp LL).length c0) (Cp LL):=ownsRow_putObj jz _ jn rfl;rw[jj];clear jj;refine⟨by simp,.inl ⟨_,_,rfl,run_takeDeferred jn,?_⟩⟩;have f2:=(r2.kept (grownBy_putObj' W2 D' (.deferred oS)) (λe=>by injection e with e;omega)).cell;have f3:=(r3.kept (grownBy_putObj' W2 D' (.deferred oS)) (λe=>by injection e with e;omega)).cell;refine⟨.tuple #[aG a0 (Cp LL).length c0,aH oF],by simp[results,Tryz.f131,go_sem,f2,f3],by rw[jr];exact .inl ⟨jl,_,rfl,jA,ju.trans (belowK_b (w:=w) (A5 _) W2 D' _ _ (by omega) jn rfl rfl)⟩⟩
 case stop =>
  rintro D' c' pre W jv jp ⟨⟨⟨⟨rfl,jo⟩,jb⟩,jc⟩,hB⟩ hK
  gi_wp2
  refine⟨by simp,.inl ⟨_,_,rfl,run_takeDeferred hK,?_⟩⟩;have f2:=(jb.kept (grownBy_putObj' W D' (.deferred oS)) (λe=>by injection e with e;omega)).cell;have f3:=(jc.kept (grownBy_putObj' W D' (.deferred oS)) (λe=>by injection e with e;omega)).cell;refine⟨.tuple #[aG oS 0 0,aH oH],by simp[results,Tryz.f131,go_sem,f2,f3],.inr ⟨λh=>jo (h.pre jp),rfl,hB.trans (belowK_b (w:=w) (A5 _) W D' _ _ (by omega) hK rfl rfl)⟩⟩
def O4 (D:List Nd)(a:Option Zj)(c:Nat)(w:Z0)(hD:Cj w a D)(ja:oB D<=9223372036854775807)(hC:Mg D)(h:EK (visitL D 22 0 []).1) :
  Zu Z1 131 #[aG a D.length c] w λe w'=>∃ a1 c1,e=aP (.tuple #[aG a1 (Cp (visitL D 22 0 []).1).length c1,aH oF])/\Af Co w' w.heap.size (aG a1 (Cp (visitL D 22 0 []).1).length c1) (Cp (visitL D 22 0 []).1)/\Below w.heap.size w w':=by
 refine(collect_any D a c w hD ja hC).mono ?_;rintro e w1 (⟨-,v,rfl,ho,hb⟩ | ⟨hn, -, -⟩)
 ·obtain⟨a1,c1,rfl, -, -⟩:=ho.form;exact⟨a1,c1,rfl,ho,hb⟩
 · exact absurd h hn
def P5 (D:List Nd)(a:Option Zj)(c:Nat)(w:Z0)(hD:Cj w a D)(ja:oB D<=9223372036854775807)(hC:Mg D)(h:¬ EK (visitL D 22 0 []).1) :
  Zu Z1 131 #[aG a D.length c] w λe w'=>e=aP (.tuple #[aG oS 0 0,aH oH])/\Below w.heap.size w w':=by
 refine(collect_any D a c w hD ja hC).mono ?_;rintro e w1 (⟨hn, -⟩ | ⟨hn,rfl,hb⟩)
 · exact absurd hn h
 · exact⟨rfl,hb⟩
def RK (L:List ByteArray)(n:Nat)(a:Option Zj)(cap:Nat)(w:Z0)(hR:BZ w a L)(hL:n=oB L)(hn:n<=9223372036854775807)(hc:n<=cap)(hT:Tab w)(h:Cx L) :
  Zu Z1 42 #[aG a n cap] w λe w'=>∃ a c,e=aP (.tuple #[aG a (ofF (Am 0 L)).length c,aA aM 0])/\(ofF (Am 0 L)).length<=c/\(ofF (Am 0 L)).length<=4200/\Cj w' a (ofF (Am 0 L))/\Below w.heap.size w w':=by
 refine(build_any L n a cap w hR hL hn hc hT).mono ?_;rintro e w1 (⟨-,h⟩ | ⟨hn, -⟩)
 · exact h
 · exact absurd h hn
noncomputable def BJ (D:List Nd):List ByteArray:=@ite _ (EK (visitL D 22 0 []).1) (Xr _) (Cp (visitL D 22 0 []).1) []
def KE {D:List Nd}(h:EK (visitL D 22 0 []).1):BJ D=Cp (visitL D 22 0 []).1:=if_pos h
def RL {D:List Nd}(h:¬ EK (visitL D 22 0 []).1):BJ D=[]:=if_neg h
def RM (D:List Nd)(a:Option Zj)(c:Nat)(w:Z0)(hD:Cj w a D)(ja:oB D<=9223372036854775807)(hC:Mg D) :
  Zu Z1 104 #[aG a D.length c] w λe w'=>∃ a1 c1,e=aP (aG a1 (BJ D).length c1)/\BZ w' a1 (BJ D)/\(BJ D).length<=c1/\Below w.heap.size w w':=by
 have HD:=A0 hD;clear hD;by_cases h:EK (visitL D 22 0 []).1
 ·have HY:=A0 (KE h);have HH:=A0 h;clear h
  go_enter Tryz.func104,Tryz.ntmps104
  go_wp2_with (first
   | (go_at_call 131;refine(O4 D a c w HD ja hC HH).mono ?_;rintro e w1 ⟨a1,c1,rfl,ho,hb⟩;have HO:=A0 ho;have HB:=A0 hb;clear ho hb))
  go_ret;have:=HO.strs;rw[HY.out];exact⟨_,_,rfl,this.1,this.2.2,HB⟩
 ·have HY:=A0 (RL h);have HH:Hid (¬ EK (visitL D 22 0 []).1):=h;clear h
  go_enter Tryz.func104,Tryz.ntmps104
  go_wp2_with (first
   | (go_at_call 131;refine(P5 D a c w HD ja hC HH).mono ?_;rintro e w1 ⟨rfl,hb⟩;have HB:=A0 hb;clear hb))
  go_ret;rw[HY.out];exact⟨_,_,rfl,BZ.nil _ _,A5 _,HB⟩
def toB (l:Wd):ByteArray:=⟨l.toArray⟩
def QE {L:List ByteArray}(hd:Cx L):(ofF (Am 0 L)).length<=4200:=by
 have hle:=Sl hd.okR.1;have hln:(Am 0 L).length=oB L:=by simp[Am]
 have:=hd.2.1;omega
def KF (ws:Wd)(l:Wd):ByteArray × Bool:=(toB (ws ++ l),oF)
def RN (c:Nat)(g:Rst)(G:List (Nat × Rst)):L9 ((c,g) :: G)=g.map (Zy c :: ·) ++ L9 G:=rfl
def RO {Mt:List Rst}{n:Nat}{rec:Int->List UInt8->List (ByteArray × Bool) × Bool}{ws:Wd}:∀ {G:List (Nat × Rst)} {X:List Ar},DA Mt n G X ->
  (∀ (c t:Nat) (g:Rst),(c,g)∈G->t<n->Mt[t]? = oT g->rec (t:Int) (ws ++ [Zy c])=(g.map (KF (ws ++ [Zy c])),oF))->EJ rec ws X=((L9 G).map (KF ws),oF):=by
 intro G X hA
 induction hA with
 | nil=>intro _;rfl
 | @cons c t g G X h1 h2 h3 _ ih =>
  intro hr;have h:=hr c t g (by simp) h2 h3;have ih2:=ih λc t g hg=>hr c t g (Zm _ hg);have e:Zy (c:Int).toNat=Zy c:=by rw[ZW]
  rw[EJ];simp only[e,h,if_pos,ih2];rw[RN,XI,List.map_map];have:(KF ws ∘ λx=>Zy c :: x)=KF (ws ++ [Zy c]):=by
   funext l;simp[KF]
  rw[this]
def Vi {r:Rst}(h:OkR r)(hf:GI r=oH):grp r≠[]:=by
 intro e;have:=recon h.1 h.2.1;rw[hf,e]at this;simp[L9]at this;exact h.2.2 this
def OkR.fst {r:Rst}(h:OkR r):∃ s,s∈r:=List.exists_mem_of_ne_nil _ h.2.2
def visit_tab {Mt:List Rst}{E:List Nd}(hT:WY Mt E):∀ (m k:Nat) (r:Rst) (ws:Wd),Mt[k]? = oT r->(∀ s∈r,oB s<m)->(∀ s∈r,oB ws+oB s<=20)->visitL E m (k:Int) ws=(r.map (KF ws),oF)
 | 0,k,r,ws,hk,hm,_=>by
  exfalso;have ja:=hT.ok r (ze hk);obtain⟨s,hs⟩:=ja.fst;have:=hm s hs;omega
 | m
   +
    1,k,r,ws,hk,hm,hw=>by
  have ja:=hT.ok r (ze hk);have jd:k<oB E:=by rw[<- hT.len];exact(Zh.1 hk).1
  obtain⟨r',h1,h2,h3⟩:=hT.nd k jd;obtain rfl:r=r':=by rw[hk]at h1;injection h1
  have jc:E.getD (k:Int).toNat default=E[k]:=by rw[ZW,AS,AC jd];rfl
  have je:¬ ((E[k].fin=oH)/\E[k].arcs=[]):=by
   rintro⟨a,b⟩;rw[h2]at a;have:=h3.len;rw[b]at this;exact Vi ja a (Zo this.symm)
  obtain⟨s0,jh⟩:=ja.fst;have jb:JK E (k:Int) ws=oH:=by
   unfold JK;rw[jc];have:=hw s0 jh;have e1:¬ (k:Int)<0:=by omega
   have e2:¬ (oB E:Int)<=k:=by omega
   have e3:¬ 20<oB ws:=by omega
   simp only[e1,e2,e3,decide_false,Bool.or_false,Bool.false_or,Xc,Bool.not_eq_false'];by_cases hf:E[k].fin=oF
   · exact .inl hf
   · exact .inr (decide_eq_false λh=>je ⟨by simpa using hf,h⟩)
  rw[visitL,if_neg (by rw[jb];simp),jc];have hA:=RO (rec:=visitL E m) (ws:=ws) h3 λc t g hg ht hM=>by
   obtain⟨g1,g2,g3,g4⟩:=Jd hg;simp only at g3;refine visit_tab hT m t g _ hM (λs hs=>?_) (λs hs=>?_)
   ·rw[g3]at hs;obtain⟨b,_,h5⟩:=Eg.1 hs;have:=hm _ h5;simp at this;omega
   ·rw[g3]at hs;obtain⟨b,_,h5⟩:=Eg.1 hs;have:=hw _ h5;simp at this ⊢;omega
  rw[hA,h2];have jg:r.map (KF ws)=(if GI r=oF then[((⟨ws.toArray⟩:ByteArray),oF)] else[]) ++ (L9 (grp r)).map (KF ws):=by
   have jf:=recon ja.1 ja.2.1;refine(congrArg (List.map (KF ws)) jf).trans ?_;rw[XI];congr 1;split
   · simp[KF,toB]
   · rfl
  rw[jg]
def O5 {L:List ByteArray}(hd:Cx L):(visitL (ofF (Am 0 L)) 22 0 []).1=L.map λs=>(s,oF):=by
 obtain⟨Mt,ja,h0⟩:=P0 hd.okR.1 hd.okR.2;have h:=visit_tab ja 22 0 (Am 0 L) [] h0 (λs hs=>by have:=hd.okR.2 s hs;omega) (λs hs=>by have:=hd.okR.2 s hs;simp;omega);have e:((0:Nat):Int)=0:=rfl;rw[e]at h;rw[h];show(Am 0 L).map (KF [])=_;unfold Am;rw[List.map_map];congr 1
def Vj {L:List ByteArray}(hd:Cx L):EK (visitL (ofF (Am 0 L)) 22 0 []).1:=by
 rw[O5 hd];refine⟨λx hx=>?_,by rw[AQ];exact hd.2.1⟩;obtain⟨s,_,rfl⟩:=AJ.1 hx;rfl
def Vk {L:List ByteArray}(hd:Cx L):Cp (visitL (ofF (Am 0 L)) 22 0 []).1=L:=by
 rw[O5 hd];unfold Cp;rw[List.map_map];exact List.map_id'' (λ_=>rfl) _
def Sr {L:List ByteArray}(hd:Cx L):BJ (ofF (Am 0 L))=L:=by rw[KE (Vj hd),Vk hd]
structure BR where
 a:Option Zj
 n:Nat
 c:Nat
 Z:Nat->Int
instance:Inhabited BR:=⟨⟨none,0,0,λ_=>0⟩⟩
def GP (w:Z0)(a:Option Zj)(len:Nat)(Q:Nat->BR):Prop :=
 ∀ i,i<len->∃ b o,a=oT ⟨b,o,oS⟩/\b<w.heap.size/\w.cell? ⟨b,o+i,oS⟩=oT (aG (Q i).a (Q i).n (Q i).c)/\Bt w (Q i).a (Q i).n (Q i).Z/\(Q i).n<=9223372036854775807
def GP.later {w w1:Z0}{a:Option Zj}{len:Nat}{Q:Nat->BR}{B:Nat}(h:GP w a len Q)(hb:Below B w w1)(hB:w.heap.size<=B):GP w1 a len Q:=λi hi=>by
 obtain⟨b,o,ha,h1,h2,h3,h4⟩:=h i hi;exact⟨b,o,ha,by have:=hb.size;omega,(hb.cell (p:=⟨b,o+i,oS⟩) (by show b<B;omega)).trans h2,h3.later hb hB,h4⟩
def Mh (a:Option Zj)(b o len cap k:Nat)(ha:a=oT ⟨b,o,oS⟩)(hk:k<len)(w:Z0) :
  (ZK 25 (aG a len cap) (aA aM (k:Int))).run Z1 w=.ok (aB (oT ⟨b,o+k,oS⟩)) w:=by
 subst ha;have h0:(0:Int)<=(k:Int):=by omega
 have h1:(k:Int)<(len:Int):=by omega
 simp[go_sem,h0,h1]
def UU {L:List ByteArray}(hd:Cx L):Mg (ofF (Am 0 L)):=λi hi x hx=>by
 obtain⟨Mt,ja, -⟩:=P0 hd.okR.1 hd.okR.2;obtain⟨r,_,_,h3⟩:=ja.nd i hi;obtain⟨⟨p1,p2,p3⟩,p4⟩:=h3.mem x hx;have:=QE hd;exact⟨p1,by omega,by omega,by omega⟩
def Ss {L:List ByteArray}(h1:1<=oB L)(h2:oB L<=200)(hw:∀ x∈L,D4 x=oF)(hs:L.Pairwise λx y=>ltS x y=oF):Cx L :=
 ⟨h1,h2,λi hi _=>⟨hw _ (AI hi),λh0=>List.pairwise_iff_getElem.1 hs (i - 1) i (by omega) hi (by omega)⟩⟩
def UV {a b:ByteArray}(h:ltS a b=oH)(jb:a≠b):ltS b a=oF:=by
 have:=Hj a.toList b.toList;unfold ltS at h ⊢;have ja:(a.toList == b.toList)=oH:=by
  cases e:(a.toList == b.toList)
  · rfl
  · exact absurd (by rw[I8]at e;exact of_decide_eq_true e) jb
 rw[h,ja]at this;simpa using this.symm
def UW (a:ByteArray):ltS a a=oH:=by
 have:=Hj a.toList a.toList;unfold ltS;cases h:Zz a.toList a.toList
 · rfl
 · rw[h]at this;simp at this
def UX {L:List ByteArray}(h1:1<=oB L)(h2:oB L<=200)(h3:(Zt L.length).all (λi=>D4 (L.getD i ⟨#[]⟩) && (i == 0 || Zz (L.getD (i - 1) ⟨#[]⟩).data.toList (L.getD i ⟨#[]⟩).data.toList))=oF):Cx L:=by
 refine⟨h1,h2,λi hi _=>?_⟩;have h:=Zr.1 h3 i (Aa.2 hi);rw[AS,AC hi]at h;simp only[Xh,Zg,Y2,beq_iff_eq]at h;refine⟨h.1,λh0=>?_⟩;rcases h.2 with h' | h'
 · omega
 ·rw[AS,AC (by omega)]at h';rw[ltS,ZQ,ZQ];exact h'
def St {w:Z0}{g:Nat}{cs:Array Z6}{t:X5}{fz:Nat × Nat}{L:List ByteArray}(h:w.heap[g]? = oT (.cells cs t fz))(ja:cs.toList=L.map xB):BZ w (oT ⟨g,0,oS⟩) L:=λk hk=>by
 refine⟨g,0,rfl,(A7.1 h).1,?_⟩;rw[Z3 _ _ _ _ _ _ h,<- ZL,ja];simp[hk]
structure KG (w:Z0)(a:Option Zj)(n c:Nat)(L:List ByteArray):Prop where
 dict:Cx L
 len:n=(ofF (Am 0 L)).length
 cap:n<=c
 rows:Cj w a (ofF (Am 0 L))
def KG.later {w w1:Z0}{a:Option Zj}{n c:Nat}{L:List ByteArray}(h:KG w a n c L)(hb:Below w.heap.size w w1):KG w1 a n c L:=⟨h.dict,h.len,h.cap,h.rows.later hb (A5 _)⟩
def KG.go {w w1:Z0}{a:Option Zj}{n c:Nat}{L:List ByteArray}(h:KG w a n c L)(hb:Below w.heap.size w w1):KG w1 a n c L:=h.later hb
def Tab.go {w w1:Z0}(h:Tab w)(hb:Below w.heap.size w w1):Tab w1:=h.later hb
def KG.big {w:Z0}{a:Option Zj}{n c:Nat}{L:List ByteArray}(h:KG w a n c L):(ofF (Am 0 L)).length<=9223372036854775807:=by
 have h1:=QE h.dict;omega
def UY {L:List ByteArray}{n:Nat}{a:Option Zj}{cap:Nat}{w:Z0}(hd:Cx L)(hR:BZ w a L)(hL:n=oB L)(hc:n<=cap)(hT:Tab w) :
  Zu Z1 42 #[aG a n cap] w λe w'=>∃ a n c,e=aP (.tuple #[aG a n c,aA aM 0])/\KG w' a n c L/\Below w.heap.size w w':=by
 refine(RK L n a cap w hR hL (by have:=hd.2.1;omega) hc hT hd).mono ?_;rintro e w1 ⟨a1,c1,rfl,ja,h2,h3,hb⟩;exact⟨a1,_,c1,rfl,⟨hd,rfl,ja,h3⟩,hb⟩
open Go.ChangeShapes Go.WideShapes Go.ChangeAt Go.RowKit
structure RP where
 a:Option Zj
 len:Nat
 cap:Nat
 Z:Nat->Int
def RP.val (x:RP):Z6:=aG x.a x.len x.cap
structure VH (w:Z0)(x:RP):Prop where
 by':Bt w x.a x.len x.Z
 le:x.len<=9223372036854775807
section
variable {H:Type} {enc:TypeId × Value->H} {w:World} {base:Nat} {spare:Nat->Bool} {held:Bool} {d:DataW H} {p:List MemPlace} {r:Reach} {b0:Nat} {v:Value}
open Go.Deep in
def slice_bytes {fuel:Nat}{cs:List Z6}{x:DataW H × List MemPlace}(h:z7 enc Z1 w base spare held fuel 26 cs=oT x):∃ a len cap Z,cs=[aG a len cap]/\Bt w a len Z/\len<=9223372036854775807:=by
 rcases open_slice1 Xv (by kernel_rfl) h with⟨h0,_⟩ | ⟨ad,l,c,m,n,V,D,Pl,h0,hba,hl,jb,jd,_,jc⟩
 · exact⟨oS,0,0,λ_=>0,h0,.inl rfl,by omega⟩
 ·have hlm:l<=m:=by rw[jd];split <;> omega
  have ja:l<=9223372036854775807:=by unfold maxLen at jb;omega
  have key:∀ i,i<l->∃ z,w.cell? (ad.add i)=oT (aA aO z)/\0<=z/\z<=255:=λi hi=>by
   obtain⟨h1,h2⟩:=jc i (by omega);obtain⟨z,hz,_,hw⟩:=zL Xg h2;have:V i=aA aO z:=Xb hz;rw[this]at h1;exact⟨z,h1,bounds_u8 hw⟩
  by_cases h9:l=0
  · exact⟨oT ad,l,c,λ_=>0,h0,.inl h9,ja⟩
  ·obtain⟨Z,hZ⟩:=choose_lt (α:=Int) key;obtain⟨b,o,sp⟩:=ad;have hs:=xb (hZ 0 (by omega)).1;obtain rfl:sp=oS:=by simpa[Addr.add] using hs
   refine⟨oT ⟨b,o,oS⟩,l,c,Z,h0,.inr ⟨b,o,rfl,ja,?_,λi hi=>?_⟩,ja⟩
   ·have:=World.block_lt_of_cell? w _ (hZ 0 (by omega)).1
    rwa [Cw]at this
   ·have hk:=hZ i hi;rw[addr_add]at hk;exact hk
def P6 (hv:Value.okWide Z1 w r b0 26 v)(h:DataW.Trod enc Z1 w base spare held 26 v d p):∃ x:RP,v=x.val/\VH w x:=by
 obtain⟨a,len,cap,rfl⟩:=okWide_slice Xv hv;obtain⟨f,hf⟩:=h;have ja:z7 enc Z1 w base spare held f 26 [aG a len cap]=oT (d,p):=by simpa[Value.cells] using hf
 obtain⟨a1,l1,c1,Z,h0,h1,h2⟩:=slice_bytes ja;cases h0;exact⟨⟨a,len,cap,Z⟩,rfl,h1,h2⟩
end
def Wv:Tryz.prog.globalNamed "internal/strconv.uint64pow10" = some 0:=by kernel_rfl
def WZ:(Tryz.prog.globals[0]?).map (·.type)=oT 271:=by kernel_rfl
def Su {W:Z0}(h:laidMetH Z1 [("math/bits.deBruijn32tab",Rows.laid_math_bits_deBruijn32tab),("math/bits.deBruijn64tab",Rows.laid_math_bits_deBruijn64tab),("internal/strconv.uint64pow10",Rows.laid_internal_strconv_uint64pow10)] W):Tab W:=by
 obtain⟨ps,h1,_⟩:laidMet Z1 [("math/bits.deBruijn32tab",Rows.laid_math_bits_deBruijn32tab),("math/bits.deBruijn64tab",Rows.laid_math_bits_deBruijn64tab),("internal/strconv.uint64pow10",Rows.laid_internal_strconv_uint64pow10)] W:=h;obtain ⟨_,_,_,_,_,q1,_,_,_,_,h2,_⟩:=h1;obtain ⟨_,_,_,_,_,q2,_,_,_,_,h3,_⟩:=h2;obtain ⟨g',t',cs,fuel,p,q,jc,jd,ja,hd,_,_⟩:=h3;obtain rfl:=Option.some.inj (Wv.symm.trans jc);obtain rfl:=Option.some.inj (WZ.symm.trans jd);have jb:z7 (λ_=>()) Z1 W 0 (λ_=>true) false fuel 271 cs.toList=some (Lib.tabData .u64 Lib.pow10Tab,p):=hd;show W.var? Z1 "internal/strconv.uint64pow10" = _;rw [ja,<- Lib.cells_of_tab Tryz.underlying271 Tryz.underlying259 (by kernel_rfl) (by kernel_rfl) jb]
def putCells (w:Z0)(g:Nat)(cs:Array Z6):Z0 :=
 { w
   with heap:=w.heap.modify g fun
   | .cells _ t f=>.cells cs t f
   | o=>o }
noncomputable def Iq (os:Os):Z0 :=
 putCells (putCells (putCells (World.holding Z1 os ⟨#[],#[],[]⟩) 0 #[aA .u64 1,aA .u64 10,aA .u64 100,aA .u64 1000,aA .u64 10000,aA .u64 100000,aA .u64 1000000,aA .u64 10000000,aA .u64 100000000,aA .u64 1000000000,aA .u64 10000000000,aA .u64 100000000000,aA .u64 1000000000000,aA .u64 10000000000000,aA .u64 100000000000000,aA .u64 1000000000000000,aA .u64 10000000000000000,aA .u64 100000000000000000,aA .u64 1000000000000000000,aA .u64 10000000000000000000])
  1 #[aA aO 0,aA aO 1,aA aO 28,aA aO 2,aA aO 29,aA aO 14,aA aO 24,aA aO 3,aA aO 30,aA aO 22,aA aO 20,aA aO 15,aA aO 25,aA aO 17,aA aO 4,aA aO 8,aA aO 31,aA aO 27,aA aO 13,aA aO 23,aA aO 21,aA aO 19,aA aO 16,aA aO 7,aA aO 26,aA aO 12,aA aO 18,aA aO 6,aA aO 11,aA aO 5,aA aO 10,aA aO 9])
  2 #[aA aO 0,aA aO 1,aA aO 56,aA aO 2,aA aO 57,aA aO 49,aA aO 28,aA aO 3,aA aO 61,aA aO 58,aA aO 42,aA aO 50,aA aO 38,aA aO 29,aA aO 17,aA aO 4,aA aO 62,aA aO 47,aA aO 59,aA aO 36,aA aO 45,aA aO 43,aA aO 51,aA aO 22,aA aO 53,aA aO 39,aA aO 33,aA aO 30,aA aO 24,aA aO 18,aA aO 12,aA aO 5,aA aO 63,aA aO 55,aA aO 48,aA aO 27,aA aO 60,aA aO 41,aA aO 37,aA aO 16,aA aO 46,aA aO 35,aA aO 44,aA aO 21,aA aO 52,aA aO 32,aA aO 23,aA aO 11,aA aO 54,aA aO 26,aA aO 40,aA aO 15,aA aO 34,aA aO 20,aA aO 31,aA aO 10,aA aO 25,aA aO 14,aA aO 19,aA aO 9,aA aO 13,aA aO 8,aA aO 7,aA aO 6]
def Sv (os:Os)(args:Array Z6):laidMet Z1 [("math/bits.deBruijn32tab",Rows.laid_math_bits_deBruijn32tab),("math/bits.deBruijn64tab",Rows.laid_math_bits_deBruijn64tab),("internal/strconv.uint64pow10",Rows.laid_internal_strconv_uint64pow10)] ((Iq os).forCall (λ_ _=>0) ⟨#[],args,[]⟩).memory :=
 laidMet_of_run' 8 (by kernel_rfl) (by kernel_rfl)
end Go.Proofs.YtpljngaejaehcaaGreatDoor
