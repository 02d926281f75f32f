/- Texts that the claims share. -/
import Derived.Test.YtpljngaejaehcaaGreatDoorMD2
import Derived.Test.YtpljngaejaehcaaGreatDoorMD1
import Derived.Test.YtpljngaejaehcaaGreatDoorMD4
import Derived.Deep.QuietTactic
import Derived.Test.YtpljngaejaehcaaGreatDoorMF1
open Go.Value renaming int->aA,pointer->aB,slice->aG,bool->aH,string->aI,agg->aJ,slice->Zk,bool->Y7,int->X3
open Go.Obj renaming cells->aK,cells->Xa
open Go.IntKind renaming i64->aM,u8->aO
open Go.Ending renaming returned->aP
open Go.Act renaming eval->Zf,put->ZE
open Go renaming Addr->Zj,Calls->Zu,Value->Z6,World->Z0,cell_of_row->Z3,heap_alloc_new->Z4,undef->Z8,TypeId->X5
open Go.RowKit.Below renaming block->Z7,cell->Zx,heap_alloc->ZF,heap_setCell->Zc,mono->ZT,refl->Z2,size->XE,trans->Y9
open Bool renaming and_eq_true->Zg,or_eq_true->Y2,true->oF,false->oH,and_false->zM,false_and->zN,true_and->zC
open Eq renaming trans->zX
open Go.Instr renaming indexAt->ZK
open Int renaming toNat_natCast->ZW,eq_ofNat_of_zero_le->ZY
open Go.IntWalk renaming i64_in->Zq
open List.Pairwise renaming imp_of_mem->XY,nil->xi
open List renaming append_assoc->Zw,append_nil->Xe,cons_append->ZG,eq_nil_of_length_eq_zero->Zo,flatMap_cons->ZA,foldl->Zp,getElem?_eq_some_iff->Zh,getElem_append_left->Y8,getElem_append_right->zP,length_set->ZD,mem_iff_getElem->ZH,mem_of_find?_eq_some->XN,mem_of_getElem?->ze,nil_append->ZP,not_mem_nil->ZN,pairwise_append->Xx,prefix_refl->Xt,range'->Zd,setIfInBounds_toArray->Z5,set_cons_succ->Za,set_cons_zero->Z9,take_append_drop->XD,length->oB,append_toArray->XP,drop_eq_nil_of_le->Xn,getElem?_map->XG,length_cons->Zs,length_nil->X7,push_toArray->zo,range->Zt,range_succ->z6,size_toArray->zm
open Nat renaming lt_succ_self->Y6,not_lt_zero->Xj,zero_add->ZS,zero_le->Ze,testBit_two_pow->X4
open Go.Op renaming bytesLess->Zz
open Go.Region renaming binds->Zl
open Go.Proofs.Tryz renaming prog->Z1,underlying36->Y5
open UInt8 renaming lt_iff_toNat_lt->XT,ofNat->Zy,toNat_inj->zt,toNat_ofNat'->zw
open Go.World renaming cell?_of_block->zb,frozen?->Zn,setCell->zy,size_drew->Zi,size_setCell->Zb
open Option renaming none->oS,some->oT
open Array renaming getElem?_modify->X6,replicate->Xd,replicate_succ->zc,replicate_zero->zd
open Go.Exit renaming inBlock->zU
set_option maxHeartbeats 6400000
set_option maxRecDepth 100000
set_option linter.unusedVariables false
set_option linter.unusedSimpArgs false
set_option linter.defProp false
namespace Go.Proofs.YtpljngaejaehcaaGreatDoor
open Go.RowKit Go.WideShapes Fl
def KH:∀ (p:List UInt8) {a b:UInt8} {u v:List UInt8},Zz (p ++ a :: u) (p ++ b :: v)=true->a.toNat<=b.toNat
 | [],a,b,u,v,h=>by
  simp only[ZP,Zz,Y2,Zg,decide_eq_true_eq,beq_iff_eq,XT]at h;rcases h with h | ⟨h,_⟩
  · omega
  · rw[h];exact A5 _
 | x :: p,a,b,u,v,h=>by
  simp only[ZG,Zz,Y2,Zg,decide_eq_true_eq,beq_iff_eq,XT,Nat.lt_irrefl,false_or,true_and]at h;exact KH p h
def Sw:∀ x:List UInt8,Zz x x=false
 | []=>rfl
 | a :: x=>by
  have h:¬ a<a:=by rw[XT];omega
  simp[Zz,h,Sw x]
structure TrX (T:List Bn)(X:List (List UInt8)):Prop where
 len:X.length=T.length
 zero:X[0]? = some []
 nd:X.Nodup
 fwd:∀ (n:Nat) (hn:n<T.length),∀ x∈T[n].arcs,0<=x.c/\x.c<256/\0<=x.t/\x.t<(T.length:Int)/\X[x.t.toNat]? = some ((X[n]'(by omega)) ++ [Zy x.c.toNat])
 bwd:∀ (n t:Nat) (hn:n<T.length) (c:UInt8),X[t]? = some ((X[n]'(by omega)) ++ [c])->(⟨(c.toNat:Int),(t:Int)⟩:Ar)∈T[n].arcs
 sorted:∀ (n:Nat) (hn:n<T.length),T[n].arcs.Pairwise λx y=>x.c<y.c
 clo:∀ (p q:List UInt8),p ++ q∈X->p∈X
section
variable {T:List Bn} {X:List (List UInt8)}
def KI {α:Type}{X:List α}(h:X.Nodup){i j:Nat}{x:α}(hi:X[i]? = some x)(hj:X[j]? = some x):i=j:=by
 obtain⟨h1,e1⟩:=Zh.1 hi;obtain⟨h2,e2⟩:=Zh.1 hj;exact(List.getElem_inj h).1 (e1.trans e2.symm)
def ofNat_toNat {c:Int}(h0:0<=c)(h1:c<256):((Zy c.toNat).toNat:Int)=c:=by
 simp only[zw];omega
def TrX.find (h:TrX T X){n:Nat}(hn:n<T.length){c:UInt8}{t:Nat}(ht:X[t]? = some ((X[n]'(by have:=h.len;omega)) ++ [c])) :
  T[n].arcs.find? (λx=>x.c == (c.toNat:Int))=some ⟨(c.toNat:Int),(t:Int)⟩:=by
 have hm:=h.bwd n t hn c ht;cases e:T[n].arcs.find? (λx=>x.c == (c.toNat:Int)) with
 | none =>
  have:=List.find?_eq_none.1 e _ hm;simp at this
 | some x =>
  have h1:=List.find?_some e;simp only[beq_iff_eq]at h1;obtain⟨a1,a2,a3,a4,a5⟩:=h.fwd n hn x (XN e);have e2:Zy x.c.toNat=c:=zt.1 (by have:=ofNat_toNat a1 a2;omega);rw[e2]at a5;have:=KI h.nd a5 ht;obtain⟨xc,xt⟩:=x;simp only at h1 this a3 ⊢;subst h1;congr 2;omega
def TrX.none (h:TrX T X){n:Nat}(hn:n<T.length){c:UInt8}(ht:(X[n]'(by have:=h.len;omega)) ++ [c] ∉ X) :
  T[n].arcs.find? (λx=>x.c == (c.toNat:Int))=none:=by
 rw[List.find?_eq_none];intro x hx;obtain⟨a1,a2,a3,a4,a5⟩:=h.fwd n hn x hx;simp only[beq_iff_eq];intro e;have e2:Zy x.c.toNat=c:=zt.1 (by have:=ofNat_toNat a1 a2;omega);rw[e2]at a5;exact ht (ze a5)
def TrX.fol (h:TrX T X):∀ (o:List UInt8) {n m:Nat} (hn:n<T.length),folT T n o=some m↔X[m]? = some ((X[n]'(by have:=h.len;omega)) ++ o)
 | [],n,m,hn=>by
  have ja:n<X.length:=by have:=h.len;omega
  rw[Xe];constructor
  · intro e;cases e;exact AC ja
  ·intro e;have:=KI h.nd e (AC ja);rw[this];rfl
 | c
   :: r,n,m,hn=>by
  have ja:n<X.length:=by have:=h.len;omega
  by_cases hc:X[n] ++ [c]∈X
  ·obtain⟨t,ht⟩:=List.getElem?_of_mem hc;have hf:=h.find hn ht;obtain⟨h1,e1⟩:=Zh.1 ht;have jb:t<T.length:=by have:=h.len;omega
   rw[folT,AC hn];simp only[hf];show folT T t r=some m↔_;rw[h.fol r jb,e1,Zw];rfl
  ·have hf:=h.none hn hc;rw[folT,AC hn];simp only[hf];constructor
   · intro e;cases e
   ·intro e;refine absurd (h.clo (X[n] ++ [c]) r ?_) hc;rw[Zw];exact ze e
def TrX.trIn (h:TrX T X):Sb T:=λb hb x hx=>by
 obtain⟨n,hn,rfl⟩:=ZH.1 hb;obtain⟨_,_,h1,h2,_⟩:=h.fwd n hn x hx;exact⟨h1,h2⟩
end
def Ek (T:List Bn)(n:Nat)(x:Ar):List Bn:=T.modify n λb=>⟨b.word,b.arcs ++ [x]⟩
def setWord (T:List Bn)(n:Nat)(i:Int):List Bn:=T.modify n λb=>⟨i,b.arcs⟩
def FB (T:List Bn)(n:Nat)(c:UInt8):List Bn:=Ek T n ⟨(c.toNat:Int),(T.length:Int)⟩ ++ [⟨-1,[]⟩]
def Bz (T:List Bn)(n:Nat)(c:UInt8):(FB T n c).length=T.length+1:=by simp[FB,Ek]
def El {T:List Bn}{n k:Nat}{c:UInt8}(hk:k<T.length):(FB T n c)[k]'(by rw[Bz];omega)=if n=k then⟨T[k].word,T[k].arcs ++ [⟨(c.toNat:Int),(T.length:Int)⟩]⟩ else T[k]:=by
 unfold FB Ek;rw[Y8 (by simpa using hk),List.getElem_modify]
def Hq {T:List Bn}{n:Nat}{c:UInt8}:(FB T n c)[T.length]'(by rw[Bz];omega)=⟨-1,[]⟩:=by
 unfold FB Ek;rw[zP (by simp)];simp
def TrX.add {T:List Bn}{X:List (List UInt8)}(h:TrX T X){n:Nat}(hn:n<T.length){c:UInt8}(hc:(X[n]'(by have:=h.len;omega)) ++ [c] ∉ X)(jh:∀ x∈T[n].arcs,x.c<(c.toNat:Int)) :
  TrX (FB T n c) (X ++ [(X[n]'(by have:=h.len;omega)) ++ [c]]):=by
 have hl:=h.len;have je:∀ k (hk:k<X.length),(X ++ [X[n] ++ [c]])[k]'(by rw[AD];omega)=X[k]:=λk hk=>Y8 hk;have jc:∀ k,k<X.length->(X ++ [X[n] ++ [c]])[k]? = X[k]?:=λk hk=>AK hk;have jf:(X ++ [X[n] ++ [c]])[X.length]? = some (X[n] ++ [c]):=by simp
 have jd:∀ t y,(X ++ [X[n] ++ [c]])[t]? = some y->X[t]? = some y\/(t=X.length/\y=X[n] ++ [c]):=λt y ht=>by
  by_cases h1:t<X.length
  · rw[jc t h1]at ht;exact .inl ht
  ·by_cases h2:t=X.length
   · subst h2;rw[jf]at ht;injection ht with ht;exact .inr ⟨rfl,ht.symm⟩
   ·have:=(Zh.1 ht).1;rw[AD,AE]at this;omega
 refine⟨by rw[AD,Bz,AE];omega,by rw[jc 0 (by omega)];exact h.zero,?_,?_,?_,?_,?_⟩
 ·rw[List.nodup_append];refine⟨h.nd,by simp,λa ha b hb=>?_⟩;rw[AF.1 hb];exact λe=>hc (e ▸ ha)
 ·intro
     k hk x hx
  rw[Bz]at hk;by_cases ja:k<T.length
  ·rw[El ja]at hx;have jb:(X ++ [X[n] ++ [c]])[k]'(by rw[AD,AE];omega)=X[k]:=je k (by omega);rw[jb,Bz];by_cases e:n=k
   ·subst e;rw[if_pos rfl]at hx;rcases AY.1 hx with hx | hx
    ·obtain⟨a1,a2,a3,a4,a5⟩:=h.fwd n ja x hx;exact⟨a1,a2,a3,by omega,by rw[jc _ (by omega)];exact a5⟩
    ·rw[AF.1 hx];have:=c.toNat_lt;refine⟨by simp only;omega,by simp only;omega,by simp only;omega,by simp only;omega,?_⟩;simp only[ZW];refine(congrArg (λk=>(X ++ [X[n] ++ [c]])[k]?) hl.symm).trans (jf.trans ?_);simp
   ·rw[if_neg e]at hx;obtain⟨a1,a2,a3,a4,a5⟩:=h.fwd k ja x hx;exact⟨a1,a2,a3,by omega,by rw[jc _ (by omega)];exact a5⟩
  ·obtain rfl:k=T.length:=by omega
   rw[Hq]at hx;cases hx
 ·intro k t hk b ht;rw[Bz]at hk;by_cases ja:k<T.length
  ·have jb:(X ++ [X[n] ++ [c]])[k]'(by rw[AD,AE];omega)=X[k]:=je k (by omega);rw[jb]at ht;rw[El ja];rcases jd t _ ht with h1 | ⟨rfl,h1⟩
   ·have hm:=h.bwd k t ja b h1;split
    · exact List.mem_append_left _ hm
    · exact hm
   ·have e1:=List.append_inj' h1 rfl;have e2:k=n:=(List.getElem_inj h.nd).1 e1.1;have e3:b=c:=by simpa using e1.2
    subst e2 e3;rw[if_pos rfl,hl];simp
  ·obtain rfl:k=T.length:=by omega
   have jb:(X ++ [X[n] ++ [c]])[T.length]'(by rw[AD,AE];omega)=X[n] ++ [c]:=by
    simp only[<- hl];rw[zP (A5 _)];simp
   rw[jb]at ht;rcases jd t _ ht with h1 | ⟨_,h1⟩
   · exact absurd (h.clo (X[n] ++ [c]) [b] (ze h1)) hc
   ·have:=congrArg List.length h1;simp at this
 ·intro k hk;rw[Bz]at hk;by_cases ja:k<T.length
  ·rw[El ja];split
   ·rename_i e;subst e;refine Xx.2 ⟨h.sorted n ja,List.pairwise_singleton _ _,λx hx y hy=>?_⟩;rw[AF.1 hy];exact jh x hx
   · exact h.sorted k ja
  ·obtain rfl:k=T.length:=by omega
   rw[Hq];exact xi
 ·intro
     p q jg
  rw[AY,AF]at jg ⊢;rcases jg with h1 | h1
  · exact .inl (h.clo p q h1)
  ·by_cases hq:q=[]
   · subst hq;rw[Xe]at h1;exact .inr h1
   ·refine .inl (h.clo p q.dropLast ?_);have e1:p ++ q.dropLast=X[n]:=by
     have:=congrArg List.dropLast h1;rw[List.dropLast_append_of_ne_nil hq,List.dropLast_concat]at this;exact this
    rw[e1];exact AI _
def BL (T:List Bn)(n:Nat)(i:Int):(setWord T n i).length=T.length:=by simp[setWord]
def Dt {T:List Bn}{n k:Nat}{i:Int}(hk:k<T.length):(setWord T n i)[k]'(by rw[BL];exact hk)=if n=k then⟨i,T[k].arcs⟩ else T[k]:=by
 unfold setWord;rw[List.getElem_modify]
def EN {T:List Bn}{n k:Nat}{i:Int}(hk:k<T.length):((setWord T n i)[k]'(by rw[BL];exact hk)).arcs=T[k].arcs:=by
 rw[Dt hk];split <;> rfl
def TrX.setWord {T:List Bn}{X:List (List UInt8)}(h:TrX T X)(n:Nat)(i:Int):TrX (setWord T n i) X where
 len:=by rw[BL];exact h.len
 zero:=h.zero
 nd:=h.nd
 fwd k hk x hx:=by
  have ja:k<T.length:=by rw[BL]at hk;exact hk
  rw[EN ja]at hx;obtain⟨a1,a2,a3,a4,a5⟩:=h.fwd k ja x hx;exact⟨a1,a2,a3,by rw[BL];exact a4,a5⟩
 bwd k t hk c ht:=by
  have ja:k<T.length:=by rw[BL]at hk;exact hk
  rw[EN ja];exact h.bwd k t ja c ht
 sorted k hk:=by
  have ja:k<T.length:=by rw[BL]at hk;exact hk
  rw[EN ja];exact h.sorted k ja
 clo:=h.clo
structure FC (W:List (List UInt8))(i k:Nat)(w:List UInt8)(node:Nat)(T:List Bn)(X:List (List UInt8)):Prop where
 tr:TrX T X
 at_:X[node]? = some (w.take k)
 src:∀ p∈X,(∃ j,∃ h:j<W.length,j<i/\p <+: W[j])\/p <+: w.take k
 word:∀ (n:Nat) (hn:n<T.length),T[n].word = -1\/∃ j,∃ h:j<W.length,j<i/\T[n].word=(j:Int)/\X[n]? = some W[j]
 all:∀ (j:Nat) (h:j<W.length),j<i->∃ n,∃ hn:n<T.length,X[n]? = some W[j]/\T[n].word=(j:Int)
 size:T.length<=1+20*i+k
section
variable {W:List (List UInt8)} {i k node:Nat} {w:List UInt8} {T:List Bn} {X:List (List UInt8)}
def FC.node_lt (h:FC W i k w node T X):node<T.length:=by
 have:=(Zh.1 h.at_).1;have:=h.tr.len;omega
def FC.start (W:List (List UInt8))(w:List UInt8):FC W 0 0 w 0 [⟨-1,[]⟩] [[]] where
 tr:=by
  refine⟨rfl,rfl,by simp,?_,?_,?_,?_⟩
  ·intro n hn x hx;have e:n=0:=by simp at hn;omega
   subst e;cases hx
  ·intro n t hn c ht;have e:n=0:=by simp at hn;omega
   subst e;have h1:=(Zh.1 ht).1;have e2:t=0:=by simp at h1;omega
   subst e2;simp at ht
  ·intro n hn;have e:n=0:=by simp at hn;omega
   subst e;exact xi
  ·intro p q h;have:=AF.1 h;simp at this;simp[this.1]
 at_:=by simp
 src p hp:=.inr (by rw[AF.1 hp];exact List.nil_prefix)
 word n hn:=by
  have e:n=0:=by simp at hn;omega
  subst e;exact .inl rfl
 all j h hj:=absurd hj (Xj _)
 size:=by simp
def Cr {w:List UInt8}{k:Nat}(hk:k<w.length):w.take (k+1)=w.take k ++ [w[k]]:=AR hk
def FC.follow (h:FC W i k w node T X)(hk:k<w.length){x:Ar}(hx:x∈(T[node]'h.node_lt).arcs)(hc:x.c=(w[k].toNat:Int)):FC W i (k+1) w x.t.toNat T X:=by
 obtain⟨a1,a2,a3,a4,a5⟩:=h.tr.fwd node h.node_lt x hx;have e2:Zy x.c.toNat=w[k]:=zt.1 (by have:=ofNat_toNat a1 a2;omega);have e3:X[node]'(by have:=h.node_lt;have:=h.tr.len;omega)=w.take k:=(Zh.1 h.at_).2;refine⟨h.tr,?_,λp hp=>(h.src p hp).imp id λh1=>?_,h.word,h.all,by have:=h.size;omega⟩
 · rw[a5,e2,e3,Cr hk]
 · rw[Cr hk];exact h1.trans (List.prefix_append _ _)
def FC.arcs_lt (h:FC W i k w node T X)(hi:i<W.length)(hw:W[i]=w)(jb:W.Pairwise λa b=>Zz a b=true)(hk:k<w.length){x:Ar}(hx:x∈(T[node]'h.node_lt).arcs):x.c<=(w[k].toNat:Int):=by
 obtain⟨a1,a2,a3,a4,a5⟩:=h.tr.fwd node h.node_lt x hx;have e3:X[node]'(by have:=h.node_lt;have:=h.tr.len;omega)=w.take k:=(Zh.1 h.at_).2;rw[e3]at a5;have h2:=ofNat_toNat a1 a2;rcases h.src _ (ze a5) with⟨j,hj,jc,hp⟩ | hp
 ·have h1:=(List.pairwise_iff_getElem.1 jb) j i hj hi jc;obtain⟨u,hu⟩:=hp;rw[hw,<- hu]at h1;have ja:w=w.take k ++ w[k] :: w.drop (k+1):=by
   rw[<- AG hk,XD]
  rw[ja,Zw]at h1;have h3:∀ {p:List UInt8} {a b:UInt8} {u v:List UInt8},Zz (p ++ ([a] ++ u)) (p ++ b :: v)=true->a.toNat<=b.toNat:=λ{p a b u v} h9=>KH p h9;have h4:w.take k=(w.take k ++ w[k] :: w.drop (k+1)).take k:=by rw[<- ja]
  have h5:=KH (w.take k) (a:=Zy x.c.toNat) (b:=w[k]) (u:=u) (v:=w.drop (k+1)) (by
   have h6:Zz (w.take k ++ ([Zy x.c.toNat] ++ u)) w=true:=by
    rw[ja];rw[<- h4];rw[<- h4]at h1;exact h1
   rw[<- ja];exact h6)
  omega
 ·have:=hp.length_le;rw[AD,AE]at this;omega
def FC.add (h:FC W i k w node T X)(hi:i<W.length)(hw:W[i]=w)(jb:W.Pairwise λa b=>Zz a b=true)(hk:k<w.length)(ja:∀ x,(T[node]'h.node_lt).arcs.getLast? = some x->x.c≠(w[k].toNat:Int)) :
  ∃ X',FC W i (k+1) w T.length (FB T node w[k]) X':=by
 have hn:=h.node_lt;have hl:=h.tr.len;have e3:X[node]'(by omega)=w.take k:=(Zh.1 h.at_).2;have jc:∀ x∈T[node].arcs,x.c<(w[k].toNat:Int):=λx hx=>by
  cases e:T[node].arcs.getLast? with
  | none=>rw[List.getLast?_eq_none_iff]at e;rw[e]at hx;cases hx
  | some y =>
   have hy:=List.mem_of_getLast? e;have h1:=h.arcs_lt hi hw jb hk hy;have h2:=ja y e;obtain⟨l,jf⟩:=List.getLast?_eq_some_iff.1 e;have h3:=h.tr.sorted node hn;rw[jf]at h3 hx;rcases AY.1 hx with hx | hx
   ·have:=(Xx.1 h3).2.2 x hx y (by simp);omega
   · rw[AF.1 hx];omega
 have hc:(X[node]'(by omega)) ++ [w[k]] ∉ X:=λhm=>by
  obtain⟨t,ht⟩:=List.getElem?_of_mem hm;have:=jc _ (h.tr.bwd node t hn w[k] ht);simp only at this;omega
 have ji:=h.tr.add hn hc jc;refine⟨_,ji,?_,λp hp=>?_,λn jg=>?_,λj hj je=>?_,?_⟩
 ·have h1:(X ++ [(X[node]'(by omega)) ++ [w[k]]])[X.length]? = some ((X[node]'(by omega)) ++ [w[k]]):=by simp
  rw[Cr hk,<- e3];exact(congrArg (λj=>(X ++ [(X[node]'(by omega)) ++ [w[k]]])[j]?) hl.symm).trans h1
 ·rcases AY.1 hp with hp | hp
  ·refine(h.src p hp).imp id λh1=>?_;rw[Cr hk];exact h1.trans (List.prefix_append _ _)
  ·rw[AF.1 hp,e3,Cr hk];exact .inr (Xt _)
 ·rw[Bz]at jg;by_cases jd:n<T.length
  ·rw[El jd];have hx:(X ++ [(X[node]'(by omega)) ++ [w[k]]])[n]? = X[n]?:=AK (by omega);rw[hx];have:=h.word n jd;split <;> exact this
  ·obtain rfl:n=T.length:=by omega
   rw[Hq];exact .inl rfl
 ·obtain⟨n,jh,h1,h2⟩:=h.all j hj je;refine⟨n,by rw[Bz];omega,?_,?_⟩
  · rw[AK (by omega)];exact h1
  · rw[El jh];split <;> exact h2
 · rw[Bz];have:=h.size;omega
def FC.wordEnd (h:FC W i k w node T X)(hi:i<W.length)(hw:W[i]=w)(jc:W.Pairwise λa b=>Zz a b=true)(hk:¬ k<w.length)(hk20:k<=20)(w':List UInt8):FC W (i+1) 0 w' 0 (setWord T node (i:Int)) X:=by
 have hn:=h.node_lt;have hl:=h.tr.len;have jb:X[node]? = some w:=by rw[h.at_,AH (by omega)]
 refine⟨h.tr.setWord node i,by rw[List.take_zero];exact h.tr.zero,λp hp=>.inl ?_,λn je=>?_,λj hj jd=>?_,?_⟩
 ·rcases h.src p hp with⟨j,hj,jd,h1⟩ | h1
  · exact⟨j,hj,by omega,h1⟩
  · exact⟨i,hi,Y6 _,by rw[hw];exact h1.trans (List.take_prefix _ _)⟩
 ·have ja:n<T.length:=by rw[BL]at je;exact je
  rw[Dt ja];split
  ·rename_i e;subst e;exact .inr ⟨i,hi,Y6 _,rfl,by rw[jb,hw]⟩
  ·rcases h.word n ja with h1 | ⟨j,hj,jd,h1⟩
   · exact .inl h1
   · exact .inr ⟨j,hj,by omega,h1⟩
 ·by_cases e:j=i
  ·subst e;exact⟨node,by rw[BL];exact hn,by rw[jb,hw],by rw[Dt hn,if_pos rfl]⟩
  ·obtain⟨n,ja,h1,h2⟩:=h.all j hj (by omega);refine⟨n,by rw[BL];exact ja,h1,?_⟩;rw[Dt ja,if_neg ?_]
   · exact h2
   ·intro e2;subst e2;rw[jb]at h1;injection h1 with h1;have h3:=(List.pairwise_iff_getElem.1 jc) j i hj hi (by omega);rw[hw,<- h1]at h3;have:Zz w w=false:=Sw w;rw[this]at h3;cases h3
 · rw[BL];have:=h.size;omega
end
structure TrW (T:List Bn)(W:List (List UInt8)):Prop where
 trIn:Sb T
 wd:∀ b∈T,b.word<(W.length:Int)
 pos:0<T.length
 size:T.length<=1+20*W.length
 fol1:∀ o n (k:Nat),folT T 0 o=some n->(CN T n=(k:Int)↔∃ h:k<W.length,W[k]=o)
 fol2:∀ w∈W,∃ n,folT T 0 w=some n
def FC.done {W:List (List UInt8)}{w:List UInt8}{T:List Bn}{X:List (List UInt8)}(h:FC W W.length 0 w 0 T X)(hinc:W.Pairwise λa b=>Zz a b=true):TrW T W:=by
 have hn:=h.node_lt;have hl:=h.tr.len;have h0:X[0]'(by omega)=[]:=(Zh.1 h.tr.zero).2;have hf:∀ o m,folT T 0 o=some m↔X[m]? = some o:=λo m=>by rw[h.tr.fol o hn,h0];rfl
 refine⟨h.tr.trIn,λb hb=>?_,hn,h.size,λo n k ho=>?_,λw hw=>?_⟩
 ·obtain⟨n,jb,rfl⟩:=ZH.1 hb;rcases h.word n jb with h1 | ⟨j,hj,_,h1,_⟩ <;> omega
 ·have hx:=(hf o n).1 ho;have ja:n<T.length:=by have:=(Zh.1 hx).1;omega
  have jc:CN T n=T[n].word:=by unfold CN;rw[AC ja]
  rw[jc];constructor
  ·intro h1;rcases h.word n ja with h2 | ⟨j,hj,_,h2,h3⟩
   · omega
   ·have e:j=k:=by omega
    subst e;rw[hx]at h3;injection h3 with h3;exact⟨hj,h3.symm⟩
  ·rintro⟨hk,rfl⟩;obtain⟨m,hm,h1,h2⟩:=h.all k hk hk;have:=KI h.tr.nd h1 hx;subst this;exact h2
 ·obtain⟨j,hj,rfl⟩:=ZH.1 hw;obtain⟨m,hm,h1,h2⟩:=h.all j hj hj;exact⟨m,(hf _ _).2 h1⟩
def O6 {R:List Rl}{L:List Slt}{i m:Nat}{o:List UInt8}{c:Nat}:RtS (R.filter C5) L i m o c↔RtS R L i m o c:=by
 constructor
 ·intro h
  induction h with
  | start=>exact .start
  | step _ hr hf hm hk ih=>exact .step ih (AZ.1 hr).1 hf hm hk
 ·intro h
  induction h with
  | start=>exact .start
  | step _ hr hf hm hk ih=>exact .step ih (AZ.2 ⟨hr,hf⟩) hf hm hk
def Mi (R:List Rl):Ej (R.filter C5):=λr hr=>(AZ.1 hr).2
def KJ {R:List Rl}{acc:Int}{L:List Slt}{i:Nat}{w:List UInt8}{c:Nat}:Whole (R.filter C5) acc L i w c↔Whole R acc L i w c:=by
 unfold Whole;constructor
 · rintro⟨m,h1,h2⟩;exact⟨m,h1,O6.1 h2⟩
 · rintro⟨m,h1,h2⟩;exact⟨m,h1,O6.2 h2⟩
def FU.fair {R:List Rl}{acc:Int}{L:List Slt}{W:List (List UInt8)}{i:Nat}{l:List (Nat × Nat)}(h:FU (R.filter C5) acc L W i l):FU R acc L W i l :=
 ⟨h.sorted,λk c=>by
  rw[h.mem];exact⟨λ⟨hk,hl⟩=>⟨hk,hl.congr λd=>KJ⟩,λ⟨hk,hl⟩=>⟨hk,hl.congr λd=>KJ.symm⟩⟩⟩
structure Sx (R:List Rl)(acc:Int)(L:List Slt)(W:List (List UInt8))(i:Nat)(l:List (Nat × Nat)):Prop extends FU R acc L W i l where
 low:∀ p∈l,p.2<=900000000000
def Lv {p q:Nat->Prop}{c:Nat}(h1:∀ d,p d->q d)(h2:∀ d,q d->∃ d',d'<=d/\p d'):BX p c↔BX q c:=by
 constructor
 ·rintro⟨h3,h4⟩;refine⟨h1 c h3,λd hd=>?_⟩;obtain⟨d',h5,h6⟩:=h2 d hd;exact AA (h4 d' h6) h5
 ·rintro⟨h3,h4⟩;obtain⟨d',h5,h6⟩:=h2 c h3;have:=h4 d' (h1 d' h6);have e:d'=c:=by omega
  subst e;exact⟨h6,λd hd=>h4 d (h1 d hd)⟩
def Vl {T:List Bn}{W:List (List UInt8)}{R:List Rl}{L:List Slt}{acc:Int}{i:Nat}{M:Nat->Ent}{l:List (Nat × Nat)}(hT:TrW T W)(jb:Inv R L (folT T) i M)(hs:∀ t,Shut R L (folT T) i M t)(hk:Do (M i))(hf:Va T acc (M i) l):FU R acc L W i l where
 sorted:=hf.sorted
 mem
   k c:=by
  rw[hf.mem];have hA:∀ d,(∃ t,(t,d)∈M i/\CN T t.2=(k:Int)/\CL acc t.1=true)->∃ h:k<W.length,Whole R acc L i W[k] d:=by
   rintro d ⟨t,h1,h2,h3⟩;obtain⟨o,h4,h5⟩:=VC (folw T) (jb.sound i t d (Bj hk h1));obtain⟨ja,e⟩:=(hT.fol1 o t.2 k h5).1 h2;exact⟨ja,t.1,h3,by rw[e];exact h4⟩
  constructor
  ·intro hl;obtain⟨ja,_⟩:=hA c hl.1;refine⟨ja,(Lv (λd hd=>(hA d hd).2) λd hd=>?_).1 hl⟩;obtain⟨m,h3,h4⟩:=hd;obtain⟨n,hn⟩:=hT.fol2 W[k] (AI ja);obtain⟨c',h5,h6⟩:=jb.least hs (ST (folw T) h4 hn);exact⟨c',h6,(m,n),CY h5,(hT.fol1 W[k] n k hn).2 ⟨ja,rfl⟩,h3⟩
  ·rintro⟨ja,hl⟩;refine(Lv (λd hd=>(hA d hd).2) λd hd=>?_).2 hl;obtain⟨m,h3,h4⟩:=hd;obtain⟨n,hn⟩:=hT.fol2 W[k] (AI ja);obtain⟨c',h5,h6⟩:=jb.least hs (ST (folw T) h4 hn);exact⟨c',h6,(m,n),CY h5,(hT.fol1 W[k] n k hn).2 ⟨ja,rfl⟩,h3⟩
def M0 (j:Nat):Ent:=if j=0 then[((0,0),0)] else[]
def Ww (R:List Rl)(L:List Slt)(fol:Nat->List UInt8->Option Nat):Inv R L fol 0 M0 where
 sound j t c h:=by
  unfold M0 at h;split at h
  ·rename_i e;subst e;rw[Bl]at h;split at h
   · rename_i e2;injection h with h;subst h;rw[<- e2];exact .start
   · cases h
  · cases h
 comp k t c r t' d hk:=absurd hk (Xj _)
 base _:=⟨0,by simp[M0,Bl],A5 _⟩
def Wx {N D:Nat}(hN:0<N):Bnd N 0 0 D M0 where
 keys j:=by unfold M0;split <;> simp[Do]
 rng j p hp:=by
  unfold M0 at hp;split at hp
  · rw[AF.1 hp];exact⟨by decide,hN⟩
  · cases hp
 here p hp:=by
  simp only[M0,if_pos,AF]at hp;rw[hp];exact Ze _
 next j hj p hp:=by
  unfold M0 at hp;rw[if_neg hj]at hp;cases hp
def nextM (i:Nat)(M:Nat->Ent)(j:Nat):Ent:=if i<j then M j else[]
def Bnd.nextM {N i B D:Nat}{M:Nat->Ent}(h:Bnd N i B D M):Bnd N (i+1) (B+(8*N+1)*D) D (nextM i M) where
 keys j:=by
  unfold Go.Proofs.YtpljngaejaehcaaGreatDoor.nextM;split
  · exact h.keys j
  · exact xi
 rng j p hp:=by
  unfold Go.Proofs.YtpljngaejaehcaaGreatDoor.nextM at hp;split at hp
  · exact h.rng j p hp
  · cases hp
 here p hp:=by
  unfold Go.Proofs.YtpljngaejaehcaaGreatDoor.nextM at hp ⊢;rw[if_pos (Y6 i)]at hp ⊢;have:=h.next (i+1) (by omega) p hp;omega
 next j hj p hp:=by
  unfold Go.Proofs.YtpljngaejaehcaaGreatDoor.nextM at hp;split at hp
  ·have:=h.next j (by omega) p hp;omega
  · cases hp
def Inv.nextM {R:List Rl}{L:List Slt}{fol:Nat->List UInt8->Option Nat}{i:Nat}{M:Nat->Ent}(h:Inv R L fol i M)(hs:∀ t,Shut R L fol i M t):Inv R L fol (i+1) (nextM i M) :=
 h.next hs (λj hj=>if_pos hj) λj hj=>if_neg hj
structure BV where
 word:Int
 a:Option Zj
 n:Nat
 c:Nat
def BV.s (x:BV):Z6:=aG x.a x.n x.c
def GQ:CB BV:=⟨175,189,2,32,aJ #[aA aM 0,aG none 0 0],λx=>[aA aM x.word,aG x.a x.n x.c]⟩
def Em:GQ.Ok:=⟨Tryz.underlying175,by kernel_rfl,rfl,by decide,λ_=>rfl,λx u hu=>by
 have h:u=aA aM x.word\/u=aG x.a x.n x.c:=by simpa[GQ] using hu
 rcases h with rfl | rfl <;> rfl,by decide⟩
def B3 {α:Type}{T:CB α}{w:Z0}{B:Nat}{v:Z6}{L:List α}(h:Af T w B v L){g:Nat}(hg:v.ownBlock=some g):∃ cs,w.heap[g]? = some (.cells cs T.e (0,0)):=by
 rcases h.2 with⟨rfl,_⟩ | ⟨g',cap,cur,rfl,_,h2,_⟩
 · cases hg
 · cases hg;exact⟨_,h2⟩
def Af.setCell {α:Type}{T:CB α}{w:Z0}{B g n c0 i:Nat}{N N':List α}{y:Z6}(h:Af T w B (aG (some ⟨g,0,none⟩) n c0) N)(hl:N'.length=N.length)(hf:N'.flatMap T.enc=(N.flatMap T.enc).set i y)(hi:i<N.length*T.k)(hT:T.Ok) :
  Af T (w.setCell ⟨g,i,none⟩ y) B (aG (some ⟨g,0,none⟩) n c0) N':=by
 rcases h.2 with⟨he,_⟩ | ⟨g',cap,cur,he,h1,h2,h3,h4,h5,h6⟩
 · cases he
 ·injection he with e1 e2 e3;injection e1 with e1;injection e1 with e1 _ _;subst e1;subst e2;subst e3;refine⟨by rw[FT hT,hl],.inr ⟨g,c0,cur.setIfInBounds i y,by rw[hl],h1,heap_setCell_same w g i cur _ y h2,by rw[hl];exact h3,h4,by simpa using h5,?_⟩⟩;rw[hl,hf,<- h6,Array.toList_setIfInBounds,List.take_set]
def enc_set {N:List BV}{k:Nat}(hk:k<N.length)(y:BV){j:Nat}{u:Z6}(hj:j<2)(he:(GQ.enc N[k]).set j u=GQ.enc y):(N.set k y).flatMap GQ.enc=(N.flatMap GQ.enc).set (k*2+j) u:=by
 induction N generalizing k with
 | nil=>simp at hk
 | cons x r ih =>
  cases k with
  | zero =>
   simp only[Z9,ZA,Nat.zero_mul,ZS];rw[<- he,List.set_append_left]
   · rfl
   · show j<2;exact hj
  | succ k =>
   simp only[Za,ZA];rw[ih (by simpa using hk) he,List.set_append_right]
   ·congr 2;show k*2+j=(k+1)*2+j - 2;omega
   · show 2<=(k+1)*2+j;omega
structure TrM (w:Z0)(B:Nat)(v:Z6)(N:List BV)(T:List Bn):Prop where
 own:Af GQ w B v N
 len:N.length=T.length
 row:∀ (k:Nat) (h:k<N.length) (h2:k<T.length),N[k].word=T[k].word/\Af CK w B N[k].s T[k].arcs
 dis:∀ (j k:Nat) (hj:j<N.length) (hk:k<N.length) (q:Nat),j≠k->N[j].s.ownBlock=some q->N[k].s.ownBlock≠some q
section
variable {w w':World} {B:Nat} {v:Value} {N:List BV} {T:List Bn}
def TrM.ext (h:TrM w B v N T)(hx:Ext w w'):TrM w' B v N T :=
 ⟨h.own.later hx (A5 _),h.len,λk h1 h2=>⟨(h.row k h1 h2).1,(h.row k h1 h2).2.later hx (A5 _)⟩,h.dis⟩
def TrM.arcs (h:TrM w B v N T){k:Nat}(hk:k<T.length):∃ hN:k<N.length,N[k].n=T[k].arcs.length/\T[k].arcs.length<=N[k].c/\EC w N[k].a T[k].arcs:=by
 have hN:k<N.length:=by rw[h.len];exact hk
 obtain⟨h1,h2,h3⟩:=(h.row k hN hk).2.arcs;exact⟨hN,h2,h3,h1⟩
def TrM.cells {g n c:Nat}(h:TrM w B (aG (some ⟨g,0,none⟩) n c) N T){k:Nat}(hk:k<T.length):∃ hN:k<N.length,w.cell? ⟨g,k*2,none⟩=some (aA aM T[k].word)/\w.cell? ⟨g,k*2+1,none⟩=some (aG N[k].a T[k].arcs.length N[k].c):=by
 obtain⟨hN,h1,h2,h3⟩:=h.arcs hk;refine⟨hN,?_,?_⟩
 ·have:=h.own.cell Em hN (j:=0) (by decide);rw[show(GQ.enc N[k])[0]? = some (aA aM N[k].word) from rfl,(h.row k hN hk).1]at this;exact this
 ·have:=h.own.cell Em hN (j:=1) (by decide);rw[show(GQ.enc N[k])[1]? = some (aG N[k].a N[k].n N[k].c) from rfl,h1]at this;exact this
def TrM.tree {a:Option Zj}{n c:Nat}(h:TrM w B (aG a n c) N T):Dq w a T:=λk hk=>by
 rcases h.own.blk with⟨_,rfl⟩ | ⟨g,c2,ja,_,hg,_⟩
 · have:=h.len;simp at this;omega
 ·injection ja with f1 f2 f3;subst f1 f2 f3;obtain⟨hN,h1,h2⟩:=h.cells hk;obtain⟨_,h3,h4,h5⟩:=h.arcs hk;have h6:=(h.row k hN hk).2.form;obtain⟨a',c',e1,e2,e3⟩:=h6;refine⟨g,0,rfl,hg,by rw[ZS];exact h1,_,_,by rw[ZS];exact h2,?_,h5⟩;unfold maxLen at e3;omega
def TrM.ne {g n c k:Nat}(h:TrM w B (aG (some ⟨g,0,none⟩) n c) N T)(hk:k<N.length):N[k].s.ownBlock≠some g:=λe=>by
 obtain⟨cs,h1⟩:=B3 h.own (g:=g) rfl;obtain⟨cs2,h2⟩:=B3 (h.row k hk (by rw[<- h.len];exact hk)).2 e;rw[h1]at h2;injection h2 with h2;injection h2 with _ h3;exact absurd h3 (by decide)
def TrM.put1 {g n c k:Nat}{x:Ar}{a':Option Zj}{c':Nat}(h:TrM w B (aG (some ⟨g,0,none⟩) n c) N T)(hk:k<N.length)(jn:k<T.length)(ho:Af CK w' B (aG a' (T[k].arcs.length+1) c') (T[k].arcs ++ [x]))(hg:w.grownBy w' N[k].s.ownBlock)
  (jf:(Zk a' (T[k].arcs.length+1) c').ownBlock=N[k].s.ownBlock\/(Zk a' (T[k].arcs.length+1) c').ownBlock=some w.heap.size) :
  TrM (w'.setCell ⟨g,k*2+1,none⟩ (aG a' (T[k].arcs.length+1) c')) B (aG (some ⟨g,0,none⟩) n c) (N.set k ⟨N[k].word,a',T[k].arcs.length+1,c'⟩) (Ek T k x):=by
 have ji:∀ q,q≠g->(w'.setCell ⟨g,k*2+1,none⟩ (aG a' (T[k].arcs.length+1) c')).heap[q]? = w'.heap[q]?:=λq hq=>Zc _ _ _ _ hq;have jm:=h.own.lt g rfl;have jl:w'.heap[g]? = w.heap[g]?:=hg.block g jm λe=>h.ne hk e.symm;have jc:Af GQ w' B (aG (some ⟨g,0,none⟩) n c) N:=h.own.keep λq hq=>by injection hq with hq;rw[<- hq];exact jl
 have jk:(Zk a' (T[k].arcs.length+1) c').ownBlock≠some g:=λe=>by
  rcases jf with h1 | h1
  · rw[h1]at e;exact h.ne hk e
  · rw[h1]at e;injection e with e;omega
 have jj:(Ek T k x).length=T.length:=by simp[Ek]
 have jo:∀ j (hj:j<T.length),(Ek T k x)[j]'(by rw[jj];exact hj)=if k=j then⟨T[j].word,T[j].arcs ++ [x]⟩ else T[j]:=λj hj=>by
  unfold Ek;rw[List.getElem_modify]
 refine⟨jc.setCell (by simp) (enc_set hk _ (j:=1) (by decide) rfl) (by show k*2+1<N.length*2;omega) Em,by rw[ZD,jj];exact h.len,λj hj jg=>?_,λj j2 hj jg q jh hq=>?_⟩
 ·have ja:j<N.length:=by simpa using hj
  have je:j<T.length:=by rw[<- h.len];exact ja
  rw[jo j je,List.getElem_set];by_cases e:k=j
  ·subst e;rw[if_pos rfl,if_pos rfl];exact⟨(h.row k hk jn).1,ho.keep λq hq=>ji q λe=>jk (by rw[<- e];exact hq)⟩
  ·rw[if_neg e,if_neg e];refine⟨(h.row j ja je).1,(h.row j ja je).2.keep λq hq=>?_⟩;rw[ji q λe2=>h.ne ja (by rw[<- e2];exact hq)];exact hg.block q ((h.row j ja je).2.lt q hq) λe2=>h.dis j k ja hk q (λe3=>e e3.symm) hq e2.symm
 ·have ja:j<N.length:=by simpa using hj
  have jb:j2<N.length:=by simpa using jg
  rw[List.getElem_set]at hq ⊢;by_cases e:k=j
  ·rw[if_pos e]at hq;have e2:¬ k=j2:=λe2=>jh (e.symm.trans e2);rw[if_neg e2];intro e3;have jd:(Zk a' (T[k].arcs.length+1) c').ownBlock=some q:=hq;rcases jf with h1 | h1
   · rw[h1]at jd;exact h.dis k j2 hk jb q e2 jd e3
   ·rw[h1]at jd;injection jd with jd;have:=(h.row j2 jb (by rw[<- h.len];exact jb)).2.lt q e3;omega
  ·rw[if_neg e]at hq;by_cases e2:k=j2
   ·rw[if_pos e2];intro e3;have e3':(Zk a' (T[k].arcs.length+1) c').ownBlock=some q:=e3;rcases jf with h1 | h1
    · rw[h1]at e3';exact h.dis j k ja hk q (λe4=>e e4.symm) hq e3'
    ·rw[h1]at e3';injection e3' with e3';have:=(h.row j ja (by rw[<- h.len];exact ja)).2.lt q hq;omega
   ·rw[if_neg e2];exact h.dis j j2 ja jb q jh hq
def TrM.grow {v':Z6}(h:TrM w B v N T)(ho:Af GQ w' B v' (N ++ [⟨-1,none,0,0⟩]))(hg:w.grownBy w' v.ownBlock)(hB:B<=w'.heap.size):TrM w' B v' (N ++ [⟨-1,none,0,0⟩]) (T ++ [⟨-1,[]⟩]):=by
 have ja:∀ (j:Nat) (hj:j<(N ++ [(⟨-1,none,0,0⟩:BV)]).length),¬ j<N.length->(N ++ [(⟨-1,none,0,0⟩:BV)])[j]=⟨-1,none,0,0⟩:=λj hj hn=>by
  rw[zP (by omega)];have:j - N.length=0:=by rw[AD,AE]at hj;omega
  simp[this]
 refine⟨ho,by rw[AD,AD,h.len];rfl,λj hj jb=>?_,λj j2 hj jb q jc hq=>?_⟩
 ·by_cases e:j<N.length
  ·have eT:j<T.length:=by rw[<- h.len];exact e
   rw[Y8 e,Y8 eT];refine⟨(h.row j e eT).1,(h.row j e eT).2.keep λq hq=>hg.block q ((h.row j e eT).2.lt q hq) λe2=>?_⟩;obtain⟨cs,h1⟩:=B3 h.own e2.symm;obtain⟨cs2,h2⟩:=B3 (h.row j e eT).2 hq;rw[h1]at h2;injection h2 with h2;injection h2 with _ h3;exact absurd h3 (by decide)
  ·rw[ja j hj e];have eT:¬ j<T.length:=by rw[<- h.len];exact e
   have:(T ++ [(⟨-1,[]⟩:Bn)])[j]=⟨-1,[]⟩:=by
    rw[zP (by omega)];have:j - T.length=0:=by rw[AD,AE]at jb;omega
    simp[this]
   rw[this];exact⟨rfl,Af.nil _ _ _⟩
 ·by_cases e:j<N.length
  ·rw[Y8 e]at hq;by_cases e2:j2<N.length
   · rw[Y8 e2];exact h.dis j j2 e e2 q jc hq
   · rw[ja j2 jb e2];intro h9;cases h9
  · rw[ja j hj e]at hq;cases hq
def TrM.word {g n c k:Nat}{i:Int}(h:TrM w B (aG (some ⟨g,0,none⟩) n c) N T)(hk:k<N.length) :
  TrM (w.setCell ⟨g,k*2,none⟩ (aA aM i)) B (aG (some ⟨g,0,none⟩) n c) (N.set k ⟨i,N[k].a,N[k].n,N[k].c⟩) (setWord T k i):=by
 have jf:∀ q,q≠g->(w.setCell ⟨g,k*2,none⟩ (aA aM i)).heap[q]? = w.heap[q]?:=λq hq=>Zc _ _ _ _ hq;have jg:∀ j (hj:j<T.length),(setWord T k i)[j]'(by rw[BL];exact hj)=if k=j then⟨i,T[j].arcs⟩ else T[j]:=λj hj=>Dt hj;have hs:∀ j (hj:j<N.length),((N.set k ⟨i,N[k].a,N[k].n,N[k].c⟩)[j]'(by simpa using hj)).s=N[j].s:=λj hj=>by
  rw[List.getElem_set];split
  · rename_i e;subst e;rfl
  · rfl
 refine⟨h.own.setCell (by simp) (enc_set hk _ (j:=0) (by decide) rfl) (by show k*2<N.length*2;omega) Em,by rw[ZD,BL];exact h.len,λj hj jd=>?_,λj j2 hj jd q je hq=>?_⟩
 ·have ja:j<N.length:=by simpa using hj
  have jc:j<T.length:=by rw[<- h.len];exact ja
  have h1:=h.row j ja jc;have h2:Af CK (w.setCell ⟨g,k*2,none⟩ (aA aM i)) B N[j].s T[j].arcs:=h1.2.keep λq hq=>jf q λe=>h.ne ja (by rw[<- e];exact hq);refine⟨?_,?_⟩
  ·rw[jg j jc,List.getElem_set];split
   · rfl
   · exact h1.1
  · rw[hs j ja,EN jc];exact h2
 ·have ja:j<N.length:=by simpa using hj
  have jb:j2<N.length:=by simpa using jd
  rw[hs j ja]at hq;rw[hs j2 jb];exact h.dis j j2 ja jb q je hq
end
def Wy (W:List ByteArray)(e:Ending)(w':Z0):Prop:=∃ aT nT cT T,e=aP (aG aT nT cT)/\nT=T.length/\Dq w' aT T/\TrW T (W.map bts)
def BZ.kp {w w1:Z0}{a:Option Zj}{L:List ByteArray}(h:BZ w a L)(hk:Kc w w1):BZ w1 a L:=λk hl=>by
 obtain⟨b,o,ha,h1,h2⟩:=h k hl;exact⟨b,o,ha,A9 h1 hk.size,hk.cell h2⟩
def RQ (a:Option Zj)(b o len cap k:Nat)(ha:a=some ⟨b,o,none⟩)(hk:k<len)(w:Z0) :
  (ZK 35 (aG a len cap) (aA aM (k:Int))).run Z1 w=.ok (aB (some ⟨b,o+k,none⟩)) w:=by
 subst ha;have h0:(0:Int)<=(k:Int):=by omega
 have h1:(k:Int)<(len:Int):=by omega
 simp[go_sem,h0,h1]
def Wz {W:List ByteArray}{i:Nat}(hi:i<W.length):(W.map bts)[i]'(by simpa using hi)=bts W[i]:=by simp
def begin_any
         (
          Ws:List ByteArray) (n:Nat) (a:Option Zj) (cap:Nat) (w:Z0) (hW:BZ w a Ws) (hn:n=Ws.length) (hl:Ws.length<=1000) (hs:∀ x∈Ws,x.size<=20) (jV:(Ws.map bts).Pairwise λa b=>Zz a b=true) :
  Zu Z1 103 #[aG a n cap] w λe w'=>Wy Ws e w'/\Below w.heap.size w w':=by
 subst hn;have HW:=A0 hW;have HS:=A0 hs;have HI:=A0 jV;clear hW hs jV
 go_enter Tryz.func103,Tryz.ntmps103
 go_wp2;have kq:Hid (TrM (w.alloc (aK #[aA aM (-1),aG none 0 0] 189)) w.heap.size (aG (some ⟨w.heap.size,0,none⟩) 1 1) [⟨-1,none,0,0⟩] [⟨-1,[]⟩]):=by
  refine⟨Af.one Em (x:=⟨-1,none,0,0⟩) (Z4 _ _) (A5 _),rfl,λk h h2=>?_,λj k hj hk q hjk hq=>?_⟩
  ·have e:k=0:=by simp at h;omega
   subst e;exact⟨rfl,Af.nil _ _ _⟩
  ·have e:j=0:=by simp at hj;omega
   subst e;cases hq
 go_loopg [3,14] Ws.length (λg v3 v14 wr=>∃ (i:Nat) (N:List BV) (T:List Bn) (X:List (List UInt8)),v14=aA aM (i:Int)/\i<=Ws.length/\g=Ws.length - i/\TrM wr w.heap.size v3 N T/\FC (Ws.map bts) i 0 ((Ws.map bts).getD i []) 0 T X/\Below w.heap.size w wr)
 case atStart=>exact⟨0,_,_,_,rfl,Ze _,rfl,kq.out,FC.start _ _,(Z2 _ _).alloc (A5 _) _⟩
 case round =>
  clear kq;obtain⟨i,N,T,X,rfl,hi,kx,jr,jz,jS⟩:=hrel;have jl:=A0 jr;have jm:=A0 jz;have jo:=A0 jS;have kE:=A0 kx;have kN:=jz.node_lt;have ku:=jz.size;clear jr jz jS kx;by_cases jM:i<Ws.length
  ·obtain⟨
       b0,
         o0,ha0,hb0,q0⟩:=(BZ.kp HW.out (Kc.of jo.out (A5 _))).at jM
   have hidx:=RQ a b0 o0 Ws.length cap i ha0 jM;have kj:=HS.out _ (AI jM);have j5:=Wz jM;have kg:(Ws.map bts).getD i []=bts Ws[i]:=by rw[AS,AC (by simpa using jM),<- j5];rfl
   obtain⟨s,kB⟩:∃ s,Ws[i]=s:=⟨_,rfl⟩
   rw[kB]at q0 kj j5 kg;rw[kg]at jm;have kt:=A0 j5;have kz:i<(Ws.map bts).length:=by simpa using jM
   clear ha0 j5 kg kB
   go_wp2_with fail
   go_loopg [3,6,21] s.size (λg v3 v6 v21 wr=>∃ (k node:Nat) (N:List BV) (T:List Bn) (X:List (List UInt8)),v21=aA aM (k:Int)/\v6=aA aM (node:Int)/\k<=s.size/\g=s.size - k/\TrM wr w.heap.size v3 N T/\FC (Ws.map bts) i k (bts s) node T X/\Below w.heap.size w wr)
   case atStart=>exact⟨0,0,_,_,_,rfl,rfl,Ze _,rfl,jl.out,jm.out,jo.out⟩
   case round =>
    clear jl jm jo kN ku;obtain⟨k,node,N,T,X,rfl,rfl,hk,jU,jr,jz,jS⟩:=hrel;have jD:=A0 jU;have jq:=jz.node_lt;have ku:=jz.size;have ki:node<N.length:=by rw[jr.len];exact jq
    rcases jr.own.blk with⟨_,rfl⟩ | ⟨gT,cT,rfl,kf,j2,kQ⟩
    · simp at ki
    have jQ:=jr.len;rw[jQ]at jr kQ ⊢;obtain⟨jL,t0,t1⟩:=jr.cells jq;obtain⟨_,t2,t3,t4⟩:=jr.arcs jq;have kh:=K4 (some ⟨gT,0,none⟩) gT 0 T.length cT node rfl jq;rw[ZS]at kh;have jW:=(jr.row node jL jq).2;have jl:=A0 jr;have jm:=A0 jz;have jo:=A0 jS;have jE:=A0 jW;clear jr jz jS jU jW jQ;by_cases kA:k<s.size
    ·have jJ:k<(bts s).length:=by rw[B5];exact kA
     have kD:=A0 (λx=>jm.out.follow jJ (x:=x));have kl:=A0 (jm.out.add kz kt.out HI.out jJ);have kO:T[node].arcs.length<=256:=by
      have h1:=jm.out.tr.sorted node jq;have h2:=nodup_bound 256 (T[node].arcs.map λx=>x.c.toNat) (by
       unfold List.Nodup;rw[AV];refine XY (λ{a b} ha hb hab=>?_) h1;have h3:=(jm.out.tr.fwd node jq a ha).1;have h4:=(jm.out.tr.fwd node jq b hb).1;omega) (λx hx=>by
       obtain⟨y,hy,rfl⟩:=AJ.1 hx;have h3:=jm.out.tr.fwd node jq y hy;omega)
      simpa using h2
     obtain⟨AL,hA⟩:∃ AL,T[node].arcs=AL:=⟨_,rfl⟩
     obtain⟨an,j1⟩:∃ an,N[node].a=an:=⟨_,rfl⟩
     obtain⟨cn,kd⟩:∃ cn,N[node].c=cn:=⟨_,rfl⟩
     rw[hA]at t1 t2 t3 t4 kO;rw[j1,kd]at t1;rw[j1]at t4;have jF:Hid (N[node].s=aG an AL.length cn):=by show _=_;unfold BV.s;rw[j1,kd,t2]
     rw[jF.out,hA]at jE;have HA:=A0 hA;have jC:(bts s)[k]'jJ=s[k]:=rfl;have km:=A0 jC;have kH:=A0 t4;have hTb:T.length<=100000:=by omega
     have jT:wr.frozen? ⟨gT,node*2+1,none⟩=false:=by
      obtain⟨cs,ke⟩:=B3 jl.out.own (g:=gT) rfl;simp[Zn,ke]
     have hc0:(0:Int)<=(s[k].toNat:Int):=by omega
     have hc1:(s[k].toNat:Int)<=255:=by have:=s[k].toNat_lt;omega
     have kr:=A0 t1;have kn:=A0 jT;clear hA j1 kd t2 t3 t4 jC;cases jA:AL.length with
     | zero =>
      have jt:Hid (∀ x,AL.getLast? = some x->x.c≠(s[k].toNat:Int)):=λx hx=>by
       rw[Zo jA]at hx;cases hx
      have j0:Hid (AL=[]):=Zo jA;clear jA
      go_wp2_with fail
      refine B8 wr (Ext.refl _) 78 (csV [aA aM (AL.length:Int),aH false,aH false,Z8,Z8,Z8,Z8,Z8,Z8,Z8,Z8,Z8,Z8,aH false]) (Zd 31 14) (by kernel_rfl) rfl ?hop λW x hS hx=>?_
      case hop =>
       repeat' apply And.intro
       all_goals first
        | exact True.intro
        | (
          intro A W jx hS ji ja;skip;have h5:A.tmps.getD 5 Z8=aI s:=ja 5 (by kernel_rfl);have h7:A.tmps.getD 7 Z8=aA aM (k:Int):=ja 7 (by kernel_rfl);have h8:A.tmps.getD 8 Z8=aG an AL.length cn:=ja 8 (by kernel_rfl);have h9:A.tmps.getD 9 Z8=aA aM (AL.length:Int):=ja 9 (by kernel_rfl);clear ja;simp[Ae,Zl,Vp,csV,qc]at ji
          first | (refine Ak ?_ (.inl ⟨_,W,?_,rfl,Ext.refl _⟩) <;> clear jx hS <;> simp[wS,C9,CA,Ae,go_sem,Zf, *] <;> done) | (refine Pv ?_ rfl;simp[wS,C9,CA,Ae,ji];done) | skip)
       ·refine Ak rfl (.inl ⟨_,W,?_,rfl,Ext.refl _⟩);clear jx hS;simp[go_sem,Zf, *];exact j0.out
      have e44:x 44=aH false:=hx 13 (by decide);simp only[Zd,Zp,e44,ZE,Z5,Za,Z9];clear hx e44;have jp:Hid (Ext wr W):=hS;have ka:Hid (W.cell? ⟨gT,node*2+1,none⟩=some (aG an AL.length cn)):=zX (Zx hS (p:=⟨gT,node*2+1,none⟩) j2) kr.out;have j7:Hid (W.frozen? ⟨gT,node*2+1,none⟩=false):=zX (Below.frozen hS (p:=⟨gT,node*2+1,none⟩) j2) kn.out;clear hS;obtain⟨X',je⟩:=kl.out (by rw[HA.out];exact jt.out);rw[km.out]at je;have jn:=A0 je;have jh:=A0 (jE.out.later jp.out (A5 _));have jg:=A0 (jl.out.ext jp.out);have jk:Hid (Below w.heap.size w W):=jo.out.trans (ZT jp.out jo.out.size);have js:Hid (w.heap.size<=W.heap.size):=jk.out.size;clear je jp
      go_upto_region 14 with(first | (at_builtin;go_loud ((refine Ah (v:=aG an AL.length cn) EU rfl _ _ rfl rfl (jh.out.later ((Z2 _ _).alloc (A5 _) _) (A5 _)) ⟨W.heap.size,0,none⟩ 1 [⟨(s[k].toNat:Int),(T.length:Int)⟩] rfl (Ai (Z4 _ _)) (by simp only[AE];omega) (by have:=js.out;simp only[A8];omega) ?_);intro v5 w5 jd jb jv;obtain⟨a5,c5,jX, -, -⟩:=jd.form;rw[AD,AE]at jX;subst jX;have jI:w5.heap[gT]? = W.heap[gT]?:=(jb.block gT (by have:=jg.out.own.lt gT rfl;simp only[A8];omega) (λe=>jg.out.ne jL (by rw[jF.out];exact e.symm))).trans (ZF _ _ _ (jg.out.own.lt gT rfl));have q5:=(zb (a:=⟨gT,node*2+1,none⟩) jI).trans ka.out;have f5:=(World.frozen?_of_block (a:=⟨gT,node*2+1,none⟩) jI).trans j7.out;have j9:=A0 jd;have jO:=A0 jb;have j6:=A0 jv;clear jd jb jv jI)))
      obtain⟨w6,jB⟩:∃ w6,w5.setCell ⟨gT,node*2+1,none⟩ (aG a5 (AL.length+1) c5)=w6:=⟨_,rfl⟩
      rw[jB];have jf:Hid (TrM w6 w.heap.size (aG (some ⟨gT,0,none⟩) T.length cT) (N.set node ⟨N[node].word,a5,AL.length+1,c5⟩) (Ek T node ⟨(s[k].toNat:Int),(T.length:Int)⟩)):=by
       show TrM _ _ _ _ _;have h:=(jg.out.ext ((Z2 _ W).alloc (A5 _) (aK #[aA aO (s[k].toNat:Int),aA aM (T.length:Int)] 170))).put1 (k:=node) (x:=⟨(s[k].toNat:Int),(T.length:Int)⟩) (a':=a5) (c':=c5) jL jq (by rw[HA.out];exact j9.out) (by rw[jF.out];exact jO.out) (by rw[HA.out,jF.out];exact j6.out);rw[HA.out,jB]at h;exact h
      have jy:Hid (Below w.heap.size w w6):=by
       show Below _ _ _;rw[<- jB];exact((jk.out.trans (((Z2 _ W).alloc (A5 _) _).mono jk.out.size)).grown jO.out (by have:=js.out;simp only[A8];omega) λq hq=>jh.out.ge q hq).setCell (show w.heap.size<=(⟨gT,node*2+1,none⟩:Zj).block from kf) _
      have jG:(N.set node ⟨N[node].word,a5,AL.length+1,c5⟩).length=T.length:=by rw[ZD];exact jl.out.len
      obtain⟨N6,ju⟩:∃ N6,N.set node ⟨N[node].word,a5,AL.length+1,c5⟩=N6:=⟨_,rfl⟩
      rw[ju]at jf jG;have j8:=A0 jG;clear jB q5 f5 ju jG
      go_wp2_with (at_builtin;go_loud (refine Ah (v:=aG (some ⟨gT,0,none⟩) T.length cT) Em rfl _ _ rfl rfl (jf.out.own.later ((Z2 _ _).alloc (A5 _) _) (A5 _)) ⟨w6.heap.size,0,none⟩ 1 [⟨-1,none,0,0⟩] rfl (Ai (Z4 _ _)) (by have:=j8.out;simp only[AE];omega) (by have:=jy.out.size;simp only[A8];omega) ?_);intro v7 w7 jj jc jH;have Jx:=A0 jj;have jP:=A0 jc;clear jj jc jH)
      go_roundg (s.size - (k+1))
      case measure=>have:=jD.out;omega
      case rel =>
       have jR:Below w.heap.size w w7:=(jy.out.trans (((Z2 _ w6).alloc (A5 _) _).mono jy.out.size)).grown jP.out (by have:=jy.out.size;simp only[A8];omega) λq hq=>jf.out.own.ge q hq;exact⟨k+1,T.length,_,FB T node s[k],X',by go_num,rfl,by omega,rfl,(jf.out.ext ((Z2 _ _).alloc (A5 _) _)).grow Jx.out jP.out jR.size,jn.out,jR⟩
     | succ p =>
      have hp:p<AL.length:=by omega
      have j3:(AL.length:Int) - 1=(p:Int):=by omega
      have jY:IntKind.i64.wrap ((AL.length:Int) - 1)=(p:Int):=by rw[j3];exact Zq _ (by omega)
      have j0:Hid (0<AL.length):=by show 0<_;omega
      have ky:AL.getLast? = some AL[p]:=by rw[List.getLast?_eq_getElem?,show AL.length - 1=p by omega,AC hp]
      have kF:=A0 ky;have kb:=A0 jY;obtain⟨b2,o2,kv,kc,l0,l1⟩:=kH.out.at hp;have hi2:=FS9 an b2 o2 AL.length cn p kv hp;have jZ:=A0 l0;have ko:=A0 l1;have kG:=A0 j3;clear jA ky kv l0 l1 jY j3;by_cases jN:AL[p].c=(s[k].toNat:Int)
      ·have jK:(AL[p].c == (s[k].toNat:Int))=true:=by rw[jN];simp
       have je:=kD.out AL[p] (by rw[HA.out];exact AI hp) jN;have kR:=jm.out.tr.fwd node jq AL[p] (by rw[HA.out];exact AI hp);have jn:=A0 je;obtain⟨m,hm⟩:∃ m:Nat,AL[p].t=(m:Int):=⟨AL[p].t.toNat,by omega⟩
       rw[hm,ZW]at jn;rw[hm]at ko;obtain⟨xc,jw⟩:∃ xc,AL[p].c=xc:=⟨_,rfl⟩
       rw[jw]at jZ jK;clear jN je kR hm jw
       go_wp2_with fail
       refine B8 wr (Ext.refl _) 78 (csV [aA aM (AL.length:Int),aH true,aH true,aG an AL.length cn,aA aM (AL.length:Int),aA aM (p:Int),aB (some ⟨b2,o2+p*2,none⟩),aB (some ⟨b2,o2+p*2,none⟩),aA aO xc,aI s,aA aM (k:Int),aA aO (s[k].toNat:Int),aH true,aH true]) (Zd 31 14) (by kernel_rfl) rfl ?hop λW x hS hx=>?_
       case hop =>
        repeat' apply And.intro
        all_goals first
         | exact True.intro
         | (
           intro A W jx hS ji ja;have l0:=zX (Zx hS (p:=⟨b2,o2+p*2,none⟩) kc) jZ.out;have jY:=kb.out;have h5:A.tmps.getD 5 Z8=aI s:=ja 5 (by kernel_rfl);have h7:A.tmps.getD 7 Z8=aA aM (k:Int):=ja 7 (by kernel_rfl);have h8:A.tmps.getD 8 Z8=aG an AL.length cn:=ja 8 (by kernel_rfl);have h9:A.tmps.getD 9 Z8=aA aM (AL.length:Int):=ja 9 (by kernel_rfl);clear ja;simp[Ae,Zl,Vp,csV,qc]at ji
           first | (refine Ak ?_ (.inl ⟨_,W,?_,rfl,Ext.refl _⟩) <;> clear jx hS <;> simp[wS,C9,CA,Ae,go_sem,Zf, *] <;> done) | skip)
        ·refine Ak rfl (.inl ⟨_,W,?_,rfl,Ext.refl _⟩);clear jx hS;simp[go_sem,Zf, *];exact j0.out
        ·refine Ak (by simp[wS,C9,CA,Ae,ji]) (.inl ⟨_,W,?_,rfl,Ext.refl _⟩);clear jx hS;simp[go_sem,Zf, *]
         all_goals rfl
       have e44:x 44=aH true:=hx 13 (by decide);simp only[Zd,Zp,e44,ZE,Z5,Za,Z9];clear hx e44;have jp:Hid (Ext wr W):=hS;have l1:=zX (Zx hS (p:=⟨b2,o2+p*2+1,none⟩) kc) ko.out;have jY:=kb.out;have j3:=kG.out;clear hS
       go_wp2_with fail
       go_roundg (s.size - (k+1))
       case measure=>have:=jD.out;omega
       case rel=>exact⟨k+1,m,N,T,X,by go_num,rfl,by omega,rfl,jl.out.ext jp.out,jn.out,jo.out.trans (ZT jp.out jo.out.size)⟩
      ·have jK:(AL[p].c == (s[k].toNat:Int))=false:=by simpa using jN
       have jt:Hid (∀ x,AL.getLast? = some x->x.c≠(s[k].toNat:Int)):=λx hx=>by
        rw[kF.out]at hx;injection hx with hx;rw[<- hx];exact jN
       obtain⟨xc,jw⟩:∃ xc,AL[p].c=xc:=⟨_,rfl⟩
       rw[jw]at jZ jK;clear jN jw
       go_wp2_with fail
       refine B8 wr (Ext.refl _) 78 (csV [aA aM (AL.length:Int),aH true,aH true,aG an AL.length cn,aA aM (AL.length:Int),aA aM (p:Int),aB (some ⟨b2,o2+p*2,none⟩),aB (some ⟨b2,o2+p*2,none⟩),aA aO xc,aI s,aA aM (k:Int),aA aO (s[k].toNat:Int),aH false,aH false]) (Zd 31 14) (by kernel_rfl) rfl ?hop λW x hS hx=>?_
       case hop =>
        repeat' apply And.intro
        all_goals first
         | exact True.intro
         | (
           intro A W jx hS ji ja;have l0:=zX (Zx hS (p:=⟨b2,o2+p*2,none⟩) kc) jZ.out;have jY:=kb.out;have h5:A.tmps.getD 5 Z8=aI s:=ja 5 (by kernel_rfl);have h7:A.tmps.getD 7 Z8=aA aM (k:Int):=ja 7 (by kernel_rfl);have h8:A.tmps.getD 8 Z8=aG an AL.length cn:=ja 8 (by kernel_rfl);have h9:A.tmps.getD 9 Z8=aA aM (AL.length:Int):=ja 9 (by kernel_rfl);clear ja;simp[Ae,Zl,Vp,csV,qc]at ji
           first | (refine Ak ?_ (.inl ⟨_,W,?_,rfl,Ext.refl _⟩) <;> clear jx hS <;> simp[wS,C9,CA,Ae,go_sem,Zf, *] <;> done) | skip)
        ·refine Ak rfl (.inl ⟨_,W,?_,rfl,Ext.refl _⟩);clear jx hS;simp[go_sem,Zf, *];exact j0.out
        ·refine Ak (by simp[wS,C9,CA,Ae,ji]) (.inl ⟨_,W,?_,rfl,Ext.refl _⟩);clear jx hS;simp[go_sem,Zf, *]
         all_goals rfl
       have e44:x 44=aH false:=hx 13 (by decide);simp only[Zd,Zp,e44,ZE,Z5,Za,Z9];clear hx e44;have jp:Hid (Ext wr W):=hS;have ka:Hid (W.cell? ⟨gT,node*2+1,none⟩=some (aG an AL.length cn)):=zX (Zx hS (p:=⟨gT,node*2+1,none⟩) j2) kr.out;have j7:Hid (W.frozen? ⟨gT,node*2+1,none⟩=false):=zX (Below.frozen hS (p:=⟨gT,node*2+1,none⟩) j2) kn.out;clear hS;obtain⟨X',je⟩:=kl.out (by rw[HA.out];exact jt.out);rw[km.out]at je;have jn:=A0 je;have jh:=A0 (jE.out.later jp.out (A5 _));have jg:=A0 (jl.out.ext jp.out);have jk:Hid (Below w.heap.size w W):=jo.out.trans (ZT jp.out jo.out.size);have js:Hid (w.heap.size<=W.heap.size):=jk.out.size;clear je jp
       go_upto_region 14 with(first | (at_builtin;go_loud ((refine Ah (v:=aG an AL.length cn) EU rfl _ _ rfl rfl (jh.out.later ((Z2 _ _).alloc (A5 _) _) (A5 _)) ⟨W.heap.size,0,none⟩ 1 [⟨(s[k].toNat:Int),(T.length:Int)⟩] rfl (Ai (Z4 _ _)) (by simp only[AE];omega) (by have:=js.out;simp only[A8];omega) ?_);intro v5 w5 jd jb jv;obtain⟨a5,c5,jX, -, -⟩:=jd.form;rw[AD,AE]at jX;subst jX;have jI:w5.heap[gT]? = W.heap[gT]?:=(jb.block gT (by have:=jg.out.own.lt gT rfl;simp only[A8];omega) (λe=>jg.out.ne jL (by rw[jF.out];exact e.symm))).trans (ZF _ _ _ (jg.out.own.lt gT rfl));have q5:=(zb (a:=⟨gT,node*2+1,none⟩) jI).trans ka.out;have f5:=(World.frozen?_of_block (a:=⟨gT,node*2+1,none⟩) jI).trans j7.out;have j9:=A0 jd;have jO:=A0 jb;have j6:=A0 jv;clear jd jb jv jI)))
       obtain⟨w6,jB⟩:∃ w6,w5.setCell ⟨gT,node*2+1,none⟩ (aG a5 (AL.length+1) c5)=w6:=⟨_,rfl⟩
       rw[jB];have jf:Hid (TrM w6 w.heap.size (aG (some ⟨gT,0,none⟩) T.length cT) (N.set node ⟨N[node].word,a5,AL.length+1,c5⟩) (Ek T node ⟨(s[k].toNat:Int),(T.length:Int)⟩)):=by
        show TrM _ _ _ _ _;have h:=(jg.out.ext ((Z2 _ W).alloc (A5 _) (aK #[aA aO (s[k].toNat:Int),aA aM (T.length:Int)] 170))).put1 (k:=node) (x:=⟨(s[k].toNat:Int),(T.length:Int)⟩) (a':=a5) (c':=c5) jL jq (by rw[HA.out];exact j9.out) (by rw[jF.out];exact jO.out) (by rw[HA.out,jF.out];exact j6.out);rw[HA.out,jB]at h;exact h
       have jy:Hid (Below w.heap.size w w6):=by
        show Below _ _ _;rw[<- jB];exact((jk.out.trans (((Z2 _ W).alloc (A5 _) _).mono jk.out.size)).grown jO.out (by have:=js.out;simp only[A8];omega) λq hq=>jh.out.ge q hq).setCell (show w.heap.size<=(⟨gT,node*2+1,none⟩:Zj).block from kf) _
       have jG:(N.set node ⟨N[node].word,a5,AL.length+1,c5⟩).length=T.length:=by rw[ZD];exact jl.out.len
       obtain⟨N6,ju⟩:∃ N6,N.set node ⟨N[node].word,a5,AL.length+1,c5⟩=N6:=⟨_,rfl⟩
       rw[ju]at jf jG;have j8:=A0 jG;clear jB q5 f5 ju jG
       go_wp2_with (at_builtin;go_loud (refine Ah (v:=aG (some ⟨gT,0,none⟩) T.length cT) Em rfl _ _ rfl rfl (jf.out.own.later ((Z2 _ _).alloc (A5 _) _) (A5 _)) ⟨w6.heap.size,0,none⟩ 1 [⟨-1,none,0,0⟩] rfl (Ai (Z4 _ _)) (by have:=j8.out;simp only[AE];omega) (by have:=jy.out.size;simp only[A8];omega) ?_);intro v7 w7 jj jc jH;have Jx:=A0 jj;have jP:=A0 jc;clear jj jc jH)
       go_roundg (s.size - (k+1))
       case measure=>have:=jD.out;omega
       case rel =>
        have jR:Below w.heap.size w w7:=(jy.out.trans (((Z2 _ w6).alloc (A5 _) _).mono jy.out.size)).grown jP.out (by have:=jy.out.size;simp only[A8];omega) λq hq=>jf.out.own.ge q hq;exact⟨k+1,T.length,_,FB T node s[k],X',by go_num,rfl,by omega,rfl,(jf.out.ext ((Z2 _ _).alloc (A5 _) _)).grow Jx.out jP.out jR.size,jn.out,jR⟩
    ·have kL:=A0 (jm.out.wordEnd kz kt.out HI.out (by rw[B5];exact kA) (by omega) ((Ws.map bts).getD (i+1) []));have kk:=jl.out.word (i:=(i:Int)) jL;obtain⟨w9,j4⟩:∃ w9,wr.setCell ⟨gT,node*2,none⟩ (aA aM (i:Int))=w9:=⟨_,rfl⟩
     have kw:Below w.heap.size w w9:=by
      rw[<- j4];exact jo.out.setCell (show w.heap.size<=(⟨gT,node*2,none⟩:Zj).block from kf) _
     rw[j4]at kk;have kK:=A0 kk;have kC:=A0 kw;have ks:=A0 j4;have jT:wr.frozen? ⟨gT,node*2,none⟩=false:=by
      obtain⟨cs,ke⟩:=B3 jl.out.own (g:=gT) rfl;simp[Zn,ke]
     clear kk kw j4
     go_wp2_with fail
     go_roundg (Ws.length - (i+1))
     case measure=>have:=kE.out;omega
     case rel=>exact⟨i+1,_,_,X,by go_num,by omega,rfl,by rw[ks.out];exact kK.out,kL.out,by rw[ks.out];exact kC.out⟩
  ·have kM:i=Ws.length:=by omega
   subst kM;obtain⟨ax,cx,kP, -, -⟩:=jl.out.own.form;subst kP;have jQ:=jl.out.len;rw[jQ]at jl ⊢;have kI:=A0 (FC.done (W:=Ws.map bts) (by
    have:=jm.out;rw[show Ws.length=(Ws.map bts).length by simp]at this;exact this) HI.out)
   have kJ:=A0 jl.out.tree;clear jQ;go_wp2;go_ret;exact⟨⟨_,_,_,T,rfl,rfl,kJ.out,kI.out⟩,jo.out⟩
def sxM (acc:Int)(v1:Z6)(aT:Option Zj)(nT cT:Nat)(aL:Option Zj)(nL cL:Nat)(f:Nat->Z6):Array Z6 :=
 #[aA aO acc,v1,aG aT nT cT,aG aL nL cL,f 0,f 1,f 2,f 3,f 4]
def mpV (k:Nat)(gm:Nat->Nat)(j:Nat):Z6:=if j<k then .map (some (gm j)) else .map none
def UZ {acc:Int}{v1:Z6}{aT:Option Zj}{nT cT:Nat}{aL:Option Zj}{nL cL:Nat}{gm:Nat->Nat}{k g:Nat}(hk:k<5) :
  (sxM acc v1 aT nT cT aL nL cL (mpV k gm)).setIfInBounds (4+k) (.map (some g))=sxM acc v1 aT nT cT aL nL cL (mpV (k+1) (GN gm k g)):=by
 rcases(show k=0\/k=1\/k=2\/k=3\/k=4 from by omega) with rfl | rfl | rfl | rfl | rfl <;> simp[sxM,mpV,GN]
def Sy {acc:Int}{aR:Option Zj}{nR cR:Nat}{aT:Option Zj}{nT cT:Nat}{aL:Option Zj}{nL cL:Nat}{gm:Nat->Nat}:sxM acc (aG aR nR cR) aT nT cT aL nL cL (mpV 5 gm)=sxC acc aR nR cR aT nT cT aL nL cL gm:=by
 simp[sxM,sxC,mpV]
structure NsM (w0 w:Z0)(gx:Nat)(cs:Array Z6)(k:Nat)(gm:Nat->Nat):Prop where
 rep:w.heap[gx]? = some (.cells cs 180 (0,0))
 maps:∀ j,j<k->MpG Bp w (gm j) []/\w0.heap.size<=gm j
 apart:∀ a b,a<k->b<k->gm a=gm b->a=b
 gx:w0.heap.size<=gx
 bl:Below w0.heap.size w0 w
def NsM.ext {w0 w w':Z0}{gx:Nat}{cs:Array Z6}{k:Nat}{gm:Nat->Nat}(h:NsM w0 w gx cs k gm)(hx:Ext w w'):NsM w0 w' gx cs k gm :=
 ⟨(Z7 hx _ (A7.1 h.rep).1).trans h.rep,λj hj=>⟨(h.maps j hj).1.kept (Z7 hx _ (h.maps j hj).1.lt),(h.maps j hj).2⟩,h.apart,h.gx,h.bl.trans (ZT hx h.bl.size)⟩
def NsM.put {w0 w:Z0}{gx:Nat}{acc:Int}{v1:Z6}{aT:Option Zj}{nT cT:Nat}{aL:Option Zj}{nL cL:Nat}{k:Nat}{gm:Nat->Nat}(h:NsM w0 w gx (sxM acc v1 aT nT cT aL nL cL (mpV k gm)) k gm)(hk:k<5) :
  NsM w0 ((w.alloc (.map #[] 0)).setCell ⟨gx,4+k,none⟩ (.map (some w.heap.size))) gx (sxM acc v1 aT nT cT aL nL cL (mpV (k+1) (GN gm k w.heap.size))) (k+1) (GN gm k w.heap.size):=by
 have jc:=(A7.1 h.rep).1;have jb:∀ q,q≠gx->((w.alloc (.map #[] 0)).setCell ⟨gx,4+k,none⟩ (.map (some w.heap.size))).heap[q]? = (w.alloc (.map #[] 0)).heap[q]?:=λq hq=>Zc _ _ _ _ hq;have hr:(w.alloc (.map #[] 0)).heap[gx]? = some (.cells (sxM acc v1 aT nT cT aL nL cL (mpV k gm)) 180 (0,0)):=(ZF _ _ _ jc).trans h.rep;have jd:∀ j,j<k->gm j≠gx:=λj hj e=>by
  obtain⟨es,c,hm⟩:=(h.maps j hj).1.obj;rw[e,h.rep]at hm;cases hm
 refine⟨?_,λj hj=>?_,λa b ha hb ja=>?_,h.gx,?_⟩
 · rw[heap_setCell_same _ gx (4+k) _ _ _ hr,UZ hk]
 ·unfold GN;by_cases e:j=k
  ·rw[if_pos e];exact⟨(MpG.new Bp w).kept (jb _ (by omega)),h.bl.size⟩
  ·rw[if_neg e];have h1:=h.maps j (by omega);refine⟨(h1.1.kept (ZF _ _ _ h1.1.lt)).kept (jb _ (jd j (by omega))),h1.2⟩
 ·unfold GN at ja;by_cases e:a=k
  ·rw[if_pos e]at ja;by_cases e2:b=k
   · omega
   ·rw[if_neg e2]at ja;have:=(h.maps b (by omega)).1.lt;omega
  ·rw[if_neg e]at ja;by_cases e2:b=k
   ·rw[if_pos e2]at ja;have:=(h.maps a (by omega)).1.lt;omega
   ·rw[if_neg e2]at ja;exact h.apart a b (by omega) (by omega) ja
 · exact(h.bl.trans (((Z2 _ w).alloc (A5 _) _).mono h.bl.size)).setCell (show w0.heap.size<=(⟨gx,4+k,none⟩:Zj).block from h.gx) _
def
  NsP (R:List Rl) (Ws:List ByteArray) (acc:Int) (aL:Option Zj) (nL cL:Nat) (w:Z0) (e:Ending) (w':Z0):Prop :=
 ∃
  gx aR cR aT cT gm T,e=aP (aB (some ⟨gx,0,none⟩))/\SX w' gx acc aR (R.filter C5).length cR aT T.length cT aL nL cL gm/\BC w' aR (R.filter C5)/\Dq w' aT T/\TrW T (Ws.map bts)/\VY w.heap.size gm /\
  MpG Bp w' (gm 0) [((0,0),0)]/\(∀ j,0<j->j<5->MpG Bp w' (gm j) [])
def WdS (Ws:List ByteArray)(v:Z6)(W:Z0):Prop:=∃ a c,v=aG a Ws.length c/\BZ W a Ws
def RS (Ws:List ByteArray):Bq (WdS Ws):=by
 rintro v w w' ⟨a,c,h1,h2⟩ hx;exact⟨a,c,h1,h2.later hx (A5 _)⟩
def BgS (Ws:List ByteArray)(v:Z6)(W:Z0):Prop:=∃ aT cT T,v=aG aT T.length cT/\Dq W aT T/\TrW T (Ws.map bts)
def RT (Ws:List ByteArray):Bq (BgS Ws):=by
 rintro v w w' ⟨a,c,T,h1,h2,h3⟩ hx;exact⟨a,c,T,h1,h2.later hx (A5 _),h3⟩
def RpS (Ws:List ByteArray)(acc:Int)(aL:Option Zj)(nL cL:Nat)(v:Z6)(W:Z0):Prop:=∃ aT cT T,v=aJ #[aA aO acc,aG none 0 0,aG aT T.length cT,aG aL nL cL,.map none,.map none,.map none,.map none,.map none]/\Dq W aT T/\TrW T (Ws.map bts)
def RU (Ws:List ByteArray)(acc:Int)(aL:Option Zj)(nL cL:Nat):Bq (RpS Ws acc aL nL cL):=by
 rintro v w w' ⟨a,c,T,h1,h2,h3⟩ hx;exact⟨a,c,T,h1,h2.later hx (A5 _),h3⟩
def PxS (w1:Z0)(Ws:List ByteArray)(acc:Int)(aL:Option Zj)(nL cL:Nat)(v:Z6)(W:Z0):Prop:=∃ g aT cT T W0,v=aB (some ⟨g,0,none⟩)/\W0.heap.size<=g/\W.heap[g]? = some (aK #[aA aO acc,aG none 0 0,aG aT T.length cT,aG aL nL cL,.map none,.map none,.map none,.map none,.map none] 180 (0,0))/\Dq W0 aT T/\TrW T (Ws.map bts)/\Below W0.heap.size W0 W/\Below w1.heap.size w1 W0
def Lw (w1:Z0)(Ws:List ByteArray)(acc:Int)(aL:Option Zj)(nL cL:Nat):Bq (PxS w1 Ws acc aL nL cL):=by
 rintro v w w' ⟨g,a,c,T,W0,h1,h0,hg,h2,h3,h4,h5⟩ hx;exact⟨g,a,c,T,W0,h1,h0,(Z7 hx g (A7.1 hg).1).trans hg,h2,h3,h4.trans (ZT hx h4.size),h5⟩
def NsM.rules {w0 w W:Z0}{gx B:Nat}{acc:Int}{v1:Z6}{aT:Option Zj}{nT cT:Nat}{aL:Option Zj}{nL cL:Nat}{gm:Nat->Nat}{L1 L2:List Rl}{ya:Option Zj}{yc:Nat}(h:NsM w0 w gx (sxM acc v1 aT nT cT aL nL cL (mpV 5 gm)) 5 gm)(ho:Af Dc w B v1 L1)(hp:K7 Dc w B v1 L2 (aG ya L2.length yc) W)(hB:w0.heap.size<=B) :
  NsM w0 (W.setCell ⟨gx,1,none⟩ (aG ya L2.length yc)) gx (sxM acc (aG ya L2.length yc) aT nT cT aL nL cL (mpV 5 gm)) 5 gm/\Af Dc (W.setCell ⟨gx,1,none⟩ (aG ya L2.length yc)) B (aG ya L2.length yc) L2:=by
 have jc:=(A7.1 h.rep).1;have jb:∀ q,q≠gx->(W.setCell ⟨gx,1,none⟩ (aG ya L2.length yc)).heap[q]? = W.heap[q]?:=λq hq=>Zc _ _ _ _ hq;have ja:v1.ownBlock≠some gx:=λe=>by
  obtain⟨cs,h1⟩:=B3 ho e;rw[h.rep]at h1;injection h1 with h1;injection h1 with _ h2;exact absurd h2 (by decide)
 have hr:W.heap[gx]? = some (.cells (sxM acc v1 aT nT cT aL nL cL (mpV 5 gm)) 180 (0,0)):=(hp.block gx jc ja).trans h.rep;refine⟨⟨?_,λj hj=>⟨?_,(h.maps j hj).2⟩,h.apart,h.gx,?_⟩,hp.own.keep λg hg=>jb g λe=>?_⟩
 · rw[heap_setCell_same W gx 1 _ _ _ hr];rfl
 ·have h1:=(h.maps j hj).1;refine(h1.kept (hp.block _ h1.lt λe=>h1.not_row ho e)).kept (jb _ λe=>?_);obtain⟨es,c,hm⟩:=h1.obj;rw[e,h.rep]at hm;cases hm
 · refine Below.setCell (h.bl.trans (hp.below (C:=w0.heap.size) h.bl.size λq hq=>AA hB (ho.ge q hq))) (show w0.heap.size<=(⟨gx,1,none⟩:Zj).block from h.gx) _
 ·rcases hp.loc with h1 | ⟨q,h1,h2⟩
  · rw[h1]at hg;exact ja (by rw[hg,e])
  · rw[h1]at hg;injection hg with hg;omega
def newSearch_any (
            R:List Rl) (modes acc:Int) (aS:Option Zj) (cS:Nat) (D:List Nd) (aD:Option Zj) (cD:Nat) (aL:Option Zj) (nL cL:Nat) (w:Z0) (hR:BC w aS R) (hRl:R.length<=1000) (hD:Cj w aD D) (kz:D.length<=9223372036854775807) (hC:Mg D)
  (hl:(BJ D).length<=1000) (hs:∀ x∈BJ D,x.size<=20) (jH:((BJ D).map bts).Pairwise λa b=>Zz a b=true) :
  Zu Z1 78 #[aJ #[aA aM modes,aA aO acc,aG aS R.length cS],aG aD D.length cD,aG aL nL cL] w λe w'=>NsP R (BJ D) acc aL nL cL w e w'/\Below w.heap.size w w':=by
 have HR:=A0 hR;have HD:=A0 hD;have HC:=A0 hC;have HS:=A0 hs;have HI:=A0 jH;clear hR hD hC hs jH;have jP:=@run_makeMap Z1;have ks:=A0 jP;clear jP
 go_enter Tryz.func78,Tryz.ntmps78
 go_wp2_with fail
 obtain⟨w1,jQ⟩:∃ w1,w.alloc (aK #[aA aM modes,aA aO acc,aG aS R.length cS] 33)=w1:=⟨_,rfl⟩
 rw[jQ];have jN:Hid (Ext w w1):=by
  show Ext _ _;rw[<- jQ];exact(Z2 _ _).alloc (A5 _) _
 have jS:Hid (w1.heap[w.heap.size]? = some (aK #[aA aM modes,aA aO acc,aG aS R.length cS] 33 (0,0))):=by
  show _=_;rw[<- jQ];exact Z4 _ _
 obtain⟨gs,jZ⟩:∃ gs,w.heap.size=gs:=⟨_,rfl⟩
 rw[jZ]at jS ⊢;have HGS:=A0 jZ;clear jQ jZ;refine Ay (by kernel_rfl) (Vs [vq (aB (some ⟨gs,1,none⟩)),vq (aA aO acc),vq (aG aD D.length cD),WdS (BJ D),BgS (BJ D),vq (aG aL nL cL),RpS (BJ D) acc aL nL cL,PxS w1 (BJ D) acc aL nL cL,PxS w1 (BJ D) acc aL nL cL]) (Xs []) (λfL=>(λW=>Ext w1 W) ) [0,1,0,4,12,0,63,127,255] 53 9 (by kernel_rfl) rfl ?hV ?hS ?hop ?hfin ?hlast
 case hV =>
  refine Bi (BB (by simp only[AX,ZN,or_false,forall_eq_or_imp,forall_eq];exact⟨Ab _,Ab _,Ab _,RS _,RT _,Ab _,RU _ _ _ _ _,Lw _ _ _ _ _ _,Lw _ _ _ _ _ _⟩)) ?_;exact trivial
 case hS =>
  intro fL hf;show(λW=>Ext w1 W)  _
  first | exact Ext.refl _ | exact Dr _
 case hop =>
  refine⟨?_,?_,?_,?c3,?c4,?_,?c6,?c7,?c8,trivial⟩
  all_goals first | rw[if_neg (by decide)] | rw[if_pos (by decide)]
  all_goals try intro ac W fL jk jv kE kB ja je jb j3
  all_goals try have hS:(λW=>Ext w1 W)  W:=ja
  all_goals try (
   have kk:Kc w1 W:=Kc.of hS (A5 _);have x1:=kk.cell (p:=⟨gs,1,none⟩) (v:=aA aO acc) (by rw[Z3 w1 gs 1 _ _ (0,0) jS.out];rfl);clear kk)
  all_goals try have hh3:=gdA ac 3 (aB (some ⟨gs,0,none⟩)) (jb 3 (by kernel_rfl))
  all_goals try have hh1:=gdA ac 1 (aG aD D.length cD) (jb 1 (by kernel_rfl))
  all_goals try have hh2:=gdA ac 2 (aG aL nL cL) (jb 2 (by kernel_rfl))
  all_goals try have d14:(WdS (BJ D)) (ac.tmps.getD 14 Z8) W:=je 3 (by decide)
  all_goals try have d15:(BgS (BJ D)) (ac.tmps.getD 15 Z8) W:=je 4 (by decide)
  all_goals try have d17:(RpS (BJ D) acc aL nL cL) (ac.tmps.getD 17 Z8) W:=je 6 (by decide)
  all_goals try have d18:(PxS w1 (BJ D) acc aL nL cL) (ac.tmps.getD 18 Z8) W:=je 7 (by decide)
  all_goals try (have je:=GC je;simp[FK,Ae,vq]at je)
  all_goals try clear jb kE kB j3
  case c3 =>
   have jh:(λW=>Ext w1 W)  W:=ja;refine Ag rfl (.inr ⟨104,#[aG aD D.length cD],W,by(clear jk hS ja jh jv;simp[go_sem,Zf, *]),?_⟩);refine(RM D aD cD W ((HD.out.later jN.out (A5 _)).later hS (A5 _)) kz HC.out).mono ?_;rintro e w' ⟨a1,c1,rfl,kG,_,hb⟩;exact⟨_,rfl,⟨⟨a1,c1,rfl,kG⟩,hb,Ext.trans ja hb⟩⟩
  case c4 =>
   have jh:(λW=>Ext w1 W)  W:=ja;obtain⟨a1,c1,e14,jJ⟩:=d14;rw[A6]at e14;refine Ag rfl (.inr ⟨103,#[aG a1 (BJ D).length c1],W,by(clear jk hS ja jh jv jJ;simp[go_sem,Zf, *]),?_⟩);refine(begin_any (BJ D) (BJ D).length a1 c1 W jJ rfl hl HS.out HI.out).mono ?_;rintro e w' ⟨⟨aT,nT,cT,T,rfl,rfl,hT,hW⟩,hb⟩;exact⟨_,rfl,⟨⟨aT,cT,T,rfl,hT,hW⟩,hb,Ext.trans ja hb⟩⟩
  case c6 =>
   have jh:(λW=>Ext w1 W)  W:=ja;obtain⟨aT,cT,T,e15,jz,jB⟩:=d15;rw[A6]at e15;refine Ag rfl (.inl ⟨aJ #[aA aO acc,aG none 0 0,aG aT T.length cT,aG aL nL cL,.map none,.map none,.map none,.map none,.map none],W,?_,⟨aT,cT,T,rfl,jz,jB⟩,Ext.refl _,jh⟩);clear jk hS ja jh jv jz jB;simp[go_sem,Zf, *]
  case c7 =>
   have jh:(λW=>Ext w1 W)  W:=ja;obtain⟨aT,cT,T,e17,jA,jC⟩:=d17;rw[A6]at e17;have jl:Ext W (W.alloc (aK #[aA aO acc,aG none 0 0,aG aT T.length cT,aG aL nL cL,.map none,.map none,.map none,.map none,.map none] 180)):=(Z2 _ _).alloc (A5 _) _;refine Ag rfl (.inl ⟨aB (some ⟨W.heap.size,0,none⟩),W.alloc (aK #[aA aO acc,aG none 0 0,aG aT T.length cT,aG aL nL cL,.map none,.map none,.map none,.map none,.map none] 180),?_,⟨W.heap.size,aT,cT,T,W,rfl,A5 _,Z4 _ _,jA,jC,jl,hS⟩,jl,Ext.trans ja jl⟩);clear jk hS ja jh jv jA jC jl;simp[go_sem,Zf, *]
  case c8 =>
   have jh:(λW=>Ext w1 W)  W:=ja;refine Ag rfl (.inl ⟨_,W,?_,d18,Ext.refl _,jh⟩);clear jk hS ja jh jv;simp[go_sem,Zf, *]
  all_goals (refine Ag rfl (.inl ⟨_,W,?_,rfl,Ext.refl _,ja⟩);clear jk hS ja jv;simp[go_sem,Zf, *];done)
 case hlast =>
  intro h;exact absurd rfl h
 case hfin
      =>
  intro _ ac W jk ki fL hf ja hv jb;have hS:(λW=>Ext w1 W)  W:=ja;clear ja;obtain⟨sx,jx,km⟩:=B7 [11,12,13,14,15,16,17,18,7] (by kernel_rfl) jk ki jb;have kF:PxS w1 (BJ D) acc aL nL cL (ac.tmps.getD 7 Z8) W:=hv 8 (by decide);obtain⟨gx,aT,cT,T,W0,e7v,jr,jm,ke,kf,jq,jp⟩:=kF;have e7:sx 7=aB (some ⟨gx,0,none⟩):=(jx 7).trans e7v;clear e7v;rw[km];simp only[Zp];simp only[ZE,Z5,Za,Z9];clear km jx hv jb jk ki hf;rw[e7];clear e7;have jK:Hid (Below w.heap.size w W0):=Y9 jN.out (jp.mono (XE jN.out));have jc:Hid (NsM w W gx (sxM acc (aG none 0 0) aT T.length cT aL nL cL (mpV 0 λ_=>0)) 0 λ_=>0):=⟨jm,λj hj=>absurd hj (Xj _),λa b ha=>absurd ha (Xj _),AA jK.out.size jr,jK.out.trans (jq.mono jK.out.size)⟩
  have kw:=A0 ke;have kx:=A0 kf;have j6:=A0 jq;have kn:=A0 jp;clear ke kf jq jp jm hS;have jP:=ks.out
  go_wp2_with fail
  go_loopg [19] 5 (λg v19 wr=>∃ (k:Nat) (gm:Nat->Nat),v19=aA aM (k:Int)/\k<=5/\g=5 - k/\NsM w wr gx (sxM acc (aG none 0 0) aT T.length cT aL nL cL (mpV k gm)) k gm/\Below W0.heap.size W0 wr)
  case atStart=>exact⟨0,_,rfl,Ze _,rfl,jc.out,j6.out⟩
  case round =>
   clear jc j6;obtain⟨k,gm,rfl,hk,jF,js,jE⟩:=hrel;have jc:=A0 js;have ji:=A0 jE;have jy:=A0 jF;have jj:=(A7.1 js.rep).1;clear js jE jF;by_cases jw:k<5
   ·have hlI:(k:Int)<5:=by omega
    have h0I:(0:Int)<=(k:Int):=by omega
    have hcl:wr.cell? ⟨gx,4+k,none⟩=some (.map none):=by
     rw[Z3 wr gx (4+k) _ _ (0,0) jc.out.rep];rcases(show k=0\/k=1\/k=2\/k=3\/k=4 from by omega) with rfl | rfl | rfl | rfl | rfl <;> simp[sxM,mpV]
    have hfz:wr.frozen? ⟨gx,4+k,none⟩=false:=by simp[Zn,jc.out.rep]
    have ju:=jc.out.put jw;rw[World.setCell_alloc_past _ _ _ _ jj]at ju;have kt:=A0 ju;clear ju;have ko:Hid (Below W0.heap.size W0 ((wr.setCell ⟨gx,4+k,none⟩ (.map (some wr.heap.size))).alloc (.map #[] 0))):=by
     show Below _ _ _;rw[<- World.setCell_alloc_past _ _ _ _ jj];exact Below.setCell (ji.out.trans (((Z2 _ wr).alloc (A5 _) _).mono ji.out.size)) (show W0.heap.size<=(⟨gx,4+k,none⟩:Zj).block from jr) _
    go_wp2_with fail
    go_roundg (5 - (k+1))
    case measure=>have:=jy.out;omega
    case rel=>exact⟨k+1,_,by go_num,by omega,rfl,kt.out,ko.out⟩
   ·obtain rfl
          :
           k
            = 5:=by omega
    clear jP;have j9:Hid (∀ W,Below W0.heap.size W0 W->Kc w1 W):=λW hb=>(Kc.of kn.out (A5 _)).trans (Kc.of hb (A5 _));have x2:=(j9.out wr ji.out).cell (p:=⟨gs,2,none⟩) (v:=aG aS R.length cS) (by rw[Z3 w1 gs 2 _ _ (0,0) jS.out];rfl)
    go_wp2_with fail
    clear x2
    go_loopg [32] R.length (λg v32 wr=>∃ (k:Nat) (v1:Z6),v32=aA aM (k:Int)/\k<=R.length/\g=R.length - k/\NsM w wr gx (sxM acc v1 aT T.length cT aL nL cL (mpV 5 gm)) 5 gm/\Af Dc wr W0.heap.size v1 ((R.take k).filter C5)/\Below W0.heap.size W0 wr)
    case atStart=>exact⟨0,_,rfl,Ze _,rfl,jc.out,Af.nil _ _ _,ji.out⟩
    case round
          =>
     clear jc ji jy jw jj;obtain⟨k,v1,rfl,hk2,jF,js,jt,jE⟩:=hrel;obtain⟨a1,c1,kH, -, -⟩:=jt.form;subst kH;have jc:=A0 js;have jM:=A0 jt;have ji:=A0 jE;have jy:=A0 jF;have jj:=(A7.1 js.rep).1;clear js jt jE jF;obtain⟨L1,jO⟩:∃ L1,(R.take k).filter C5=L1:=⟨_,rfl⟩
     have hL1l:L1.length<=1000:=by
      rw[<- jO];exact AA (List.length_filter_le _ _) (by rw[AO];omega)
     rw[jO]at jc jM;have jT:=A0 jO;clear jO;by_cases jw:k<R.length
     ·have kl
           :
            Kc w wr:=(Kc.of jN.out (A5 _)).trans (j9.out wr ji.out)
      obtain⟨b1,o1,kg,kA,r0,r1,r2,r3,r4⟩:=(BC.kp HR.out kl).at jw;have kD:=Bb aS b1 o1 R.length cS k kg jw;have j2:R.take (k+1)=R.take k ++ [R[k]]:=AR jw;obtain⟨r,hr⟩:∃ r,R[k]=r:=⟨_,rfl⟩
      rw[hr]at r0 r1 r2 r3 r4 j2;have kc:=A0 j2;obtain⟨frm,dst,inp,out,cost⟩:=r;simp only at r0 r1 r2 r3 r4;clear kl kg hr j2
      go_upto_region 10 with fail
      obtain⟨w4,jR⟩:∃ w4,wr.alloc (aK #[aA aM frm,aA aM dst,aI inp,aI out,aA aM cost] 88)=w4:=⟨_,rfl⟩
      rw[jR];have ky:Hid (Ext wr w4):=by
       show Ext _ _;rw[<- jR];exact(Z2 _ _).alloc (A5 _) _
      have jL:Hid (w4.heap[wr.heap.size]? = some (aK #[aA aM frm,aA aM dst,aI inp,aI out,aA aM cost] 88 (0,0))):=by
       show _=_;rw[<- jR];exact Z4 _ _
      obtain⟨g4,kj⟩:∃ g4,wr.heap.size=g4:=⟨_,rfl⟩
      rw[kj]at jL ⊢;have hg4g:g4≠gx:=by omega
      have jU:Hid ((aG a1 L1.length c1:Z6).ownBlock≠some g4):=λe=>by have:=jM.out.lt _ e;omega
      obtain⟨d0,d1,d2,d3,d4⟩:=Aq jL.out;have jX:=Se ⟨frm,dst,inp,out,cost⟩ w4;obtain⟨fb,jY⟩:∃ fb,C5 ⟨frm,dst,inp,out,cost⟩=fb:=⟨_,rfl⟩
      rw[jY]at jX;have kr:=A0 jX;have j8:=A0 jY;clear jR kj jX jY r0 r1 r2 r3 r4 kD kA
      go_wp2_with fail
      refine kr.out.mono ?_;rintro e w5 ⟨rfl,jW⟩;have jV:Hid (Ext wr w5):=Ext.trans ky.out jW;have j7:Hid (w5.heap[g4]? = some (aK #[aA aM frm,aA aM dst,aI inp,aI out,aA aM cost] 88 (0,0))):=(jW.block g4 (A7.1 jL.out).1).trans jL.out;have jd:=A0 (jc.out.ext jV.out);have jf:=A0 (jM.out.later jV.out (A5 _));have jn:Hid (Below W0.heap.size W0 w5):=ji.out.trans (ZT jV.out ji.out.size);clear d0 d1 d2 d3 d4 jW;cases fb with
      | false =>
       have HN:Hid ((R.take (k+1)).filter C5=L1):=by show _=_;rw[kc.out,List.filter_append,jT.out];simp[List.filter_cons,j8.out]
       go_wp2_with fail
       go_roundg (R.length - (k+1))
       case measure=>have:=jy.out;omega
       case rel=>exact⟨k+1,_,by go_num,by omega,rfl,jd.out,by rw[HN.out];exact jf.out,jn.out⟩
      | true
          =>
       have HN:Hid ((R.take (k+1)).filter C5=L1 ++ [⟨frm,dst,inp,out,cost⟩]):=by show _=_;rw[kc.out,List.filter_append,jT.out];simp[List.filter_cons,j8.out]
       have kb:Hid (W0.heap.size<=w5.heap.size):=jn.out.size;have jG:=(A7.1 jd.out.rep).1
       go_wp2_with fail
       refine wp_region_sd (ApT (w5) (aG a1 L1.length c1) true) 53 [(7,aB (some ⟨gx,0,none⟩)),(10,aB (some ⟨g4,0,none⟩))] [6,7,10] (Zd 38 10) [7,10] (by kernel_rfl) rfl ⟨rfl,rfl,trivial⟩ rfl (λ_ h=>Hm h) λW hS=>?_
       repeat
           first
        | (
          refine CD.app1 (⟨frm,dst,inp,out,cost⟩:Rl) Gg hS (jf.out) rfl rfl (by decide) ?_ rfl rfl (by decide) rfl rfl (by decide) (by simp only[AE];omega) (kb.out) λea ya yc W jo=>?_
          · simp[go_sem,At,lkE,Dc, *] <;> rfl)
        | (
          apply CD.op rfl rfl
          ·intro W ja;have jI:(aG a1 L1.length c1:Z6).ownBlock≠some gx:=λe=>by
            obtain⟨cs,h1⟩:=B3 jf.out e;rw[jd.out.rep]at h1;injection h1 with h1;injection h1 with _ h2;exact absurd h2 (by decide)
           have jg:=(ApT.old ja gx jG jI).trans jd.out.rep;have hcx:W.cell? ⟨gx,1,none⟩=some (aG a1 L1.length c1):=by rw[Z3 W gx 1 _ _ (0,0) jg];rfl
           obtain⟨d0,d1,d2,d3,d4⟩:=Aq ((ApT.old ja g4 (A7.1 j7.out).1 jU.out).trans j7.out);clear jg jI;clear ja;simp[go_sem,At,lkE, *] <;> rfl)
       have jI:(aG a1 L1.length c1:Z6).ownBlock≠some gx:=λe=>by
        obtain⟨cs,h1⟩:=B3 jf.out e;rw[jd.out.rep]at h1;injection h1 with h1;injection h1 with _ h2;exact absurd h2 (by decide)
       have jg:=(jo.block gx jG jI).trans jd.out.rep;refine CD.stS rfl rfl (by decide) (by kernel_rfl) rfl rfl rfl (by simp[Zn,jg]) (by rw[Z3 W _ _ _ _ (0,0) jg];rfl) (by kernel_rfl) ?_;clear jg jI;intro x hx;obtain⟨wz,j4⟩:∃ wz,W.setCell ⟨gx,1,none⟩ (aG ya (L1 ++ [(⟨frm,dst,inp,out,cost⟩:Rl)]).length yc)=wz:=⟨_,rfl⟩
       rw[j4];have j5:=A0 jo;have kd:=A0 j4;clear jo j4 hS;simp only[Zd,Zp,ZE,Z5,Za,Z9];clear hx;have j1:=jd.out.rules jf.out j5.out jK.out.size;rw[kd.out]at j1;have kh:Below W0.heap.size W0 wz:=by
        rw[<- kd.out];exact Below.setCell (jn.out.trans (j5.out.below kb.out λq hq=>jf.out.ge q hq)) (show W0.heap.size<=(⟨gx,1,none⟩:Zj).block from jr) _
       have ka:=A0 j1;have kq:=A0 kh;clear j1 kh
       go_wp2_with fail
       go_roundg (R.length - (k+1))
       case measure=>have:=jy.out;omega
       case rel=>exact⟨k+1,_,by go_num,by omega,rfl,ka.out.1,by rw[HN.out];exact ka.out.2,kq.out⟩
     ·have jD:R.take k=R:=AH (by omega);have Jx:Hid (L1=R.filter C5):=by show _=_;rw[<- jT.out,jD]
      have jx:SX wr gx acc a1 L1.length c1 aT T.length cT aL nL cL gm:=by
       have h:=jc.out.rep;rw[Sy]at h;exact h
      have ku:=A0 (put_new (w:=wr) 0 0 0 0 0 [] (by omega) rfl jx (jc.out.maps 0 (by decide)).1 (show Bp.ok (0,0) from⟨by decide,by decide⟩) (by decide) (by decide) rfl);have kv:=A0 jx;clear jD jx
      go_wp2_with fail
      refine ku.out.mono ?_;rintro e w9 ⟨rfl,hp⟩;have HP:=A0 hp;clear hp
      go_wp2_with fail
      go_ret;have j0:=HP.out.kp (jc.out.maps 0 (by decide)).1;have kC:=HP.out.gr;refine⟨⟨gx,a1,c1,aT,cT,gm,T,rfl,?_,?_,?_,kx.out,⟨jc.out.apart,λj hj=>(jc.out.maps j hj).2⟩,HP.out.map,λj h0 hj=>?_⟩,jc.out.bl.trans (HP.out.below (jc.out.maps 0 (by decide)).2 jc.out.bl.size)⟩
      · rw[<- Jx.out];exact kv.out.kp j0
      · rw[<- Jx.out];exact BC.kp (Af.ruls jM.out).1 j0
      · exact(kw.out.later ji.out (A5 _)).kp j0
      · exact(jc.out.maps j hj).1.kept (kC _ (jc.out.maps j hj).1.lt λe=>by have:=jc.out.apart j 0 hj (by decide) e;omega)
end Go.Proofs.YtpljngaejaehcaaGreatDoor
namespace Go.Proofs.YtpljngaejaehcaaGreatDoor.Fl
open Go.RowKit Go.Conc
def first_any
         (fid:Nat) (use:Rl->Bool) (jL:∀ (r:Rl) (w:Z0),Zu Z1 fid #[aJ #[aA aM r.frm,aA aM r.dst,aI r.inp,aI r.out,aA aM r.cost]] w λe w'=>e=aP (aH (use r))/\Below w.heap.size w w')
  (hcf:∀ (args:Array Z6) (w:Z0),(callFunc fid args).run Z1 w=.ok (.enter fid args) w)
  (S:Sch) (a:Option Zj) (cap start goal:Nat) (w:Z0) (hR:BC w a S.rules) (hS:Fit S) (hs:start<8) (jj:goal<256) :
  Zu Z1 96 #[aJ #[aA aM S.modes,aA aO S.acc,aG a S.rules.length cap],aA aM (start:Int),aA aO (goal:Int),.func (.func fid) #[] #[]] w λe w'=>∃ v,e=aP v/\ChN w' w.heap.size v (bfs use goal S.rules start)/\Below w.heap.size w w':=by
 obtain⟨HU,HR,HS⟩:=oC jL hR hS;clear jL hR hS;obtain⟨i0,hi,kp,kq,ka⟩:=info_parts GG;have km:∀ W:Z0,(Instr.makeChan 210 (aA aM 8)).run Z1 W=.ok (.chan (oT W.heap.size)) (W.alloc (.chan 8 #[] oH 0 0 oH)):=λW=>by
  have:=run_makeChan (P:=Z1) (w:=W) Tryz.underlying210 hi aM 8 (by omega) (by rw[ka];omega);simpa using this
 have kn:∀ W:Z0,(Instr.makeSlice 205 (aA aM 8) (aA aM 8)).run Z1 W=.ok (aG (oT ⟨W.heap.size,0,oS⟩) 8 8) (W.alloc (.cells (Xd 8 (aG oS 0 0)) 36)):=λW=>by
  have:=run_make_row' (P:=Z1) 205 36 (aG oS 0 0) 24 Tryz.underlying205 Qr rfl aM aM 8 (by omega) (by omega) W;rw[show madeCells #[Zk oS 0 0] 8=Xd 8 (aG oS 0 0) from Array.ext (by simp[madeCells]) (λi h1 h2=>by simp[madeCells,Nat.mod_one])]at this;exact this
 obtain⟨P,hP⟩:∃ P:Nat,P=2 ^ start:=⟨_,rfl⟩
 have h1:Hid (∀ W:Z0,Zu Z1 95 #[aA aM (start:Int)] W λe w'=>e=aP (aA aO (P:Int))/\W=w'):=λW=>by
  have:=Ew (start:Int) W (by omega) (by omega);rw[hP];exact this
 have HP:=A0 hP;clear hP;refine MQ Tryz.func96 rfl ?_;simp only[Tryz.ntmps96,zm,Zs,X7,Nat.reduceAdd,Nat.reduceSub,zc,
   zd,zo,XP,ZP,ZG]
 refine BP (λK hK=>?_);go_wp2;refine BP (λK hK=>?_);go_wp2;clear km;refine BP (λK hK=>?_);go_wp2;clear kn;refine BP (λK hK=>?_)
 go_wp2_with (go_at_call 95;refine(h1 _).mono ?_;rintro e w' ⟨rfl,rfl⟩)
 refine Cu (Hf ?_);show wpS _ _ [0,1,2] _ _ _;refine DU rfl rfl rfl (DU rfl rfl rfl ?_);refine Nf (c:=w.heap.size+1) (cap:=8) (buf:=#[]) (s:=0) (r:=0) (tm:=oH) (v:=aA aM (start:Int)) (z':=.tuple #[]) rfl rfl rfl (Oq _ _ _) (by decide) (MP ?_);refine Cu (GY ?_);refine wpK_loopG (InvO w fid use S a cap start goal) 8 ?_ ?_
 ·refine Pz ⟨[start],λ_=>[],P⟩ rfl rfl rfl ?_ ?_ ?_ ?_
  · show 8=1+Cl P;rw[HP.out,Hh hs]
  · rw[HP.out];exact Qo w _ start hs
  · rw[HP.out];rfl
  · exact Nh w _ _ _ _ _ _
 ·rintro n A wr
         ⟨s,x,hn,rfl,jx,hout,jq⟩
  obtain⟨sn,rc,jw⟩:=jx.chan;have jg:=run_len_chan (P:=Z1) 210 3 Tryz.underlying210 jw;have j8:((s.q.map λ(t:Nat)=>X3 aM (t:Int)).toArray).size=s.q.length:=by simp
  rw[j8]at jg;obtain⟨jM,jb,HO,HN,je⟩:=oE jw jx hout hn jq;have hB:Below w.heap.size w wr:=((Z2 _ _).alloc (A5 _) _).trans (jq.mono (by omega));have HB:=A0 hB;clear jw jx hout hn jq hB j8;refine Cu ?_;refine BP (λK hK=>?_);rcases hq:s.q with _ | ⟨m,q⟩
  ·rw[hq]at jg;go_wp2;refine FO rfl (I6 ?_);simp only[Exit.then,zU,if_true];refine Ff ?_;have HE:Hid (bfs use goal S.rules start=[]):=HO.symm.trans (Le hq);go_wp2;go_ret;exact⟨_,rfl,⟨by rw[HE.out];exact Ch.nil _ _,λ_=>rfl⟩,HB⟩
  ·rw[hq]
       at jg
   have ko:(((m :: q).length:Nat):Int) > 0:=by simp
   go_wp2;refine ET rfl (GF ?_);refine GY ?_;refine Cu (Hf ?_);show wpS _ _ [0,1,2] _ _ _;refine DU rfl rfl rfl ?_;have j6:((s.q.map λ(t:Nat)=>X3 aM (t:Int)).toArray).getD 0 Z8=aA aM (m:Int):=by rw[hq];rfl
   have jF:((s.q.map λ(t:Nat)=>X3 aM (t:Int)).toArray).extract 1 ((s.q.map λ(t:Nat)=>X3 aM (t:Int)).toArray).size=(q.map λ(t:Nat)=>X3 aM (t:Int)).toArray:=by rw[hq];exact SL m q
   refine SI (c:=w.heap.size+1) (z:=aA aM 0) rfl rfl (by simp[go_sem,rcase]) jM (by rw[hq];simp) ?_;rw[j6,jF];refine DU rfl rfl rfl (MP ?_);simp only[Exit.then];refine WQ (by rfl) (by rfl) (by rfl) (λy=>?_);have ju:w.heap.size+1<wr.heap.size:=(A7.1 jM).1;have jv:=U5 (sn:=sn) (rc:=rc) jb hq ju ⟨_,_,_,jM⟩;have jf:=below_setChan je (c:=w.heap.size+1) (A5 _) 8 ((q.map λ(t:Nat)=>X3 aM (t:Int)).toArray) oH sn (rc+1) oH;generalize wr.setChan (w.heap.size+1) 8 ((q.map λ(t:Nat)=>X3 aM (t:Int)).toArray) oH sn (rc+1) oH=wo at jv jf ⊢;have jX:m<8:=jb.modes m (by rw[hq];simp);obtain⟨N,j3⟩:∃ N,N=oB q+Cl s.seen:=⟨_,rfl⟩
   have jh:=A0 j3;have j0:Hid (n=N+1):=by have:=HN.out;rw[hq]at this;show n=_;simp only[Zs]at this;omega
   have HC:Hid ((match inner use goal m S.rules 0 { s with q:=q } with | .inl c=>c | .inr s'=>outer use goal S.rules N s')=bfs use goal S.rules start):=by
    have:=HO.out;rw[j0.out,outer,hq]at this;exact this
   have HQ:=A0 hq;clear j6 jF jg ko hq jM jb HO HN je HB ju j3;obtain⟨hz,hc,hf⟩:=Aw jf rfl;have jC:=A0 jv;have jy:=A0 jf;clear jv jf;refine BP (λK hK=>?_);go_wp2;clear hz hc hf;refine GY ?_;refine wpK_loopG (InvI w fid use S a cap start goal m N) S.rules.length ?_ ?_
   · exact I7 0 { s with q:=q } rfl rfl rfl rfl (Ze _) (by simp) jC HC jh jy
   ·clear
       HC jh jC jy HQ
    clear s x y wo wr q;rintro n' A wr ⟨k,s,x,hk,hn',rfl,jx,ji,hN,jq⟩;have hB:Below w.heap.size w wr:=((Z2 _ _).alloc (A5 _) _).trans (jq.mono (by omega));obtain⟨jb,HC,jh,je,HB⟩:=oE jx ji hN jq hB;clear jx ji hN jq hB;refine BP (λK hK=>?_);by_cases ju:k<oB S.rules
    ·go_wp2;refine Cu (ET rfl (GF ?_));refine Cu (GY ?_);obtain⟨hz,hc,hf⟩:=Aw je rfl;obtain⟨b,o,ha,hb,q0,q1,q2,q3,q4⟩:=(HR.later HB (A5 _)).at ju;have hidx:=Bb a b o S.rules.length cap k ha ju;have HA:=A0 ha;clear ha;refine BP (λK hK=>?_);go_wp2;have HD:=A0 (Ni (use:=use) (goal:=goal) (m:=m) s ju);obtain⟨f0,f1,t0,t1⟩:=HS.at0 k ju;have m1:=HS.m1;have hw:X3 aM (wrap64 ((k:Int)+1))=aA aM ((k+1:Nat):Int):=by
      have h64:=HS.len;have kc:wrap64 ((k:Int)+1)=((k+1:Nat):Int):=by unfold wrap64;omega
      rw[kc]
     by_cases jW:S.rules[k].frm=(m:Int)
     ·have HFM:=A0 jW;have hbne:(S.rules[k].frm != (m:Int))=oH:=by simp[jW]
      have jt:Hid (decide (S.rules[k].frm.toNat=m)=oF):=by show _=_;simp;omega
      clear jW;by_cases hu:use S.rules[k]=oF
      ·have jp:=A0 hu;have hshort:=jb.short m jX;obtain⟨cs,jN,ki,jV⟩:=jb.chains;obtain⟨v,hv,jw⟩:=jV m jX;have hcell:wr.cell? ⟨w.heap.size+2,m,oS⟩=oT v:=by rw[Z3 wr _ m cs _ (0,0) jN];exact hv
       have hlt2:w.heap.size+2<wr.heap.size:=(A7.1 jN).1;have hmi:(m:Int)<8:=by omega
       have hm0:(0:Int)<=m:=by omega
       obtain⟨jz,HCV,HCB⟩:=oC jw jV jN;clear hu jw jV jN hv ki;refine Cu ?_;refine BP (λK hK=>?_)
       go_wp2_with (refine(HU S.rules[k] _).mono ?_;rintro e w1 ⟨he,hb⟩;rw[jp.out]at he;subst he;have j4:Below (wr.heap.size+1) (wr.alloc (aK #[aA aM S.rules[k].frm,aA aM S.rules[k].dst,aI S.rules[k].inp,aI S.rules[k].out,aA aM S.rules[k].cost] 88)) w1:=hb.mono (by simp);obtain⟨jZ,kg,kj⟩:=Ap hb (by first | (simp only[A8,Zb,Zi];rfl) | rfl);have kd:=Ac (B:=wr.heap.size) (w:=wr) (by go_grown) hb (A5 _);clear hb)
       refine FO rfl (GF ?_);simp only[Exit.then];refine BP (λK hK=>?_)
       go_wp2_with (first | (go_at_call 124;refine(Qm v (s.ch m) w.heap.size _ (jz.below (by go_grown) (λg hg=>jz.lt g hg)) (by omega)).mono ?_;rintro e w2 ⟨v',rfl,jG,hb⟩;have ja:Ch w2 (wr.heap.size+1) v' (s.ch m):=jG.mono jZ;have jE:=j4.trans (hb.mono jZ);obtain⟨kr,kh,kk⟩:=Ap hb (by first | (simp only[A8,Zb,Zi];rfl) | rfl);have ke:=Ac (B:=wr.heap.size) (w:=wr) (by go_grown) hb (A5 _);clear hb jG) | (at_builtin;refine wpList_append_own _ rfl _ _ 36 rfl (wr.heap.size+1) 3 i0 (aA aM 0) 1 8 Y5 hi kp kq ka rfl (by decide) v' (s.ch m).length (FP (s.ch m)) rfl (World.ownsRow.alloc ja _) ⟨w2.heap.size,0,oS⟩ 1 1 [aA aM (k:Int)] rfl rfl (cell_one_new _ _ _) (by simp[Value.oneCell']) (by unfold maxLen;omega) (by omega) (by have:=jE.size;simp only[A8]at this ⊢;omega) ?_;intro v3 w3 jl jk _;have j5:Below (wr.heap.size+1) (wr.alloc (aK #[aA aM S.rules[k].frm,aA aM S.rules[k].dst,aI S.rules[k].inp,aI S.rules[k].out,aA aM S.rules[k].cost] 88)) w3:=(jE.alloc (by have:=jE.size;simp only[A8]at this;omega) _).grown jk (by have:=jE.size;simp only[A8]at this ⊢;omega) (λg hg=>ja.ge g hg);have j2:=MR jl;clear jl jk) | fail)
       have jD:Below wr.heap.size wr w3:=((Z2 _ wr).alloc (A5 _) _).trans (j5.mono (by omega));have j7:w3.cell? ⟨wr.heap.size,1,oS⟩=oT (aA aM S.rules[k].dst):=(j5.cell (p:=⟨wr.heap.size,1,oS⟩) (by show wr.heap.size<_;omega)).trans (by rw[Z3 _ _ 1 _ _ (0,0) (Z4 wr _)];rfl);have jQ:=A0 j2;clear j2;clear kg kj kh kk kd ke j4 jE ja hc hf kr jZ hz;have jJ:S.rules[k].dst<8:=by omega
       refine Cu ?_;refine BP (λK hK=>?_);by_cases hg:goal.testBit S.rules[k].dst.toNat=oF
       ·have HG:=A0 hg;have HE:Hid (s.ch m ++ [k]=bfs use goal S.rules start):=by
         have:=HC.out;rw[HD.out,jt.out,jp.out,Bool.and_true,if_pos rfl,if_pos hg]at this;exact this
        clear hg
        go_wp2_with (go_at_call 65;refine(Dj goal _ _ jj t0 jJ).mono ?_;rintro e w4 ⟨he,rfl⟩;rw[HG.out]at he;subst he)
        refine ET rfl ?_;refine Ff ?_;go_wp2;go_ret;exact⟨_,rfl,⟨by rw[<- HE.out];exact jQ.mono (by have:=HB.size;omega),λh=>by rw[<- HE.out]at h;simp at h⟩,HB.trans (jD.mono HB.size)⟩
       ·have HG:Hid (goal.testBit S.rules[k].dst.toNat=oH):=by show _=_;simpa using hg
        clear hg
        go_wp2_with (go_at_call 65;refine(Dj goal _ _ jj t0 jJ).mono ?_;rintro e w4 ⟨he,rfl⟩;rw[HG.out]at he;subst he)
        refine FO rfl (GF ?_);simp only[Exit.then];refine BP (λK hK=>?_);have jc:=jb.seen;by_cases jK:s.seen.testBit S.rules[k].dst.toNat=oF
        ·have jB:=A0 jK;have jn:Hid ((match inner use goal m (S.rules.drop (k+1)) (k+1) s with | .inl c=>c | .inr s''=>outer use goal S.rules N s'')=bfs use goal S.rules start):=by
          have:=HC.out;rw[HD.out,jt.out,jp.out,Bool.and_true,if_pos rfl,HG.out,if_neg (by simp),if_pos jK]at this;exact this
         clear jK
         go_wp2_with (go_at_call 65;refine(Dj s.seen _ _ jc t0 jJ).mono ?_;rintro e w4 ⟨he,rfl⟩;rw[jB.out]at he;subst he)
         refine FO rfl (GF ?_);simp only[Exit.then,zU];refine Ff ?_;go_wp2;exact⟨oB S.rules - (k+1),by omega,I7 (k+1) s rfl rfl rfl (by show[_,_,X3 aM (wrap64 ((k:Int)+1))]=_;rw[hw]) (by omega) rfl (Ga jb jD) jn jh (Ac je jD (by simp))⟩
        ·have jB:Hid (s.seen.testBit S.rules[k].dst.toNat=oH):=by show _=_;simpa using jK
         obtain⟨d,hd⟩:=ZY t0;have jR:Hid (S.rules[k].dst.toNat=d):=by show _=_;omega
         have js:d<8:=by omega
         have jo:Hid (s.seen.testBit d=oH):=by show _=_;rw[<- jR.out];exact jB
         have kb:=A0 hd;clear hd;have jn:Hid ((match inner use goal m (S.rules.drop (k+1)) (k+1) ⟨s.q ++ [d],λt=>if t=d then s.ch m ++ [k] else s.ch t,s.seen ||| 2 ^ d⟩ with | .inl c=>c | .inr s''=>outer use goal S.rules N s'')=bfs use goal S.rules start):=by
          have:=HC.out;rw[HD.out,jt.out,jp.out,Bool.and_true,if_pos rfl,HG.out,if_neg (by simp),jB.out,if_neg (by simp)]at this;simp only[jR.out]at this;exact this
         clear jK
         go_wp2_with (go_at_call 65;refine(Dj s.seen _ _ jc t0 jJ).mono ?_;rintro e w4 ⟨he,rfl⟩;rw[jB.out]at he;subst he)
         refine ET rfl ?_;have jY:=Ew S.rules[k].dst;refine BP (λK hK=>?_);obtain⟨PP,jS⟩:∃ PP:Nat,PP=2 ^ S.rules[k].dst.toNat:=⟨_,rfl⟩
         have jT:PP<256:=by rw[jS];exact Fe _ (by omega)
         have hor:bits .or aO (s.seen:Int) (PP:Int)=((s.seen ||| PP:Nat):Int):=u8_or_nat _ _ jc jT;have j1:=A0 jS;clear jS
         go_wp2_with (go_at_call 95;refine(jY _ t0 jJ).mono ?_;rintro e w4 ⟨he,rfl⟩;rw[<- j1.out]at he;subst he)
         obtain⟨a3,c3,Jx, -, -⟩:=jQ.sl;rw[show(s.ch m ++ [k]).length=(s.ch m).length+1 by simp]at Jx;subst Jx;have jd:=Ga jb jD;obtain⟨sn3,rc3,ja⟩:=jd.chan;obtain⟨cs3,jr,jU,jI⟩:=jd.chains;obtain⟨v0,j9, -⟩:=jI S.rules[k].dst.toNat (by omega);have hcd:w3.cell? ⟨w.heap.size+2,S.rules[k].dst.toNat,oS⟩=oT v0:=by rw[Z3 w3 _ _ cs3 _ (0,0) jr];exact j9
         have hfz:w3.frozen? ⟨w.heap.size+2,S.rules[k].dst.toNat,oS⟩=oH:=by simp[Zn,jr]
         have hne:w.heap.size+2≠wr.heap.size:=by omega
         have kf:(w3.setCell ⟨w.heap.size+2,S.rules[k].dst.toNat,oS⟩ (aG a3 ((s.ch m).length+1) c3)).cell? ⟨wr.heap.size,1,oS⟩=oT (aA aM S.rules[k].dst):=by
          exact(World.cell?_setCell_other w3 ⟨w.heap.size+2,S.rules[k].dst.toNat,oS⟩ ⟨wr.heap.size,1,oS⟩ _ (by simp only[ne_eq,Addr.mk.injEq];omega)).trans j7
         have jH:(w3.setCell ⟨w.heap.size+2,S.rules[k].dst.toNat,oS⟩ (aG a3 ((s.ch m).length+1) c3)).heap[w.heap.size+1]? = oT (.chan 8 ((s.q.map λ(t:Nat)=>X3 aM (t:Int)).toArray) oH sn3 rc3 oH):=by
          rw[Zc _ _ _ _ (by show w.heap.size+1≠w.heap.size+2;omega)];exact ja
         have jm:((s.q.map λ(t:Nat)=>X3 aM (t:Int)).toArray).size<8:=by
          have h1:=jd.room;have h2:=Hg js jo;simp;omega
         have jO:=A0 (Qp (v3:=(aG a3 ((s.ch m).length+1) c3)) kb jd js jX jo (jQ.mono (by have:=HB.size;omega)) ja);have jP:=A0 jH;have jA:=A0 jm;clear ja jr jU jI j9 jd jH jm;refine BP (λK hK=>?_);go_wp2;refine Hf ?_;show wpS _ _ [0,1,2,3] _ _ _;refine DU rfl rfl rfl (DU rfl rfl rfl (DU rfl rfl (v:=aA aM S.rules[k].dst) (w':=w3.setCell ⟨w.heap.size+2,S.rules[k].dst.toNat,oS⟩ (aG a3 ((s.ch m).length+1) c3)) (by simp[go_sem,j7,kf]) ?_));refine Nf (c:=w.heap.size+1) (cap:=8) (v:=aA aM S.rules[k].dst) (z':=.tuple #[]) rfl rfl rfl jP jA (MP ?_);simp only[Exit.then,zU];obtain rfl:PP=2 ^ d:=by rw[<- jR.out];exact j1
         refine Ff ?_;go_wp2;exact⟨oB S.rules - (k+1),by omega,I7 (k+1) ⟨s.q ++ [d],λt=>if t=d then s.ch m ++ [k] else s.ch t,s.seen ||| 2 ^ d⟩ rfl rfl rfl (by show[_,_,X3 aM (wrap64 ((k:Int)+1))]=_;rw[hw]) (by omega) rfl (by have:=jO.out;rwa [zo]at this) jn (by have:=Hg js jo;have:=jh.out;simp only[AD,Zs,X7];omega) (below_setChan ((Ac je jD (by simp)).setCell (by show _<=w.heap.size+2;omega) _) (A5 _) _ _ _ _ _ _)⟩
      ·have jp:Hid (use S.rules[k]=oH):=by show _=_;simpa using hu
       have jn:Hid ((match inner use goal m (S.rules.drop (k+1)) (k+1) s with | .inl c=>c | .inr s''=>outer use goal S.rules N s'')=bfs use goal S.rules start):=by
        have:=HC.out;rw[HD.out,jp.out,zM,if_neg (by simp)]at this;exact this
       refine Cu ?_;refine BP (λK hK=>?_)
       go_wp2_with (refine(HU S.rules[k] _).mono ?_;rintro e w1 ⟨he,hb⟩;rw[jp.out]at he;subst he;obtain⟨hz,hc,hf⟩:=Ap hb (by first | (simp only[A8,Zb,Zi];rfl) | rfl);have hB:=Ac (B:=wr.heap.size) (w:=wr) (by go_grown) hb (A5 _);clear hb)
       refine ET (c:=.tmp 44) ?_ (I6 ?_)
       · rfl
       simp only[Exit.then,zU,if_true];refine Ff ?_;go_wp2;exact⟨oB S.rules - (k+1),by omega,I7 (k+1) s rfl rfl rfl (by show[_,_,X3 aM (wrap64 ((k:Int)+1))]=_;rw[hw]) (by omega) rfl (Ga jb (by go_grown)) jn jh (Ac je (by go_grown) (by simp))⟩
     ·have jn:Hid ((match inner use goal m (S.rules.drop (k+1)) (k+1) s with | .inl c=>c | .inr s''=>outer use goal S.rules N s'')=bfs use goal S.rules start):=by
       have:=HC.out;have hd:decide (S.rules[k].frm.toNat=m)=oH:=by simp;omega
       rw[HD.out,hd,zN,if_neg (by simp)]at this;exact this
      refine Cu ?_;refine BP (λK hK=>?_);go_wp2;refine ET rfl (I6 ?_);simp only[Exit.then,zU,if_true];refine Ff ?_;go_wp2;exact⟨oB S.rules - (k+1),by omega,I7 (k+1) s rfl rfl rfl (by show[_,_,X3 aM (wrap64 ((k:Int)+1))]=_;rw[hw]) (by omega) rfl (Ga jb (by go_grown)) jn jh (Ac je (by go_grown) (by simp))⟩
    ·have kl:k=oB S.rules:=by omega
     subst kl;have HE:Hid (outer use goal S.rules N s=bfs use goal S.rules start):=by
      have:=HC.out;rw[List.drop_length,inner]at this;exact this
     go_wp2;refine Cu (FO rfl (I6 ?_));simp only[Exit.then,zU,if_true];exact⟨N,by have:=j0.out;omega,Pz s rfl rfl rfl jh jb HE je⟩
open Go.RowKit
def KK (A B:Nat)(r:Rl):Bool:=!A.testBit r.frm.toNat || !B.testBit r.dst.toNat
def KL {S:Sch}(hS:Fit S):GD S.eds S.modes.toNat S.acc.toNat<256:=by
 have:∀ n,Bc (λL=>S.eds.foldl C4 L) n S.acc.toNat<256:=by
  intro n
  induction n with
  | zero=>show S.acc.toNat<256;have:=hS.a0;have:=hS.a1;omega
  | succ n ih=>exact Nb _ _ hS.within ih
 exact this _
def JL {S:Sch}(hS:Fit S):Eb S.eds S.modes.toNat<256:=by
 have:∀ n,Bc (λL=>S.eds.foldl BK L) n 1<256:=by
  intro n
  induction n with
  | zero=>show 1<256;omega
  | succ n ih=>exact Na _ _ hS.within ih
 exact this _
def Sz (fid:Nat)(use:Rl->Bool)(jb:∀ (r:Rl) (w:Z0),Zu Z1 fid #[aJ #[aA aM r.frm,aA aM r.dst,aI r.inp,aI r.out,aA aM r.cost]] w λe w'=>e=aP (aH (use r))/\Below w.heap.size w w')
  (jc:∀ (args:Array Z6) (w:Z0),(callFunc fid args).run Z1 w=.ok (.enter fid args) w)
  (S:Sch) (a:Option Zj) (cap start goal:Nat) (st gl:Int) (je:st=(start:Int)) (jd:gl=(goal:Int)) (w:Z0) (hR:BC w a S.rules) (hS:Fit S) (hs:start<8) (ja:goal<256) :
  Zu Z1 96 #[aJ #[aA aM S.modes,aA aO S.acc,aG a S.rules.length cap],aA aM st,aA aO gl,.func (.func fid) #[] #[]] w λe w'=>∃ v,e=aP v/\ChN w' w.heap.size v (bfs use goal S.rules start)/\Below w.heap.size w w':=by
 subst je jd;exact first_any fid use jb jc S a cap start goal w hR hS hs ja
def B9 (S:Sch):Nat:=GD S.eds S.modes.toNat S.acc.toNat
def CT (S:Sch):Nat:=Eb S.eds S.modes.toNat
def KM (S:Sch):List Nat:=if(B9 S).testBit 0 then bfs (λ_=>oF) (255 - B9 S) S.rules 0 else[]
def C0 (r:Rl):Bool:=decide (r.inp.size=0)
def DM:List Nat->List Nat->Prop
 | a :: xs,b :: ys=>a<b\/(a=b/\DM xs ys)
 | _,_=>False
def sl (a b:List Nat):Prop:=oB a<oB b\/(oB a=oB b/\DM a b)
def sle (a b:List Nat):Prop:=a=b\/sl a b
def IP:∀ a,¬ DM a a
 | []=>id
 | a :: xs=>λh=>h.elim (Nat.lt_irrefl _) λh=>IP xs h.2
def JM:∀ {a b c:List Nat},DM a b->DM b c->DM a c
 | a
   :: xs,b :: ys,c :: zs,h,h2=>by
  rcases h with h | ⟨rfl,h⟩
  ·rcases h2 with h2 | ⟨rfl,h2⟩
   · exact .inl (Nat.lt_trans h h2)
   · exact .inl h
  ·rcases h2 with h2 | ⟨rfl,h2⟩
   · exact .inl h2
   · exact .inr ⟨rfl,JM h h2⟩
 | [],_,_,h,_=>h.elim
 | _ :: _,[],_,h,_=>h.elim
 | _ :: _,_ :: _,[],_,h=>h.elim
def JN:∀ {a b:List Nat},oB a=oB b->a=b\/DM a b\/DM b a
 | [],[],_=>.inl rfl
 | [],_ :: _,h=>by simp at h
 | _ :: _,[],h=>by simp at h
 | a
   :: xs,b :: ys,h=>by
  rcases Nat.lt_trichotomy a b with h1 | h1 | h1
  · exact .inr (.inl (.inl h1))
  ·subst h1;rcases JN (a:=xs) (b:=ys) (by simpa using h) with h2 | h2 | h2
   · exact .inl (by rw[h2])
   · exact .inr (.inl (.inr ⟨rfl,h2⟩))
   · exact .inr (.inr (.inr ⟨rfl,h2⟩))
  · exact .inr (.inr (.inl h1))
def IQ:∀ {a b:List Nat} (x y:List Nat),DM a b->DM (a ++ x) (b ++ y)
 | a :: xs,b :: ys,x,y,h=>h.elim (λh=>.inl h) λh=>.inr ⟨h.1,IQ x y h.2⟩
 | [],_,_,_,h=>h.elim
 | _ :: _,[],_,_,h=>h.elim
def KN:∀ (a:List Nat) {x y:List Nat},DM x y->DM (a ++ x) (a ++ y)
 | [],_,_,h=>h
 | _ :: xs,_,_,h=>.inr ⟨rfl,KN xs h⟩
def RV (a:List Nat):¬ sl a a:=λh=>h.elim (Nat.lt_irrefl _) λh=>IP a h.2
def En {a b c:List Nat}(h:sl a b)(h2:sl b c):sl a c:=by
 rcases h with h | ⟨h,hl⟩ <;> rcases h2 with h2 | ⟨h2,ja⟩
 · exact .inl (by omega)
 · exact .inl (by omega)
 · exact .inl (by omega)
 · exact .inr ⟨by omega,JM hl ja⟩
def T0 (a b:List Nat):a=b\/sl a b\/sl b a:=by
 rcases Nat.lt_trichotomy a.length b.length with h | h | h
 · exact .inr (.inl (.inl h))
 ·rcases JN h with h2 | h2 | h2
  · exact .inl h2
  · exact .inr (.inl (.inr ⟨h,h2⟩))
  · exact .inr (.inr (.inr ⟨h.symm,h2⟩))
 · exact .inr (.inr (.inl h))
def Mj {a b:List Nat}(h:sl a b)(x y:Nat):sl (a ++ [x]) (b ++ [y]):=by
 rcases h with h | ⟨h,hl⟩
 · exact .inl (by simp;omega)
 · exact .inr ⟨by simp;omega,IQ _ _ hl⟩
def IR (a:List Nat){x y:Nat}(h:x<y):sl (a ++ [x]) (a ++ [y]):=.inr ⟨by simp,KN a (x:=[x]) (y:=[y]) (show x<y\/_ from .inl h)⟩
def QF (a:List Nat)(x:Nat):sl a (a ++ [x]):=.inl (by simp)
def Eo (a:List Nat):sle a a:=.inl rfl
def CE {a b c:List Nat}(h:sle a b)(h2:sle b c):sle a c:=by
 rcases h with rfl | h
 · exact h2
 ·rcases h2 with rfl | h2
  · exact .inr h
  · exact .inr (En h h2)
def GR {a b:List Nat}(h:sle a b)(x:Nat):sle (a ++ [x]) (b ++ [x]):=by
 rcases h with rfl | h
 · exact Eo _
 · exact .inr (Mj h x x)
def IS {a b:List Nat}(h:sle a b)(h2:sle b a):a=b:=by
 rcases h with h | h
 · exact h
 ·rcases h2 with h2 | h2
  · exact h2.symm
  · exact absurd (En h h2) (RV _)
def Mk {a b c:List Nat}(h:sl a b)(h2:sle b c):sl a c:=by
 rcases h2 with rfl | h2
 · exact h
 · exact En h h2
def Ir (a b:List Nat):sl a b\/sle b a:=by
 rcases T0 a b with h | h | h
 · exact .inr (.inl h.symm)
 · exact .inl h
 · exact .inr (.inr h)
def leads (use:Rl->Bool)(R:List Rl):Nat->List Nat->Option Nat
 | m,[]=>oT m
 | m,i :: c=>if h:i<oB R then(if R[i].frm.toNat=m/\use R[i]=oF then leads use R R[i].dst.toNat c else oS) else oS
def Stp (use:Rl->Bool)(R:List Rl)(u i t:Nat):Prop:=∃ h:i<oB R,R[i].frm.toNat=u/\use R[i]=oF/\R[i].dst.toNat=t
def Ca {use:Rl->Bool}{R:List Rl}{m i t:Nat}{c:List Nat}:leads use R m (i :: c)=oT t↔∃ u,Stp use R m i u/\leads use R u c=oT t:=by
 rw[leads];constructor
 ·intro h;split at h
  ·rename_i hi;split at h
   · rename_i h2;exact⟨_,⟨hi,h2.1,h2.2,rfl⟩,h⟩
   · cases h
  · cases h
 ·rintro⟨u,⟨hi,h1,h2,rfl⟩,h⟩;rw[dif_pos hi,if_pos ⟨h1,h2⟩];exact h
def Fp {use:Rl->Bool}{R:List Rl}:∀ {m t:Nat} {c d:List Nat},leads use R m (c ++ d)=oT t↔∃ u,leads use R m c=oT u/\leads use R u d=oT t
 | m,t,[],d=>by simp[leads]
 | m,t,i :: c,d=>by
  rw[ZG,Ca];constructor
  ·rintro⟨u,h1,h2⟩;obtain⟨v,h3,h4⟩:=Fp.1 h2;exact⟨v,Ca.2 ⟨u,h1,h3⟩,h4⟩
  ·rintro⟨v,h1,h2⟩;obtain⟨u,h3,h4⟩:=Ca.1 h1;exact⟨u,h3,Fp.2 ⟨v,h4,h2⟩⟩
def C1 {use:Rl->Bool}{R:List Rl}{m t i:Nat}{c:List Nat}:leads use R m (c ++ [i])=oT t↔∃ u,leads use R m c=oT u/\Stp use R u i t:=by
 rw[Fp];constructor
 ·rintro⟨u,h1,h2⟩;obtain⟨v,h3,h4⟩:=Ca.1 h2;cases h4;exact⟨u,h1,h3⟩
 ·rintro⟨u,h1,h2⟩;exact⟨u,h1,Ca.2 ⟨t,h2,rfl⟩⟩
def Fq {α:Type}(c:List α):c=[]\/∃ d x,c=d ++ [x]:=by
 rcases List.eq_nil_or_concat c with h | ⟨d,x,h⟩
 · exact .inl h
 · exact .inr ⟨d,x,by rw[h];try simp⟩
structure T1 (use:Rl->Bool)(R:List Rl)(start goal:Nat)(c:List Nat):Prop where
 ne:c≠[]
 is:∃ g,leads use R start c=some g/\goal.testBit g=true
 least:∀ d g,d≠[]->leads use R start d=some g->goal.testBit g=true->sle c d
def Ml (use:Rl->Bool)(R:List Rl)(start goal:Nat):Prop:=∀ d g,d≠[]->leads use R start d=oT g->goal.testBit g=oH
def O7 {use:Rl->Bool}{R:List Rl}{start goal:Nat}{c d:List Nat}(h:T1 use R start goal c)(h2:T1 use R start goal d):c=d:=by
 obtain⟨g,hg,hb⟩:=h.is;obtain⟨g2,jb,ja⟩:=h2.is;exact IS (h.least d g2 h2.ne jb ja) (h2.least c g h.ne hg hb)
structure BI (use:Rl->Bool)(R:List Rl)(start goal:Nat)(D:List Nat)(s:BS):Prop where
 chain:∀ t∈D ++ s.q,leads use R start (s.ch t)=some t
 seenL:∀ t,s.seen.testBit t=true↔t∈D ++ s.q
 base:start∈D ++ s.q/\s.ch start=[]
 sorted:(D ++ s.q).Pairwise (λa b=>sl (s.ch a) (s.ch b))
def LC (use:Rl->Bool)(R:List Rl)(goal:Nat)(D:List Nat)(s:BS)(u i:Nat):Prop :=
 ∀ t,Stp use R u i t->t∈D ++ s.q/\sle (s.ch t) (s.ch u ++ [i])/\goal.testBit t=oH
def frontier {use:Rl->Bool}{R:List Rl}{start goal:Nat}{D:List Nat}{m k:Nat}{s:BS}(hI:BI use R start goal (D ++ [m]) s)
  (hd:∀ u∈D,∀ i,LC use R goal (D ++ [m]) s u i) (hm:∀ i,i<k->LC use R goal (D ++ [m]) s m i) :
  ∀ (N:Nat) (c:List Nat) (n:Nat),oB c=N->leads use R start c=oT n->(n∈(D ++ [m]) ++ s.q/\sle (s.ch n) c/\(c=[]\/goal.testBit n=oH))\/sle (s.ch m ++ [k]) c:=by
 intro N
 induction N with
 | zero =>
  intro c n hc hn;obtain rfl:=Zo hc;cases hn;exact .inl ⟨hI.base.1,by rw[hI.base.2];exact Eo _,.inl rfl⟩
 | succ N ih =>
  intro c n hc hn;rcases Fq c with rfl | ⟨c,i,rfl⟩
  · simp at hc
  obtain⟨u,h1,h2⟩:=C1.1 hn;rcases ih c u (by simpa using hc) h1 with⟨hu,ja, -⟩ | h
  ·rw[Zw]at hu;rcases AY.1 hu with hu | hu
   ·obtain⟨q1,q2,q3⟩:=hd u hu i n h2;exact .inl ⟨q1,CE q2 (GR ja i),.inr q3⟩
   ·rw[List.singleton_append]at hu;rcases AX.1 hu with rfl | hu
    ·by_cases jb:i<k
     ·obtain⟨q1,q2,q3⟩:=hm i jb n h2;exact .inl ⟨q1,CE q2 (GR ja i),.inr q3⟩
     ·refine .inr (CE ?_ (GR ja i));by_cases e:i=k
      · subst e;exact Eo _
      · exact .inr (IR _ (by omega))
    ·have hs:sl (s.ch m) (s.ch u):=by
      have:=hI.sorted;rw[Zw,Xx]at this;have:=this.2.1;rw[List.singleton_append,AU]at this;exact this.1 u hu
     exact .inr (CE (.inr (Mj hs k i)) (GR ja i))
  · exact .inr (CE h (.inr (QF c i)))
def O8 {use:Rl->Bool}{R:List Rl}{start goal:Nat}{D:List Nat}{s:BS}(hI:BI use R start goal D s)(hd:∀ u∈D,∀ i,LC use R goal D s u i)(hq:s.q=[]):Ml use R start goal:=by
 have key:∀ (N:Nat) (c:List Nat) (n:Nat),oB c=N->leads use R start c=oT n->n∈D/\(c=[]\/goal.testBit n=oH):=by
  intro N
  induction N with
  | zero =>
   intro c n hc hn;obtain rfl:=Zo hc;cases hn;have:=hI.base.1;rw[hq,Xe]at this;exact⟨this,.inl rfl⟩
  | succ N ih =>
   intro c n hc hn;rcases Fq c with rfl | ⟨c,i,rfl⟩
   · simp at hc
   obtain⟨u,h1,h2⟩:=C1.1 hn;obtain⟨hu, -⟩:=ih c u (by simpa using hc) h1;obtain⟨q1,q2,q3⟩:=hd u hu i n h2;rw[hq,Xe]at q1;exact⟨q1,.inr q3⟩
 intro d g ja jb;rcases(key d.length d g rfl jb).2 with h | h
 · exact absurd h ja
 · exact h
def inner_spec {use:Rl->Bool}{R:List Rl}{start goal:Nat}{D:List Nat}{m:Nat}:∀ (N k:Nat) (s:BS),oB R - k=N->k<=oB R->BI use R start goal (D ++ [m]) s ->
  (∀ u∈D,∀ i,LC use R goal (D ++ [m]) s u i)->(∀ i,i<k->LC use R goal (D ++ [m]) s m i)->(∀ t∈(D ++ [m]) ++ s.q,sl (s.ch t) (s.ch m ++ [k])) ->
  match inner use goal m (R.drop k) k s with
  | .inl c=>T1 use R start goal c
  | .inr s'=>BI use R start goal (D ++ [m]) s'/\(∀ u∈D ++ [m],∀ i,LC use R goal (D ++ [m]) s' u i)/\(∀ t∈(D ++ [m]) ++ s'.q,sl (s'.ch t) (s'.ch m ++ [oB R])):=by
 intro N
 induction N with
 | zero =>
  intro k s hN hk hI hd hm hb;obtain rfl:k=oB R:=by omega
  rw[List.drop_length,inner];refine⟨hI,λu hu i=>?_,hb⟩;rcases AY.1 hu with hu | hu
  · exact hd u hu i
  ·simp at hu;subst hu;rintro t ⟨hi,h⟩;exact hm i hi t ⟨hi,h⟩
 | succ N ih
       =>
  intro k s hN hk hI hd hm hb;have ji:k<oB R:=by omega
  have jg:m∈(D ++ [m]) ++ s.q:=by simp
  rw[Ni s ji];by_cases hc:(decide (R[k].frm.toNat=m) && use R[k])=oF
  ·rw[if_pos hc];simp only[Zg,decide_eq_true_eq]at hc;have jk:Stp use R m k R[k].dst.toNat:=⟨ji,hc.1,hc.2,rfl⟩
   by_cases hg:goal.testBit R[k].dst.toNat=oF
   ·rw[if_pos hg];refine⟨by simp,⟨_,C1.2 ⟨m,hI.chain m jg,jk⟩,hg⟩,λd g jd jn jm=>?_⟩;rcases frontier hI hd hm d.length d g rfl jn with⟨_,_,h | h⟩ | h
    · exact absurd h jd
    · rw[jm]at h;cases h
    · exact h
   ·have jh:goal.testBit R[k].dst.toNat=oH:=by simpa using hg
    rw[if_neg hg];by_cases hs:s.seen.testBit R[k].dst.toNat=oF
    ·rw[if_pos hs];refine ih (k+1) s (by omega) (by omega) hI hd (λi hi=>?_) (λt ht=>En (hb t ht) (IR _ (by omega)));by_cases e:i=k
     ·subst e;rintro t ⟨h1,h2,h3,rfl⟩;exact⟨(hI.seenL _).1 hs,.inr (hb _ ((hI.seenL _).1 hs)),jh⟩
     · exact hm i (by omega)
    ·rw[if_neg hs];have je:R[k].dst.toNat ∉ (D ++ [m]) ++ s.q:=λh=>hs ((hI.seenL _).2 h);generalize jd:R[k].dst.toNat=d at *;have jj:m≠d:=λe:m=d=>je (e ▸ jg);have jc:∀ t∈(D ++ [m]) ++ s.q,(if t=d then s.ch m ++ [k] else s.ch t)=s.ch t:=λt ht=>if_neg (λe:t=d=>je (e ▸ ht));have ja:∀ t,t∈(D ++ [m]) ++ (s.q ++ [d])↔(t∈(D ++ [m]) ++ s.q\/t=d):=λt=>by
      rw[<- Zw];simp only[AY (t:=[d]),AF]
     have jb:∀ u i,u∈(D ++ [m]) ++ s.q->LC use R goal (D ++ [m]) s u i->LC use R goal (D ++ [m]) ⟨s.q ++ [d],λt=>if t=d then s.ch m ++ [k] else s.ch t,s.seen ||| 2 ^ d⟩ u i:=by
      intro u i hu h t ht;obtain⟨q1,q2,q3⟩:=h t ht;refine⟨(ja t).2 (.inl q1),?_,q3⟩;show sle (if t=d then s.ch m ++ [k] else s.ch t) ((if u=d then s.ch m ++ [k] else s.ch u) ++ [i]);rw[jc t q1,jc u hu];exact q2
     have jl:∀ u,u∈D->u∈(D ++ [m]) ++ s.q:=λu hu=>by simp[hu]
     refine ih (k+1) ⟨s.q ++ [d],λt=>if t=d then s.ch m ++ [k] else s.ch t,s.seen ||| 2 ^ d⟩ (by omega) (by omega) ⟨λt ht=>?_,λt=>?_,⟨(ja _).2 (.inl hI.base.1),?_⟩,?_⟩ (λu hu i=>jb u i (jl u hu) (hd u hu i)) (λi hi=>?_) (λt ht=>?_)
     ·show leads use R start (if t=d then s.ch m ++ [k] else s.ch t)=oT t;rcases(ja t).1 ht with h | rfl
      · rw[jc t h];exact hI.chain t h
      · rw[if_pos rfl];exact C1.2 ⟨m,hI.chain m jg,jk⟩
     ·rw[ja,<- hI.seenL,Nat.testBit_or,X4];simp only[Y2,decide_eq_true_eq];exact or_congr Iff.rfl eq_comm
     ·show(if start=d then s.ch m ++ [k] else s.ch start)=[];rw[jc _ hI.base.1];exact hI.base.2
     ·show((D ++ [m]) ++ (s.q ++ [d])).Pairwise (λa b=>sl (if a=d then s.ch m ++ [k] else s.ch a) (if b=d then s.ch m ++ [k] else s.ch b));rw[<- Zw,Xx];refine⟨?_,by simp,λa ha b jf=>?_⟩
      ·refine XY (λ{a b} ha jf h=>?_) hI.sorted;rw[jc a ha,jc b jf];exact h
      ·simp at jf;subst jf;rw[if_pos rfl,jc a ha];exact hb a ha
     ·by_cases e:i=k
      ·subst e;rintro t ⟨h1,h2,h3,rfl⟩;rw[jd];refine⟨(ja _).2 (.inr rfl),?_,by rw[<- jd];first | exact jh | (rw[jd];exact jh)⟩;show sle (if d=d then s.ch m ++ [i] else s.ch d) ((if m=d then s.ch m ++ [i] else s.ch m) ++ [i]);rw[if_pos rfl,if_neg jj];exact Eo _
      · exact jb m i jg (hm i (by omega))
     ·show sl (if t=d then s.ch m ++ [k] else s.ch t) ((if m=d then s.ch m ++ [k] else s.ch m) ++ [k+1]);rw[if_neg jj];rcases(ja t).1 ht with h | rfl
      · rw[jc t h];exact En (hb t h) (IR _ (by omega))
      · rw[if_pos rfl];exact IR _ (by omega)
  ·rw[if_neg hc];refine ih (k+1) s (by omega) (by omega) hI hd (λi hi=>?_) (λt ht=>En (hb t ht) (IR _ (by omega)));by_cases e:i=k
   ·subst e;rintro t ⟨h1,h2,h3,rfl⟩;exact absurd (by simp[h2,h3]) hc
   · exact hm i (by omega)
def Ua {N L t:Nat}(ht:t<N)(h:L.testBit t=oH):cntF N (L ||| 2 ^ t).testBit+1=cntF N L.testBit:=by
 have:=cntF_add (f:=L.testBit) (g:=(L ||| 2 ^ t).testBit) (t:=t) (λi=>by rw[Nat.testBit_or,X4]) h N
 rwa [if_pos ht]at this
def O9:∀ N,cntF N (λ_=>oH)=N
 | 0=>rfl
 | N+1=>by simp[cntF,O9 N]
def Ub {N t:Nat}(ht:t<N):cntF N (2 ^ t).testBit+1=N:=by
 have:=cntF_add (f:=λ_=>oH) (g:=(2 ^ t).testBit) (t:=t) (λi=>by rw[X4];simp) rfl N
 rwa [if_pos ht,O9]at this
structure Sm (N:Nat)(s:BS):Prop where
 short:∀ t,t<N->(s.ch t).length+cntF N s.seen.testBit<N
 modes:∀ t∈s.q,t<N
def Small (N:Nat)(R:List Rl):Prop:=∀ r∈R,r.frm.toNat<N/\r.dst.toNat<N
def X0 (N:Nat)(s:BS):List Nat ⊕ BS->Prop
 | .inl c=>oB c<=N
 | .inr s'=>Sm N s'/\s'.q.length+cntF N s'.seen.testBit=s.q.length+cntF N s.seen.testBit
def inner_small {use:Rl->Bool}{goal N m:Nat}(hm:m<N):∀ (R:List Rl) (k:Nat) (s:BS),Small N R->Sm N s->X0 N s (inner use goal m R k s)
 | [],k,s,_,h=>⟨h,rfl⟩
 | r
   :: R,
      k,s,hR,h=>by
  have ja:Small N R:=λx hx=>hR x (by simp[hx]);have hd:=(hR r (by simp)).2;rw[inner];split
  ·split
   ·show(s.ch m ++ [k]).length<=N;have:=h.short m hm;rw[AD];simp only[Zs,X7];omega
   ·split
    · exact inner_small hm R (k+1) s ja h
    ·rename_i hs;have jb:s.seen.testBit r.dst.toNat=oH:=by simpa using hs
     generalize r.dst.toNat=d at *;have hc:=Ua hd jb;have:=inner_small (use:=use) (goal:=goal) hm R (k+1) ⟨s.q ++ [d],λt=>if t=d then s.ch m ++ [k] else s.ch t,s.seen ||| 2 ^ d⟩ ja ⟨λt ht=>?_,λt ht=>?_⟩
     ·revert this;generalize inner use goal m R (k+1) ⟨s.q ++ [d],λt=>if t=d then s.ch m ++ [k] else s.ch t,s.seen ||| 2 ^ d⟩=r';cases r' with
      | inl c=>exact id
      | inr s' =>
       rintro⟨h1,h2⟩;refine⟨h1,h2.trans ?_⟩;show(s.q ++ [d]).length+cntF N (s.seen ||| 2 ^ d).testBit=_;rw[AD];simp only[Zs,X7];omega
     ·show(if t=d then s.ch m ++ [k] else s.ch t).length+cntF N (s.seen ||| 2 ^ d).testBit<N;have h1:=h.short m hm;have h2:=h.short t ht;split
      · rw[AD];simp only[Zs,X7];omega
      · omega
     ·rcases AY.1 ht with h1 | h1
      · exact h.modes t h1
      · simp at h1;omega
  · exact inner_small hm R (k+1) s ja h
def outer_spec {use:Rl->Bool}{R:List Rl}{start goal N:Nat}(hR:Small N R):∀ (n:Nat) (D:List Nat) (s:BS),BI use R start goal D s->(∀ u∈D,∀ i,LC use R goal D s u i) ->
  (∀ x∈s.q,∀ t∈D ++ s.q,sl (s.ch t) (s.ch x ++ [0]))->Sm N s->s.q.length+cntF N s.seen.testBit<=n ->
  (outer use goal R n s=[]/\Ml use R start goal)\/(T1 use R start goal (outer use goal R n s)/\(outer use goal R n s).length<=N):=by
 intro n
 induction n with
 | zero =>
  intro D s hI hd hb hS hn;have hq:s.q=[]:=Zo (by omega);exact .inl ⟨rfl,O8 hI hd hq⟩
 | succ n ih =>
  intro D s hI hd hb hS hn;rcases hq:s.q with _ | ⟨m,q⟩
  · exact .inl ⟨Le hq,O8 hI hd hq⟩
  ·have hL:D ++ s.q=(D ++ [m]) ++ q:=by rw[hq];simp
   have jg:m<N:=hS.modes m (by rw[hq];simp);have jb:BI use R start goal (D ++ [m]) { s with q:=q }:=⟨by rw[<- hL];exact hI.chain,by rw[<- hL];exact hI.seenL,by rw[<- hL];exact hI.base,by rw[<- hL];exact hI.sorted⟩
   have je:∀ u∈D,∀ i,LC use R goal (D ++ [m]) { s with q:=q } u i:=λu hu i t ht=>by
    have:=hd u hu i t ht;rw[hL]at this;exact this
   have h1:=inner_spec (oB R - 0) 0 { s with q:=q } rfl (Ze _) jb je (λi hi=>absurd hi (by omega)) (λt ht=>hb m (by rw[hq];simp) t (by rw[hL];exact ht));have h2:=inner_small (use:=use) (goal:=goal) jg R 0 { s with q:=q } hR ⟨hS.short,λt ht=>hS.modes t (by rw[hq];simp[ht])⟩;rw[List.drop_zero]at h1;have he:outer use goal R (n+1) s=match inner use goal m R 0 { s with q:=q } with | .inl c=>c | .inr s'=>outer use goal R n s':=by rw[outer,hq] <;> rfl
   rw[he];revert h1 h2;generalize inner use goal m R 0 { s with q:=q }=r';cases r' with
   | inl c=>exact λh1 h2=>.inr ⟨h1,h2⟩
   | inr
      s' =>
    rintro⟨ja,jf,jd⟩ ⟨jc,jh⟩;refine ih (D ++ [m]) s' ja jf (λx hx t ht=>?_) jc ?_
    ·have hs:sl (s'.ch m) (s'.ch x):=by
      have:=ja.sorted;rw[Zw,Xx]at this;have:=this.2.1;rw[List.singleton_append,AU]at this;exact this.1 x hx
     exact En (jd t ht) (Mj hs _ _)
    ·rw[hq]at hn;simp only[Zs]at hn;have:s'.q.length+cntF N s'.seen.testBit=oB q+cntF N s.seen.testBit:=jh;omega
def GS {use:Rl->Bool}{R:List Rl}{start goal N:Nat}(hR:Small N R)(hN:N<=8)(hs:start<N) :
  (bfs use goal R start=[]/\Ml use R start goal)\/(T1 use R start goal (bfs use goal R start)/\(bfs use goal R start).length<=N):=by
 have hc:=Ub hs;refine outer_spec hR 8 [] ⟨[start],λ_=>[],2 ^ start⟩ ⟨λt ht=>?_,λt=>?_,⟨by simp,rfl⟩,by simp⟩ (by simp) (λx hx t ht=>?_) ⟨λt ht=>?_,λt ht=>?_⟩ ?_
 · simp at ht;subst ht;rfl
 · rw[X4];simp[eq_comm]
 · exact QF [] 0
 · show 0+cntF N (2 ^ start).testBit<N;omega
 · simp at ht;omega
 · show 1+cntF N (2 ^ start).testBit<=8;omega
def Mm {use:Rl->Bool}{R:List Rl}{start goal N:Nat}(hR:Small N R)(hN:N<=8)(hs:start<N):(bfs use goal R start).length<=N:=by
 rcases GS (use:=use) (goal:=goal) hR hN hs with⟨h,_⟩ | ⟨_,h⟩
 · rw[h];simp
 · exact h
def Fit.small {S:Sch}(h:Fit S):Small S.modes.toNat S.rules:=λr hr=>by
 obtain⟨i,hi,rfl⟩:=ZH.1 hr;have:=h.at0 i hi;omega
def ints (l:List Nat):List Int:=l.map λ(n:Nat)=>(n:Int)
def G8 (S:Sch)(m:Nat):Bool:=(CT S).testBit m && (B9 S).testBit m
def
  endStep (S:Sch) (least:List Nat) (m:Nat):List Nat :=
 if
   G8 S m then
  (
   if bfs C0 (2 ^ m) S.rules m=[] then least
   else if least=[] then bfs C0 (2 ^ m) S.rules m
   else if Oo (ints (bfs C0 (2 ^ m) S.rules m)) (ints least)<0 then bfs C0 (2 ^ m) S.rules m else least)
 else least
def OA (S:Sch):List Nat:=(Zt S.modes.toNat).foldl (endStep S) []
def Ax (l:List Nat):(ints l).length=oB l:=by simp[ints]
def Ch.sls {w:Z0}{B:Nat}{a:Option Zj}{n c:Nat}{xs:List Nat}(h:Ch w B (aG a n c) xs):SlS w a (ints xs)/\n=oB xs:=by
 obtain⟨a',c',he, -,hs⟩:=h.sl;cases he;exact⟨hs,rfl⟩
def KO (a a':Option Zj)(c c' n n':Nat)(xs ys:List Int)(w:Z0)(hn:n=oB xs)(ja:n'=oB ys)(h1:SlS w a xs)(h2:SlS w a' ys)(l1:oB xs<=100000)(l2:oB ys<=100000) :
  Zu Z1 98 #[aG a n c,aG a' n' c'] w λe w'=>e=aP (aA aM (Oo xs ys))/\Below w.heap.size w w':=by
 subst hn ja;exact Ng a a' c c' xs ys w h1 h2 l1 l2
def T3 {A B:Nat}(hA:A<256)(hB:B<256):bits .and aO (A:Int) (B:Int)=((A &&& B:Nat):Int):=u8_and_nat _ _ hA hB
def Vm {A B:Nat}(hA:A<256):A &&& B<256:=Nat.lt_of_le_of_lt Nat.and_le_left hA
def endless_any (S:Sch)(a:Option Zj)(cap:Nat)(w:Z0)(hR:BC w a S.rules)(hS:Fit S) :
  Zu Z1 67 #[aJ #[aA aM S.modes,aA aO S.acc,aG a S.rules.length cap]] w λe w'=>∃ v,e=aP v/\ChN w' w.heap.size v (OA S)/\Below w.heap.size w w':=by
 obtain⟨A,hA⟩:∃ A,CT S=A:=⟨_,rfl⟩
 obtain⟨B,jv⟩:∃ B,B9 S=B:=⟨_,rfl⟩
 have jG:A<256:=by rw[<- hA];exact JL hS
 have jS:B<256:=by rw[<- jv];exact KL hS
 have jn:=T3 jG jS;have jw:A &&& B<256:=Vm jG;obtain⟨L,hL⟩:∃ L,A &&& B=L:=⟨_,rfl⟩
 rw[hL]at jn jw;obtain⟨HA,jA,HL,HR,HS⟩:=oE hA jv hL hR hS;clear hA jv hL hR;obtain⟨m0,m1, -, -, -, -⟩:=hS;obtain⟨mm,jL⟩:=ZY (show 0<=S.modes by omega);have jm:=A0 jL;have jp:Hid (∀ m,G8 S m=L.testBit m):=λm=>by unfold G8;rw[HA.out,jA.out,<- HL.out,Nat.testBit_and]
 have hmm8:mm<=8:=by omega
 clear jL
 go_enter Tryz.func67,Tryz.ntmps67
 go_wp2
 go_region_held3 (λw'=>w'.cell? ⟨w.heap.size,0,oS⟩=oT (aA aM S.modes)/\w'.cell? ⟨w.heap.size,1,oS⟩=oT (aA aO S.acc)/\w'.cell? ⟨w.heap.size,2,oS⟩=oT (aG a S.rules.length cap)) (first | (simp[go_sem, *];done) | go_keep) (first | (go_at_call 66;refine(reached_any S a cap _ (HR.later (by first | exact hB | go_grown) (A5 _)) HS).mono ?_;rintro e w1 ⟨he,hb⟩;rw[show Eb S.eds S.modes.toNat=A from HA.out]at he;subst he;obtain⟨hz,hc,hf⟩:=Ap hb (by first | (simp only[A8,Zb,Zi];rfl) | rfl);have hB:=Ac (B:=w.heap.size) (w:=w) (by go_grown) hb (A5 _);have jb:=Ac (B:=w.heap.size+1) (w:=w.alloc (aK #[aA aM S.modes,aA aO S.acc,aG a S.rules.length cap] 33)) (by go_grown) hb (by simp);clear hb) | (go_at_call 64;refine(live_any S a cap _ (HR.later (by first | exact hB | go_grown) (A5 _)) HS).mono ?_;rintro e w1 ⟨he,hb⟩;rw[show GD S.eds S.modes.toNat S.acc.toNat=B from jA.out]at he;subst he;obtain⟨hz,hc,hf⟩:=Ap hb (by first | (simp only[A8,Zb,Zi];rfl) | rfl);have hB:=Ac (B:=w.heap.size) (w:=w) (by go_grown) hb (A5 _);have jb:=Ac (B:=w.heap.size+1) (w:=w.alloc (aK #[aA aM S.modes,aA aO S.acc,aG a S.rules.length cap] 33)) (by go_grown) hb (by simp);clear hb))
 go_wp2;clear jn hz hc hf
 go_loopw [4,14] (λlv i wr=>∃ (k:Nat) (a1:Option Zj) (n1 c1:Nat) (xs:List Nat),k<=mm/\i=aA aM k/\lv=aG a1 n1 c1/\n1=oB xs/\xs=(Zt k).foldl (endStep S) []/\xs.length<=100/\ChN wr w.heap.size (aG a1 n1 c1) xs/\Below (w.heap.size+1) (w.alloc (aK #[aA aM S.modes,aA aO S.acc,aG a S.rules.length cap] 33)) wr) (λ_ i _=>mm - (intOf i).toNat)
 case atStart=>exact⟨0,oS,0,0,[],by omega,rfl,rfl,rfl,rfl,by simp,⟨Ch.nil _ _,λ_=>rfl⟩,jb⟩
 case round =>
  clear hB jb;obtain⟨k,a1,n1,c1,xs,hk,rfl,rfl,jM,jR,jz,⟨jk,jq⟩,jb⟩:=hrel;have hB:Below w.heap.size w wr:=((Z2 _ _).alloc (A5 _) _).trans (jb.mono (by omega));obtain⟨hz,hc,hf⟩:=Aw jb rfl;simp only[A8]at hz;obtain⟨ju,jF,jh,jd⟩:=oD jM jR jk jq;clear jM jR jk jq;by_cases hlt:k<mm
  ·have hs
       := Dj L (k:Int)
   have jy:(k:Int)<S.modes:=by have:=jm.out;omega
   have ja:Hid ((Zt (k+1)).foldl (endStep S) []=endStep S xs k):=by show _=_;rw[z6,List.foldl_append,<- jF.out];rfl
   by_cases hb:L.testBit k=oF
   ·have jr:Hid (L.testBit k=oF):=hb;have jj:Hid (G8 S k=oF):=(jp k).trans hb;clear hb;obtain⟨c,jI⟩:∃ c,bfs C0 (2 ^ k) S.rules k=c:=⟨_,rfl⟩
    have ji:=A0 jI;clear jI;have jV:2 ^ k<256:=Fe k (by omega);have jU:Hid (oB c<=100):=by rw[<- ji.out];have h9:=Mm (use:=C0) (goal:=2 ^ k) (start:=k) HS.small (by have:=jm.out;omega) (by have:=jm.out;omega);exact AA h9 (by omega)
    have jo:=jU.out
    go_wp2_with (first
     | (go_at_call 65;refine(hs _ jw (by omega) (by omega)).mono ?_;rintro e w' ⟨he,rfl⟩;rw[show L.testBit ((k:Int)).toNat=oF from jr.out]at he;subst he;clear hs))
    go_region_held3 (λw'=>w'.cell? ⟨w.heap.size,0,oS⟩=oT (aA aM S.modes)/\w'.cell? ⟨w.heap.size,1,oS⟩=oT (aA aO S.acc)/\w'.cell? ⟨w.heap.size,2,oS⟩=oT (aG a S.rules.length cap)) (first | (simp[go_sem, *];done) | go_keep) (first | (go_at_call 95;refine(Ew (k:Int) _ (by omega) (by omega)).mono ?_;rintro e w' ⟨rfl,rfl⟩) | (go_at_call 96;refine(Sz 97 C0 Qq (λ_ _=>rfl) S a cap k (2 ^ k) _ _ rfl rfl _ (HR.later (by first | exact hB | go_grown) (A5 _)) HS (by omega) jV).mono ?_;rintro e w1 ⟨v,rfl,jk,hb⟩;rw[ji.out]at jk;have jf:=A0 jk;clear jk;have jT:=hB;have jH:=Ac (B:=wr.heap.size) (w:=wr) (by go_grown) hb (A5 _);obtain⟨hz,hc,hf⟩:=Ap hb (by first | (simp only[A8,Zb,Zi];rfl) | rfl);have hB:=Ac (B:=w.heap.size) (w:=w) (by go_grown) hb (A5 _);have jb:=Ac (B:=w.heap.size+1) (w:=w.alloc (aK #[aA aM S.modes,aA aO S.acc,aG a S.rules.length cap] 33)) (by go_grown) hb (by simp);clear hb))
    have hq:=λW=>run_neq_slice_nil_any (P:=Z1) W 36 3 a1 n1 c1 0 0 Y5;have jX:=λW=>run_eql_slice_nil (P:=Z1) W 36 3 a1 n1 c1 Y5;by_cases je:c=[]
    ·have hv:=jf.2 je;subst hv;have HE:Hid (endStep S xs k=xs):=by show _=_;rw[endStep,jj.out,ji.out,if_pos rfl,if_pos je]
     have jc:Hid (ChN w1 w.heap.size (aG a1 n1 c1) xs):=⟨jh.below jH (jh.lt),jd⟩
     have jW:=λW=>run_neq_slice_nil_any (P:=Z1) W 36 3 oS 0 0 0 0 Y5;clear je hq jX;go_wp2
     go_roundw
     case rel=>exact⟨k+1,a1,n1,c1,xs,by omega,by go_num,rfl,ju,by rw[ja.out,HE.out],jz,jc,jb⟩
     case measure=>simp[intOf];omega
    ·obtain⟨g,cp,hv⟩:=jf.1.slv je;subst hv;have jW:=λW=>run_neq_slice_nil_any (P:=Z1) W 36 3 (oT ⟨g,0,oS⟩) c.length cp 0 0 Y5;have jl:Hid (ChN w1 w.heap.size (aG (oT ⟨g,0,oS⟩) c.length cp) c):=⟨jf.1.mono (by have:=jT.size;first | omega | (simp only[Zi];omega)),jf.2⟩
     have hcl3:∀ f:List Nat->List Nat,f=f:=λ_=>rfl;by_cases jg:xs=[]
     ·have hv:=jd jg;have HE:Hid (endStep S xs k=c):=by show _=_;rw[endStep,jj.out,ji.out,if_pos rfl,if_neg je,if_pos jg]
      obtain⟨rfl,rfl,rfl⟩:a1=oS/\n1=0/\c1=0:=by injection hv with e1 e2 e3;exact⟨e1,e2,e3⟩
      clear hv jg je;go_wp2
      go_roundw
      case rel=>exact⟨k+1,oT ⟨g,0,oS⟩,oB c,cp,c,by omega,by go_num,rfl,rfl,by rw[ja.out,HE.out],jo,jl,jb⟩
      case measure=>simp[intOf];omega
     ·obtain⟨g1,cp1,jQ⟩:=jh.slv jg;obtain⟨rfl,rfl⟩:a1=oT ⟨g1,0,oS⟩/\c1=cp1:=by injection jQ with e1 e2 e3;exact⟨e1,e3⟩
      have jc:Hid (ChN w1 w.heap.size (aG (oT ⟨g1,0,oS⟩) n1 c1) xs):=⟨jh.below jH (jh.lt),jd⟩
      have jJ:(ints c).length<=100000:=by rw[Ax];omega
      have jK:(ints xs).length<=100000:=by rw[Ax];omega
      have jB:Hid (oB c=(ints c).length):=(Ax c).symm;obtain⟨jO, -⟩:=jl.1.sls;obtain⟨jP,jN⟩:=jc.1.sls;have jC:Hid (n1=(ints xs).length):=by show _=_;rw[Ax];exact jN
      have jD:=A0 jO;have jE:=A0 jP;obtain⟨o,ho⟩:∃ o,Oo (ints c) (ints xs)=o:=⟨_,rfl⟩
      have HO:=A0 ho;clear jO jP jN jQ ho;by_cases ho:o<0
      ·have HE:Hid (endStep S xs k=c):=by show _=_;rw[endStep,jj.out,ji.out,if_pos rfl,if_neg je,if_neg jg,HO.out,if_pos ho]
       clear jg je
       go_wp2_with (go_at_call 98;refine(KO _ _ _ _ _ _ (ints c) (ints xs) _ jB jC jD jE jJ jK).mono ?_;rintro e w2 ⟨he,hb⟩;rw[HO.out]at he;subst he;have jt:Hid (ChN w2 w.heap.size (aG (oT ⟨g,0,oS⟩) c.length cp) c):=⟨jl.1.below hb jl.1.lt,jl.2⟩;obtain⟨hz,hc,hf⟩:=Ap hb (by first | (simp only[A8,Zb,Zi];rfl) | rfl);have hB:=Ac (B:=w.heap.size) (w:=w) (by go_grown) hb (A5 _);have jb:=Ac (B:=w.heap.size+1) (w:=w.alloc (aK #[aA aM S.modes,aA aO S.acc,aG a S.rules.length cap] 33)) (by go_grown) hb (by simp);clear hb)
       go_roundw
       case rel=>exact⟨k+1,oT ⟨g,0,oS⟩,oB c,cp,c,by omega,by go_num,rfl,rfl,by rw[ja.out,HE.out],jo,jt,jb⟩
       case measure=>simp[intOf];omega
      ·have HE:Hid (endStep S xs k=xs):=by show _=_;rw[endStep,jj.out,ji.out,if_pos rfl,if_neg je,if_neg jg,HO.out,if_neg ho]
       clear jg je
       go_wp2_with (go_at_call 98;refine(KO _ _ _ _ _ _ (ints c) (ints xs) _ jB jC jD jE jJ jK).mono ?_;rintro e w2 ⟨he,hb⟩;rw[HO.out]at he;subst he;have js:Hid (ChN w2 w.heap.size (aG (oT ⟨g1,0,oS⟩) n1 c1) xs):=⟨jc.1.below hb jc.1.lt,jc.2⟩;obtain⟨hz,hc,hf⟩:=Ap hb (by first | (simp only[A8,Zb,Zi];rfl) | rfl);have hB:=Ac (B:=w.heap.size) (w:=w) (by go_grown) hb (A5 _);have jb:=Ac (B:=w.heap.size+1) (w:=w.alloc (aK #[aA aM S.modes,aA aO S.acc,aG a S.rules.length cap] 33)) (by go_grown) hb (by simp);clear hb)
       go_roundw
       case rel=>exact⟨k+1,oT ⟨g1,0,oS⟩,n1,c1,xs,by omega,by go_num,rfl,ju,by rw[ja.out,HE.out],jz,js,jb⟩
       case measure=>simp[intOf];omega
   ·have jx:L.testBit k=oH:=by simpa using hb
    have jr:Hid (L.testBit k=oH):=jx;have jj:Hid (G8 S k=oH):=(jp k).trans jx;clear hb jx
    go_wp2_with (first
     | (go_at_call 65;refine(hs _ jw (by omega) (by omega)).mono ?_;rintro e w' ⟨he,rfl⟩;rw[show L.testBit ((k:Int)).toNat=oH from jr.out]at he;subst he;clear hs))
    go_roundw
    case rel=>exact⟨k+1,a1,n1,c1,xs,by omega,by go_num,rfl,ju,by rw[ja.out,endStep,jj.out];rfl,jz,⟨jh,jd⟩,jb⟩
    case measure=>simp[intOf];omega
  ·obtain rfl:k=mm:=by omega
   have jy:¬ (k:Int)<S.modes:=by have:=jm.out;omega
   go_wp2;go_ret;exact⟨_,rfl,by have:=jF.out;rw[OA,jm.out];show ChN _ _ _ ((Zt k).foldl (endStep S) []);rw[<- this];exact⟨jh,jd⟩,hB⟩
def EL (S:Sch)(k:Nat):List Nat:=(Zt k).filter λi=>if h:i<oB S.rules then KK (CT S) (B9 S) S.rules[i] else oH
def Ch.form {w:Z0}{B:Nat}{v:Z6}{xs:List Nat}(h:Ch w B v xs):∃ a n c,v=aG a n c:=by
 obtain⟨a,c,he, -⟩:=h.sl;exact⟨a,_,c,he⟩
structure Rp where
 dead:List Nat
 stuck:List Nat
 endl:List Nat
def RW {w:Z0}{g:Nat}{x0 x1 x2 a b c:Z6}{t:X5}{f:Nat × Nat}(h:w.heap[g]? = oT (aK #[x0,x1,x2] t f)) :
  (((w.setCell ⟨g,0,oS⟩ a).setCell ⟨g,1,oS⟩ b).setCell ⟨g,2,oS⟩ c).heap[g]? = oT (aK #[a,b,c] t f):=by
 simp only[zy];rw[X6,if_pos rfl,X6,if_pos rfl,X6,if_pos rfl,h];rfl
def EG {w:Z0}{B g i:Nat}{v u:Z6}{xs:List Nat}{cs:Array Z6}{f:Nat × Nat}(h:Ch w B v xs)(hg:w.heap[g]? = oT (.cells cs 158 f)):Ch (w.setCell ⟨g,i,oS⟩ u) B v xs:=by
 refine h.same λb hb=>Zc _ _ _ _ λe=>?_;obtain⟨cs',h2⟩:=h.own hb;simp only at e;rw[e,hg]at h2;cases h2
def Lx {w:Z0}{g i:Nat}{u:Z6}{cs:Array Z6}{t:X5}{f:Nat × Nat}(hg:w.heap[g]? = oT (.cells cs t f)):∃ cs',(w.setCell ⟨g,i,oS⟩ u).heap[g]? = oT (.cells cs' t f):=by
 refine⟨cs.setIfInBounds i u,?_⟩;simp only[zy];rw[X6,if_pos rfl,hg];rfl
def Mn {w:Z0}{B g:Nat}{v a b c:Z6}{xs:List Nat}{cs:Array Z6}{f:Nat × Nat}(h:Ch w B v xs)(hg:w.heap[g]? = oT (.cells cs 158 f)):Ch (((w.setCell ⟨g,0,oS⟩ a).setCell ⟨g,1,oS⟩ b).setCell ⟨g,2,oS⟩ c) B v xs:=by
 obtain⟨c1,h1⟩:=Lx (i:=0) (u:=a) hg;obtain⟨c2,h2⟩:=Lx (i:=1) (u:=b) h1;exact EG (EG (EG h hg) h1) h2
structure LS (w M:Z0)(g B1:Nat)(v1 v2 v3:Z6)(x1 x2 x3:List Nat)(wr:Z0):Prop where
 rep:wr.heap[g]? = some (aK #[v1,v2,v3] 158 (0,0))
 d1:Ch wr B1 v1 x1
 d2:Ch wr w.heap.size v2 x2
 d3:Ch wr w.heap.size v3 x3
 l2:∀ b,v2.ownBlock=some b->b<B1
 l3:∀ b,v3.ownBlock=some b->b<B1
 gB:g<B1
 gm:w.heap.size+2<=g
 bB:B1<=wr.heap.size
 bl:Below (w.heap.size+2) M wr
section
variable {w M:World} {g B1:Nat} {v1 v2 v3:Value} {x1 x2 x3:List Nat} {wr:World}
def LS.below {w1:Z0}(h:LS w M g B1 v1 v2 v3 x1 x2 x3 wr)(hb:Below wr.heap.size wr w1):LS w M g B1 v1 v2 v3 x1 x2 x3 w1 :=
 ⟨(
  hb.block g (by have:=h.gB;have:=h.bB;omega)).trans h.rep,h.d1.below hb h.d1.lt,h.d2.below hb h.d2.lt,h.d3.below hb h.d3.lt,h.l2,h.l3,h.gB,h.gm,by have:=h.bB;have:=hb.size;omega,
  h.bl.trans (hb.mono (by have:=h.gB;have:=h.gm;have:=h.bB;omega))⟩
def LS.g0 (h:LS w M g B1 v1 v2 v3 x1 x2 x3 wr):wr.cell? ⟨g,0,oS⟩=oT v1:=by rw[Z3 wr g 0 _ _ (0,0) h.rep];rfl
def LS.gf (h:LS w M g B1 v1 v2 v3 x1 x2 x3 wr)(i:Nat):wr.frozen? ⟨g,i,oS⟩=oH:=by simp[Zn,h.rep]
def LS.grown {w1:Z0}{v:Z6}{x:List Nat}{row:Option Nat}(h:LS w M g B1 v1 v2 v3 x1 x2 x3 wr)(hg:wr.grownBy w1 row)(hr:∀ k,row=oT k->B1<=k)(hd:Ch w1 B1 v x) :
  LS w M g B1 v v2 v3 x x2 x3 (w1.setCell ⟨g,0,oS⟩ v):=by
 have hb:Below B1 wr w1:=(Z2 _ wr).grown hg h.bB hr;have ja:w1.heap[g]? = oT (aK #[v1,v2,v3] 158 (0,0)):=(hb.block g h.gB).trans h.rep;refine⟨?_,EG hd ja,EG (h.d2.below hb h.l2) ja,EG (h.d3.below hb h.l3) ja,h.l2,h.l3,h.gB,h.gm,by have:=h.bB;have:=hb.size;rw[Zb];omega,(h.bl.trans (hb.mono (by have:=h.gB;have:=h.gm;omega))).setCell h.gm _⟩;simp only[zy];rw[X6,if_pos rfl,ja];rfl
def LS.cells {w1:Z0}{row:Option Nat}(h:LS w M g B1 v1 v2 v3 x1 x2 x3 wr)(hg:wr.grownBy w1 row)(hr:∀ k,row=oT k->B1<=k):w1.cell? ⟨g,0,oS⟩=oT v1/\w1.frozen? ⟨g,0,oS⟩=oH:=by
 have hb:Below B1 wr w1:=(Z2 _ wr).grown hg h.bB hr;exact⟨(hb.cell (p:=⟨g,0,oS⟩) h.gB).trans h.g0,(hb.frozen (p:=⟨g,0,oS⟩) h.gB).trans (h.gf 0)⟩
end
def cells3 {w:Z0}{g:Nat}{a b c:Z6}{t:X5}{f:Nat × Nat}(h:w.heap[g]? = oT (aK #[a,b,c] t f)) :
  w.cell? ⟨g,0,oS⟩=oT a/\w.cell? ⟨g,1,oS⟩=oT b/\w.cell? ⟨g,2,oS⟩=oT c:=by
 refine⟨?_,?_,?_⟩
 · rw[Z3 w g 0 _ _ f h];rfl
 · rw[Z3 w g 1 _ _ f h];rfl
 · rw[Z3 w g 2 _ _ f h];rfl
def P7 (S:Sch)(k:Nat)(h:k<oB S.rules):EL S (k+1)=if KK (CT S) (B9 S) S.rules[k] then EL S k ++ [k] else EL S k:=by
 unfold EL;rw[z6,List.filter_append];simp only[List.filter_cons,List.filter_nil,dif_pos h];split <;> simp
def RX (S:Sch)(k:Nat):(EL S k).length<=k:=by
 have:=List.length_filter_le (λi=>if h:i<oB S.rules then KK (CT S) (B9 S) S.rules[i] else oH) (Zt k);simpa[EL] using this
def Be (n L:Nat):List Bool:=(Zt n).map L.testBit
def Is (n L:Nat):(Be n L).length=n:=by simp[Be]
def It {n L i:Nat}(h:i<n):(Be n L)[i]? = oT (L.testBit i):=by
 rw[Be,XG,List.getElem?_range h];rfl
def Ly {n L t:Nat}(h:t<n):(Be n L).set t oF=Be n (L ||| 2 ^ t):=by
 apply List.ext_getElem?;intro i;rw[List.getElem?_set];by_cases hi:i<n
 ·rw[It hi,It hi,Is,Nat.testBit_or,X4];by_cases e:t=i
  · subst e;simp[h]
  · simp[e]
 ·have h1:(Be n L)[i]? = oS:=by rw[AT];rw[Is];omega
  have h2:(Be n (L ||| 2 ^ t))[i]? = oS:=by rw[AT];rw[Is];omega
  rw[h1,h2,if_neg (by omega)]
def BY (L t i:Nat):(L ||| 2 ^ t).testBit i=(L.testBit i || decide (t=i)):=by rw[Nat.testBit_or,X4]
def KP {L:Nat}{x:Ed}{i:Nat}(h:L.testBit i=oF):(BK L x).testBit i=oF:=by
 unfold BK;split
 · rw[BY,h];rfl
 · exact h
def KQ {L:Nat}{x:Ed}{i:Nat}(h:L.testBit i=oF):(C4 L x).testBit i=oF:=by
 unfold C4;split
 · rw[BY,h];rfl
 · exact h
def Fs:∀ (E:List Ed) {L i:Nat},L.testBit i=oF->(E.foldl BK L).testBit i=oF
 | [],_,_,h=>h
 | x :: E,_,_,h=>Fs E (KP h)
def Fu:∀ (E:List Ed) {L i:Nat},L.testBit i=oF->(E.foldl C4 L).testBit i=oF
 | [],_,_,h=>h
 | x :: E,_,_,h=>Fu E (KQ h)
def KR:∀ {E:List Ed} {x:Ed} {L:Nat},x∈E->L.testBit x.f=oF->(E.foldl BK L).testBit x.t=oF
 | y
   :: E,x,L,h,hb=>by
  rcases AX.1 h with rfl | h
  ·refine Fs E ?_;unfold BK;rw[if_pos hb,BY];simp
  · exact KR (E:=E) h (KP hb)
def KS:∀ {E:List Ed} {x:Ed} {L:Nat},x∈E->L.testBit x.t=oF->(E.foldl C4 L).testBit x.f=oF
 | y
   :: E,x,L,h,hb=>by
  rcases AX.1 h with rfl | h
  ·refine Fu E ?_;unfold C4;rw[if_pos hb,BY];simp
  · exact KS (E:=E) h (KQ hb)
def cnt_mono {f g:Nat->Bool}(h:∀ i,f i=oF->g i=oF):∀ n,cntF n g<=cntF n f
 | 0=>A5 _
 | n+1=>by
  have:=cnt_mono h n;simp only[cntF];cases hf:f n with
  | false=>split <;> simp <;> omega
  | true=>rw[h n hf];simp;exact this
def cnt_lt {f g:Nat->Bool}(h:∀ i,f i=oF->g i=oF){j:Nat}(hj:g j=oF)(hf:f j=oH):∀ n,j<n->cntF n g<cntF n f
 | n
   + 1,hn=>by
  simp only[cntF];by_cases e:j=n
  ·subst e;have:=cnt_mono h j;rw[hj,hf];simp;omega
  ·have:=cnt_lt h hj hf n (by omega);cases ja:f n with
   | false=>split <;> simp <;> omega
   | true=>rw[h n ja];simp;exact this
def OB {f:Nat->Bool}:∀ {n:Nat},cntF n f=0->∀ i,i<n->f i=oF
 | n
   + 1,h,i,hi=>by
  simp only[cntF]at h;by_cases e:i=n
  ·subst e;cases hf:f i with
   | true=>rfl
   | false=>rw[hf]at h;simp at h
  · exact OB (n:=n) (by omega) i (by omega)
def iter_closed {F:Nat->Nat}{n:Nat}(hm:∀ L i,L.testBit i=oF->(F L).testBit i=oF)(hF:∀ L i,n<=i->(F L).testBit i=L.testBit i)(x:Nat) :
  ∀ i,i<n->(F (Bc F n x)).testBit i=oF->(Bc F n x).testBit i=oF:=by
 have grow
      :
       ∀ k,(∃ j,j<=k/\∀ i,i<n->(F (Bc F j x)).testBit i=oF->(Bc F j x).testBit i=oF)\/cntF n (Bc F k x).testBit+k<=n:=by
  intro k
  induction k with
  | zero=>exact .inr (Py _ n)
  | succ k ih =>
   rcases ih with⟨j,hj,h⟩ | h
   · exact .inl ⟨j,by omega,h⟩
   ·by_cases hc:∀ i,i<n->(F (Bc F k x)).testBit i=oF->(Bc F k x).testBit i=oF
    · exact .inl ⟨k,by omega,hc⟩
    ·obtain⟨i,hi⟩:=Classical.not_forall.1 hc;have ja:i<n/\(F (Bc F k x)).testBit i=oF/\(Bc F k x).testBit i=oH:=by
      refine⟨?_,?_,?_⟩
      · exact Classical.byContradiction λh2=>hi λh3=>absurd h3 h2
      · exact Classical.byContradiction λh2=>hi λ_ h4=>absurd h4 h2
      ·cases hb:(Bc F k x).testBit i with
       | false=>rfl
       | true=>exact absurd (λ_ _=>hb) hi
     have:=cnt_lt (f:=(Bc F k x).testBit) (g:=(Bc F (k+1) x).testBit) (λj hj=>hm _ _ hj) ja.2.1 ja.2.2 n ja.1;exact .inr (by omega)
 rcases grow n with⟨j,hj,h⟩ | h
 ·have hfix:F (Bc F j x)=Bc F j x:=by
   apply Nat.eq_of_testBit_eq;intro i;by_cases hi:i<n
   ·cases hb:(Bc F j x).testBit i with
    | true=>exact hm _ _ hb
    | false =>
     cases jb:(F (Bc F j x)).testBit i with
     | false=>rfl
     | true=>rw[h i hi jb]at hb;cases hb
   · exact hF _ i (by omega)
  have hk:∀ k,Bc F (j+k) x=Bc F j x:=by
   intro k
   induction k with
   | zero=>rfl
   | succ k ih=>show F (Bc F (j+k) x)=_;rw[ih,hfix]
  obtain⟨k,rfl⟩:∃ k,n=j+k:=⟨n - j,by omega⟩
  rw[hk,hfix];exact λ_ _ h=>h
 ·intro i hi _;exact OB (by omega) i hi
def P8 {n L:Nat}{x:Ed}(hx:x.t<n){i:Nat}(hi:n<=i):(BK L x).testBit i=L.testBit i:=by
 unfold BK;split
 · rw[BY,decide_eq_false (by omega),Bool.or_false]
 · rfl
def P9 {n L:Nat}{x:Ed}(hx:x.f<n){i:Nat}(hi:n<=i):(C4 L x).testBit i=L.testBit i:=by
 unfold C4;split
 · rw[BY,decide_eq_false (by omega),Bool.or_false]
 · rfl
def KT {n:Nat}:∀ {E:List Ed} {L i:Nat},GE n E->n<=i->(E.foldl BK L).testBit i=L.testBit i
 | [],_,_,_,_=>rfl
 | x :: E,_,_,h,hi=>(KT (E:=E) (λy hy=>h y (by simp[hy])) hi).trans (P8 (h x (by simp)).2 hi)
def KU {n:Nat}:∀ {E:List Ed} {L i:Nat},GE n E->n<=i->(E.foldl C4 L).testBit i=L.testBit i
 | [],_,_,_,_=>rfl
 | x :: E,_,_,h,hi=>(KU (E:=E) (λy hy=>h y (by simp[hy])) hi).trans (P9 (h x (by simp)).1 hi)
def Iu {F:Nat->Nat}(hm:∀ L i,L.testBit i=oF->(F L).testBit i=oF){x i:Nat}(h:x.testBit i=oF):∀ n,(Bc F n x).testBit i=oF
 | 0=>h
 | n+1=>hm _ _ (Iu hm h n)
def JX:Rl->Bool:=λ_=>oF
def Bf (S:Sch)(m:Nat):Nat:=Bc (λL=>S.eds.foldl BK L) S.modes.toNat (2 ^ m)
def Lz (S:Sch):CT S=Bf S 0:=rfl
def T5 {S:Sch}{x:Ed}:x∈S.eds↔∃ i u t,Stp JX S.rules u i t/\x.f=u/\x.t=t/\∃ h:i<oB S.rules,x=S.rules[i].ed:=by
 constructor
 ·intro h;obtain⟨r,hr,rfl⟩:=AJ.1 h;obtain⟨i,hi,rfl⟩:=ZH.1 hr;exact⟨i,_,_,⟨hi,rfl,rfl,rfl⟩,rfl,rfl,hi,rfl⟩
 ·rintro⟨i,u,t,_,_,_,hi,rfl⟩;exact AJ.2 ⟨_,AI hi,rfl⟩
def T7 {S:Sch}{u i t:Nat}(h:Stp JX S.rules u i t):∃ x∈S.eds,x.f=u/\x.t=t:=by
 obtain⟨hi,h1,_,h2⟩:=h;exact⟨S.rules[i].ed,AJ.2 ⟨_,AI hi,rfl⟩,h1,h2⟩
def Fit.withinN {S:Sch}(h:Fit S):GE S.modes.toNat S.eds:=by
 intro x hx;obtain⟨r,hr,rfl⟩:=AJ.1 hx;exact h.small r hr
def foldR_sound {S:Sch}{P:Nat->Prop}(hP:∀ u i t,P u->Stp JX S.rules u i t->P t):∀ (E:List Ed),(∀ x∈E,x∈S.eds)->∀ L,(∀ i,L.testBit i=oF->P i)->∀ i,(E.foldl BK L).testBit i=oF->P i
 | [],_,_,h,i,hi=>h i hi
 | x
   :: E,hE,L,h,i,hi=>by
  refine foldR_sound hP E (λy hy=>hE y (by simp[hy])) (BK L x) (λj hj=>?_) i hi;unfold BK at hj;split at hj
  ·rename_i hx;rw[BY]at hj;simp only[Y2,decide_eq_true_eq]at hj;rcases hj with hj | rfl
   · exact h j hj
   ·obtain⟨k,u,t,hs,h1,h2,_⟩:=T5.1 (hE x (by simp));exact hP u k _ (h u (by rw[<- h1];exact hx)) (h2 ▸ hs)
  · exact h j hj
def foldL_sound {S:Sch}{P:Nat->Prop}(hP:∀ u i t,P t->Stp JX S.rules u i t->P u):∀ (E:List Ed),(∀ x∈E,x∈S.eds)->∀ L,(∀ i,L.testBit i=oF->P i)->∀ i,(E.foldl C4 L).testBit i=oF->P i
 | [],_,_,h,i,hi=>h i hi
 | x
   :: E,hE,L,h,i,hi=>by
  refine foldL_sound hP E (λy hy=>hE y (by simp[hy])) (C4 L x) (λj hj=>?_) i hi;unfold C4 at hj;split at hj
  ·rename_i hx;rw[BY]at hj;simp only[Y2,decide_eq_true_eq]at hj;rcases hj with hj | rfl
   · exact h j hj
   ·obtain⟨k,u,t,hs,h1,h2,_⟩:=T5.1 (hE x (by simp));exact hP _ k t (h t (by rw[<- h2];exact hx)) (h1 ▸ hs)
  · exact h j hj
def Cs {S:Sch}(hS:Fit S){use:Rl->Bool}:∀ {c:List Nat} {m t:Nat},m<S.modes.toNat->leads use S.rules m c=oT t->t<S.modes.toNat
 | [],m,t,hm,h=>by cases h;exact hm
 | i :: c,m,t,hm,h=>by
  obtain⟨u,⟨hi,_,_,rfl⟩,h2⟩:=Ca.1 h;exact Cs hS (hS.small _ (AI hi)).2 h2
def reach_spec {S:Sch}(hS:Fit S){m t:Nat}(hm:m<S.modes.toNat):(Bf S m).testBit t=oF↔∃ c,leads JX S.rules m c=oT t:=by
 constructor
 ·have key:∀ k t,(Bc (λL=>S.eds.foldl BK L) k (2 ^ m)).testBit t=oF->∃ c,leads JX S.rules m c=oT t:=by
   intro k
   induction k with
   | zero =>
    intro t h;rw[Bc,X4]at h;obtain rfl:m=t:=by simpa using h
    exact⟨[],rfl⟩
   | succ k ih =>
    intro t h;exact foldR_sound (P:=λt=>∃ c,leads JX S.rules m c=oT t) (λu i t ⟨c,hc⟩ hs=>⟨c ++ [i],C1.2 ⟨u,hc,hs⟩⟩) S.eds (λ_ h=>h) _ ih t h
  exact key _ t
 ·have ja:=iter_closed (F:=λL=>S.eds.foldl BK L) (n:=S.modes.toNat) (λL i h=>Fs _ h) (λL i hi=>KT hS.withinN hi) (2 ^ m);rintro⟨c,hc⟩;have key:∀ (N:Nat) (c:List Nat) (t:Nat),oB c=N->leads JX S.rules m c=oT t->(Bf S m).testBit t=oF:=by
   intro N
   induction N with
   | zero =>
    intro c t hc h;obtain rfl:=Zo hc;cases h;exact Iu (F:=λL=>S.eds.foldl BK L) (λL i h=>Fs _ h) (by rw[X4];simp) _
   | succ N ih =>
    intro c t hc h;rcases Fq c with rfl | ⟨c,i,rfl⟩
    · simp at hc
    obtain⟨u,h1,h2⟩:=C1.1 h;have hu:=ih c u (by simpa using hc) h1;obtain⟨x,hx,rfl,rfl⟩:=T7 h2;exact ja _ (hS.withinN x hx).2 (KR hx hu)
  exact key _ c t rfl hc
def live_spec {S:Sch}(hS:Fit S){m:Nat}(hm:m<S.modes.toNat):(B9 S).testBit m=oF↔∃ c t,leads JX S.rules m c=oT t/\S.acc.toNat.testBit t=oF:=by
 constructor
 ·have key:∀ k m,(Bc (λL=>S.eds.foldl C4 L) k S.acc.toNat).testBit m=oF->∃ c t,leads JX S.rules m c=oT t/\S.acc.toNat.testBit t=oF:=by
   intro k
   induction k with
   | zero=>exact λt h=>⟨[],t,rfl,h⟩
   | succ k ih =>
    intro t h;exact foldL_sound (P:=λm=>∃ c t,leads JX S.rules m c=oT t/\S.acc.toNat.testBit t=oF) (λu i t ⟨c,v,hc,hv⟩ hs=>⟨i :: c,v,Ca.2 ⟨t,hs,hc⟩,hv⟩) S.eds (λ_ h=>h) _ ih t h
  exact key _ m
 ·have ja:=iter_closed (F:=λL=>S.eds.foldl C4 L) (n:=S.modes.toNat) (λL i h=>Fu _ h) (λL i hi=>KU hS.withinN hi) S.acc.toNat;rintro⟨c,t,hc,ht⟩;have key:∀ (c:List Nat) (m:Nat),leads JX S.rules m c=oT t->(B9 S).testBit m=oF:=by
   intro c
   induction c with
   | nil=>intro m h;cases h;exact Iu (F:=λL=>S.eds.foldl C4 L) (λL i h=>Fu _ h) ht _
   | cons i c ih =>
    intro m h;obtain⟨u,h1,h2⟩:=Ca.1 h;have hu:=ih u h2;obtain⟨x,hx,rfl,rfl⟩:=T7 h1;exact ja _ (hS.withinN x hx).1 (KS hx hu)
  exact key c m hc
def T8 {S:Sch}(hS:Fit S){m:Nat}(hm:m<S.modes.toNat):(B9 S).testBit m=(Zt S.modes.toNat).any (λk=>(Bf S m).testBit k && S.acc.toNat.testBit k):=by
 rw[Bool.eq_iff_iff,live_spec hS hm,List.any_eq_true];constructor
 ·rintro⟨c,t,hc,ht⟩;exact⟨t,by simp[Cs hS hm hc],by rw[(reach_spec hS hm).2 ⟨c,hc⟩,ht];rfl⟩
 ·rintro⟨t,_,h⟩;simp only[Zg]at h;obtain⟨c,hc⟩:=(reach_spec hS hm).1 h.1;exact⟨c,t,hc,h.2⟩
def QG (A:Int)(m:Nat)(h0:0<=A)(hA:A<=255):(bits .and aO (A / 2 ^ m) 1 == 1)=A.toNat.testBit m:=by
 obtain⟨n,rfl⟩:=ZY h0;have hd:((n:Int) / 2 ^ m)=((n / 2 ^ m:Nat):Int):=by simp
 have ja:n / 2 ^ m<256:=Nat.lt_of_le_of_lt (Nat.div_le_self _ _) (by omega);have h1:bits .and aO (((n / 2 ^ m:Nat):Int)) ((1:Nat):Int)=((n / 2 ^ m &&& 1:Nat):Int):=u8_and_nat _ _ ja (by omega);rw[hd,show(1:Int)=((1:Nat):Int) from rfl,h1,Nat.and_one_is_mod,ZW,Nat.testBit_eq_decide_div_mod_eq,Bool.eq_iff_iff,beq_iff_eq,decide_eq_true_iff];omega
def OC (S:Sch)(a:Option Zj)(cap:Nat)(m:Int)(w:Z0)(h0:0<=S.acc)(h1:S.acc<=255)(hm0:0<=m)(hm1:m<8) :
  Zu Z1 121 #[aJ #[aA aM S.modes,aA aO S.acc,aG a S.rules.length cap],aA aM m] w λe w'=>e=aP (aH (S.acc.toNat.testBit m.toNat))/\Below w.heap.size w w':=by
 go_enter Tryz.func121,Tryz.ntmps121
 go_wp2;go_ret;refine⟨Ad ?_,by go_grown⟩;exact QG S.acc m.toNat h0 h1
def Hr (w:Z0)(B:Nat)(v:Z6)(n L:Nat):Prop:=∃ g,v=aG (oT ⟨g,0,oS⟩) n n/\B<=g/\w.heap[g]? = oT (.cells ((Be n L).map Y7).toArray 4 (0,0))
def M1:(Tryz.prog.info? 4).map (λi=>(i.zero,i.size,i.bytes))=oT (oT (aH oH),1,1):=by kernel_rfl
def OD (n:Nat):madeCells #[Y7 oH] n=((Be n 0).map Y7).toArray:=by
 apply Array.ext
 · simp[madeCells,Be]
 ·intro i h1 h2;simp[madeCells,Be,Nat.mod_one]
def BM {w:Z0}{g n L i:Nat}(h:w.heap[g]? = oT (.cells ((Be n L).map Y7).toArray 4 (0,0)))(hi:i<n):w.cell? ⟨g,i,oS⟩=oT (aH (L.testBit i)):=by
 rw[Z3 w g i _ _ (0,0) h];rw[List.getElem?_toArray,XG,It hi];rfl
def M4 {w:Z0}{g n L i:Nat}(h:w.heap[g]? = oT (.cells ((Be n L).map Y7).toArray 4 (0,0))):w.frozen? ⟨g,i,oS⟩=oH:=by simp[Zn,h]
def OE {w:Z0}{g n L i:Nat}(h:w.heap[g]? = oT (.cells ((Be n L).map Y7).toArray 4 (0,0)))(hi:i<n) :
  (w.setCell ⟨g,i,oS⟩ (aH oF)).heap[g]? = oT (.cells ((Be n (L ||| 2 ^ i)).map Y7).toArray 4 (0,0)):=by
 simp only[zy];rw[X6,if_pos rfl,h,<- Ly hi];simp[List.map_set]
def PA (w:Z0)(o:Obj){mm m:Nat}(hm:m<mm):((w.alloc o).alloc (.cells (((Be mm 0).map Y7).set m (aH oF)).toArray 4)).heap[w.heap.size+1]? = oT (.cells ((Be mm (2 ^ m)).map Y7).toArray 4 (0,0)):=by
 have h:=Z4 (w.alloc o) (.cells (((Be mm 0).map Y7).set m (aH oF)).toArray 4);have e:((Be mm 0).map Y7).set m (aH oF)=(Be mm (2 ^ m)).map Y7:=by
  have:=Ly (n:=mm) (L:=0) hm;rw[Nat.zero_or]at this;rw[<- this,List.map_set]
 rw[e]at h ⊢;simpa using h
def rreached_any (S:Sch)(a:Option Zj)(cap:Nat)(m:Nat)(w:Z0)(hR:BC w a S.rules)(hS:Fit S)(hm:m<S.modes.toNat) :
  Zu Z1 120 #[aJ #[aA aM S.modes,aA aO S.acc,aG a S.rules.length cap],aA aM (m:Int)] w λe w'=>∃ v,e=aP v/\Hr w' w.heap.size v S.modes.toNat (Bf S m)/\Below w.heap.size w w':=by
 have jn:=λn (h1:n<=8)=>run_make_row' (P:=Z1) 112 4 (aH oH) 1 Tryz.underlying112 M1 rfl aM aM n (by omega) (by omega);have HR:=A0 hR;have HS:=A0 hS;obtain⟨m0,m1, -, -,hlen, -⟩:=hS;clear hR;obtain⟨mm,jl⟩:=ZY (show 0<=S.modes by omega);have HM:Hid (S.modes.toNat=mm):=by show _=_;omega
 have jd:=A0 jl;rw[HM.out]at hm;have jp:mm<=8:=by omega
 have jq:∀ W,(Instr.makeSlice 112 (aA aM S.modes) (aA aM S.modes)).run Z1 W=.ok (aG (oT ⟨W.heap.size,0,oS⟩) mm mm) (W.alloc (.cells ((Be mm 0).map Y7).toArray 4)):=λW=>by
  have:=jn mm jp W;rw[jl,<- OD];exact this
 have hmI:(m:Int)<(mm:Int):=by omega
 clear jn jl
 go_enter Tryz.func120,Tryz.ntmps120
 go_upto_region 2 with fail
 have jg:(((w.alloc (aK #[aA aM S.modes,aA aO S.acc,aG a S.rules.length cap] 33)).alloc (.cells ((Be mm 0).map Y7).toArray 4))).heap[w.heap.size+1]? = oT (.cells ((Be mm 0).map Y7).toArray 4 (0,0)):=by
  have:=Z4 (w.alloc (aK #[aA aM S.modes,aA aO S.acc,aG a S.rules.length cap] 33)) (.cells ((Be mm 0).map Y7).toArray 4);simpa using this
 have hq:=BM jg hm;have jh:=M4 (i:=m) jg;have HG1:=A0 (OE jg hm);clear jg jq;go_wp2;clear hq jh
 go_loopw [6] (λj wr=>∃ k:Nat,k<=mm/\j=aA aM k/\wr.heap[w.heap.size+1]? = oT (.cells ((Be mm (Bc (λL=>S.eds.foldl BK L) k (2 ^ m))).map Y7).toArray 4 (0,0))/\Below (w.heap.size+1) (w.alloc (aK #[aA aM S.modes,aA aO S.acc,aG a S.rules.length cap] 33)) wr) (λj _=>mm - (intOf j).toNat)
 case atStart=>exact⟨0,by omega,rfl,PA w _ hm,by go_grown⟩
 case round =>
  obtain⟨k,hk,rfl,jj,ja⟩:=hrel;obtain⟨wo,rfl⟩:∃ wo:Z0,wo=wr:=⟨_,rfl⟩
  obtain⟨L,hL⟩:∃ L,Bc (λL=>S.eds.foldl BK L) k (2 ^ m)=L:=⟨_,rfl⟩
  rw[hL]at jj;have HL:=A0 hL;have jm:=A0 jj;clear hL jj;have hB:Below w.heap.size w wo:=((Z2 _ _).alloc (A5 _) _).trans (ja.mono (by omega));obtain⟨hz,hc,hf⟩:=Aw ja rfl;simp only[A8]at hz;have hkm:Hid ((mm:Int)=S.modes):=by show _=_;have:=jd.out;omega
  by_cases hlt:k<mm
  ·have jk:(k:Int)<S.modes:=by have:=jd.out;omega
   go_wp2
   go_loopw [7] (λj wr=>∃ i:Nat,i<=oB S.rules/\j=aA aM i/\wr.heap[w.heap.size+1]? = oT (.cells ((Be mm ((S.eds.take i).foldl BK L)).map Y7).toArray 4 (0,0))/\Below (w.heap.size+1) (w.alloc (aK #[aA aM S.modes,aA aO S.acc,aG a S.rules.length cap] 33)) wr) (λj _=>oB S.rules - (intOf j).toNat)
   case atStart=>exact⟨0,by omega,rfl,jm,ja⟩
   case round =>
    clear hc hf hz hB ja;obtain⟨i,hi,rfl,jb,ja⟩:=hrel;obtain⟨Q,hQ⟩:∃ Q,(S.eds.take i).foldl BK L=Q:=⟨_,rfl⟩
    rw[hQ]at jb;have HQ:=A0 hQ;clear hQ;have hB:Below w.heap.size w wr:=((Z2 _ _).alloc (A5 _) _).trans (ja.mono (by omega));obtain⟨hz,hc,hf⟩:=Aw ja rfl;simp only[A8]at hz;by_cases je:i<oB S.rules
    ·obtain⟨b,o,ha,hb,q0,q1,q2,q3,q4⟩:=(HR.later hB (A5 _)).at je;have hidx:=Bb a b o S.rules.length cap i ha je;have HAd:=A0 ha;clear ha;obtain⟨f0,f1,t0,t1⟩:=HS.at0 i je;have f2:S.rules[i].frm<(mm:Int):=by have:=jd.out;omega
     have t2:S.rules[i].dst<(mm:Int):=by have:=jd.out;omega
     have HE:Hid ((S.eds.take (i+1)).foldl BK L=BK Q S.rules[i].ed):=by
      show _=_;rw[Ie (by rw[EM];exact je),Om S i je,HQ.out]
     have jh:=BM jb (i:=S.rules[i].frm.toNat) (by omega);have hqt:=BM jb (i:=S.rules[i].dst.toNat) (by omega);have hqz:=M4 (i:=S.rules[i].dst.toNat) jb;have jo:=A0 (OE jb (i:=S.rules[i].dst.toNat) (by omega));have HG:=A0 jb;clear jb;by_cases jc:Q.testBit S.rules[i].frm.toNat=oF
     ·have ji:Hid (BK Q S.rules[i].ed=Q ||| 2 ^ S.rules[i].dst.toNat):=by show _=_;unfold BK;rw[if_pos (by exact jc)];rfl
      rw[jc]at jh;clear jc;go_wp2
      go_roundw
      case rel=>exact⟨i+1,by omega,by go_num,by rw[HE.out,ji.out];exact jo,ja.setCell (by simp) _⟩
      case measure=>simp[intOf];omega
     ·have jf:Q.testBit S.rules[i].frm.toNat=oH:=by simpa using jc
      have ji:Hid (BK Q S.rules[i].ed=Q):=by show _=_;unfold BK;rw[if_neg (by exact jc)]
      rw[jf]at jh;clear jc jf;go_wp2
      go_roundw
      case rel=>exact⟨i+1,by omega,by go_num,by rw[HE.out,ji.out];exact HG,ja⟩
      case measure=>simp[intOf];omega
    ·obtain rfl:i=oB S.rules:=by omega
     have HF:Hid (S.eds.take S.rules.length=S.eds):=AH (by rw[EM];exact A5 _);have HG:=A0 jb;clear jb;go_wp2
     go_roundw
     case rel=>exact⟨k+1,by omega,by go_num,by have:=HQ.out;rw[HF.out]at this;show _=oT (Xa ((Be mm (S.eds.foldl BK (Bc (λL=>S.eds.foldl BK L) k (2 ^ m)))).map Y7).toArray _ _);rw[HL.out,this];exact HG,ja⟩
     case measure=>simp[intOf];omega
  ·obtain rfl:k=mm:=by omega
   have jk:¬ (k:Int)<S.modes:=by have:=jd.out;omega
   go_wp2;go_ret;exact⟨aG (oT ⟨w.heap.size+1,0,oS⟩) k k,rfl,⟨w.heap.size+1,by rw[HM.out],by omega,by rw[Bf,HM.out,HL.out];exact jm⟩,hB⟩
def C6 (n:Nat)(f:Nat->Bool):List Bool:=(Zt n).map f
def Cf (n:Nat)(f:Nat->Bool):(C6 n f).length=n:=by simp[C6]
def De {n i:Nat}{f:Nat->Bool}(h:i<n):(C6 n f)[i]? = oT (f i):=by
 rw[C6,XG,List.getElem?_range h];rfl
def Iv {n t:Nat}{f:Nat->Bool}{b:Bool}:(C6 n f).set t b=C6 n (λj=>if j=t then b else f j):=by
 apply List.ext_getElem?;intro i;rw[List.getElem?_set];by_cases hi:i<n
 ·rw[De hi,De hi,Cf];by_cases e:t=i
  · subst e;simp[hi]
  · rw[if_neg e,if_neg (λh=>e h.symm)]
 ·have h1:(C6 n f)[i]? = oS:=by rw[AT];rw[Cf];omega
  have h2:(C6 n (λj=>if j=t then b else f j))[i]? = oS:=by rw[AT];rw[Cf];omega
  rw[h1,h2,Cf];split
  · rw[if_neg (by omega)]
  · rfl
def JO {n:Nat}{f g:Nat->Bool}(h:∀ i,i<n->f i=g i):C6 n f=C6 n g:=by
 unfold C6;exact List.map_congr_left λi hi=>h i (by simpa using hi)
def B2 (w:Z0)(g n:Nat)(f:Nat->Bool):Prop:=w.heap[g]? = oT (.cells ((C6 n f).map Y7).toArray 4 (0,0))
def B2.cell {w:Z0}{g n i:Nat}{f:Nat->Bool}(h:B2 w g n f)(hi:i<n):w.cell? ⟨g,i,oS⟩=oT (aH (f i)):=by
 rw[Z3 w g i _ _ (0,0) h];rw[List.getElem?_toArray,XG,De hi];rfl
def B2.free {w:Z0}{g n i:Nat}{f:Nat->Bool}(h:B2 w g n f):w.frozen? ⟨g,i,oS⟩=oH:=by unfold B2 at h;simp[Zn,h]
def B2.set {w:Z0}{g n i:Nat}{f:Nat->Bool}{b:Bool}(h:B2 w g n f):B2 (w.setCell ⟨g,i,oS⟩ (aH b)) g n (λj=>if j=i then b else f j):=by
 unfold B2 at h ⊢;simp only[zy];rw[X6,if_pos rfl,h,<- Iv];simp[List.map_set]
def B2.below {w w1:Z0}{g n B:Nat}{f:Nat->Bool}(h:B2 w g n f)(hb:Below B w w1)(hg:g<B):B2 w1 g n f:=(hb.block g hg).trans h
def B2.lt {w:Z0}{g n:Nat}{f:Nat->Bool}(h:B2 w g n f):g<w.heap.size:=(A7.1 h).1
def JP (S:Sch)(m k:Nat):Bool:=(Zt k).any (λk=>(Bf S m).testBit k && S.acc.toNat.testBit k)
def PB (S:Sch)(m k:Nat):JP S m (k+1)=(JP S m k || ((Bf S m).testBit k && S.acc.toNat.testBit k)):=by
 unfold JP;rw[z6,List.any_append];simp
def C8 (S:Sch)(m k:Nat)(j:Nat):Bool:=if j=m then JP S m k else(decide (j<m) && (B9 S).testBit j)
def Fv (S:Sch)(m:Nat):C8 S m 0=λj=>decide (j<m) && (B9 S).testBit j:=by
 funext j;unfold C8;split
 · rename_i h;subst h;simp[JP]
 · rfl
def OF (S:Sch)(m k:Nat):(λj=>if j=m then JP S m (k+1) else C8 S m k j)=C8 S m (k+1):=by
 funext j;unfold C8;split <;> rfl
def Mo {S:Sch}(hS:Fit S){m:Nat}(hm:m<S.modes.toNat):C6 S.modes.toNat (C8 S m S.modes.toNat)=C6 S.modes.toNat (C8 S (m+1) 0):=by
 refine JO λi hi=>?_;rw[Fv];show _=(decide (i<m+1) && (B9 S).testBit i);unfold C8;split
 ·rename_i h;subst h;rw[decide_eq_true (by omega),zC,T8 hS hm];rfl
 ·rename_i h;by_cases h2:i<m
  · rw[decide_eq_true h2,decide_eq_true (by omega)]
  · rw[decide_eq_false h2,decide_eq_false (by omega)]
def OG (w:Z0)(o:Obj)(n:Nat):B2 ((w.alloc o).alloc (.cells ((Be n 0).map Y7).toArray 4)) (w.heap.size+1) n (λ_=>oH):=by
 unfold B2;have h:=Z4 (w.alloc o) (.cells ((Be n 0).map Y7).toArray 4);have e:Be n 0=C6 n (λ_=>oH):=by unfold Be C6;exact List.map_congr_left λi _=>by simp
 rw[e]at h ⊢;simpa using h
def rlive_any (S:Sch)(a:Option Zj)(cap:Nat)(w:Z0)(hR:BC w a S.rules)(hS:Fit S) :
  Zu Z1 93 #[aJ #[aA aM S.modes,aA aO S.acc,aG a S.rules.length cap]] w λe w'=>∃ v,e=aP v/\Hr w' w.heap.size v S.modes.toNat (B9 S)/\Below w.heap.size w w':=by
 have jv:=λn (h1:n<=8)=>run_make_row' (P:=Z1) 112 4 (aH oH) 1 Tryz.underlying112 M1 rfl aM aM n (by omega) (by omega);have HR:=A0 hR;have HS:=A0 hS;obtain⟨m0,m1,h0,h1,hlen, -⟩:=hS;clear hR;obtain⟨mm,jq⟩:=ZY (show 0<=S.modes by omega);have HM:Hid (S.modes.toNat=mm):=by show _=_;omega
 have jm:=A0 jq;have jA:mm<=8:=by omega
 have jj:∀ W,(Instr.makeSlice 112 (aA aM S.modes) (aA aM S.modes)).run Z1 W=.ok (aG (oT ⟨W.heap.size,0,oS⟩) mm mm) (W.alloc (.cells ((Be mm 0).map Y7).toArray 4)):=λW=>by
  have:=jv mm jA W;rw[jq,<- OD];exact this
 clear jv jq
 go_enter Tryz.func93,Tryz.ntmps93
 go_wp2;have jw:=A0 (OG w (aK #[aA aM S.modes,aA aO S.acc,aG a S.rules.length cap] 33) mm);clear jj
 go_loopw [4] (λj wr=>∃ m:Nat,m<=mm/\j=aA aM m/\B2 wr (w.heap.size+1) mm (C8 S m 0)/\Below (w.heap.size+1) (w.alloc (aK #[aA aM S.modes,aA aO S.acc,aG a S.rules.length cap] 33)) wr) (λj _=>mm - (intOf j).toNat)
 case atStart=>exact⟨0,by omega,rfl,by rw[Fv];have:=jw.out;unfold B2 at this ⊢;rw[this];simp,by go_grown⟩
 case round =>
  obtain⟨m,hk,rfl,je,jb⟩:=hrel;have jc:=A0 je;clear je;have hB:Below w.heap.size w wr:=((Z2 _ _).alloc (A5 _) _).trans (jb.mono (by omega));obtain⟨hz,hc,hf⟩:=Aw jb rfl;simp only[A8]at hz;by_cases ju:m<mm
  ·have jp:(m:Int)<S.modes:=by have:=jm.out;omega
   go_wp2_with (first | (go_at_call 120;refine(rreached_any S a cap m _ (HR.later (by first | exact hB | go_grown) (A5 _)) HS (by have:=HM.out;omega)).mono ?_;rintro e w1 ⟨v,rfl,⟨g2,hv,hg2,jf⟩,hb⟩;rw[HM.out]at hv;subst hv;have jg:Hid (B2 w1 g2 mm (Bf S m).testBit):=(by(have h:=jf;rw[HM.out]at h;exact h));have ja:=A0 (jc.below hb jc.lt);have hg2':w.heap.size+1<g2:=(by have:=jc.lt;omega);have jd:=jb.trans (hb.mono (by have:=jb.size;simp only[A8]at this;omega));clear jf jb;obtain⟨hz,hc,hf⟩:=Ap hb (by first | (simp only[A8,Zb,Zi];rfl) | rfl);have hB:=Ac (B:=w.heap.size) (w:=w) (by go_grown) hb (A5 _);clear hb) | fail)
   clear hz hc hf hB
   go_loopw [6] (λj wr=>∃ k:Nat,k<=mm/\j=aA aM k/\B2 wr (w.heap.size+1) mm (C8 S m k)/\B2 wr g2 mm (Bf S m).testBit/\Below (w.heap.size+1) (w.alloc (aK #[aA aM S.modes,aA aO S.acc,aG a S.rules.length cap] 33)) wr) (λj _=>mm - (intOf j).toNat)
   case atStart=>exact⟨0,by omega,rfl,ja,jg,jd⟩
   case round =>
    clear jd;clear jc ja jg;obtain⟨k,hk,rfl,je,jj,jb⟩:=hrel;have hB:Below w.heap.size w wr:=((Z2 _ _).alloc (A5 _) _).trans (jb.mono (by omega));obtain⟨hz,hc,hf⟩:=Aw jb rfl;simp only[A8]at hz;by_cases jz:k<mm
    ·have jo:(k:Int)<S.modes:=by have:=jm.out;omega
     have q1:=je.cell ju;have q2:=jj.cell jz;have q3:=je.free (i:=m);have HX:Hid (JP S m (k+1)=(C8 S m k m || ((Bf S m).testBit k && S.acc.toNat.testBit k))):=by show _=_;rw[PB,C8,if_pos rfl]
     obtain⟨o1,jr⟩:∃ o,C8 S m k m=o:=⟨_,rfl⟩
     obtain⟨o2,js⟩:∃ o,(Bf S m).testBit k=o:=⟨_,rfl⟩
     obtain⟨o3,jt⟩:∃ o,S.acc.toNat.testBit k=o:=⟨_,rfl⟩
     rw[jr]at q1;rw[js]at q2;have jy:Hid (JP S m (k+1)=(o1 || (o2 && o3))):=by show _=_;rw[HX.out,jr,js,jt]
     obtain⟨jx,jc,jg⟩:=oC jt je jj;have jl:∀ W,B2 W (w.heap.size+1) mm (C8 S m k)->B2 (W.setCell ⟨w.heap.size+1,m,oS⟩ (aH (o1 || (o2 && o3)))) (w.heap.size+1) mm (C8 S m (k+1)):=λW h=>by
      have:=h.set (i:=m) (b:=o1 || (o2 && o3));rw[<- OF,jy.out];exact this
     have jk:∀ W b,B2 W g2 mm (Bf S m).testBit->B2 (W.setCell ⟨w.heap.size+1,m,oS⟩ (aH b)) g2 mm (Bf S m).testBit:=λW b h=>by
      unfold B2 at h ⊢;rw[Zc _ _ _ _ (by show g2≠w.heap.size+1;omega)];exact h
     have ji:=A0 jl;have jh:=A0 jk;have hmI:(m:Int)<(mm:Int):=by omega
     have hkI:(k:Int)<(mm:Int):=by omega
     clear jr js jt je jj HX jl jk;cases o1 with
     | true =>
      go_wp2
      go_roundw
      case rel=>exact⟨k+1,by omega,by go_num,ji _ jc,jh _ _ jg,jb.setCell (by simp) _⟩
      case measure=>simp[intOf];omega
     | false =>
      cases o2 with
      | false =>
       go_wp2
       go_roundw
       case rel=>exact⟨k+1,by omega,by go_num,ji _ jc,jh _ _ jg,jb.setCell (by simp) _⟩
       case measure=>simp[intOf];omega
      | true =>
       go_wp2_with (first | (go_at_call 121;refine(OC S a cap (k:Int) _ h0 h1 (by omega) (by omega)).mono ?_;rintro e w1 ⟨he,hb⟩;rw[ZW,jx.out]at he;subst he;have ja:=A0 (jc.below hb jc.lt);have jn:=A0 (jg.below hb jg.lt);have q4:=ja.cell ju;have q5:=ja.free (i:=m);have jd:=jb.trans (hb.mono (by have:=jb.size;simp only[A8]at this;omega));obtain⟨hz,hc,hf⟩:=Ap hb (by first | (simp only[A8,Zb,Zi];rfl) | rfl);have hB:=Ac (B:=w.heap.size) (w:=w) (by go_grown) hb (A5 _);clear hb) | fail)
       go_roundw
       case rel=>exact⟨k+1,by omega,by go_num,ji _ ja,jh _ _ jn,jd.setCell (by simp) _⟩
       case measure=>simp[intOf];omega
    ·obtain rfl:k=mm:=by omega
     have jo:¬ (k:Int)<S.modes:=by have:=jm.out;omega
     have HN:Hid (B2 wr (w.heap.size+1) k (C8 S (m+1) 0)):=by
      have h:=je;unfold B2 at h;show B2 _ _ _ _;unfold B2;have e:=Mo HS (m:=m) (by have:=HM.out;omega);rw[HM.out]at e;rw[h,e]
     clear je jj;go_wp2
     go_roundw
     case rel=>exact⟨m+1,by omega,by go_num,HN,jb⟩
     case measure=>simp[intOf];omega
  ·obtain rfl:m=mm:=by omega
   have jp:¬ (m:Int)<S.modes:=by have:=jm.out;omega
   go_wp2;go_ret;refine⟨aG (oT ⟨w.heap.size+1,0,oS⟩) m m,rfl,⟨w.heap.size+1,by rw[HM.out],by omega,?_⟩,hB⟩;have h:=jc.out;unfold B2 at h;rw[h,HM.out,Fv];have:C6 m (λj=>decide (j<m) && (B9 S).testBit j)=Be m (B9 S):=JO λi hi=>by rw[decide_eq_true hi,zC]
   rw[this]
def Az:List Int->List Int->Bool
 | a :: xs,b :: ys=>if a=b then Az xs ys else decide (a<b)
 | _,_=>oH
def PC {xs ys:List Int}{k:Nat}(hx:k<oB xs)(hy:k<oB ys)(h:xs[k]≠ys[k]):Az (xs.drop k) (ys.drop k)=decide (xs[k]<ys[k]):=by
 rw[AG hx,AG hy,Az,if_neg h]
def PD {xs ys:List Int}{k:Nat}(hx:k<oB xs)(hy:k<oB ys)(h:xs[k]=ys[k]):Az (xs.drop k) (ys.drop k)=Az (xs.drop (k+1)) (ys.drop (k+1)):=by
 rw[AG hx,AG hy,Az,if_pos h]
def JQ {xs ys:List Int}{k:Nat}(h:oB xs<=k\/ys.length<=k):Az (xs.drop k) (ys.drop k)=oH:=by
 rcases h with h | h
 · rw[Xn h];cases ys.drop k <;> rfl
 · rw[Xn h];cases xs.drop k <;> rfl
def before_any (a a':Option Zj)(n n' c c':Nat)(xs ys:List Int)(w:Z0)(hn:n=oB xs)(jc:n'=oB ys)(h1:SlS w a xs)(h2:SlS w a' ys)(l1:oB xs<=100000)(l2:oB ys<=100000) :
  Zu Z1 140 #[aG a n c,aG a' n' c'] w λe w'=>e=aP (aH (Az xs ys))/\Below w.heap.size w w':=by
 subst hn jc;have H1:=A0 h1;have H2:=A0 h2;clear h1 h2
 go_enter Tryz.func140,Tryz.ntmps140
 go_wp2
 go_loopw [5] (λi wr=>∃ k:Nat,k<=oB xs/\k<=oB ys/\i=aA aM k/\Az (xs.drop k) (ys.drop k)=Az xs ys/\Below w.heap.size w wr) (λi _=>oB xs - (intOf i).toNat)
 case atStart=>exact⟨0,Ze _,Ze _,rfl,rfl,Z2 _ _⟩
 case round =>
  obtain⟨k,hk,hk2,rfl,ja,hB⟩:=hrel;have HL:=A0 ja;clear ja;by_cases hx:k<oB xs
  ·by_cases hy:k<oB ys
   ·obtain⟨b,o,ha,hb,q⟩:=(H1.later hB (A5 _)).at hx;have hidx:=idx_ints a b o xs.length c k ha hx;obtain⟨b',o',jb,hb',q'⟩:=(H2.later hB (A5 _)).at hy;have hidx':=idx_ints a' b' o' ys.length c' k jb hy;have HA:=A0 ha;have HA':=A0 jb;clear ha jb;by_cases he:xs[k]=ys[k]
    ·have HN:Hid (Az (xs.drop (k+1)) (ys.drop (k+1))=Az xs ys):=(PD hx hy he).symm.trans HL;have jd:(xs[k] != ys[k])=oH:=by simp[he]
     clear he;go_wp2
     go_quiet (fail)
     go_wp2
     go_roundw
     case rel=>exact⟨k+1,by omega,by omega,by go_num,HN,hB.trans (below_drewN _ _)⟩
     case measure=>simp[intOf];omega
    ·have HN:Hid (decide (xs[k]<ys[k])=Az xs ys):=(PC hx hy he).symm.trans HL;have jd:(xs[k] != ys[k])=oF:=by simp[he]
     clear he;go_wp2
     go_quiet (fail)
     go_wp2
     go_quiet (fail)
     go_wp2;go_ret;exact⟨Ad HN,(hB.trans (below_drewN _ _)).trans ((below_drewN _ _))⟩
   ·have HN:Hid (Az xs ys=oH):=HL.symm.trans (JQ (.inr (by omega)));go_wp2;go_ret;exact⟨Ad HN.symm,hB⟩
  ·have HN:Hid (Az xs ys=oH):=HL.symm.trans (JQ (.inl (by omega)));go_wp2;go_ret;exact⟨Ad HN.symm,hB⟩
end Go.Proofs.YtpljngaejaehcaaGreatDoor.Fl
