/- Texts that the claims share: K9, K13, N1, K31, N7, N0, NB, NR, K10. -/
import Derived.RangeFuncNested
import Derived.RangeFuncBound
import Derived.RangeFuncCalls
import Derived.RangeFuncLeaves
import Derived.RangeFuncBox
import Derived.Shelf.Abstract
import Derived.Shelf.RegionOpen
import Derived.WalkKit
import Derived.OwnWalkIn
import Derived.TacticsInMore
import Derived.LoopNIn
import Derived.LoopIn
import Derived.OrdersIn
import Derived.TacticsIn
import Derived.Test.YtpljngaejaehcaaGreatDoorMK3
import Derived.Test.YtpljngaejaehcaaGreatDoorMK1
import Derived.Test.YtpljngaejaehcaaGreatDoorMA1
set_option maxHeartbeats 6400000
set_option maxRecDepth 100000
set_option linter.unusedVariables false
set_option linter.unusedSimpArgs false
namespace Go.Proofs.YtpljngaejaehcaaGreatDoor
open Go.RowKit Go.WideShapes Fl
theorem I8:∀ (p:List UInt8) {a b:UInt8} {u v:List UInt8},Op.bytesLess (p ++ a :: u) (p ++ b :: v)=true→a.toNat≤b.toNat
 | [],a,b,u,v,h=>by
  simp only [List.nil_append,Op.bytesLess,Bool.or_eq_true,Bool.and_eq_true,decide_eq_true_eq,beq_iff_eq,UInt8.lt_iff_toNat_lt] at h;rcases h with h | ⟨h,_⟩
  · omega
  · rw [h];exact A3 _
 | x :: p,a,b,u,v,h=>by
  simp only [List.cons_append,Op.bytesLess,Bool.or_eq_true,Bool.and_eq_true,decide_eq_true_eq,beq_iff_eq,UInt8.lt_iff_toNat_lt,Nat.lt_irrefl,false_or,true_and] at h;exact I8 p h
theorem PI:∀ x:List UInt8,Op.bytesLess x x=false
 | []=>rfl
 | a :: x=>by
  have h:¬ a<a:=by rw [UInt8.lt_iff_toNat_lt];omega
  simp [Op.bytesLess,h,PI x]
structure TrX (T:List Bn) (X:List (List UInt8)):Prop where
 len:X.length=T.length
 zero:X[0]? = some []
 nd:X.Nodup
 fwd:∀ (n:Nat) (hn:n<T.length),∀ x∈T[n].arcs,0≤x.c∧x.c<256∧0≤x.t∧x.t<(T.length:Int)∧X[x.t.toNat]? = some ((X[n]'(by omega)) ++ [UInt8.ofNat x.c.toNat])
 bwd:∀ (n t:Nat) (hn:n<T.length) (c:UInt8),X[t]? = some ((X[n]'(by omega)) ++ [c])→(⟨(c.toNat:Int),(t:Int)⟩:Ar)∈T[n].arcs
 sorted:∀ (n:Nat) (hn:n<T.length),T[n].arcs.Pairwise fun x y=>x.c<y.c
 clo:∀ (p q:List UInt8),p ++ q∈X→p∈X
section
variable {T:List Bn} {X:List (List UInt8)}
theorem I9 {α:Type} {X:List α} (h:X.Nodup) {i j:Nat} {x:α} (hi:X[i]? = some x) (hj:X[j]? = some x):i=j:=by
 obtain ⟨h1,e1⟩:=List.getElem?_eq_some_iff.1 hi;obtain ⟨h2,e2⟩:=List.getElem?_eq_some_iff.1 hj;exact (List.getElem_inj h).1 (e1.trans e2.symm)
theorem ofNat_toNat {c:Int} (h0:0≤c) (h1:c<256):((UInt8.ofNat c.toNat).toNat:Int)=c:=by
 simp only [UInt8.toNat_ofNat'];omega
theorem TrX.find (h:TrX T X) {n:Nat} (hn:n<T.length) {c:UInt8} {t:Nat} (ht:X[t]? = some ((X[n]'(by have:=h.len;omega)) ++ [c])) :
  T[n].arcs.find? (fun x=>x.c == (c.toNat:Int))=some ⟨(c.toNat:Int),(t:Int)⟩:=by
 have hm:=h.bwd n t hn c ht;cases e:T[n].arcs.find? (fun x=>x.c == (c.toNat:Int)) with
 | none =>
  have:=List.find?_eq_none.1 e _ hm;simp at this
 | some x =>
  have h1:=List.find?_some e;simp only [beq_iff_eq] at h1;obtain ⟨a1,a2,a3,a4,a5⟩:=h.fwd n hn x (List.mem_of_find?_eq_some e);have e2:UInt8.ofNat x.c.toNat=c:=UInt8.toNat_inj.1 (by have:=ofNat_toNat a1 a2;omega);rw [e2] at a5;have:=I9 h.nd a5 ht;obtain ⟨xc,xt⟩:=x;simp only at h1 this a3 ⊢;subst h1;congr 2;omega
theorem TrX.none (h:TrX T X) {n:Nat} (hn:n<T.length) {c:UInt8} (ht:(X[n]'(by have:=h.len;omega)) ++ [c] ∉ X) :
  T[n].arcs.find? (fun x=>x.c == (c.toNat:Int))=none:=by
 rw [List.find?_eq_none];intro x hx;obtain ⟨a1,a2,a3,a4,a5⟩:=h.fwd n hn x hx;simp only [beq_iff_eq];intro e;have e2:UInt8.ofNat x.c.toNat=c:=UInt8.toNat_inj.1 (by have:=ofNat_toNat a1 a2;omega);rw [e2] at a5;exact ht (List.mem_of_getElem? a5)
theorem TrX.fol (h:TrX T X):∀ (o:List UInt8) {n m:Nat} (hn:n<T.length),folT T n o=some m↔X[m]? = some ((X[n]'(by have:=h.len;omega)) ++ o)
 | [],n,m,hn=>by
  have ja:n<X.length:=by have:=h.len;omega
  rw [List.append_nil];constructor
  · intro e;cases e;exact AA ja
  ·intro e;have:=I9 h.nd e (AA ja);rw [this];rfl
 | c
   :: r,n,m,hn=>by
  have ja:n<X.length:=by have:=h.len;omega
  by_cases hc:X[n] ++ [c]∈X
  ·obtain ⟨t,ht⟩:=List.getElem?_of_mem hc;have hf:=h.find hn ht;obtain ⟨h1,e1⟩:=List.getElem?_eq_some_iff.1 ht;have jb:t<T.length:=by have:=h.len;omega
   rw [folT,AA hn];simp only [hf];show folT T t r=some m↔_;rw [h.fol r jb,e1,List.append_assoc];rfl
  ·have hf:=h.none hn hc;rw [folT,AA hn];simp only [hf];constructor
   · intro e;cases e
   ·intro e;refine absurd (h.clo (X[n] ++ [c]) r ?_) hc;rw [List.append_assoc];exact List.mem_of_getElem? e
theorem TrX.trIn (h:TrX T X):PD T:=fun b hb x hx=>by
 obtain ⟨n,hn,rfl⟩:=List.mem_iff_getElem.1 hb;obtain ⟨_,_,h1,h2,_⟩:=h.fwd n hn x hx;exact ⟨h1,h2⟩
end
def Db (T:List Bn) (n:Nat) (x:Ar):List Bn:=T.modify n fun b=>⟨b.word,b.arcs ++ [x]⟩
def setWord (T:List Bn) (n:Nat) (i:Int):List Bn:=T.modify n fun b=>⟨i,b.arcs⟩
def E4 (T:List Bn) (n:Nat) (c:UInt8):List Bn:=Db T n ⟨(c.toNat:Int),(T.length:Int)⟩ ++ [⟨-1,[]⟩]
theorem Bg (T:List Bn) (n:Nat) (c:UInt8):(E4 T n c).length=T.length+1:=by simp [E4,Db]
theorem Dc {T:List Bn} {n k:Nat} {c:UInt8} (hk:k<T.length):(E4 T n c)[k]'(by rw [Bg];omega)=if n=k then ⟨T[k].word,T[k].arcs ++ [⟨(c.toNat:Int),(T.length:Int)⟩]⟩ else T[k]:=by
 unfold E4 Db;rw [List.getElem_append_left (by simpa using hk),List.getElem_modify]
theorem Fo {T:List Bn} {n:Nat} {c:UInt8}:(E4 T n c)[T.length]'(by rw [Bg];omega)=⟨-1,[]⟩:=by
 unfold E4 Db;rw [List.getElem_append_right (by simp)];simp
theorem TrX.add {T:List Bn} {X:List (List UInt8)} (h:TrX T X) {n:Nat} (hn:n<T.length) {c:UInt8} (hc:(X[n]'(by have:=h.len;omega)) ++ [c] ∉ X) (jh:∀ x∈T[n].arcs,x.c<(c.toNat:Int)) :
  TrX (E4 T n c) (X ++ [(X[n]'(by have:=h.len;omega)) ++ [c]]):=by
 have hl:=h.len;have je:∀ k (hk:k<X.length),(X ++ [X[n] ++ [c]])[k]'(by rw [AB];omega)=X[k]:=fun k hk=>List.getElem_append_left hk;have jc:∀ k,k<X.length→(X ++ [X[n] ++ [c]])[k]? = X[k]?:=fun k hk=>AI hk;have jf:(X ++ [X[n] ++ [c]])[X.length]? = some (X[n] ++ [c]):=by simp
 have jd:∀ t y,(X ++ [X[n] ++ [c]])[t]? = some y→X[t]? = some y∨(t=X.length∧y=X[n] ++ [c]):=fun t y ht=>by
  by_cases h1:t<X.length
  · rw [jc t h1] at ht;exact .inl ht
  ·by_cases h2:t=X.length
   · subst h2;rw [jf] at ht;injection ht with ht;exact .inr ⟨rfl,ht.symm⟩
   ·have:=(List.getElem?_eq_some_iff.1 ht).1;rw [AB,AC] at this;omega
 refine ⟨by rw [AB,Bg,AC];omega,by rw [jc 0 (by omega)];exact h.zero,?_,?_,?_,?_,?_⟩
 ·rw [List.nodup_append];refine ⟨h.nd,by simp,fun a ha b hb=>?_⟩;rw [AD.1 hb];exact fun e=>hc (e ▸ ha)
 ·intro
     k hk x hx
  rw [Bg] at hk;by_cases ja:k<T.length
  ·rw [Dc ja] at hx;have jb:(X ++ [X[n] ++ [c]])[k]'(by rw [AB,AC];omega)=X[k]:=je k (by omega);rw [jb,Bg];by_cases e:n=k
   ·subst e;rw [if_pos rfl] at hx;rcases AT.1 hx with hx | hx
    ·obtain ⟨a1,a2,a3,a4,a5⟩:=h.fwd n ja x hx;exact ⟨a1,a2,a3,by omega,by rw [jc _ (by omega)];exact a5⟩
    ·rw [AD.1 hx];have:=c.toNat_lt;refine ⟨by simp only;omega,by simp only;omega,by simp only;omega,by simp only;omega,?_⟩;simp only [Int.toNat_natCast];refine (congrArg (fun k=>(X ++ [X[n] ++ [c]])[k]?) hl.symm).trans (jf.trans ?_);simp
   ·rw [if_neg e] at hx;obtain ⟨a1,a2,a3,a4,a5⟩:=h.fwd k ja x hx;exact ⟨a1,a2,a3,by omega,by rw [jc _ (by omega)];exact a5⟩
  ·obtain rfl:k=T.length:=by omega
   rw [Fo] at hx;cases hx
 ·intro k t hk b ht;rw [Bg] at hk;by_cases ja:k<T.length
  ·have jb:(X ++ [X[n] ++ [c]])[k]'(by rw [AB,AC];omega)=X[k]:=je k (by omega);rw [jb] at ht;rw [Dc ja];rcases jd t _ ht with h1 | ⟨rfl,h1⟩
   ·have hm:=h.bwd k t ja b h1;split
    · exact List.mem_append_left _ hm
    · exact hm
   ·have e1:=List.append_inj' h1 rfl;have e2:k=n:=(List.getElem_inj h.nd).1 e1.1;have e3:b=c:=by simpa using e1.2
    subst e2 e3;rw [if_pos rfl,hl];simp
  ·obtain rfl:k=T.length:=by omega
   have jb:(X ++ [X[n] ++ [c]])[T.length]'(by rw [AB,AC];omega)=X[n] ++ [c]:=by
    simp only [← hl];rw [List.getElem_append_right (A3 _)];simp
   rw [jb] at ht;rcases jd t _ ht with h1 | ⟨_,h1⟩
   · exact absurd (h.clo (X[n] ++ [c]) [b] (List.mem_of_getElem? h1)) hc
   ·have:=congrArg List.length h1;simp at this
 ·intro k hk;rw [Bg] at hk;by_cases ja:k<T.length
  ·rw [Dc ja];split
   ·rename_i e;subst e;refine List.pairwise_append.2 ⟨h.sorted n ja,List.pairwise_singleton _ _,fun x hx y hy=>?_⟩;rw [AD.1 hy];exact jh x hx
   · exact h.sorted k ja
  ·obtain rfl:k=T.length:=by omega
   rw [Fo];exact List.Pairwise.nil
 ·intro
     p q jg
  rw [AT,AD] at jg ⊢;rcases jg with h1 | h1
  · exact .inl (h.clo p q h1)
  ·by_cases hq:q=[]
   · subst hq;rw [List.append_nil] at h1;exact .inr h1
   ·refine .inl (h.clo p q.dropLast ?_);have e1:p ++ q.dropLast=X[n]:=by
     have:=congrArg List.dropLast h1;rw [List.dropLast_append_of_ne_nil hq,List.dropLast_concat] at this;exact this
    rw [e1];exact AG _
theorem B9 (T:List Bn) (n:Nat) (i:Int):(setWord T n i).length=T.length:=by simp [setWord]
theorem D7 {T:List Bn} {n k:Nat} {i:Int} (hk:k<T.length):(setWord T n i)[k]'(by rw [B9];exact hk)=if n=k then ⟨i,T[k].arcs⟩ else T[k]:=by
 unfold setWord;rw [List.getElem_modify]
theorem DL {T:List Bn} {n k:Nat} {i:Int} (hk:k<T.length):((setWord T n i)[k]'(by rw [B9];exact hk)).arcs=T[k].arcs:=by
 rw [D7 hk];split <;> rfl
theorem TrX.setWord {T:List Bn} {X:List (List UInt8)} (h:TrX T X) (n:Nat) (i:Int):TrX (setWord T n i) X where
 len:=by rw [B9];exact h.len
 zero:=h.zero
 nd:=h.nd
 fwd k hk x hx:=by
  have ja:k<T.length:=by rw [B9] at hk;exact hk
  rw [DL ja] at hx;obtain ⟨a1,a2,a3,a4,a5⟩:=h.fwd k ja x hx;exact ⟨a1,a2,a3,by rw [B9];exact a4,a5⟩
 bwd k t hk c ht:=by
  have ja:k<T.length:=by rw [B9] at hk;exact hk
  rw [DL ja];exact h.bwd k t ja c ht
 sorted k hk:=by
  have ja:k<T.length:=by rw [B9] at hk;exact hk
  rw [DL ja];exact h.sorted k ja
 clo:=h.clo
structure E5 (W:List (List UInt8)) (i k:Nat) (w:List UInt8) (node:Nat) (T:List Bn) (X:List (List UInt8)):Prop where
 tr:TrX T X
 at_:X[node]? = some (w.take k)
 src:∀ p∈X,(∃ j,∃ h:j<W.length,j<i∧p <+: W[j])∨p <+: w.take k
 word:∀ (n:Nat) (hn:n<T.length),T[n].word = -1∨∃ j,∃ h:j<W.length,j<i∧T[n].word=(j:Int)∧X[n]? = some W[j]
 all:∀ (j:Nat) (h:j<W.length),j<i→∃ n,∃ hn:n<T.length,X[n]? = some W[j]∧T[n].word=(j:Int)
 size:T.length≤1+20*i+k
section
variable {W:List (List UInt8)} {i k node:Nat} {w:List UInt8} {T:List Bn} {X:List (List UInt8)}
theorem E5.node_lt (h:E5 W i k w node T X):node<T.length:=by
 have:=(List.getElem?_eq_some_iff.1 h.at_).1;have:=h.tr.len;omega
theorem E5.start (W:List (List UInt8)) (w:List UInt8):E5 W 0 0 w 0 [⟨-1,[]⟩] [[]] where
 tr:=by
  refine ⟨rfl,rfl,by simp,?_,?_,?_,?_⟩
  ·intro n hn x hx;have e:n=0:=by simp at hn;omega
   subst e;cases hx
  ·intro n t hn c ht;have e:n=0:=by simp at hn;omega
   subst e;have h1:=(List.getElem?_eq_some_iff.1 ht).1;have e2:t=0:=by simp at h1;omega
   subst e2;simp at ht
  ·intro n hn;have e:n=0:=by simp at hn;omega
   subst e;exact List.Pairwise.nil
  ·intro p q h;have:=AD.1 h;simp at this;simp [this.1]
 at_:=by simp
 src p hp:=.inr (by rw [AD.1 hp];exact List.nil_prefix)
 word n hn:=by
  have e:n=0:=by simp at hn;omega
  subst e;exact .inl rfl
 all j h hj:=absurd hj (Nat.not_lt_zero _)
 size:=by simp
theorem CF {w:List UInt8} {k:Nat} (hk:k<w.length):w.take (k+1)=w.take k ++ [w[k]]:=AN hk
theorem E5.follow (h:E5 W i k w node T X) (hk:k<w.length) {x:Ar} (hx:x∈(T[node]'h.node_lt).arcs) (hc:x.c=(w[k].toNat:Int)):E5 W i (k+1) w x.t.toNat T X:=by
 obtain ⟨a1,a2,a3,a4,a5⟩:=h.tr.fwd node h.node_lt x hx;have e2:UInt8.ofNat x.c.toNat=w[k]:=UInt8.toNat_inj.1 (by have:=ofNat_toNat a1 a2;omega);have e3:X[node]'(by have:=h.node_lt;have:=h.tr.len;omega)=w.take k:=(List.getElem?_eq_some_iff.1 h.at_).2;refine ⟨h.tr,?_,fun p hp=>(h.src p hp).imp id fun h1=>?_,h.word,h.all,by have:=h.size;omega⟩
 · rw [a5,e2,e3,CF hk]
 · rw [CF hk];exact h1.trans (List.prefix_append _ _)
theorem E5.arcs_lt (h:E5 W i k w node T X) (hi:i<W.length) (hw:W[i]=w) (jb:W.Pairwise fun a b=>Op.bytesLess a b=true) (hk:k<w.length) {x:Ar} (hx:x∈(T[node]'h.node_lt).arcs):x.c≤(w[k].toNat:Int):=by
 obtain ⟨a1,a2,a3,a4,a5⟩:=h.tr.fwd node h.node_lt x hx;have e3:X[node]'(by have:=h.node_lt;have:=h.tr.len;omega)=w.take k:=(List.getElem?_eq_some_iff.1 h.at_).2;rw [e3] at a5;have h2:=ofNat_toNat a1 a2;rcases h.src _ (List.mem_of_getElem? a5) with ⟨j,hj,jc,hp⟩ | hp
 ·have h1:=(List.pairwise_iff_getElem.1 jb) j i hj hi jc;obtain ⟨u,hu⟩:=hp;rw [hw,← hu] at h1;have ja:w=w.take k ++ w[k] :: w.drop (k+1):=by
   rw [← AE hk,List.take_append_drop]
  rw [ja,List.append_assoc] at h1;have h3:∀ {p:List UInt8} {a b:UInt8} {u v:List UInt8},Op.bytesLess (p ++ ([a] ++ u)) (p ++ b :: v)=true→a.toNat≤b.toNat:=fun {p a b u v} h9=>I8 p h9;have h4:w.take k=(w.take k ++ w[k] :: w.drop (k+1)).take k:=by rw [← ja]
  have h5:=I8 (w.take k) (a:=UInt8.ofNat x.c.toNat) (b:=w[k]) (u:=u) (v:=w.drop (k+1)) (by
   have h6:Op.bytesLess (w.take k ++ ([UInt8.ofNat x.c.toNat] ++ u)) w=true:=by
    rw [ja];rw [← h4];rw [← h4] at h1;exact h1
   rw [← ja];exact h6)
  omega
 ·have:=hp.length_le;rw [AB,AC] at this;omega
theorem E5.add (h:E5 W i k w node T X) (hi:i<W.length) (hw:W[i]=w) (jb:W.Pairwise fun a b=>Op.bytesLess a b=true) (hk:k<w.length) (ja:∀ x,(T[node]'h.node_lt).arcs.getLast? = some x→x.c≠(w[k].toNat:Int)) :
  ∃ X',E5 W i (k+1) w T.length (E4 T node w[k]) X':=by
 have hn:=h.node_lt;have hl:=h.tr.len;have e3:X[node]'(by omega)=w.take k:=(List.getElem?_eq_some_iff.1 h.at_).2;have jc:∀ x∈T[node].arcs,x.c<(w[k].toNat:Int):=fun x hx=>by
  cases e:T[node].arcs.getLast? with
  | none=>rw [List.getLast?_eq_none_iff] at e;rw [e] at hx;cases hx
  | some y =>
   have hy:=List.mem_of_getLast? e;have h1:=h.arcs_lt hi hw jb hk hy;have h2:=ja y e;obtain ⟨l,jf⟩:=List.getLast?_eq_some_iff.1 e;have h3:=h.tr.sorted node hn;rw [jf] at h3 hx;rcases AT.1 hx with hx | hx
   ·have:=(List.pairwise_append.1 h3).2.2 x hx y (by simp);omega
   · rw [AD.1 hx];omega
 have hc:(X[node]'(by omega)) ++ [w[k]] ∉ X:=fun hm=>by
  obtain ⟨t,ht⟩:=List.getElem?_of_mem hm;have:=jc _ (h.tr.bwd node t hn w[k] ht);simp only at this;omega
 have ji:=h.tr.add hn hc jc;refine ⟨_,ji,?_,fun p hp=>?_,fun n jg=>?_,fun j hj je=>?_,?_⟩
 ·have h1:(X ++ [(X[node]'(by omega)) ++ [w[k]]])[X.length]? = some ((X[node]'(by omega)) ++ [w[k]]):=by simp
  rw [CF hk,← e3];exact (congrArg (fun j=>(X ++ [(X[node]'(by omega)) ++ [w[k]]])[j]?) hl.symm).trans h1
 ·rcases AT.1 hp with hp | hp
  ·refine (h.src p hp).imp id fun h1=>?_;rw [CF hk];exact h1.trans (List.prefix_append _ _)
  ·rw [AD.1 hp,e3,CF hk];exact .inr (List.prefix_refl _)
 ·rw [Bg] at jg;by_cases jd:n<T.length
  ·rw [Dc jd];have hx:(X ++ [(X[node]'(by omega)) ++ [w[k]]])[n]? = X[n]?:=AI (by omega);rw [hx];have:=h.word n jd;split <;> exact this
  ·obtain rfl:n=T.length:=by omega
   rw [Fo];exact .inl rfl
 ·obtain ⟨n,jh,h1,h2⟩:=h.all j hj je;refine ⟨n,by rw [Bg];omega,?_,?_⟩
  · rw [AI (by omega)];exact h1
  · rw [Dc jh];split <;> exact h2
 · rw [Bg];have:=h.size;omega
theorem E5.wordEnd (h:E5 W i k w node T X) (hi:i<W.length) (hw:W[i]=w) (jc:W.Pairwise fun a b=>Op.bytesLess a b=true) (hk:¬ k<w.length) (hk20:k≤20) (w':List UInt8):E5 W (i+1) 0 w' 0 (setWord T node (i:Int)) X:=by
 have hn:=h.node_lt;have hl:=h.tr.len;have jb:X[node]? = some w:=by rw [h.at_,AF (by omega)]
 refine ⟨h.tr.setWord node i,by rw [List.take_zero];exact h.tr.zero,fun p hp=>.inl ?_,fun n je=>?_,fun j hj jd=>?_,?_⟩
 ·rcases h.src p hp with ⟨j,hj,jd,h1⟩ | h1
  · exact ⟨j,hj,by omega,h1⟩
  · exact ⟨i,hi,Nat.lt_succ_self _,by rw [hw];exact h1.trans (List.take_prefix _ _)⟩
 ·have ja:n<T.length:=by rw [B9] at je;exact je
  rw [D7 ja];split
  ·rename_i e;subst e;exact .inr ⟨i,hi,Nat.lt_succ_self _,rfl,by rw [jb,hw]⟩
  ·rcases h.word n ja with h1 | ⟨j,hj,jd,h1⟩
   · exact .inl h1
   · exact .inr ⟨j,hj,by omega,h1⟩
 ·by_cases e:j=i
  ·subst e;exact ⟨node,by rw [B9];exact hn,by rw [jb,hw],by rw [D7 hn,if_pos rfl]⟩
  ·obtain ⟨n,ja,h1,h2⟩:=h.all j hj (by omega);refine ⟨n,by rw [B9];exact ja,h1,?_⟩;rw [D7 ja,if_neg ?_]
   · exact h2
   ·intro e2;subst e2;rw [jb] at h1;injection h1 with h1;have h3:=(List.pairwise_iff_getElem.1 jc) j i hj hi (by omega);rw [hw,← h1] at h3;have:Op.bytesLess w w=false:=PI w;rw [this] at h3;cases h3
 · rw [B9];have:=h.size;omega
end
structure TrW (T:List Bn) (W:List (List UInt8)):Prop where
 trIn:PD T
 wd:∀ b∈T,b.word<(W.length:Int)
 pos:0<T.length
 size:T.length≤1+20*W.length
 fol1:∀ o n (k:Nat),folT T 0 o=some n→(Bs T n=(k:Int)↔∃ h:k<W.length,W[k]=o)
 fol2:∀ w∈W,∃ n,folT T 0 w=some n
theorem E5.done {W:List (List UInt8)} {w:List UInt8} {T:List Bn} {X:List (List UInt8)} (h:E5 W W.length 0 w 0 T X) (hinc:W.Pairwise fun a b=>Op.bytesLess a b=true):TrW T W:=by
 have hn:=h.node_lt;have hl:=h.tr.len;have h0:X[0]'(by omega)=[]:=(List.getElem?_eq_some_iff.1 h.tr.zero).2;have hf:∀ o m,folT T 0 o=some m↔X[m]? = some o:=fun o m=>by rw [h.tr.fol o hn,h0];rfl
 refine ⟨h.tr.trIn,fun b hb=>?_,hn,h.size,fun o n k ho=>?_,fun w hw=>?_⟩
 ·obtain ⟨n,jb,rfl⟩:=List.mem_iff_getElem.1 hb;rcases h.word n jb with h1 | ⟨j,hj,_,h1,_⟩ <;> omega
 ·have hx:=(hf o n).1 ho;have ja:n<T.length:=by have:=(List.getElem?_eq_some_iff.1 hx).1;omega
  have jc:Bs T n=T[n].word:=by unfold Bs;rw [AA ja]
  rw [jc];constructor
  ·intro h1;rcases h.word n ja with h2 | ⟨j,hj,_,h2,h3⟩
   · omega
   ·have e:j=k:=by omega
    subst e;rw [hx] at h3;injection h3 with h3;exact ⟨hj,h3.symm⟩
  ·rintro ⟨hk,rfl⟩;obtain ⟨m,hm,h1,h2⟩:=h.all k hk hk;have:=I9 h.tr.nd h1 hx;subst this;exact h2
 ·obtain ⟨j,hj,rfl⟩:=List.mem_iff_getElem.1 hw;obtain ⟨m,hm,h1,h2⟩:=h.all j hj hj;exact ⟨m,(hf _ _).2 h1⟩
theorem LE {R:List Rl} {L:List Slt} {i m:Nat} {o:List UInt8} {c:Nat}:RtS (R.filter Bj) L i m o c↔RtS R L i m o c:=by
 constructor
 ·intro h
  induction h with
  | start=>exact .start
  | step _ hr hf hm hk ih=>exact .step ih (AU.1 hr).1 hf hm hk
 ·intro h
  induction h with
  | start=>exact .start
  | step _ hr hf hm hk ih=>exact .step ih (AU.2 ⟨hr,hf⟩) hf hm hk
theorem K7 (R:List Rl):JP (R.filter Bj):=fun r hr=>(AU.1 hr).2
theorem IA {R:List Rl} {acc:Int} {L:List Slt} {i:Nat} {w:List UInt8} {c:Nat}:Whole (R.filter Bj) acc L i w c↔Whole R acc L i w c:=by
 unfold Whole;constructor
 · rintro ⟨m,h1,h2⟩;exact ⟨m,h1,LE.1 h2⟩
 · rintro ⟨m,h1,h2⟩;exact ⟨m,h1,LE.2 h2⟩
theorem DY.fair {R:List Rl} {acc:Int} {L:List Slt} {W:List (List UInt8)} {i:Nat} {l:List (Nat × Nat)} (h:DY (R.filter Bj) acc L W i l):DY R acc L W i l :=
 ⟨h.sorted,fun k c=>by
  rw [h.mem];exact ⟨fun ⟨hk,hl⟩=>⟨hk,hl.congr fun d=>IA⟩,fun ⟨hk,hl⟩=>⟨hk,hl.congr fun d=>IA.symm⟩⟩⟩
structure PJ (R:List Rl) (acc:Int) (L:List Slt) (W:List (List UInt8)) (i:Nat) (l:List (Nat × Nat)):Prop extends DY R acc L W i l where
 low:∀ p∈l,p.2≤900000000000
theorem JS {p q:Nat→Prop} {c:Nat} (h1:∀ d,p d→q d) (h2:∀ d,q d→∃ d',d'≤d∧p d'):D3 p c↔D3 q c:=by
 constructor
 ·rintro ⟨h3,h4⟩;refine ⟨h1 c h3,fun d hd=>?_⟩;obtain ⟨d',h5,h6⟩:=h2 d hd;exact A8 (h4 d' h6) h5
 ·rintro ⟨h3,h4⟩;obtain ⟨d',h5,h6⟩:=h2 c h3;have:=h4 d' (h1 d' h6);have e:d'=c:=by omega
  subst e;exact ⟨h6,fun d hd=>h4 d (h1 d hd)⟩
theorem S0 {T:List Bn} {W:List (List UInt8)} {R:List Rl} {L:List Slt} {acc:Int} {i:Nat} {M:Nat→Ent} {l:List (Nat × Nat)} (hT:TrW T W) (jb:Inv R L (folT T) i M) (hs:∀ t,Shut R L (folT T) i M t) (hk:D4 (M i)) (hf:Rx T acc (M i) l):DY R acc L W i l where
 sorted:=hf.sorted
 mem
   k c:=by
  rw [hf.mem];have hA:∀ d,(∃ t,(t,d)∈M i∧Bs T t.2=(k:Int)∧DK acc t.1=true)→∃ h:k<W.length,Whole R acc L i W[k] d:=by
   rintro d ⟨t,h1,h2,h3⟩;obtain ⟨o,h4,h5⟩:=So (folw T) (jb.sound i t d (BM hk h1));obtain ⟨ja,e⟩:=(hT.fol1 o t.2 k h5).1 h2;exact ⟨ja,t.1,h3,by rw [e];exact h4⟩
  constructor
  ·intro hl;obtain ⟨ja,_⟩:=hA c hl.1;refine ⟨ja,(JS (fun d hd=>(hA d hd).2) fun d hd=>?_).1 hl⟩;obtain ⟨m,h3,h4⟩:=hd;obtain ⟨n,hn⟩:=hT.fol2 W[k] (AG ja);obtain ⟨c',h5,h6⟩:=jb.least hs (Ra (folw T) h4 hn);exact ⟨c',h6,(m,n),C1 h5,(hT.fol1 W[k] n k hn).2 ⟨ja,rfl⟩,h3⟩
  ·rintro ⟨ja,hl⟩;refine (JS (fun d hd=>(hA d hd).2) fun d hd=>?_).2 hl;obtain ⟨m,h3,h4⟩:=hd;obtain ⟨n,hn⟩:=hT.fol2 W[k] (AG ja);obtain ⟨c',h5,h6⟩:=jb.least hs (Ra (folw T) h4 hn);exact ⟨c',h6,(m,n),C1 h5,(hT.fol1 W[k] n k hn).2 ⟨ja,rfl⟩,h3⟩
def M0 (j:Nat):Ent:=if j=0 then [((0,0),0)] else []
theorem TC (R:List Rl) (L:List Slt) (fol:Nat→List UInt8→Option Nat):Inv R L fol 0 M0 where
 sound j t c h:=by
  unfold M0 at h;split at h
  ·rename_i e;subst e;rw [BO] at h;split at h
   · rename_i e2;injection h with h;subst h;rw [← e2];exact .start
   · cases h
  · cases h
 comp k t c r t' d hk:=absurd hk (Nat.not_lt_zero _)
 base _:=⟨0,by simp [M0,BO],A3 _⟩
theorem TD {N D:Nat} (hN:0<N):Bnd N 0 0 D M0 where
 keys j:=by unfold M0;split <;> simp [D4]
 rng j p hp:=by
  unfold M0 at hp;split at hp
  · rw [AD.1 hp];exact ⟨by decide,hN⟩
  · cases hp
 here p hp:=by
  simp only [M0,if_pos,AD] at hp;rw [hp];exact Nat.zero_le _
 next j hj p hp:=by
  unfold M0 at hp;rw [if_neg hj] at hp;cases hp
def nextM (i:Nat) (M:Nat→Ent) (j:Nat):Ent:=if i<j then M j else []
theorem Bnd.nextM {N i B D:Nat} {M:Nat→Ent} (h:Bnd N i B D M):Bnd N (i+1) (B+(8*N+1)*D) D (nextM i M) where
 keys j:=by
  unfold Go.Proofs.YtpljngaejaehcaaGreatDoor.nextM;split
  · exact h.keys j
  · exact List.Pairwise.nil
 rng j p hp:=by
  unfold Go.Proofs.YtpljngaejaehcaaGreatDoor.nextM at hp;split at hp
  · exact h.rng j p hp
  · cases hp
 here p hp:=by
  unfold Go.Proofs.YtpljngaejaehcaaGreatDoor.nextM at hp ⊢;rw [if_pos (Nat.lt_succ_self i)] at hp ⊢;have:=h.next (i+1) (by omega) p hp;omega
 next j hj p hp:=by
  unfold Go.Proofs.YtpljngaejaehcaaGreatDoor.nextM at hp;split at hp
  ·have:=h.next j (by omega) p hp;omega
  · cases hp
theorem Inv.nextM {R:List Rl} {L:List Slt} {fol:Nat→List UInt8→Option Nat} {i:Nat} {M:Nat→Ent} (h:Inv R L fol i M) (hs:∀ t,Shut R L fol i M t):Inv R L fol (i+1) (nextM i M) :=
 h.next hs (fun j hj=>if_pos hj) fun j hj=>if_neg hj
open Classical in
noncomputable def MC (p:Nat→Prop):Option Nat:=if h:∃ c,D3 p c then some h.choose else none
theorem O2 {p:Nat→Prop} {c d:Nat} (h:D3 p c) (h2:D3 p d):c=d:=Nat.le_antisymm (h.2 d h2.1) (h2.2 c h.1)
theorem IB {p:Nat→Prop} {c:Nat}:MC p=some c↔D3 p c:=by
 unfold MC;constructor
 ·intro h;split at h
  · rename_i h2;cases h;exact h2.choose_spec
  · cases h
 ·intro h;rw [dif_pos ⟨c,h⟩];exact congrArg some (O2 (Exists.choose_spec (⟨c,h⟩:∃ c,D3 p c)) h)
noncomputable def Gj (R:List Rl) (acc:Int) (L:List Slt) (W:List (List UInt8)) (i:Nat):List (Nat × Nat) :=
 (List.range W.length).filterMap fun k=>(MC (Whole R acc L i (W.getD k []))).map fun c=>(k,c)
theorem FF {R:List Rl} {acc:Int} {L:List Slt} {W:List (List UInt8)} {i:Nat}:DY R acc L W i (Gj R acc L W i) where
 sorted:=by
  unfold Gj;refine List.Pairwise.filterMap _ (R:=fun a b:Nat=>a<b) ?_ List.pairwise_lt_range;intro a a' jd b hb b' jb;obtain ⟨x,_,rfl⟩:=Option.map_eq_some_iff.1 hb;obtain ⟨y,_,rfl⟩:=Option.map_eq_some_iff.1 jb;exact jd
 mem
   k c:=by
  unfold Gj;rw [List.mem_filterMap];constructor
  ·rintro ⟨k',jc,h⟩;have ja:=AV.1 jc;obtain ⟨x,hx,e⟩:=Option.map_eq_some_iff.1 h;cases e;refine ⟨ja,?_⟩;have h3:=IB.1 hx;rw [AO,AA ja] at h3;exact h3
  ·rintro ⟨h,hl⟩;refine ⟨k,AV.2 h,Option.map_eq_some_iff.2 ⟨c,IB.2 ?_,rfl⟩⟩;rw [AO,AA h];exact hl
theorem DY.eqF {R:List Rl} {acc:Int} {L:List Slt} {W:List (List UInt8)} {i:Nat} {l:List (Nat × Nat)} (h:DY R acc L W i l):l=Gj R acc L W i:=h.uniq FF fun _ _ _=>Iff.rfl
def spn (n:Nat):List (Nat × Nat):=(List.range n).flatMap fun i=>(List.range (n - i)).map fun k=>(i,i+1+k)
abbrev Edg:=Int × Int × Int × Int
def E6 (i j:Nat) (l:List (Nat × Nat)):List Edg:=l.map fun p=>((i:Int),(j:Int),(p.1:Int),(p.2:Int))
noncomputable def Ct (R:List Rl) (acc:Int) (L:List Slt) (W:List (List UInt8)):List Edg:=(spn L.length).flatMap fun p=>E6 p.1 p.2 (Gj R acc (L.drop p.1) W (p.2 - p.1))
theorem GD {n i j:Nat}:(i,j)∈spn n↔i<j∧j≤n:=by
 unfold spn;rw [List.mem_flatMap];constructor
 ·rintro ⟨a,ha,h⟩;obtain ⟨k,hk,e⟩:=AH.1 h;rw [AV] at ha hk;cases e;omega
 ·rintro ⟨h1,h2⟩;exact ⟨i,AV.2 (by omega),AH.2 ⟨j - (i+1),AV.2 (by omega),by congr 1;omega⟩⟩
theorem GE {R:List Rl} {acc:Int} {L:List Slt} {W:List (List UInt8)} {e:Edg}:e∈Ct R acc L W↔∃ i j w c:Nat,e=((i:Int),(j:Int),(w:Int),(c:Int))∧i<j∧j≤L.length∧(w,c)∈Gj R acc (L.drop i) W (j - i):=by
 unfold Ct E6;rw [List.mem_flatMap];constructor
 ·rintro ⟨⟨i,j⟩,h1,h2⟩;obtain ⟨⟨w,c⟩,h3,rfl⟩:=AH.1 h2;obtain ⟨h4,h5⟩:=GD.1 h1;exact ⟨i,j,w,c,rfl,h4,h5,h3⟩
 ·rintro ⟨i,j,w,c,rfl,h4,h5,h3⟩;exact ⟨(i,j),GD.2 ⟨h4,h5⟩,AH.2 ⟨(w,c),h3,rfl⟩⟩
def Eh (a b:Edg):Prop:=a.1<b.1∨a.1=b.1∧(a.2.1<b.2.1∨a.2.1=b.2.1∧a.2.2.1<b.2.2.1)
theorem IC (n:Nat):(spn n).Pairwise fun a b=>a.1<b.1∨a.1=b.1∧a.2<b.2:=by
 unfold spn;rw [List.pairwise_flatMap];refine ⟨fun i _=>?_,?_⟩
 ·rw [AR];exact List.pairwise_lt_range.imp fun h=>.inr ⟨rfl,by omega⟩
 ·refine List.pairwise_lt_range.imp fun {a b} ja x hx y hy=>?_;obtain ⟨_,_,rfl⟩:=AH.1 hx;obtain ⟨_,_,rfl⟩:=AH.1 hy;exact .inl ja
theorem Ev {R:List Rl} {acc:Int} {L:List Slt} {W:List (List UInt8)}:(Ct R acc L W).Pairwise Eh:=by
 unfold Ct E6;rw [List.pairwise_flatMap];refine ⟨fun p _=>?_,?_⟩
 ·rw [AR];exact FF.sorted.imp fun h=>.inr ⟨rfl,.inr ⟨rfl,by simp only;omega⟩⟩
 ·refine (IC _).imp fun {a b} ja x hx y hy=>?_;obtain ⟨_,_,rfl⟩:=AH.1 hx;obtain ⟨_,_,rfl⟩:=AH.1 hy;rcases ja with h | ⟨h,h2⟩
  · exact .inl (by simp only;omega)
  · exact .inr ⟨by simp only;omega,.inl (by simp only;omega)⟩
theorem NA (n:Nat) (h:n≤6):(spn n).length≤21:=by
 rcases (show n=0∨n=1∨n=2∨n=3∨n=4∨n=5∨n=6 by omega) with rfl | rfl | rfl | rfl | rfl | rfl | rfl <;> decide
theorem ID {R:List Rl} {acc:Int} {L:List Slt} {W:List (List UInt8)} {i:Nat}:(Gj R acc L W i).length≤W.length:=by
 unfold Gj;exact A8 (List.length_filterMap_le _ _) (by rw [List.length_range];exact A3 _)
theorem Gk {α β:Type} {f:α→List β} {k:Nat}:∀ {l:List α},(∀ x∈l,(f x).length≤k)→(l.flatMap f).length≤l.length*k
 | [],_=>by simp
 | x :: l,h=>by
  rw [List.flatMap_cons,AB,List.length_cons,Nat.succ_mul];have h1:=h x A9;have h2:=Gk fun y hy=>h y (List.mem_cons_of_mem _ hy);omega
theorem PK {R:List Rl} {acc:Int} {L:List Slt} {W:List (List UInt8)}:(Ct R acc L W).length≤(spn L.length).length*W.length :=
 Gk fun p _=>by unfold E6;rw [AM];exact ID
abbrev Pnt:=Nat × Nat × List UInt8 × Nat
def Ss (R:List Rl) (L:List Slt) (p:Pnt):List Pnt :=
 R.filterMap fun r=>if Bj r && decide (r.frm=(p.2.1:Int)) then (letsC (L.drop p.1) (bts r.inp)).map fun k=>(p.1+r.inp.size,r.dst.toNat,p.2.2.1 ++ bts r.out,p.2.2.2+(r.cost.toNat+k)) else none
def Ql (R:List Rl) (L:List Slt):Nat→List Pnt
 | 0=>[(0,0,[],0)]
 | n+1=>(Ql R L n).flatMap (Ss R L)
theorem lev_rts {R:List Rl} {L:List Slt}:∀ {n i m:Nat} {o:List UInt8} {c:Nat},(i,m,o,c)∈Ql R L n→RtS R L i m o c
 | 0,i,m,o,c,h=>by
  have h2:=AD.1 h;simp only [Prod.mk.injEq] at h2;obtain ⟨rfl,rfl,rfl,rfl⟩:=h2;exact .start
 | n
   +
    1,i,m,o,c,h=>by
  obtain ⟨⟨i',m',o',c'⟩,h1,h2⟩:=List.mem_flatMap.1 h;have ih:=lev_rts h1;obtain ⟨r,hr,h3⟩:=List.mem_filterMap.1 h2;split at h3
  ·rename_i hf;simp only [Bool.and_eq_true,decide_eq_true_eq] at hf;cases hk:letsC (L.drop i') (bts r.inp) with
   | none=>simp only [hk] at h3;cases h3
   | some k =>
    simp only [hk,Option.map_some,Option.some.injEq,Prod.mk.injEq] at h3;obtain ⟨rfl,rfl,rfl,rfl⟩:=h3;exact .step ih hr hf.1 hf.2 hk
  · cases h3
theorem Qm {R:List Rl} {L:List Slt} (hR:∀ r∈R,1≤r.inp.size) {i m:Nat} {o:List UInt8} {c:Nat} (h:RtS R L i m o c):∃ n,n≤i∧(i,m,o,c)∈Ql R L n:=by
 induction h with
 | start=>exact ⟨0,A3 _,AD.2 rfl⟩
 | @step i m o c k r h1 hr hf hm hk ih =>
  obtain ⟨n,hn,ja⟩:=ih;refine ⟨n+1,by have:=hR _ hr;omega,List.mem_flatMap.2 ⟨_,ja,List.mem_filterMap.2 ⟨r,hr,?_⟩⟩⟩;simp only [hf,hm,decide_true,Bool.and_true,if_true,hk,Option.map_some]
def Fp (R:List Rl) (L:List Slt):List Pnt:=(List.range (L.length+1)).flatMap (Ql R L)
theorem NB {R:List Rl} {L:List Slt} (hR:∀ r∈R,1≤r.inp.size) {i m:Nat} {o:List UInt8} {c:Nat}:RtS R L i m o c↔(i,m,o,c)∈Fp R L:=by
 constructor
 ·intro h;obtain ⟨n,hn,hm⟩:=Qm hR h;have:=h.place;exact List.mem_flatMap.2 ⟨n,AV.2 (by omega),hm⟩
 ·intro h;obtain ⟨n,_,hm⟩:=List.mem_flatMap.1 h;exact lev_rts hm
def Gl (P:List Pnt) (acc:Int) (i:Nat) (w:List UInt8):List Nat:=P.filterMap fun p=>if decide (p.1=i) && (decide (p.2.2.1=w) && DK acc p.2.1) then some p.2.2.2 else none
theorem IE {R:List Rl} {L:List Slt} (hR:∀ r∈R,1≤r.inp.size) {acc:Int} {i:Nat} {w:List UInt8} {c:Nat}:Whole R acc L i w c↔c∈Gl (Fp R L) acc i w:=by
 constructor
 ·rintro ⟨m,ha,h⟩;refine List.mem_filterMap.2 ⟨_,(NB hR).1 h,?_⟩;simp [ha]
 ·intro h;obtain ⟨⟨j,m,o,c'⟩,h1,h2⟩:=List.mem_filterMap.1 h;split at h2
  ·rename_i hf;simp only [Bool.and_eq_true,decide_eq_true_eq] at hf;obtain ⟨rfl,rfl,ha⟩:=hf;injection h2 with h2;subst h2;exact ⟨m,ha,(NB hR).2 h1⟩
  · cases h2
def GF:List Nat→Option Nat
 | []=>none
 | x :: r=>some (match GF r with | none=>x | some y=>min x y)
theorem JT:∀ {l:List Nat},GF l=none↔l=[]
 | []=>by simp [GF]
 | x :: r=>by simp [GF]
theorem minL_some:∀ {l:List Nat} {c:Nat},GF l=some c→c∈l∧∀ d∈l,c≤d
 | [],c,h=>by cases h
 | x
   :: r,c,h=>by
  simp only [GF,Option.some.injEq] at h;cases e:GF r with
  | none =>
   rw [e] at h;simp only at h;subst h;have:=JT.1 e;subst this;exact ⟨A9,fun d hd=>by rw [AD.1 hd];exact A3 _⟩
  | some y =>
   rw [e] at h;simp only at h;obtain ⟨h1,h2⟩:=minL_some e;subst h;refine ⟨?_,fun d hd=>?_⟩
   ·rcases Nat.le_total x y with h | h
    · rw [Nat.min_eq_left h];exact A9
    · rw [Nat.min_eq_right h];exact List.mem_cons_of_mem _ h1
   ·rcases AS.1 hd with rfl | hd
    · exact Nat.min_le_left _ _
    · exact A8 (Nat.min_le_right _ _) (h2 d hd)
def Qn (R:List Rl) (acc:Int) (L:List Slt) (W:List (List UInt8)) (i:Nat):List (Nat × Nat) :=
 (List.range W.length).filterMap fun k=>(GF (Gl (Fp R L) acc i (W.getD k []))).map fun c=>(k,c)
theorem IF {p:Nat→Prop} {l:List Nat} (h:∀ c,p c↔c∈l) {c:Nat}:D3 p c↔GF l=some c:=by
 constructor
 ·intro hc;cases e:GF l with
  | none =>
   have:=JT.1 e;have h2:=(h c).1 hc.1;rw [this] at h2;cases h2
  | some y =>
   obtain ⟨h1,h2⟩:=minL_some e;have:=hc.2 y ((h y).2 h1);have:=h2 c ((h c).1 hc.1);congr 1;omega
 ·intro e;obtain ⟨h1,h2⟩:=minL_some e;exact ⟨(h c).2 h1,fun d hd=>h2 d ((h d).1 hd)⟩
theorem fndC_ok {R:List Rl} {acc:Int} {L:List Slt} {W:List (List UInt8)} {i:Nat} (hR:∀ r∈R,1≤r.inp.size):DY R acc L W i (Qn R acc L W i) where
 sorted:=by
  unfold Qn;refine List.Pairwise.filterMap _ (R:=fun a b:Nat=>a<b) ?_ List.pairwise_lt_range;intro a a' jd b hb b' ja;cases e:GF (Gl (Fp R L) acc i (W.getD a [])) with
  | none=>rw [e] at hb;cases hb
  | some x =>
   cases e2:GF (Gl (Fp R L) acc i (W.getD a' [])) with
   | none=>rw [e2] at ja;cases ja
   | some y =>
    rw [e] at hb;rw [e2] at ja;cases hb;cases ja;exact jd
 mem
   k
    c:=by
  unfold Qn;rw [List.mem_filterMap];constructor
  ·rintro ⟨k',jc,h⟩;have jb:=AV.1 jc;cases e:GF (Gl (Fp R L) acc i (W.getD k' [])) with
   | none=>rw [e] at h;cases h
   | some x =>
    rw [e] at h;simp only [Option.map_some,Option.some.injEq,Prod.mk.injEq] at h;obtain ⟨rfl,rfl⟩:=h;refine ⟨jb,(IF fun d=>?_).2 e⟩;rw [IE hR,AO,AA jb];rfl
  ·rintro ⟨h,hl⟩;refine ⟨k,AV.2 h,?_⟩;have e:GF (Gl (Fp R L) acc i (W.getD k []))=some c:=(IF fun d=>by
    rw [AO,AA h];exact IE hR).1 hl
   rw [e];rfl
def St (R:List Rl) (acc:Int) (L:List Slt) (W:List (List UInt8)):List Edg:=(spn L.length).flatMap fun p=>E6 p.1 p.2 (Qn R acc (L.drop p.1) W (p.2 - p.1))
theorem MD {R:List Rl} {acc:Int} {L:List Slt} {W:List (List UInt8)} (hR:∀ r∈R,1≤r.inp.size):Ct R acc L W=St R acc L W:=by
 unfold Ct St;congr 1;funext p;rw [(fndC_ok (acc:=acc) (L:=L.drop p.1) (W:=W) (i:=p.2 - p.1) hR).eqF]
def exR:List Rl:=[⟨0,0,⟨#[97]⟩,⟨#[97]⟩,0⟩,⟨0,0,⟨#[98]⟩,⟨#[98]⟩,1⟩,⟨0,0,⟨#[97,98]⟩,⟨#[67]⟩,2⟩]
theorem ME:∀ r∈exR,1≤r.inp.size:=by decide
def exW:List (List UInt8):=[[67],[97],[98]]
theorem Su:Ct exR 1 [[⟨97,0⟩],[⟨98,0⟩]] exW=[(0,1,1,0),(0,2,0,2),(1,2,2,1)]:=by
 rw [MD ME];decide +kernel
theorem Sv:Ct exR 1 [[⟨97,3⟩,⟨98,0⟩]] exW=[(0,1,1,3),(0,1,2,1)]:=by
 rw [MD ME];decide +kernel
theorem S1:Ct exR 1 [] exW=[]:=by rw [MD ME];decide +kernel
open Go.RowKit
def
  SeqAt {α:Type} (F:Fence) (n:Nat) (P:Program) (g:Nat) (lb:Array Value) (encs:α→Array Value) (Kp:World→World→Prop) (xs:List α) (w:World):Prop :=
 ∀
  (l:Nat) (J Jx:List α→World→Prop) (W:World),Below w.heap.size w W→AbidesFrom W.heap.size J→AbidesFrom W.heap.size Jx →
  (∀ pre x rest W1,xs=pre ++ x :: rest→J pre W1→YieldAt F (n - 1) P l (encs x) W1 fun e W' =>
   (e=.returned (.bool true)∧J (pre ++ [x]) W'∧Kp W1 W')∨(e=.returned (.bool false)∧Jx (pre ++ [x]) W')) →
  J [] W →
  CallsIn F n P g (#[.func (.yield l) #[] #[]] ++ lb) W fun e W'=>(∃ v,e=.returned v)∧(J xs W'∨∃ pre,pre <+: xs∧Jx pre W')
variable {F:Fence} {n:Nat} {P:Program}
theorem Iz {α:Type} {g:Operand} {ps:Array Tmp} {assign body:Code} {Q:Exit→Act→World→Prop} {a:Act} {w:World}
  (jH:F.round=none) (h1:1≤n) {gf:Nat} {lb:Array Value} (hg:a.eval g=.func (.func gf) #[] lb) (jw:F.fn gf) (eg:∀ args w,(callFunc gf args).run P w=.ok (.enter gf args) w)
  {encs:α→Array Value} {Kp:World→World→Prop} {xs:List α} {w0:World} (jo:SeqAt F (n - 1) P gf lb encs Kp xs w0)
  (jr:∀ {A B C:World},Kp A B→Kp B C→Kp A C) (jq:∀ (W:World) (l:Nat) (o o':Obj),w.heap.size≤l→W.heap[l]? = some o→o.isCells=false→o.isWalk=false→Kp W (W.putObj l o')) (js:Below w0.heap.size w0 w) (jG:∀ x,(encs x).size=ps.size)
  (I:List α→World→Prop) (Ix:Code→List α→World→Prop) (hI:OwnFrom w.heap.size I) (jk:∀ c,OwnFrom w.heap.size (Ix c)) (h0:I [] w) (a₁:α→Act)
  (jb:∀ (l:Nat) (x:α) (W:World) (K:Act→World→Prop),K (a₁ x) W →
   assign.wpIn (F.inRound l) (n - 1 - 1) P (Exit.then K (fun _ _ _=>False)) { tmps:=(ps.zip (encs x)).foldl (fun t (p,v)=>t.setIfInBounds p v) a.tmps,defers:=[] } W)
  (je:∀ (l:Nat) (pre:List α) (x:α) (rest:List α) (W:World),xs=pre ++ x :: rest→I pre W→body.wpIn (F.inRound l) (n - 1 - 1) P (ownPostG w.heap.size Kp I Ix (pre ++ [x]) W) (a₁ x) W)
  (jf:∀ (D:Nat) (W:World),w.heap.size≤D→I xs W→W.heap[D]? = some (.deferred (some []))→Q .normal { a with defers:={ target:=.collected D,args:=#[] } :: a.defers } W)
  (ji:∀ (D:Nat) (c:Code) (pre:List α) (W:World),w.heap.size≤D→pre <+: xs→Ix c pre W→W.heap[D]? = some (.deferred (some []))→c.wpIn F n P Q { a with defers:={ target:=.collected D,args:=#[] } :: a.defers } W) :
  (Code.rangeFunc g ps assign body).wpIn F n P Q a w:=by
 refine wpIn_rangeFunc ?_;intro fn jz;rw [jH];obtain ⟨K,hK⟩:∃ K,K=w.heap.size+1:=⟨_,rfl⟩
 obtain ⟨rec,ja⟩:∃ rec:LoopState→Option Code→Loop,rec=fun st pe=>{ state:=st,pending:=pe,fn,tmps:=a.tmps,params:=ps,assign,body,defers:=w.heap.size }:=⟨_,rfl⟩
 obtain ⟨W1,jd⟩:∃ W1,(w.alloc (.deferred (some []))).alloc (.loop (rec .ready none))=W1:=⟨_,rfl⟩
 have hz1:W1.heap.size=w.heap.size+2:=by rw [← jd];simp
 have jh:W1.heap[K]? = some (.loop (rec .ready none)):=by
  have h:=World.alloc_heap_new (w.alloc (.deferred (some []))) (.loop (rec .ready none));rw [A6] at h;rw [← jd,hK];exact h
 have jm:W1.heap[w.heap.size]? = some (.deferred (some [])):=by
  rw [← jd];exact (Below.heap_alloc _ _ _ (by simp)).trans (World.alloc_heap_new w _)
 have jl:Below w0.heap.size w0 W1:=by
  rw [← jd];exact js.trans ((((Below.refl _ w).alloc (A3 _) _).alloc (by simp) _).mono js.size)
 have jx:I [] W1:=by rw [← jd];exact hI.alloc _ (hI.alloc _ h0)
 have jp:∀ {A B:World} {row:Option Nat},(∀ r,row=some r→W1.heap.size≤r∧∃ o:Obj,A.heap[r]? = some o∧o.isWalk=true)→∀ r,row=some r→w.heap.size≤r∧∃ o:Obj,A.heap[r]? = some o∧o.isCells=false:=fun hr r e=>by
  obtain ⟨hB,o,ho,hw⟩:=hr r e;exact ⟨by omega,o,ho,Obj.not_cells_of_walk hw⟩
 refine ⟨K,[{ target:=.collected w.heap.size,args:=#[] }],W1,{ target:=.fn (.func gf) lb,args:=#[.func (.yield K) #[] #[]] },W1,gf,#[.func (.yield K) #[] #[]] ++ lb,W1,?_,?_,?_,?_,fun _=>h1,?_⟩
 · rw [← jd,ja,hK];exact run_enterLoop_outer _ _ _ _ _
 ·simp only [resolve,hg];simp [go_sem]
 ·intro f' ju;simp [Target.leads] at ju;subst ju;exact jw
 · simp [invoke,go_sem,eg]
 have jg:∀ (jump:Option Code) (V W3:World),V.heap[K]? = some (.loop { rec .ready none with state:=.busy })→V.heap[w.heap.size]? = some (.deferred (some []))→KeepsFrom w.heap.size V W3 →
   ∃ W4,(Instr.endRound K jump).run P W3=.ok (.bool jump.isNone) W4∧W4=W3.putObj K (.loop (rec (if jump.isNone then .ready else .done) jump))∧W3.heap[K]? = some (.loop { rec .ready none with state:=.busy })∧W4.heap[K]? = some (.loop (rec (if jump.isNone then .ready else .done) jump))∧W4.heap[w.heap.size]? = some (.deferred (some [])):=fun jump V W3 hl hd hk=>by
  have jj:=hk.same _ _ (by omega) hl rfl;have jy:=hk.same _ _ (A3 _) hd rfl;have he:=run_endRound (P:=P) jump jj;rw [ja] at he ⊢;rw [ja] at jj;exact ⟨_,he,rfl,jj,World.putObj_heap_same (A5.1 jj).1,(World.putObj_heap_other (by omega)).trans jy⟩
 refine (jo K (fun pre W=>I pre W∧W.heap[K]? = some (.loop (rec .ready none))∧W.heap[w.heap.size]? = some (.deferred (some [])))
  (fun pre W=>∃ c,Ix c pre W∧W.heap[K]? = some (.loop (rec .done (some c)))∧W.heap[w.heap.size]? = some (.deferred (some []))) W1 jl ?_ ?_ ?_ ⟨jx,jh,jm⟩).mono ?_
 · exact fun s A B row hs jc hr=>⟨hI s A B row hs.1 jc (jp (B:=B) hr),(grownBy_keeps jc (fun r e=>(hr r e).2) hs.2.1 rfl).trans hs.2.1,(grownBy_keeps jc (fun r e=>(hr r e).2) hs.2.2 rfl).trans hs.2.2⟩
 ·rintro s A B row ⟨c,hc,hl,hd⟩ jc hr;exact ⟨c,jk c s A B row hc jc (jp (B:=B) hr),(grownBy_keeps jc (fun r e=>(hr r e).2) hl rfl).trans hl,(grownBy_keeps jc (fun r e=>(hr r e).2) hd rfl).trans hd⟩
 ·rintro pre x rest W jI ⟨hi,hl,hd⟩;have jF:K<W.heap.size:=(A5.1 hl).1;have hy:=run_yield (P:=P) (args:=encs x) hl (by rw [ja];exact jG x);rw [ja] at hy;refine ⟨fn,_,assign,body,hy,roundIn_of_wpIn jz (jb _ x W _ ⟨_,run_beginRound hl (by rw [ja]),?_⟩)⟩;obtain ⟨V,hV⟩:∃ V,W.putObj K (.loop { rec .ready none with state:=.busy })=V:=⟨_,rfl⟩
  have jv:V.heap[K]? = some (.loop { rec .ready none with state:=.busy }):=by rw [← hV];exact World.putObj_heap_same jF
  have jt:V.heap[w.heap.size]? = some (.deferred (some [])):=by rw [← hV];exact (World.putObj_heap_other (by omega)).trans hd
  have jE:Kp W V:=by rw [← hV];exact jq _ _ _ _ (by omega) hl rfl rfl
  have jB:I pre V:=by rw [← hV];exact hI.putObj _ hi (by omega) hl rfl
  rw [hV];refine wpIn_mono (je _ pre x rest V jI jB) ?_;have leave:∀ (c:Code) (W3:World),KeepsFrom w.heap.size V W3→Ix c (pre ++ [x]) W3→∃ (b:Bool) (W4:World),(Instr.endRound K (some c)).run P W3=.ok (.bool b) W4∧b=false∧∃ c',Ix c' (pre ++ [x]) W4∧W4.heap[K]? = some (.loop (rec .done (some c')))∧W4.heap[w.heap.size]? = some (.deferred (some [])):=fun c W3 hk jC=>by
   obtain ⟨W4,h3,h4,h5,h6,h7⟩:=jg (some c) V W3 jv jt hk;exact ⟨_,W4,h3,rfl,c,by rw [h4];exact (jk _).putObj _ jC (by omega) h5 rfl,h6,h7⟩
  rintro e a3 W3 hp;cases e with
  | normal =>
   obtain ⟨jD,jn,jA⟩:=hp;obtain ⟨W4,h3,h4,h5,h6,h7⟩:=jg none V W3 jv jt jD;exact ⟨_,W4,h3,.inl ⟨rfl,⟨by rw [h4];exact hI.putObj _ jA (by omega) h5 rfl,h6,h7⟩,by rw [h4];exact jr (jr jE jn) (jq _ _ _ _ (by omega) h5 rfl rfl)⟩⟩
  | ret=>obtain ⟨b,W4,h3,rfl,h5⟩:=leave .ret W3 hp.1 hp.2;exact ⟨_,W4,h3,.inr ⟨rfl,h5⟩⟩
  | exit id=>obtain ⟨b,W4,h3,rfl,h5⟩:=leave (.exit id) W3 hp.1 hp.2;exact ⟨_,W4,h3,.inr ⟨rfl,h5⟩⟩
  | goto t=>obtain ⟨b,W4,h3,rfl,h5⟩:=leave (.goto t) W3 hp.1 hp.2;exact ⟨_,W4,h3,.inr ⟨rfl,h5⟩⟩
  | panic ch=>exact hp.elim
  | outgrown=>exact hp.elim
 ·rintro e W2 ⟨⟨v,rfl⟩,hj⟩;have hfin:∀ (st:LoopState) (pe:Option Code),st≠.busy→W2.heap[K]? = some (.loop (rec st pe))→W2.heap[w.heap.size]? = some (.deferred (some []))→∀ D:Prop,D→D:=fun _ _ _ _ _ _ h=>h;rcases hj with ⟨hi,hl,hd⟩ | ⟨pre,hp,c,hi,hl,hd⟩
  · exact ⟨none,_,by have h:=run_endLoop (P:=P) hl (by rw [ja];simp);rw [ja] at h;exact h,jf _ _ (A3 _) (hI.putObj _ hi (by omega) hl rfl) ((World.putObj_heap_other (by omega)).trans hd)⟩
  · exact ⟨some c,_,by have h:=run_endLoop (P:=P) hl (by rw [ja];simp);rw [ja] at h;exact h,ji _ c pre _ (A3 _) hp ((jk c).putObj _ hi (by omega) hl rfl) ((World.putObj_heap_other (by omega)).trans hd)⟩
open Go.RowKit Go.Shelf
attribute [local go_sem] Oper.semAt_some
theorem JU {n k:Nat} (h:k<n):∃ r,List.range n=List.range k ++ k :: r:=by
 obtain ⟨m,rfl⟩:∃ m,n=k+(m+1):=⟨n - k - 1,by omega⟩
 exact ⟨_,by rw [List.range_add,List.range_succ_eq_map,List.map_cons,Nat.add_zero]⟩
def FO (i k:Nat):List (Nat × Nat):=(List.range k).map fun k=>(i,i+1+k)
def K8 (N i:Nat):List (Nat × Nat):=(List.range i).flatMap fun a=>FO a (N - a)
theorem PL (N:Nat):K8 N N=spn N:=rfl
theorem O3 (N i:Nat):K8 N (i+1)=K8 N i ++ FO i (N - i):=by unfold K8;rw [List.range_succ,List.flatMap_append];simp
theorem O4 (i k:Nat):FO i (k+1)=FO i k ++ [(i,i+1+k)]:=by unfold FO;rw [List.range_succ,List.map_append];rfl
theorem JV {N i k:Nat} (hi:i<N) (hk:k<N - i):∃ rest,spn N=(K8 N i ++ FO i k) ++ (i,i+1+k) :: rest:=by
 obtain ⟨r,hr⟩:=JU hi;obtain ⟨r2,ja⟩:=JU hk;refine ⟨r2.map (fun k=>(i,i+1+k)) ++ r.flatMap fun a=>FO a (N - a),?_⟩;have h1:spn N=K8 N i ++ (FO i (N - i) ++ r.flatMap fun a=>FO a (N - a)):=by
  show (List.range N).flatMap (fun a=>FO a (N - a))=_;rw [hr,List.flatMap_append,List.flatMap_cons];rfl
 have h2:FO i (N - i)=FO i k ++ (i,i+1+k) :: r2.map (fun k=>(i,i+1+k)):=by
  unfold FO;rw [ja,List.map_append,List.map_cons]
 rw [h1,h2];simp
theorem Qo {N i k:Nat} (hi:i<N) (hk:k<N - i):K8 N i ++ FO i k ++ [(i,i+1+k)] <+: spn N:=by
 obtain ⟨rest,h⟩:=JV hi hk;exact ⟨rest,by rw [h];simp⟩
def KpB (Bn:Nat) (W W':World):Prop:=W'.cell? ⟨Bn,0,none⟩=W.cell? ⟨Bn,0,none⟩
theorem KpB.trans {Bn:Nat} {A B C:World} (h:KpB Bn A B) (h2:KpB Bn B C):KpB Bn A C:=Eq.trans h2 h
theorem KpB.obj {Bn l:Nat} {W:World} {o':Obj} (h:Bn<l):KpB Bn W (W.putObj l o'):=by
 unfold KpB World.cell?;rw [World.putObj_heap_other (by show Bn≠l;omega)]
theorem O5 (n:Int) (w:World):Calls Tryz.prog 43 #[.int .i64 n] w fun e w'=>e=.returned (.func (.func 77) #[] #[.pointer (some ⟨w.heap.size,0,none⟩)])∧w'=w.alloc (.cells #[.int .i64 n] 3):=by
 go_enter Tryz.func43,Tryz.ntmps43
 go_wp2_with fail
 go_ret;exact ⟨rfl,rfl⟩
theorem spans_at (N Bn:Nat) (w:World) (jj:Bn<w.heap.size) (hc:w.cell? ⟨Bn,0,none⟩=some (.int .i64 (N:Int))) (hN:N≤1000) :
  SeqAt Fence.wide 8 Tryz.prog 77 #[.pointer (some ⟨Bn,0,none⟩)] (fun p:Nat × Nat=>#[.int .i64 (p.1:Int),.int .i64 (p.2:Int)]) (KpB Bn) (spn N) w:=by
 intro l J Jx W hW hJ hJx hY h0;refine callsIn_of_wp Tryz.func77 rfl trivial ?_ rfl;simp only [Tryz.ntmps77,List.size_toArray,List.length_cons,List.length_nil,Nat.reduceAdd,Nat.reduceSub,Array.replicate_succ,Array.replicate_zero,List.push_toArray,List.append_toArray,List.nil_append,List.cons_append];have jl:W.cell? ⟨Bn,0,none⟩=some (.int .i64 (N:Int)):=(hW.cell (p:=⟨Bn,0,none⟩) jj).trans hc
 gi_wp2
 gi_loopw [6] (fun v wr=>∃ i:Nat,v=.int .i64 (i:Int)∧i≤N∧J (K8 N i) wr∧wr.cell? ⟨Bn,0,none⟩=some (.int .i64 (N:Int))) (fun v _=>N - (intOf v).toNat)
 case atStart=>exact ⟨0,rfl,Nat.zero_le _,h0,jl⟩
 case round =>
  obtain ⟨i,rfl,hi,hj,jm⟩:=hrel;have jd:=A0 hj;clear hj;by_cases jg:i<N
  ·have jc:(i:Int)<(N:Int):=by omega
   gi_wp2
   gi_loopw [4] (fun v wr=>∃ k:Nat,v=.int .i64 ((i:Int)+1+(k:Int))∧k≤N - i∧J (K8 N i ++ FO i k) wr∧wr.cell? ⟨Bn,0,none⟩=some (.int .i64 (N:Int))) (fun v _=>N+1 - (intOf v).toNat)
   case atStart=>exact ⟨0,by simp,Nat.zero_le _,by simpa [FO] using jd.out,jm⟩
   case round =>
    obtain ⟨k,rfl,hk,hj,ja⟩:=hrel;by_cases jf:k<N - i
    ·have jn:(i:Int)+1+(k:Int)≤(N:Int):=by omega
     obtain ⟨rest,jh⟩:=JV jg jf;obtain ⟨fn,tmps,assign,body,hy,hR⟩:=hY _ (i,i+1+k) rest _ jh hj;have HR:=A0 hR;rw [show (((i+1+k:Nat):Nat):Int)=(i:Int)+1+(k:Int) by omega] at hy;clear hR jh
     gi_wp2
     refine HR.out.mono ?_;rintro e W2 (⟨rfl,jb,je⟩ | ⟨rfl,jb⟩)
     ·have jk:W2.cell? ⟨Bn,0,none⟩=some (.int .i64 (N:Int)):=Eq.trans je ja;have ji:=A0 jb;clear jb je
      gi_wp2
      go_roundw
      case rel=>exact ⟨k+1,by go_num,by omega,by rw [O4,← List.append_assoc];exact ji.out,jk⟩
      case measure=>simp [intOf];omega
     ·gi_wp2
      refine bodyPost_ret (results_none rfl _ _ _) rfl ?_;exact ⟨⟨_,rfl⟩,.inr ⟨_,Qo jg jf,jb⟩⟩
    ·have jn:¬ (i:Int)+1+(k:Int)≤(N:Int):=by omega
     obtain rfl:k=N - i:=by omega
     gi_wp2
     go_roundw
     case rel=>exact ⟨i+1,by go_num,by omega,by rw [O3];exact hj,ja⟩
     case measure=>simp [intOf];omega
  ·have jc:¬ (i:Int)<(N:Int):=by omega
   obtain rfl:i=N:=by omega
   gi_wp2
   go_end0
   exact ⟨⟨_,rfl⟩,.inl (by rw [← PL];exact jd.out)⟩
section
variable {lR nR:Nat} {P:Program} {ops:Array Oper} {V:Nat→Value→World→Prop} {X:Nat→World→World→Prop} {S:(Nat→Bool)→World→Prop} {ms:List Nat} {a0:Act} {Q:Exit→Act→World→Prop} {L:Nat} {bn:Bool}
theorem K9 {listed:Array Bool} (h:Region.ready .any ops listed=[]) {a:Act} {w:World} (hq:Q .normal a w):∀ fuel,wpAnyIn (Fence.wide.inRound lR) nR P .any ops Q fuel listed a w
 | 0=>⟨h,hq⟩
 | fuel+1=>⟨fun _=>hq,fun i hi=>by rw [h] at hi;cases hi⟩
theorem rvS_anyI (jt:(ops.all fun o=>match o.op with | .defer _=>false | _=>true)=true) (jw:bn=true→∀ i o v w,ops[i]? = some o→o.dst=none→V i v w→V i undef w) (hV:∀ i j v w w',i<L→j<L→i≠j→(ms.getD j 0).testBit i=false→V j v w→X i w w'→V j v w') {n:Nat} (jb:rvOkS ops ms bn n L=true) (hn:a0.tmps.size=n)
  (jD:Fc P ops V X S ms a0 L 0 ops.toList)
  (jn:ops.size=L→∀ a w,a.tmps.size=a0.tmps.size→a.defers=a0.defers→(∀ f:Nat→Bool,(∀ i,i<L→f i=true)→S f w→(∀ i,i<L→V i (AY ops a i) w)→(∀ t,(ops.all fun o'=>o'.dst != some t)=true→a.tmps.getD t undef=a0.tmps.getD t undef)→Q .normal a w))
  (jk:ops.size≠L→∀ a w,a.tmps.size=a0.tmps.size→a.defers=a0.defers→(∀ f:Nat→Bool,(∀ i,i<L→f i=true)→S f w→(∀ i,i<L→V i (AY ops a i) w)→(∀ t,(ops.all fun o'=>o'.dst != some t)=true→a.tmps.getD t undef=a0.tmps.getD t undef)→wpOpIn (Fence.wide.inRound lR) nR P ops Q L (fun a' w'=>Q .normal a' w') a w)) :
  ∀ (fuel:Nat) (listed:Array Bool) (a:Act) (w:World),Fy ops V S a0 L listed a w→Dv ops.size (fun i=>listed.getD i true)≤fuel→wpAnyIn (Fence.wide.inRound lR) nR P .any ops Q fuel listed a w:=by
 have hs:=rvOkS_size jb;have jj:∀ (listed:Array Bool) (a:Act) (w:World),Fy ops V S a0 L listed a w→Region.ready .any ops listed=[]→Q .normal a w:=by
  intro listed a w h hr;have ja:=allS (Bz jb) h.ls hr;rcases hs with hs | ⟨hs,o,ho,hd,jy⟩
  · exact jn hs a w h.size h.df _ ja h.s (fun i hi=>h.done i hi (ja i hi)) h.base
  ·exfalso;have hL:=h.last (by omega);have:L∈Region.ready .any ops listed:=B4.2 ⟨by omega,hL,o,ho,fun e he hb=>by
    have h1:=jy e he hb;exact Bv h.ls (by omega) (ja e.on h1)⟩
   rw [hr] at this;cases this
 intro fuel
 induction fuel with
 | zero =>
  intro listed a w h hc;have ja:=E8 (f:=fun i=>listed.getD i true) (Nat.le_zero.1 hc);have hr:Region.ready .any ops listed=[]:=by
   rw [List.eq_nil_iff_forall_not_mem];intro j hj;obtain ⟨g1,g2,_⟩:=B4.1 hj;rw [ja j g1] at g2;cases g2
  exact ⟨hr,jj listed a w h hr⟩
 | succ fuel ih =>
  intro listed a w h hc;refine ⟨fun hr=>jj listed a w h hr,fun i hi=>?_⟩;obtain ⟨h1,h2,o,ho,h3⟩:=B4.1 hi;by_cases jd:i<L
  ·have jl:Dv ops.size (fun j=>(listed.setIfInBounds i true).getD j true)≤fuel:=by
    have:=Dl (f:=fun j=>listed.getD j true) (g:=fun j=>(listed.setIfInBounds i true).getD j true) (fun j hj=>by
     by_cases e:i=j
     · subst e;exact Ak (by rw [h.ls];exact h1)
     ·show (listed.setIfInBounds i true).getD j true=true;rw [getD_set_ne e];exact hj) (j:=i) (Ak (by rw [h.ls];exact h1)) h2 ops.size h1
    omega
   obtain ⟨o2,ju,jx,_,jm,_⟩:=E9 (Bz jb) jd;rw [ho] at ju;cases ju;have jp:∀ v w',V i v w'→o.dst=none→V i undef w':=fun v w' hv hd=>jw (jx hd) i o v w' ho hd hv;have ji:∀ e∈o.after,Region.binds .any e=true→listed.getD e.on true=true:=fun e he hb=>by
    have hlt2:=jm e he hb;exact Bc h.ls (by omega) (h3 e he hb)
   have js:=C5 (Bz jb) h i jd (fun o' je e he hb=>by rw [ho] at je;cases je;exact ji e he hb);have hO:=GX _ _ jD i o (by rw [Array.getElem?_toList];exact ho) (by omega);rw [Nat.zero_add] at hO;have jz:∀ j,j<ms.length→(ms.getD j 0).testBit i=true→listed.getD j true=false:=fun j hj hb=>by
    rw [F4 (Bz jb)] at hj;cases hl:listed.getD j true with
    | false=>rfl
    | true =>
     have:=C5 (Bz jb) h j hj (fun o' je e he jg=>h.closed j o' hj hl je e he jg) i hb;rw [h2] at this;cases this
   have hO:=hO a w _ h.size h2 js jz h.s (fun j hj=>h.done j (by have:=EA (Bz jb) jd hj;omega) (js j hj)) h.base (fun j d hj hf=>h.und j d (by rw [F4 (Bz jb)] at hj;exact hj) hf);have jc:∀ w',X i w w'→∀ j,j<L→j≠i→listed.getD j true=true→∀ v,V j v w→V j v w':=fun w' hx j hj jB hl v hv=>by
    refine hV i j v w w' jd hj (Ne.symm jB) ?_ hv hx;cases hb:(ms.getD j 0).testBit i with
    | false=>rfl
    | true =>
     have:=C5 (Bz jb) h j hj (fun o' je e he jg=>h.closed j o' hj hl je e he jg) i hb;rw [h2] at this;cases this
   have jC:∀ c,o.op≠.defer c:=fun c e=>by
    rw [Array.all_eq_true'] at jt;have:=jt o (Array.mem_of_getElem? ho);rw [e] at this;cases this
   unfold wpOpIn;rw [ho];simp only;cases hw:Region.wanted o (yielded ops a.tmps) with
   | false =>
    rw [if_neg (by simp)];obtain ⟨hv,jf⟩:=hO.2 hw;exact ⟨fun _ _=>trivial,ih _ _ _ (rvAtS_put (Bz jb) hn h jd ho ji hv (jp _ _ hv) (fun _ _ _ _ _ h=>h) jf) jl⟩
   | true =>
    rw [if_pos rfl];refine ⟨fun _ _=>trivial,?_⟩;rw [show (Fence.wide.inRound lR).round=some lR from rfl,Oper.semAt_some _ _ _ jC];rcases hO.1 hw with (⟨v,w',hr,hv,hx,jf⟩ | ⟨g,args,w',hr,hC⟩) | ⟨hd,w',hr,hv,hx,jf⟩
    ·rw [hr];exact ih _ _ _ (rvAtS_put (Bz jb) hn h jd ho ji hv (jp _ _ hv) (jc w' hx) jf) jl
    ·rw [hr];refine ⟨fun h=>(by cases h),((callsIn_wide.2 hC).inRound lR).mono ?_⟩;rintro e w'' ⟨v,rfl,hv,hx,jf⟩;exact ih _ _ _ (rvAtS_put (Bz jb) hn h jd ho ji hv (jp _ _ hv) (jc w'' hx) jf) jl
    ·rw [hr];exact ih _ _ _ (rvAtS_put (v:=undef) (Bz jb) hn h jd ho ji hv (fun _=>hv) (jc w' hx) jf) jl
  ·rcases hs with hs | ⟨hs,oL,jv,jh,jo⟩
   · omega
   ·obtain rfl:i=L:=by omega
    rw [ho] at jv;cases jv;have ja:∀ j,j<i→listed.getD j true=true:=fun j hj=>by
     obtain ⟨e,he,hb,h4⟩:=jh j hj;have jq:=jo e he hb;have jr:listed.getD e.on true=true:=Bc h.ls (by omega) (h3 e he hb);rcases h4 with rfl | h4
     · exact jr
     · exact C5 (Bz jb) h e.on jq (fun o' je e' jA jg=>h.closed e.on o' jq jr je e' jA jg) j h4
    refine wpOpIn_mono (fun a' w' hq=>K9 ?_ hq fuel) (jk (by omega) a w h.size h.df _ ja h.s (fun j hj=>h.done j hj (ja j hj)) h.base);rw [List.eq_nil_iff_forall_not_mem];intro j hj;obtain ⟨g1,g2,_⟩:=B4.1 hj;by_cases e:i=j
    · subst e;rw [Ak (by rw [h.ls];exact h1)] at g2;cases g2
    · rw [getD_set_ne e,ja j (by omega)] at g2;cases g2
theorem J0 {bn:Bool} {id:Nat} (je:(ops.all fun o=>match o.op with | .defer _=>false | _=>true)=true) (hm:P.follows .mixedOrders=true) {w:World} (V:Nat→Value→World→Prop) (X:Nat→World→World→Prop) (S:(Nat→Bool)→World→Prop) (ms:List Nat) (n L:Nat) (jc:rvOkS ops ms bn n L=true) (hn:a0.tmps.size=n) (jd:bn=true→∀ i o v w,ops[i]? = some o→o.dst=none→V i v w→V i undef w)
  (hV:∀ i j v w w',i<L→j<L→i≠j→(ms.getD j 0).testBit i=false→V j v w→X i w w'→V j v w') (hS:∀ f:Nat→Bool,(∀ i,i<L→f i=false)→S f { w with drawn:=w.drawn+1 })
  (jf:Fc P ops V X S ms a0 L 0 ops.toList)
  (jb:ops.size=L→∀ a w,a.tmps.size=a0.tmps.size→a.defers=a0.defers→(∀ f:Nat→Bool,(∀ i,i<L→f i=true)→S f w→(∀ i,i<L→V i (AY ops a i) w)→(∀ t,(ops.all fun o'=>o'.dst != some t)=true→a.tmps.getD t undef=a0.tmps.getD t undef)→Q .normal a w))
  (ja:ops.size≠L→∀ a w,a.tmps.size=a0.tmps.size→a.defers=a0.defers→(∀ f:Nat→Bool,(∀ i,i<L→f i=true)→S f w→(∀ i,i<L→V i (AY ops a i) w)→(∀ t,(ops.all fun o'=>o'.dst != some t)=true→a.tmps.getD t undef=a0.tmps.getD t undef)→wpOpIn (Fence.wide.inRound lR) nR P ops Q L (fun a' w'=>Q .normal a' w') a w)) :
  (Code.region id ops true).wpIn (Fence.wide.inRound lR) nR P Q a0 w:=by
 have hs:=rvOkS_size jc;have hf:∀ i,i<ops.size→(Array.replicate ops.size false).getD i true=false:=fun i hi=>by rw [A4,Array.getElem?_replicate,if_pos hi];rfl
 have h0:Fy ops V S a0 L (Array.replicate ops.size false) a0 { w with drawn:=w.drawn+1 }:=by
  refine ⟨by simp,fun hl=>hf L hl,rfl,rfl,hS _ fun i hi=>hf i (by omega),fun i o hi h=>?_,fun i hi h=>?_,fun _ _=>rfl,fun _ _ _ _ _=>rfl⟩
  · rw [hf i (by omega)] at h;cases h
  · rw [hf i (by omega)] at h;cases h
 exact wpIn_region_any hm (rvS_anyI je jd hV jc hn jf jb ja ops.size (Array.replicate ops.size false) a0 _ h0 (F3 _ _))
end
def NC (ops:Array Oper):List Nat:=(List.range ops.size).filter fun i=>match ops[i]? with
 | some o=>o.dst.isNone
 | none=>false
theorem S2 {ops:Array Oper} {l:List (Value→World→Prop)} {ks:List Nat} (hk:NC ops=ks) (h:∀ k∈ks,∀ v w,Vs l k v w→Vs l k undef w):true=true→∀ i o v w,ops[i]? = some o→o.dst=none→Vs l i v w→Vs l i undef w:=fun _ i o v w ho hd hv=>by
 refine h i ?_ v w hv;rw [← hk];unfold NC;rw [AU];refine ⟨AV.2 (A5.1 ho).1,?_⟩;rw [ho];simp [hd]
structure BV where
 word:Int
 a:Option Addr
 n:Nat
 c:Nat
def BV.s (x:BV):Value:=.slice x.a x.n x.c
def Ew:BQ BV:=⟨175,189,2,32,.agg #[.int .i64 0,.slice none 0 0],fun x=>[.int .i64 x.word,.slice x.a x.n x.c]⟩
theorem Dd:Ew.Ok:=⟨Tryz.underlying175,by kernel_rfl,rfl,by decide,fun _=>rfl,fun x u hu=>by
 have h:u=.int .i64 x.word∨u=.slice x.a x.n x.c:=by simpa [Ew] using hu
 rcases h with rfl | rfl <;> rfl,by decide⟩
theorem Au {α:Type} {T:BQ α} {w:World} {B:Nat} {v:Value} {L:List α} (h:AZ T w B v L) {g:Nat} (hg:v.ownBlock=some g):∃ cs,w.heap[g]? = some (.cells cs T.e (0,0)):=by
 rcases h.2 with ⟨rfl,_⟩ | ⟨g',cap,cur,rfl,_,h2,_⟩
 · cases hg
 · cases hg;exact ⟨_,h2⟩
theorem AZ.setCell {α:Type} {T:BQ α} {w:World} {B g n c0 i:Nat} {N N':List α} {y:Value} (h:AZ T w B (.slice (some ⟨g,0,none⟩) n c0) N) (hl:N'.length=N.length) (hf:N'.flatMap T.enc=(N.flatMap T.enc).set i y) (hi:i<N.length*T.k) (hT:T.Ok) :
  AZ T (w.setCell ⟨g,i,none⟩ y) B (.slice (some ⟨g,0,none⟩) n c0) N':=by
 rcases h.2 with ⟨he,_⟩ | ⟨g',cap,cur,he,h1,h2,h3,h4,h5,h6⟩
 · cases he
 ·injection he with e1 e2 e3;injection e1 with e1;injection e1 with e1 _ _;subst e1;subst e2;subst e3;refine ⟨by rw [DV hT,hl],.inr ⟨g,c0,cur.setIfInBounds i y,by rw [hl],h1,heap_setCell_same w g i cur _ y h2,by rw [hl];exact h3,h4,by simpa using h5,?_⟩⟩;rw [hl,hf,← h6,Array.toList_setIfInBounds,List.take_set]
theorem enc_set {N:List BV} {k:Nat} (hk:k<N.length) (y:BV) {j:Nat} {u:Value} (hj:j<2) (he:(Ew.enc N[k]).set j u=Ew.enc y):(N.set k y).flatMap Ew.enc=(N.flatMap Ew.enc).set (k*2+j) u:=by
 induction N generalizing k with
 | nil=>simp at hk
 | cons x r ih =>
  cases k with
  | zero =>
   simp only [List.set_cons_zero,List.flatMap_cons,Nat.zero_mul,Nat.zero_add];rw [← he,List.set_append_left]
   · rfl
   · show j<2;exact hj
  | succ k =>
   simp only [List.set_cons_succ,List.flatMap_cons];rw [ih (by simpa using hk) he,List.set_append_right]
   ·congr 2;show k*2+j=(k+1)*2+j - 2;omega
   · show 2≤(k+1)*2+j;omega
structure TrM (w:World) (B:Nat) (v:Value) (N:List BV) (T:List Bn):Prop where
 own:AZ Ew w B v N
 len:N.length=T.length
 row:∀ (k:Nat) (h:k<N.length) (h2:k<T.length),N[k].word=T[k].word∧AZ Bo w B N[k].s T[k].arcs
 dis:∀ (j k:Nat) (hj:j<N.length) (hk:k<N.length) (q:Nat),j≠k→N[j].s.ownBlock=some q→N[k].s.ownBlock≠some q
section
variable {w w':World} {B:Nat} {v:Value} {N:List BV} {T:List Bn}
theorem TrM.ext (h:TrM w B v N T) (hx:Ext w w'):TrM w' B v N T :=
 ⟨h.own.later hx (A3 _),h.len,fun k h1 h2=>⟨(h.row k h1 h2).1,(h.row k h1 h2).2.later hx (A3 _)⟩,h.dis⟩
theorem TrM.arcs (h:TrM w B v N T) {k:Nat} (hk:k<T.length):∃ hN:k<N.length,N[k].n=T[k].arcs.length∧T[k].arcs.length≤N[k].c∧DD w N[k].a T[k].arcs:=by
 have hN:k<N.length:=by rw [h.len];exact hk
 obtain ⟨h1,h2,h3⟩:=(h.row k hN hk).2.arcs;exact ⟨hN,h2,h3,h1⟩
theorem TrM.cells {g n c:Nat} (h:TrM w B (.slice (some ⟨g,0,none⟩) n c) N T) {k:Nat} (hk:k<T.length):∃ hN:k<N.length,w.cell? ⟨g,k*2,none⟩=some (.int .i64 T[k].word)∧w.cell? ⟨g,k*2+1,none⟩=some (.slice N[k].a T[k].arcs.length N[k].c):=by
 obtain ⟨hN,h1,h2,h3⟩:=h.arcs hk;refine ⟨hN,?_,?_⟩
 ·have:=h.own.cell Dd hN (j:=0) (by decide);rw [show (Ew.enc N[k])[0]? = some (.int .i64 N[k].word) from rfl,(h.row k hN hk).1] at this;exact this
 ·have:=h.own.cell Dd hN (j:=1) (by decide);rw [show (Ew.enc N[k])[1]? = some (.slice N[k].a N[k].n N[k].c) from rfl,h1] at this;exact this
theorem TrM.tree {a:Option Addr} {n c:Nat} (h:TrM w B (.slice a n c) N T):D6 w a T:=fun k hk=>by
 rcases h.own.blk with ⟨_,rfl⟩ | ⟨g,c2,ja,_,hg,_⟩
 · have:=h.len;simp at this;omega
 ·injection ja with f1 f2 f3;subst f1 f2 f3;obtain ⟨hN,h1,h2⟩:=h.cells hk;obtain ⟨_,h3,h4,h5⟩:=h.arcs hk;have h6:=(h.row k hN hk).2.form;obtain ⟨a',c',e1,e2,e3⟩:=h6;refine ⟨g,0,rfl,hg,by rw [Nat.zero_add];exact h1,_,_,by rw [Nat.zero_add];exact h2,?_,h5⟩;unfold maxLen at e3;omega
theorem TrM.ne {g n c k:Nat} (h:TrM w B (.slice (some ⟨g,0,none⟩) n c) N T) (hk:k<N.length):N[k].s.ownBlock≠some g:=fun e=>by
 obtain ⟨cs,h1⟩:=Au h.own (g:=g) rfl;obtain ⟨cs2,h2⟩:=Au (h.row k hk (by rw [← h.len];exact hk)).2 e;rw [h1] at h2;injection h2 with h2;injection h2 with _ h3;exact absurd h3 (by decide)
theorem TrM.put1 {g n c k:Nat} {x:Ar} {a':Option Addr} {c':Nat} (h:TrM w B (.slice (some ⟨g,0,none⟩) n c) N T) (hk:k<N.length) (jn:k<T.length) (ho:AZ Bo w' B (.slice a' (T[k].arcs.length+1) c') (T[k].arcs ++ [x])) (hg:w.grownBy w' N[k].s.ownBlock)
  (jf:(Value.slice a' (T[k].arcs.length+1) c').ownBlock=N[k].s.ownBlock∨(Value.slice a' (T[k].arcs.length+1) c').ownBlock=some w.heap.size) :
  TrM (w'.setCell ⟨g,k*2+1,none⟩ (.slice a' (T[k].arcs.length+1) c')) B (.slice (some ⟨g,0,none⟩) n c) (N.set k ⟨N[k].word,a',T[k].arcs.length+1,c'⟩) (Db T k x):=by
 have ji:∀ q,q≠g→(w'.setCell ⟨g,k*2+1,none⟩ (.slice a' (T[k].arcs.length+1) c')).heap[q]? = w'.heap[q]?:=fun q hq=>Below.heap_setCell _ _ _ _ hq;have jm:=h.own.lt g rfl;have jl:w'.heap[g]? = w.heap[g]?:=hg.block g jm fun e=>h.ne hk e.symm;have jc:AZ Ew w' B (.slice (some ⟨g,0,none⟩) n c) N:=h.own.keep fun q hq=>by injection hq with hq;rw [← hq];exact jl
 have jk:(Value.slice a' (T[k].arcs.length+1) c').ownBlock≠some g:=fun e=>by
  rcases jf with h1 | h1
  · rw [h1] at e;exact h.ne hk e
  · rw [h1] at e;injection e with e;omega
 have jj:(Db T k x).length=T.length:=by simp [Db]
 have jo:∀ j (hj:j<T.length),(Db T k x)[j]'(by rw [jj];exact hj)=if k=j then ⟨T[j].word,T[j].arcs ++ [x]⟩ else T[j]:=fun j hj=>by
  unfold Db;rw [List.getElem_modify]
 refine ⟨jc.setCell (by simp) (enc_set hk _ (j:=1) (by decide) rfl) (by show k*2+1<N.length*2;omega) Dd,by rw [List.length_set,jj];exact h.len,fun j hj jg=>?_,fun j j2 hj jg q jh hq=>?_⟩
 ·have ja:j<N.length:=by simpa using hj
  have je:j<T.length:=by rw [← h.len];exact ja
  rw [jo j je,List.getElem_set];by_cases e:k=j
  ·subst e;rw [if_pos rfl,if_pos rfl];exact ⟨(h.row k hk jn).1,ho.keep fun q hq=>ji q fun e=>jk (by rw [← e];exact hq)⟩
  ·rw [if_neg e,if_neg e];refine ⟨(h.row j ja je).1,(h.row j ja je).2.keep fun q hq=>?_⟩;rw [ji q fun e2=>h.ne ja (by rw [← e2];exact hq)];exact hg.block q ((h.row j ja je).2.lt q hq) fun e2=>h.dis j k ja hk q (fun e3=>e e3.symm) hq e2.symm
 ·have ja:j<N.length:=by simpa using hj
  have jb:j2<N.length:=by simpa using jg
  rw [List.getElem_set] at hq ⊢;by_cases e:k=j
  ·rw [if_pos e] at hq;have e2:¬ k=j2:=fun e2=>jh (e.symm.trans e2);rw [if_neg e2];intro e3;have jd:(Value.slice a' (T[k].arcs.length+1) c').ownBlock=some q:=hq;rcases jf with h1 | h1
   · rw [h1] at jd;exact h.dis k j2 hk jb q e2 jd e3
   ·rw [h1] at jd;injection jd with jd;have:=(h.row j2 jb (by rw [← h.len];exact jb)).2.lt q e3;omega
  ·rw [if_neg e] at hq;by_cases e2:k=j2
   ·rw [if_pos e2];intro e3;have e3':(Value.slice a' (T[k].arcs.length+1) c').ownBlock=some q:=e3;rcases jf with h1 | h1
    · rw [h1] at e3';exact h.dis j k ja hk q (fun e4=>e e4.symm) hq e3'
    ·rw [h1] at e3';injection e3' with e3';have:=(h.row j ja (by rw [← h.len];exact ja)).2.lt q hq;omega
   ·rw [if_neg e2];exact h.dis j j2 ja jb q jh hq
theorem TrM.grow {v':Value} (h:TrM w B v N T) (ho:AZ Ew w' B v' (N ++ [⟨-1,none,0,0⟩])) (hg:w.grownBy w' v.ownBlock) (hB:B≤w'.heap.size):TrM w' B v' (N ++ [⟨-1,none,0,0⟩]) (T ++ [⟨-1,[]⟩]):=by
 have ja:∀ (j:Nat) (hj:j<(N ++ [(⟨-1,none,0,0⟩:BV)]).length),¬ j<N.length→(N ++ [(⟨-1,none,0,0⟩:BV)])[j]=⟨-1,none,0,0⟩:=fun j hj hn=>by
  rw [List.getElem_append_right (by omega)];have:j - N.length=0:=by rw [AB,AC] at hj;omega
  simp [this]
 refine ⟨ho,by rw [AB,AB,h.len];rfl,fun j hj jb=>?_,fun j j2 hj jb q jc hq=>?_⟩
 ·by_cases e:j<N.length
  ·have eT:j<T.length:=by rw [← h.len];exact e
   rw [List.getElem_append_left e,List.getElem_append_left eT];refine ⟨(h.row j e eT).1,(h.row j e eT).2.keep fun q hq=>hg.block q ((h.row j e eT).2.lt q hq) fun e2=>?_⟩;obtain ⟨cs,h1⟩:=Au h.own e2.symm;obtain ⟨cs2,h2⟩:=Au (h.row j e eT).2 hq;rw [h1] at h2;injection h2 with h2;injection h2 with _ h3;exact absurd h3 (by decide)
  ·rw [ja j hj e];have eT:¬ j<T.length:=by rw [← h.len];exact e
   have:(T ++ [(⟨-1,[]⟩:Bn)])[j]=⟨-1,[]⟩:=by
    rw [List.getElem_append_right (by omega)];have:j - T.length=0:=by rw [AB,AC] at jb;omega
    simp [this]
   rw [this];exact ⟨rfl,AZ.nil _ _ _⟩
 ·by_cases e:j<N.length
  ·rw [List.getElem_append_left e] at hq;by_cases e2:j2<N.length
   · rw [List.getElem_append_left e2];exact h.dis j j2 e e2 q jc hq
   · rw [ja j2 jb e2];intro h9;cases h9
  · rw [ja j hj e] at hq;cases hq
theorem TrM.word {g n c k:Nat} {i:Int} (h:TrM w B (.slice (some ⟨g,0,none⟩) n c) N T) (hk:k<N.length) :
  TrM (w.setCell ⟨g,k*2,none⟩ (.int .i64 i)) B (.slice (some ⟨g,0,none⟩) n c) (N.set k ⟨i,N[k].a,N[k].n,N[k].c⟩) (setWord T k i):=by
 have jf:∀ q,q≠g→(w.setCell ⟨g,k*2,none⟩ (.int .i64 i)).heap[q]? = w.heap[q]?:=fun q hq=>Below.heap_setCell _ _ _ _ hq;have jg:∀ j (hj:j<T.length),(setWord T k i)[j]'(by rw [B9];exact hj)=if k=j then ⟨i,T[j].arcs⟩ else T[j]:=fun j hj=>D7 hj;have hs:∀ j (hj:j<N.length),((N.set k ⟨i,N[k].a,N[k].n,N[k].c⟩)[j]'(by simpa using hj)).s=N[j].s:=fun j hj=>by
  rw [List.getElem_set];split
  · rename_i e;subst e;rfl
  · rfl
 refine ⟨h.own.setCell (by simp) (enc_set hk _ (j:=0) (by decide) rfl) (by show k*2<N.length*2;omega) Dd,by rw [List.length_set,B9];exact h.len,fun j hj jd=>?_,fun j j2 hj jd q je hq=>?_⟩
 ·have ja:j<N.length:=by simpa using hj
  have jc:j<T.length:=by rw [← h.len];exact ja
  have h1:=h.row j ja jc;have h2:AZ Bo (w.setCell ⟨g,k*2,none⟩ (.int .i64 i)) B N[j].s T[j].arcs:=h1.2.keep fun q hq=>jf q fun e=>h.ne ja (by rw [← e];exact hq);refine ⟨?_,?_⟩
  ·rw [jg j jc,List.getElem_set];split
   · rfl
   · exact h1.1
  · rw [hs j ja,DL jc];exact h2
 ·have ja:j<N.length:=by simpa using hj
  have jb:j2<N.length:=by simpa using jd
  rw [hs j ja] at hq;rw [hs j2 jb];exact h.dis j j2 ja jb q je hq
end
end Go.Proofs.YtpljngaejaehcaaGreatDoor
