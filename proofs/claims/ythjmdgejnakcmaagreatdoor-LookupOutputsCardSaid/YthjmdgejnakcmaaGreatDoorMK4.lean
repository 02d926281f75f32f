/- Texts that the claims share: K9, K10, K11, K12, K13. -/
import Derived.Test.YthjmdgejnakcmaaGreatDoorMK3
import Derived.Test.YthjmdgejnakcmaaGreatDoorMD5
set_option maxHeartbeats 6400000
set_option maxRecDepth 100000
set_option linter.unusedVariables false
set_option linter.unusedSimpArgs false
namespace Go.Proofs.YthjmdgejnakcmaaGreatDoor
open Go.RowKit Go.WideShapes Fl
theorem KC:∀ (p:List UInt8) {a b:UInt8} {u v:List UInt8},Op.bytesLess (p ++ a :: u) (p ++ b :: v)=true→a.toNat≤b.toNat
 | [],a,b,u,v,h=>by
  simp only [List.nil_append,Op.bytesLess,Bool.or_eq_true,Bool.and_eq_true,decide_eq_true_eq,beq_iff_eq,UInt8.lt_iff_toNat_lt] at h;rcases h with h | ⟨h,_⟩
  · omega
  · rw [h];exact A7 _
 | x :: p,a,b,u,v,h=>by
  simp only [List.cons_append,Op.bytesLess,Bool.or_eq_true,Bool.and_eq_true,decide_eq_true_eq,beq_iff_eq,UInt8.lt_iff_toNat_lt,Nat.lt_irrefl,false_or,true_and] at h;exact KC p h
theorem SO:∀ x:List UInt8,Op.bytesLess x x=false
 | []=>rfl
 | a :: x=>by
  have h:¬ a<a:=by rw [UInt8.lt_iff_toNat_lt];omega
  simp [Op.bytesLess,h,SO x]
structure TrX (T:List Bn) (X:List (List UInt8)):Prop where
 len:X.length=T.length
 zero:X[0]? = some []
 nd:X.Nodup
 fwd:∀ (n:Nat) (hn:n<T.length),∀ x∈T[n].arcs,0≤x.c∧x.c<256∧0≤x.t∧x.t<(T.length:Int)∧X[x.t.toNat]? = some ((X[n]'(by omega)) ++ [UInt8.ofNat x.c.toNat])
 bwd:∀ (n t:Nat) (hn:n<T.length) (c:UInt8),X[t]? = some ((X[n]'(by omega)) ++ [c])→(⟨(c.toNat:Int),(t:Int)⟩:Ar)∈T[n].arcs
 sorted:∀ (n:Nat) (hn:n<T.length),T[n].arcs.Pairwise fun x y=>x.c<y.c
 clo:∀ (p q:List UInt8),p ++ q∈X→p∈X
section
variable {T:List Bn} {X:List (List UInt8)}
theorem KD {α:Type} {X:List α} (h:X.Nodup) {i j:Nat} {x:α} (hi:X[i]? = some x) (hj:X[j]? = some x):i=j:=by
 obtain ⟨h1,e1⟩:=List.getElem?_eq_some_iff.1 hi;obtain ⟨h2,e2⟩:=List.getElem?_eq_some_iff.1 hj;exact (List.getElem_inj h).1 (e1.trans e2.symm)
theorem ofNat_toNat {c:Int} (h0:0≤c) (h1:c<256):((UInt8.ofNat c.toNat).toNat:Int)=c:=by
 simp only [UInt8.toNat_ofNat'];omega
theorem TrX.find (h:TrX T X) {n:Nat} (hn:n<T.length) {c:UInt8} {t:Nat} (ht:X[t]? = some ((X[n]'(by have:=h.len;omega)) ++ [c])) :
  T[n].arcs.find? (fun x=>x.c == (c.toNat:Int))=some ⟨(c.toNat:Int),(t:Int)⟩:=by
 have hm:=h.bwd n t hn c ht;cases e:T[n].arcs.find? (fun x=>x.c == (c.toNat:Int)) with
 | none =>
  have:=List.find?_eq_none.1 e _ hm;simp at this
 | some x =>
  have h1:=List.find?_some e;simp only [beq_iff_eq] at h1;obtain ⟨a1,a2,a3,a4,a5⟩:=h.fwd n hn x (List.mem_of_find?_eq_some e);have e2:UInt8.ofNat x.c.toNat=c:=UInt8.toNat_inj.1 (by have:=ofNat_toNat a1 a2;omega);rw [e2] at a5;have:=KD h.nd a5 ht;obtain ⟨xc,xt⟩:=x;simp only at h1 this a3 ⊢;subst h1;congr 2;omega
theorem TrX.none (h:TrX T X) {n:Nat} (hn:n<T.length) {c:UInt8} (ht:(X[n]'(by have:=h.len;omega)) ++ [c] ∉ X) :
  T[n].arcs.find? (fun x=>x.c == (c.toNat:Int))=none:=by
 rw [List.find?_eq_none];intro x hx;obtain ⟨a1,a2,a3,a4,a5⟩:=h.fwd n hn x hx;simp only [beq_iff_eq];intro e;have e2:UInt8.ofNat x.c.toNat=c:=UInt8.toNat_inj.1 (by have:=ofNat_toNat a1 a2;omega);rw [e2] at a5;exact ht (List.mem_of_getElem? a5)
theorem TrX.fol (h:TrX T X):∀ (o:List UInt8) {n m:Nat} (hn:n<T.length),folT T n o=some m↔X[m]? = some ((X[n]'(by have:=h.len;omega)) ++ o)
 | [],n,m,hn=>by
  have ja:n<X.length:=by have:=h.len;omega
  rw [List.append_nil];constructor
  · intro e;cases e;exact AE ja
  ·intro e;have:=KD h.nd e (AE ja);rw [this];rfl
 | c
   :: r,n,m,hn=>by
  have ja:n<X.length:=by have:=h.len;omega
  by_cases hc:X[n] ++ [c]∈X
  ·obtain ⟨t,ht⟩:=List.getElem?_of_mem hc;have hf:=h.find hn ht;obtain ⟨h1,e1⟩:=List.getElem?_eq_some_iff.1 ht;have jb:t<T.length:=by have:=h.len;omega
   rw [folT,AE hn];simp only [hf];show folT T t r=some m↔_;rw [h.fol r jb,e1,List.append_assoc];rfl
  ·have hf:=h.none hn hc;rw [folT,AE hn];simp only [hf];constructor
   · intro e;cases e
   ·intro e;refine absurd (h.clo (X[n] ++ [c]) r ?_) hc;rw [List.append_assoc];exact List.mem_of_getElem? e
theorem TrX.trIn (h:TrX T X):SJ T:=fun b hb x hx=>by
 obtain ⟨n,hn,rfl⟩:=List.mem_iff_getElem.1 hb;obtain ⟨_,_,h1,h2,_⟩:=h.fwd n hn x hx;exact ⟨h1,h2⟩
end
def Ec (T:List Bn) (n:Nat) (x:Ar):List Bn:=T.modify n fun b=>⟨b.word,b.arcs ++ [x]⟩
def setWord (T:List Bn) (n:Nat) (i:Int):List Bn:=T.modify n fun b=>⟨i,b.arcs⟩
def Ez (T:List Bn) (n:Nat) (c:UInt8):List Bn:=Ec T n ⟨(c.toNat:Int),(T.length:Int)⟩ ++ [⟨-1,[]⟩]
theorem CP (T:List Bn) (n:Nat) (c:UInt8):(Ez T n c).length=T.length+1:=by simp [Ez,Ec]
theorem Ee {T:List Bn} {n k:Nat} {c:UInt8} (hk:k<T.length):(Ez T n c)[k]'(by rw [CP];omega)=if n=k then ⟨T[k].word,T[k].arcs ++ [⟨(c.toNat:Int),(T.length:Int)⟩]⟩ else T[k]:=by
 unfold Ez Ec;rw [List.getElem_append_left (by simpa using hk),List.getElem_modify]
theorem Gz {T:List Bn} {n:Nat} {c:UInt8}:(Ez T n c)[T.length]'(by rw [CP];omega)=⟨-1,[]⟩:=by
 unfold Ez Ec;rw [List.getElem_append_right (by simp)];simp
theorem TrX.add {T:List Bn} {X:List (List UInt8)} (h:TrX T X) {n:Nat} (hn:n<T.length) {c:UInt8} (hc:(X[n]'(by have:=h.len;omega)) ++ [c] ∉ X) (jh:∀ x∈T[n].arcs,x.c<(c.toNat:Int)) :
  TrX (Ez T n c) (X ++ [(X[n]'(by have:=h.len;omega)) ++ [c]]):=by
 have hl:=h.len;have je:∀ k (hk:k<X.length),(X ++ [X[n] ++ [c]])[k]'(by rw [AF];omega)=X[k]:=fun k hk=>List.getElem_append_left hk;have jc:∀ k,k<X.length→(X ++ [X[n] ++ [c]])[k]? = X[k]?:=fun k hk=>AQ hk;have jf:(X ++ [X[n] ++ [c]])[X.length]? = some (X[n] ++ [c]):=by simp
 have jd:∀ t y,(X ++ [X[n] ++ [c]])[t]? = some y→X[t]? = some y∨(t=X.length∧y=X[n] ++ [c]):=fun t y ht=>by
  by_cases h1:t<X.length
  · rw [jc t h1] at ht;exact .inl ht
  ·by_cases h2:t=X.length
   · subst h2;rw [jf] at ht;injection ht with ht;exact .inr ⟨rfl,ht.symm⟩
   ·have:=(List.getElem?_eq_some_iff.1 ht).1;rw [AF,AI] at this;omega
 refine ⟨by rw [AF,CP,AI];omega,by rw [jc 0 (by omega)];exact h.zero,?_,?_,?_,?_,?_⟩
 ·rw [List.nodup_append];refine ⟨h.nd,by simp,fun a ha b hb=>?_⟩;rw [AJ.1 hb];exact fun e=>hc (e ▸ ha)
 ·intro
     k hk x hx
  rw [CP] at hk;by_cases ja:k<T.length
  ·rw [Ee ja] at hx;have jb:(X ++ [X[n] ++ [c]])[k]'(by rw [AF,AI];omega)=X[k]:=je k (by omega);rw [jb,CP];by_cases e:n=k
   ·subst e;rw [if_pos rfl] at hx;rcases Ak.1 hx with hx | hx
    ·obtain ⟨a1,a2,a3,a4,a5⟩:=h.fwd n ja x hx;exact ⟨a1,a2,a3,by omega,by rw [jc _ (by omega)];exact a5⟩
    ·rw [AJ.1 hx];have:=c.toNat_lt;refine ⟨by simp only;omega,by simp only;omega,by simp only;omega,by simp only;omega,?_⟩;simp only [Int.toNat_natCast];refine (congrArg (fun k=>(X ++ [X[n] ++ [c]])[k]?) hl.symm).trans (jf.trans ?_);simp
   ·rw [if_neg e] at hx;obtain ⟨a1,a2,a3,a4,a5⟩:=h.fwd k ja x hx;exact ⟨a1,a2,a3,by omega,by rw [jc _ (by omega)];exact a5⟩
  ·obtain rfl:k=T.length:=by omega
   rw [Gz] at hx;cases hx
 ·intro k t hk b ht;rw [CP] at hk;by_cases ja:k<T.length
  ·have jb:(X ++ [X[n] ++ [c]])[k]'(by rw [AF,AI];omega)=X[k]:=je k (by omega);rw [jb] at ht;rw [Ee ja];rcases jd t _ ht with h1 | ⟨rfl,h1⟩
   ·have hm:=h.bwd k t ja b h1;split
    · exact List.mem_append_left _ hm
    · exact hm
   ·have e1:=List.append_inj' h1 rfl;have e2:k=n:=(List.getElem_inj h.nd).1 e1.1;have e3:b=c:=by simpa using e1.2
    subst e2 e3;rw [if_pos rfl,hl];simp
  ·obtain rfl:k=T.length:=by omega
   have jb:(X ++ [X[n] ++ [c]])[T.length]'(by rw [AF,AI];omega)=X[n] ++ [c]:=by
    simp only [← hl];rw [List.getElem_append_right (A7 _)];simp
   rw [jb] at ht;rcases jd t _ ht with h1 | ⟨_,h1⟩
   · exact absurd (h.clo (X[n] ++ [c]) [b] (List.mem_of_getElem? h1)) hc
   ·have:=congrArg List.length h1;simp at this
 ·intro k hk;rw [CP] at hk;by_cases ja:k<T.length
  ·rw [Ee ja];split
   ·rename_i e;subst e;refine List.pairwise_append.2 ⟨h.sorted n ja,List.pairwise_singleton _ _,fun x hx y hy=>?_⟩;rw [AJ.1 hy];exact jh x hx
   · exact h.sorted k ja
  ·obtain rfl:k=T.length:=by omega
   rw [Gz];exact List.Pairwise.nil
 ·intro
     p q jg
  rw [Ak,AJ] at jg ⊢;rcases jg with h1 | h1
  · exact .inl (h.clo p q h1)
  ·by_cases hq:q=[]
   · subst hq;rw [List.append_nil] at h1;exact .inr h1
   ·refine .inl (h.clo p q.dropLast ?_);have e1:p ++ q.dropLast=X[n]:=by
     have:=congrArg List.dropLast h1;rw [List.dropLast_append_of_ne_nil hq,List.dropLast_concat] at this;exact this
    rw [e1];exact AO _
theorem Bi (T:List Bn) (n:Nat) (i:Int):(setWord T n i).length=T.length:=by simp [setWord]
theorem E4 {T:List Bn} {n k:Nat} {i:Int} (hk:k<T.length):(setWord T n i)[k]'(by rw [Bi];exact hk)=if n=k then ⟨i,T[k].arcs⟩ else T[k]:=by
 unfold setWord;rw [List.getElem_modify]
theorem EM {T:List Bn} {n k:Nat} {i:Int} (hk:k<T.length):((setWord T n i)[k]'(by rw [Bi];exact hk)).arcs=T[k].arcs:=by
 rw [E4 hk];split <;> rfl
theorem TrX.setWord {T:List Bn} {X:List (List UInt8)} (h:TrX T X) (n:Nat) (i:Int):TrX (setWord T n i) X where
 len:=by rw [Bi];exact h.len
 zero:=h.zero
 nd:=h.nd
 fwd k hk x hx:=by
  have ja:k<T.length:=by rw [Bi] at hk;exact hk
  rw [EM ja] at hx;obtain ⟨a1,a2,a3,a4,a5⟩:=h.fwd k ja x hx;exact ⟨a1,a2,a3,by rw [Bi];exact a4,a5⟩
 bwd k t hk c ht:=by
  have ja:k<T.length:=by rw [Bi] at hk;exact hk
  rw [EM ja];exact h.bwd k t ja c ht
 sorted k hk:=by
  have ja:k<T.length:=by rw [Bi] at hk;exact hk
  rw [EM ja];exact h.sorted k ja
 clo:=h.clo
structure F0 (W:List (List UInt8)) (i k:Nat) (w:List UInt8) (node:Nat) (T:List Bn) (X:List (List UInt8)):Prop where
 tr:TrX T X
 at_:X[node]? = some (w.take k)
 src:∀ p∈X,(∃ j,∃ h:j<W.length,j<i∧p <+: W[j])∨p <+: w.take k
 word:∀ (n:Nat) (hn:n<T.length),T[n].word = -1∨∃ j,∃ h:j<W.length,j<i∧T[n].word=(j:Int)∧X[n]? = some W[j]
 all:∀ (j:Nat) (h:j<W.length),j<i→∃ n,∃ hn:n<T.length,X[n]? = some W[j]∧T[n].word=(j:Int)
 size:T.length≤1+20*i+k
section
variable {W:List (List UInt8)} {i k node:Nat} {w:List UInt8} {T:List Bn} {X:List (List UInt8)}
theorem F0.node_lt (h:F0 W i k w node T X):node<T.length:=by
 have:=(List.getElem?_eq_some_iff.1 h.at_).1;have:=h.tr.len;omega
theorem F0.start (W:List (List UInt8)) (w:List UInt8):F0 W 0 0 w 0 [⟨-1,[]⟩] [[]] where
 tr:=by
  refine ⟨rfl,rfl,by simp,?_,?_,?_,?_⟩
  ·intro n hn x hx;have e:n=0:=by simp at hn;omega
   subst e;cases hx
  ·intro n t hn c ht;have e:n=0:=by simp at hn;omega
   subst e;have h1:=(List.getElem?_eq_some_iff.1 ht).1;have e2:t=0:=by simp at h1;omega
   subst e2;simp at ht
  ·intro n hn;have e:n=0:=by simp at hn;omega
   subst e;exact List.Pairwise.nil
  ·intro p q h;have:=AJ.1 h;simp at this;simp [this.1]
 at_:=by simp
 src p hp:=.inr (by rw [AJ.1 hp];exact List.nil_prefix)
 word n hn:=by
  have e:n=0:=by simp at hn;omega
  subst e;exact .inl rfl
 all j h hj:=absurd hj (Nat.not_lt_zero _)
 size:=by simp
theorem DK {w:List UInt8} {k:Nat} (hk:k<w.length):w.take (k+1)=w.take k ++ [w[k]]:=AZ hk
theorem F0.follow (h:F0 W i k w node T X) (hk:k<w.length) {x:Ar} (hx:x∈(T[node]'h.node_lt).arcs) (hc:x.c=(w[k].toNat:Int)):F0 W i (k+1) w x.t.toNat T X:=by
 obtain ⟨a1,a2,a3,a4,a5⟩:=h.tr.fwd node h.node_lt x hx;have e2:UInt8.ofNat x.c.toNat=w[k]:=UInt8.toNat_inj.1 (by have:=ofNat_toNat a1 a2;omega);have e3:X[node]'(by have:=h.node_lt;have:=h.tr.len;omega)=w.take k:=(List.getElem?_eq_some_iff.1 h.at_).2;refine ⟨h.tr,?_,fun p hp=>(h.src p hp).imp id fun h1=>?_,h.word,h.all,by have:=h.size;omega⟩
 · rw [a5,e2,e3,DK hk]
 · rw [DK hk];exact h1.trans (List.prefix_append _ _)
theorem F0.arcs_lt (h:F0 W i k w node T X) (hi:i<W.length) (hw:W[i]=w) (jb:W.Pairwise fun a b=>Op.bytesLess a b=true) (hk:k<w.length) {x:Ar} (hx:x∈(T[node]'h.node_lt).arcs):x.c≤(w[k].toNat:Int):=by
 obtain ⟨a1,a2,a3,a4,a5⟩:=h.tr.fwd node h.node_lt x hx;have e3:X[node]'(by have:=h.node_lt;have:=h.tr.len;omega)=w.take k:=(List.getElem?_eq_some_iff.1 h.at_).2;rw [e3] at a5;have h2:=ofNat_toNat a1 a2;rcases h.src _ (List.mem_of_getElem? a5) with ⟨j,hj,jc,hp⟩ | hp
 ·have h1:=(List.pairwise_iff_getElem.1 jb) j i hj hi jc;obtain ⟨u,hu⟩:=hp;rw [hw,← hu] at h1;have ja:w=w.take k ++ w[k] :: w.drop (k+1):=by
   rw [← AK hk,List.take_append_drop]
  rw [ja,List.append_assoc] at h1;have h3:∀ {p:List UInt8} {a b:UInt8} {u v:List UInt8},Op.bytesLess (p ++ ([a] ++ u)) (p ++ b :: v)=true→a.toNat≤b.toNat:=fun {p a b u v} h9=>KC p h9;have h4:w.take k=(w.take k ++ w[k] :: w.drop (k+1)).take k:=by rw [← ja]
  have h5:=KC (w.take k) (a:=UInt8.ofNat x.c.toNat) (b:=w[k]) (u:=u) (v:=w.drop (k+1)) (by
   have h6:Op.bytesLess (w.take k ++ ([UInt8.ofNat x.c.toNat] ++ u)) w=true:=by
    rw [ja];rw [← h4];rw [← h4] at h1;exact h1
   rw [← ja];exact h6)
  omega
 ·have:=hp.length_le;rw [AF,AI] at this;omega
theorem F0.add (h:F0 W i k w node T X) (hi:i<W.length) (hw:W[i]=w) (jb:W.Pairwise fun a b=>Op.bytesLess a b=true) (hk:k<w.length) (ja:∀ x,(T[node]'h.node_lt).arcs.getLast? = some x→x.c≠(w[k].toNat:Int)) :
  ∃ X',F0 W i (k+1) w T.length (Ez T node w[k]) X':=by
 have hn:=h.node_lt;have hl:=h.tr.len;have e3:X[node]'(by omega)=w.take k:=(List.getElem?_eq_some_iff.1 h.at_).2;have jc:∀ x∈T[node].arcs,x.c<(w[k].toNat:Int):=fun x hx=>by
  cases e:T[node].arcs.getLast? with
  | none=>rw [List.getLast?_eq_none_iff] at e;rw [e] at hx;cases hx
  | some y =>
   have hy:=List.mem_of_getLast? e;have h1:=h.arcs_lt hi hw jb hk hy;have h2:=ja y e;obtain ⟨l,jf⟩:=List.getLast?_eq_some_iff.1 e;have h3:=h.tr.sorted node hn;rw [jf] at h3 hx;rcases Ak.1 hx with hx | hx
   ·have:=(List.pairwise_append.1 h3).2.2 x hx y (by simp);omega
   · rw [AJ.1 hx];omega
 have hc:(X[node]'(by omega)) ++ [w[k]] ∉ X:=fun hm=>by
  obtain ⟨t,ht⟩:=List.getElem?_of_mem hm;have:=jc _ (h.tr.bwd node t hn w[k] ht);simp only at this;omega
 have ji:=h.tr.add hn hc jc;refine ⟨_,ji,?_,fun p hp=>?_,fun n jg=>?_,fun j hj je=>?_,?_⟩
 ·have h1:(X ++ [(X[node]'(by omega)) ++ [w[k]]])[X.length]? = some ((X[node]'(by omega)) ++ [w[k]]):=by simp
  rw [DK hk,← e3];exact (congrArg (fun j=>(X ++ [(X[node]'(by omega)) ++ [w[k]]])[j]?) hl.symm).trans h1
 ·rcases Ak.1 hp with hp | hp
  ·refine (h.src p hp).imp id fun h1=>?_;rw [DK hk];exact h1.trans (List.prefix_append _ _)
  ·rw [AJ.1 hp,e3,DK hk];exact .inr (List.prefix_refl _)
 ·rw [CP] at jg;by_cases jd:n<T.length
  ·rw [Ee jd];have hx:(X ++ [(X[node]'(by omega)) ++ [w[k]]])[n]? = X[n]?:=AQ (by omega);rw [hx];have:=h.word n jd;split <;> exact this
  ·obtain rfl:n=T.length:=by omega
   rw [Gz];exact .inl rfl
 ·obtain ⟨n,jh,h1,h2⟩:=h.all j hj je;refine ⟨n,by rw [CP];omega,?_,?_⟩
  · rw [AQ (by omega)];exact h1
  · rw [Ee jh];split <;> exact h2
 · rw [CP];have:=h.size;omega
theorem F0.wordEnd (h:F0 W i k w node T X) (hi:i<W.length) (hw:W[i]=w) (jc:W.Pairwise fun a b=>Op.bytesLess a b=true) (hk:¬ k<w.length) (hk20:k≤20) (w':List UInt8):F0 W (i+1) 0 w' 0 (setWord T node (i:Int)) X:=by
 have hn:=h.node_lt;have hl:=h.tr.len;have jb:X[node]? = some w:=by rw [h.at_,AM (by omega)]
 refine ⟨h.tr.setWord node i,by rw [List.take_zero];exact h.tr.zero,fun p hp=>.inl ?_,fun n je=>?_,fun j hj jd=>?_,?_⟩
 ·rcases h.src p hp with ⟨j,hj,jd,h1⟩ | h1
  · exact ⟨j,hj,by omega,h1⟩
  · exact ⟨i,hi,Nat.lt_succ_self _,by rw [hw];exact h1.trans (List.take_prefix _ _)⟩
 ·have ja:n<T.length:=by rw [Bi] at je;exact je
  rw [E4 ja];split
  ·rename_i e;subst e;exact .inr ⟨i,hi,Nat.lt_succ_self _,rfl,by rw [jb,hw]⟩
  ·rcases h.word n ja with h1 | ⟨j,hj,jd,h1⟩
   · exact .inl h1
   · exact .inr ⟨j,hj,by omega,h1⟩
 ·by_cases e:j=i
  ·subst e;exact ⟨node,by rw [Bi];exact hn,by rw [jb,hw],by rw [E4 hn,if_pos rfl]⟩
  ·obtain ⟨n,ja,h1,h2⟩:=h.all j hj (by omega);refine ⟨n,by rw [Bi];exact ja,h1,?_⟩;rw [E4 ja,if_neg ?_]
   · exact h2
   ·intro e2;subst e2;rw [jb] at h1;injection h1 with h1;have h3:=(List.pairwise_iff_getElem.1 jc) j i hj hi (by omega);rw [hw,← h1] at h3;have:Op.bytesLess w w=false:=SO w;rw [this] at h3;cases h3
 · rw [Bi];have:=h.size;omega
end
structure TrW (T:List Bn) (W:List (List UInt8)):Prop where
 trIn:SJ T
 wd:∀ b∈T,b.word<(W.length:Int)
 pos:0<T.length
 size:T.length≤1+20*W.length
 fol1:∀ o n (k:Nat),folT T 0 o=some n→(Cn T n=(k:Int)↔∃ h:k<W.length,W[k]=o)
 fol2:∀ w∈W,∃ n,folT T 0 w=some n
theorem F0.done {W:List (List UInt8)} {w:List UInt8} {T:List Bn} {X:List (List UInt8)} (h:F0 W W.length 0 w 0 T X) (hinc:W.Pairwise fun a b=>Op.bytesLess a b=true):TrW T W:=by
 have hn:=h.node_lt;have hl:=h.tr.len;have h0:X[0]'(by omega)=[]:=(List.getElem?_eq_some_iff.1 h.tr.zero).2;have hf:∀ o m,folT T 0 o=some m↔X[m]? = some o:=fun o m=>by rw [h.tr.fol o hn,h0];rfl
 refine ⟨h.tr.trIn,fun b hb=>?_,hn,h.size,fun o n k ho=>?_,fun w hw=>?_⟩
 ·obtain ⟨n,jb,rfl⟩:=List.mem_iff_getElem.1 hb;rcases h.word n jb with h1 | ⟨j,hj,_,h1,_⟩ <;> omega
 ·have hx:=(hf o n).1 ho;have ja:n<T.length:=by have:=(List.getElem?_eq_some_iff.1 hx).1;omega
  have jc:Cn T n=T[n].word:=by unfold Cn;rw [AE ja]
  rw [jc];constructor
  ·intro h1;rcases h.word n ja with h2 | ⟨j,hj,_,h2,h3⟩
   · omega
   ·have e:j=k:=by omega
    subst e;rw [hx] at h3;injection h3 with h3;exact ⟨hj,h3.symm⟩
  ·rintro ⟨hk,rfl⟩;obtain ⟨m,hm,h1,h2⟩:=h.all k hk hk;have:=KD h.tr.nd h1 hx;subst this;exact h2
 ·obtain ⟨j,hj,rfl⟩:=List.mem_iff_getElem.1 hw;obtain ⟨m,hm,h1,h2⟩:=h.all j hj hj;exact ⟨m,(hf _ _).2 h1⟩
structure BV where
 word:Int
 a:Option Addr
 n:Nat
 c:Nat
def BV.s (x:BV):Value:=.slice x.a x.n x.c
def Fw:Cu BV:=⟨115,133,2,32,.agg #[.int .i64 0,.slice none 0 0],fun x=>[.int .i64 x.word,.slice x.a x.n x.c]⟩
theorem Ef:Fw.Ok:=⟨Tryz.underlying115,by kernel_rfl,rfl,by decide,fun _=>rfl,fun x u hu=>by
 have h:u=.int .i64 x.word∨u=.slice x.a x.n x.c:=by simpa [Fw] using hu
 rcases h with rfl | rfl <;> rfl,by decide⟩
theorem Bo {α:Type} {T:Cu α} {w:World} {B:Nat} {v:Value} {L:List α} (h:As T w B v L) {g:Nat} (hg:v.ownBlock=some g):∃ cs,w.heap[g]? = some (.cells cs T.e (0,0)):=by
 rcases h.2 with ⟨rfl,_⟩ | ⟨g',cap,cur,rfl,_,h2,_⟩
 · cases hg
 · cases hg;exact ⟨_,h2⟩
theorem As.setCell {α:Type} {T:Cu α} {w:World} {B g n c0 i:Nat} {N N':List α} {y:Value} (h:As T w B (.slice (some ⟨g,0,none⟩) n c0) N) (hl:N'.length=N.length) (hf:N'.flatMap T.enc=(N.flatMap T.enc).set i y) (hi:i<N.length*T.k) (hT:T.Ok) :
  As T (w.setCell ⟨g,i,none⟩ y) B (.slice (some ⟨g,0,none⟩) n c0) N':=by
 rcases h.2 with ⟨he,_⟩ | ⟨g',cap,cur,he,h1,h2,h3,h4,h5,h6⟩
 · cases he
 ·injection he with e1 e2 e3;injection e1 with e1;injection e1 with e1 _ _;subst e1;subst e2;subst e3;refine ⟨by rw [F6 hT,hl],.inr ⟨g,c0,cur.setIfInBounds i y,by rw [hl],h1,heap_setCell_same w g i cur _ y h2,by rw [hl];exact h3,h4,by simpa using h5,?_⟩⟩;rw [hl,hf,← h6,Array.toList_setIfInBounds,List.take_set]
theorem enc_set {N:List BV} {k:Nat} (hk:k<N.length) (y:BV) {j:Nat} {u:Value} (hj:j<2) (he:(Fw.enc N[k]).set j u=Fw.enc y):(N.set k y).flatMap Fw.enc=(N.flatMap Fw.enc).set (k*2+j) u:=by
 induction N generalizing k with
 | nil=>simp at hk
 | cons x r ih =>
  cases k with
  | zero =>
   simp only [List.set_cons_zero,List.flatMap_cons,Nat.zero_mul,Nat.zero_add];rw [← he,List.set_append_left]
   · rfl
   · show j<2;exact hj
  | succ k =>
   simp only [List.set_cons_succ,List.flatMap_cons];rw [ih (by simpa using hk) he,List.set_append_right]
   ·congr 2;show k*2+j=(k+1)*2+j - 2;omega
   · show 2≤(k+1)*2+j;omega
structure TrM (w:World) (B:Nat) (v:Value) (N:List BV) (T:List Bn):Prop where
 own:As Fw w B v N
 len:N.length=T.length
 row:∀ (k:Nat) (h:k<N.length) (h2:k<T.length),N[k].word=T[k].word∧As C5 w B N[k].s T[k].arcs
 dis:∀ (j k:Nat) (hj:j<N.length) (hk:k<N.length) (q:Nat),j≠k→N[j].s.ownBlock=some q→N[k].s.ownBlock≠some q
section
variable {w w':World} {B:Nat} {v:Value} {N:List BV} {T:List Bn}
theorem TrM.ext (h:TrM w B v N T) (hx:Ext w w'):TrM w' B v N T :=
 ⟨h.own.later hx (A7 _),h.len,fun k h1 h2=>⟨(h.row k h1 h2).1,(h.row k h1 h2).2.later hx (A7 _)⟩,h.dis⟩
theorem TrM.arcs (h:TrM w B v N T) {k:Nat} (hk:k<T.length):∃ hN:k<N.length,N[k].n=T[k].arcs.length∧T[k].arcs.length≤N[k].c∧E5 w N[k].a T[k].arcs:=by
 have hN:k<N.length:=by rw [h.len];exact hk
 obtain ⟨h1,h2,h3⟩:=(h.row k hN hk).2.arcs;exact ⟨hN,h2,h3,h1⟩
theorem TrM.cells {g n c:Nat} (h:TrM w B (.slice (some ⟨g,0,none⟩) n c) N T) {k:Nat} (hk:k<T.length):∃ hN:k<N.length,w.cell? ⟨g,k*2,none⟩=some (.int .i64 T[k].word)∧w.cell? ⟨g,k*2+1,none⟩=some (.slice N[k].a T[k].arcs.length N[k].c):=by
 obtain ⟨hN,h1,h2,h3⟩:=h.arcs hk;refine ⟨hN,?_,?_⟩
 ·have:=h.own.cell Ef hN (j:=0) (by decide);rw [show (Fw.enc N[k])[0]? = some (.int .i64 N[k].word) from rfl,(h.row k hN hk).1] at this;exact this
 ·have:=h.own.cell Ef hN (j:=1) (by decide);rw [show (Fw.enc N[k])[1]? = some (.slice N[k].a N[k].n N[k].c) from rfl,h1] at this;exact this
theorem TrM.tree {a:Option Addr} {n c:Nat} (h:TrM w B (.slice a n c) N T):Dz w a T:=fun k hk=>by
 rcases h.own.blk with ⟨_,rfl⟩ | ⟨g,c2,ja,_,hg,_⟩
 · have:=h.len;simp at this;omega
 ·injection ja with f1 f2 f3;subst f1 f2 f3;obtain ⟨hN,h1,h2⟩:=h.cells hk;obtain ⟨_,h3,h4,h5⟩:=h.arcs hk;have h6:=(h.row k hN hk).2.form;obtain ⟨a',c',e1,e2,e3⟩:=h6;refine ⟨g,0,rfl,hg,by rw [Nat.zero_add];exact h1,_,_,by rw [Nat.zero_add];exact h2,?_,h5⟩;unfold maxLen at e3;omega
theorem TrM.ne {g n c k:Nat} (h:TrM w B (.slice (some ⟨g,0,none⟩) n c) N T) (hk:k<N.length):N[k].s.ownBlock≠some g:=fun e=>by
 obtain ⟨cs,h1⟩:=Bo h.own (g:=g) rfl;obtain ⟨cs2,h2⟩:=Bo (h.row k hk (by rw [← h.len];exact hk)).2 e;rw [h1] at h2;injection h2 with h2;injection h2 with _ h3;exact absurd h3 (by decide)
theorem TrM.put1 {g n c k:Nat} {x:Ar} {a':Option Addr} {c':Nat} (h:TrM w B (.slice (some ⟨g,0,none⟩) n c) N T) (hk:k<N.length) (jn:k<T.length) (ho:As C5 w' B (.slice a' (T[k].arcs.length+1) c') (T[k].arcs ++ [x])) (hg:w.grownBy w' N[k].s.ownBlock)
  (jf:(Value.slice a' (T[k].arcs.length+1) c').ownBlock=N[k].s.ownBlock∨(Value.slice a' (T[k].arcs.length+1) c').ownBlock=some w.heap.size) :
  TrM (w'.setCell ⟨g,k*2+1,none⟩ (.slice a' (T[k].arcs.length+1) c')) B (.slice (some ⟨g,0,none⟩) n c) (N.set k ⟨N[k].word,a',T[k].arcs.length+1,c'⟩) (Ec T k x):=by
 have ji:∀ q,q≠g→(w'.setCell ⟨g,k*2+1,none⟩ (.slice a' (T[k].arcs.length+1) c')).heap[q]? = w'.heap[q]?:=fun q hq=>Below.heap_setCell _ _ _ _ hq;have jm:=h.own.lt g rfl;have jl:w'.heap[g]? = w.heap[g]?:=hg.block g jm fun e=>h.ne hk e.symm;have jc:As Fw w' B (.slice (some ⟨g,0,none⟩) n c) N:=h.own.keep fun q hq=>by injection hq with hq;rw [← hq];exact jl
 have jk:(Value.slice a' (T[k].arcs.length+1) c').ownBlock≠some g:=fun e=>by
  rcases jf with h1 | h1
  · rw [h1] at e;exact h.ne hk e
  · rw [h1] at e;injection e with e;omega
 have jj:(Ec T k x).length=T.length:=by simp [Ec]
 have jo:∀ j (hj:j<T.length),(Ec T k x)[j]'(by rw [jj];exact hj)=if k=j then ⟨T[j].word,T[j].arcs ++ [x]⟩ else T[j]:=fun j hj=>by
  unfold Ec;rw [List.getElem_modify]
 refine ⟨jc.setCell (by simp) (enc_set hk _ (j:=1) (by decide) rfl) (by show k*2+1<N.length*2;omega) Ef,by rw [List.length_set,jj];exact h.len,fun j hj jg=>?_,fun j j2 hj jg q jh hq=>?_⟩
 ·have ja:j<N.length:=by simpa using hj
  have je:j<T.length:=by rw [← h.len];exact ja
  rw [jo j je,List.getElem_set];by_cases e:k=j
  ·subst e;rw [if_pos rfl,if_pos rfl];exact ⟨(h.row k hk jn).1,ho.keep fun q hq=>ji q fun e=>jk (by rw [← e];exact hq)⟩
  ·rw [if_neg e,if_neg e];refine ⟨(h.row j ja je).1,(h.row j ja je).2.keep fun q hq=>?_⟩;rw [ji q fun e2=>h.ne ja (by rw [← e2];exact hq)];exact hg.block q ((h.row j ja je).2.lt q hq) fun e2=>h.dis j k ja hk q (fun e3=>e e3.symm) hq e2.symm
 ·have ja:j<N.length:=by simpa using hj
  have jb:j2<N.length:=by simpa using jg
  rw [List.getElem_set] at hq ⊢;by_cases e:k=j
  ·rw [if_pos e] at hq;have e2:¬ k=j2:=fun e2=>jh (e.symm.trans e2);rw [if_neg e2];intro e3;have jd:(Value.slice a' (T[k].arcs.length+1) c').ownBlock=some q:=hq;rcases jf with h1 | h1
   · rw [h1] at jd;exact h.dis k j2 hk jb q e2 jd e3
   ·rw [h1] at jd;injection jd with jd;have:=(h.row j2 jb (by rw [← h.len];exact jb)).2.lt q e3;omega
  ·rw [if_neg e] at hq;by_cases e2:k=j2
   ·rw [if_pos e2];intro e3;have e3':(Value.slice a' (T[k].arcs.length+1) c').ownBlock=some q:=e3;rcases jf with h1 | h1
    · rw [h1] at e3';exact h.dis j k ja hk q (fun e4=>e e4.symm) hq e3'
    ·rw [h1] at e3';injection e3' with e3';have:=(h.row j ja (by rw [← h.len];exact ja)).2.lt q hq;omega
   ·rw [if_neg e2];exact h.dis j j2 ja jb q jh hq
theorem TrM.grow {v':Value} (h:TrM w B v N T) (ho:As Fw w' B v' (N ++ [⟨-1,none,0,0⟩])) (hg:w.grownBy w' v.ownBlock) (hB:B≤w'.heap.size):TrM w' B v' (N ++ [⟨-1,none,0,0⟩]) (T ++ [⟨-1,[]⟩]):=by
 have ja:∀ (j:Nat) (hj:j<(N ++ [(⟨-1,none,0,0⟩:BV)]).length),¬ j<N.length→(N ++ [(⟨-1,none,0,0⟩:BV)])[j]=⟨-1,none,0,0⟩:=fun j hj hn=>by
  rw [List.getElem_append_right (by omega)];have:j - N.length=0:=by rw [AF,AI] at hj;omega
  simp [this]
 refine ⟨ho,by rw [AF,AF,h.len];rfl,fun j hj jb=>?_,fun j j2 hj jb q jc hq=>?_⟩
 ·by_cases e:j<N.length
  ·have eT:j<T.length:=by rw [← h.len];exact e
   rw [List.getElem_append_left e,List.getElem_append_left eT];refine ⟨(h.row j e eT).1,(h.row j e eT).2.keep fun q hq=>hg.block q ((h.row j e eT).2.lt q hq) fun e2=>?_⟩;obtain ⟨cs,h1⟩:=Bo h.own e2.symm;obtain ⟨cs2,h2⟩:=Bo (h.row j e eT).2 hq;rw [h1] at h2;injection h2 with h2;injection h2 with _ h3;exact absurd h3 (by decide)
  ·rw [ja j hj e];have eT:¬ j<T.length:=by rw [← h.len];exact e
   have:(T ++ [(⟨-1,[]⟩:Bn)])[j]=⟨-1,[]⟩:=by
    rw [List.getElem_append_right (by omega)];have:j - T.length=0:=by rw [AF,AI] at jb;omega
    simp [this]
   rw [this];exact ⟨rfl,As.nil _ _ _⟩
 ·by_cases e:j<N.length
  ·rw [List.getElem_append_left e] at hq;by_cases e2:j2<N.length
   · rw [List.getElem_append_left e2];exact h.dis j j2 e e2 q jc hq
   · rw [ja j2 jb e2];intro h9;cases h9
  · rw [ja j hj e] at hq;cases hq
theorem TrM.word {g n c k:Nat} {i:Int} (h:TrM w B (.slice (some ⟨g,0,none⟩) n c) N T) (hk:k<N.length) :
  TrM (w.setCell ⟨g,k*2,none⟩ (.int .i64 i)) B (.slice (some ⟨g,0,none⟩) n c) (N.set k ⟨i,N[k].a,N[k].n,N[k].c⟩) (setWord T k i):=by
 have jf:∀ q,q≠g→(w.setCell ⟨g,k*2,none⟩ (.int .i64 i)).heap[q]? = w.heap[q]?:=fun q hq=>Below.heap_setCell _ _ _ _ hq;have jg:∀ j (hj:j<T.length),(setWord T k i)[j]'(by rw [Bi];exact hj)=if k=j then ⟨i,T[j].arcs⟩ else T[j]:=fun j hj=>E4 hj;have hs:∀ j (hj:j<N.length),((N.set k ⟨i,N[k].a,N[k].n,N[k].c⟩)[j]'(by simpa using hj)).s=N[j].s:=fun j hj=>by
  rw [List.getElem_set];split
  · rename_i e;subst e;rfl
  · rfl
 refine ⟨h.own.setCell (by simp) (enc_set hk _ (j:=0) (by decide) rfl) (by show k*2<N.length*2;omega) Ef,by rw [List.length_set,Bi];exact h.len,fun j hj jd=>?_,fun j j2 hj jd q je hq=>?_⟩
 ·have ja:j<N.length:=by simpa using hj
  have jc:j<T.length:=by rw [← h.len];exact ja
  have h1:=h.row j ja jc;have h2:As C5 (w.setCell ⟨g,k*2,none⟩ (.int .i64 i)) B N[j].s T[j].arcs:=h1.2.keep fun q hq=>jf q fun e=>h.ne ja (by rw [← e];exact hq);refine ⟨?_,?_⟩
  ·rw [jg j jc,List.getElem_set];split
   · rfl
   · exact h1.1
  · rw [hs j ja,EM jc];exact h2
 ·have ja:j<N.length:=by simpa using hj
  have jb:j2<N.length:=by simpa using jd
  rw [hs j ja] at hq;rw [hs j2 jb];exact h.dis j j2 ja jb q je hq
end
def VA (W:List ByteArray) (e:Ending) (w':World):Prop:=∃ aT nT cT T,e=.returned (.slice aT nT cT)∧nT=T.length∧Dz w' aT T∧TrW T (W.map bts)
theorem Bz.kp {w w1:World} {a:Option Addr} {L:List ByteArray} (h:Bz w a L) (hk:Kc w w1):Bz w1 a L:=fun k hl=>by
 obtain ⟨b,o,ha,h1,h2⟩:=h k hl;exact ⟨b,o,ha,AB h1 hk.size,hk.cell h2⟩
theorem QT (a:Option Addr) (b o len cap k:Nat) (ha:a=some ⟨b,o,none⟩) (hk:k<len) (w:World) :
  (Instr.indexAt 37 (.slice a len cap) (.int .i64 (k:Int))).run Tryz.prog w=.ok (.pointer (some ⟨b,o+k,none⟩)) w:=by
 subst ha;have h0:(0:Int)≤(k:Int):=by omega
 have h1:(k:Int)<(len:Int):=by omega
 simp [go_sem,h0,h1]
theorem VB {W:List ByteArray} {i:Nat} (hi:i<W.length):(W.map bts)[i]'(by simpa using hi)=bts W[i]:=by simp
theorem begin_any
         (Ws:List ByteArray) (n:Nat) (a:Option Addr) (cap:Nat) (w:World) (hW:Bz w a Ws) (hn:n=Ws.length) (hl:Ws.length≤1000) (hs:∀ x∈Ws,x.size≤20) (jW:(Ws.map bts).Pairwise fun a b=>Op.bytesLess a b=true) :
  Calls Tryz.prog 61 #[.slice a n cap] w fun e w'=>VA Ws e w'∧Below w.heap.size w w':=by
 subst hn;have HW:=A6 hW;have HS:=A6 hs;have HI:=A6 jW;clear hW hs jW
 go_enter Tryz.func61,Tryz.ntmps61
 go_wp2;have ko:Hid (TrM (w.alloc (.cells #[.int .i64 (-1),.slice none 0 0] 133)) w.heap.size (.slice (some ⟨w.heap.size,0,none⟩) 1 1) [⟨-1,none,0,0⟩] [⟨-1,[]⟩]):=by
  refine ⟨As.one Ef (x:=⟨-1,none,0,0⟩) (heap_alloc_new _ _) (A7 _),rfl,fun k h h2=>?_,fun j k hj hk q hjk hq=>?_⟩
  ·have e:k=0:=by simp at h;omega
   subst e;exact ⟨rfl,As.nil _ _ _⟩
  ·have e:j=0:=by simp at hj;omega
   subst e;cases hq
 go_loopg [3,14] Ws.length (fun g v3 v14 wr=>∃ (i:Nat) (N:List BV) (T:List Bn) (X:List (List UInt8)),v14=.int .i64 (i:Int)∧i≤Ws.length∧g=Ws.length - i∧TrM wr w.heap.size v3 N T∧F0 (Ws.map bts) i 0 ((Ws.map bts).getD i []) 0 T X∧Below w.heap.size w wr)
 case atStart=>exact ⟨0,_,_,_,rfl,Nat.zero_le _,rfl,ko.out,F0.start _ _,(Below.refl _ _).alloc (A7 _) _⟩
 case round =>
  clear ko;obtain ⟨i,N,T,X,rfl,hi,kw,js,jz,jT⟩:=hrel;have jm:=A6 js;have jn:=A6 jz;have jp:=A6 jT;have kD:=A6 kw;have kM:=jz.node_lt;have kt:=jz.size;clear js jz jT kw;by_cases jN:i<Ws.length
  ·obtain ⟨
       b0,
         o0,ha0,hb0,q0⟩:=(Bz.kp HW.out (Kc.of jp.out (A7 _))).at jN
   have hidx:=QT a b0 o0 Ws.length cap i ha0 jN;have ki:=HS.out _ (AO jN);have j6:=VB jN;have kf:(Ws.map bts).getD i []=bts Ws[i]:=by rw [Ab,AE (by simpa using jN),← j6];rfl
   obtain ⟨s,kA⟩:∃ s,Ws[i]=s:=⟨_,rfl⟩
   rw [kA] at q0 ki j6 kf;rw [kf] at jn;have ks:=A6 j6;have ky:i<(Ws.map bts).length:=by simpa using jN
   clear ha0 j6 kf kA
   go_wp2_with fail
   go_loopg [3,6,21] s.size (fun g v3 v6 v21 wr=>∃ (k node:Nat) (N:List BV) (T:List Bn) (X:List (List UInt8)),v21=.int .i64 (k:Int)∧v6=.int .i64 (node:Int)∧k≤s.size∧g=s.size - k∧TrM wr w.heap.size v3 N T∧F0 (Ws.map bts) i k (bts s) node T X∧Below w.heap.size w wr)
   case atStart=>exact ⟨0,0,_,_,_,rfl,rfl,Nat.zero_le _,rfl,jm.out,jn.out,jp.out⟩
   case round =>
    clear jm jn jp kM kt;obtain ⟨k,node,N,T,X,rfl,rfl,hk,jV,js,jz,jT⟩:=hrel;have jE:=A6 jV;have jr:=jz.node_lt;have kt:=jz.size;have kh:node<N.length:=by rw [js.len];exact jr
    rcases js.own.blk with ⟨_,rfl⟩ | ⟨gT,cT,rfl,ke,j3,kP⟩
    · simp at kh
    have jR:=js.len;rw [jR] at js kP ⊢;obtain ⟨jM,t0,t1⟩:=js.cells jr;obtain ⟨_,t2,t3,t4⟩:=js.arcs jr;have kg:=K7 (some ⟨gT,0,none⟩) gT 0 T.length cT node rfl jr;rw [Nat.zero_add] at kg;have jX:=(js.row node jM jr).2;have jm:=A6 js;have jn:=A6 jz;have jp:=A6 jT;have jF:=A6 jX;clear js jz jT jV jX jR;by_cases kz:k<s.size
    ·have jK:k<(bts s).length:=by rw [BZ];exact kz
     have kC:=A6 (fun x=>jn.out.follow jK (x:=x));have kk:=A6 (jn.out.add ky ks.out HI.out jK);have kN:T[node].arcs.length≤256:=by
      have h1:=jn.out.tr.sorted node jr;have h2:=nodup_bound 256 (T[node].arcs.map fun x=>x.c.toNat) (by
       unfold List.Nodup;rw [Ai];refine List.Pairwise.imp_of_mem (fun {a b} ha hb hab=>?_) h1;have h3:=(jn.out.tr.fwd node jr a ha).1;have h4:=(jn.out.tr.fwd node jr b hb).1;omega) (fun x hx=>by
       obtain ⟨y,hy,rfl⟩:=AP.1 hx;have h3:=jn.out.tr.fwd node jr y hy;omega)
      simpa using h2
     obtain ⟨AL,hA⟩:∃ AL,T[node].arcs=AL:=⟨_,rfl⟩
     obtain ⟨an,j2⟩:∃ an,N[node].a=an:=⟨_,rfl⟩
     obtain ⟨cn,kc⟩:∃ cn,N[node].c=cn:=⟨_,rfl⟩
     rw [hA] at t1 t2 t3 t4 kN;rw [j2,kc] at t1;rw [j2] at t4;have jG:Hid (N[node].s=.slice an AL.length cn):=by show _=_;unfold BV.s;rw [j2,kc,t2]
     rw [jG.out,hA] at jF;have HA:=A6 hA;have jC:(bts s)[k]'jK=s[k]:=rfl;have kl:=A6 jC;have kG:=A6 t4;have hTb:T.length≤100000:=by omega
     have jU:wr.frozen? ⟨gT,node*2+1,none⟩=false:=by
      obtain ⟨cs,kd⟩:=Bo jm.out.own (g:=gT) rfl;simp [World.frozen?,kd]
     have hc0:(0:Int)≤(s[k].toNat:Int):=by omega
     have hc1:(s[k].toNat:Int)≤255:=by have:=s[k].toNat_lt;omega
     have kq:=A6 t1;have km:=A6 jU;clear hA j2 kc t2 t3 t4 jC;cases jA:AL.length with
     | zero =>
      have ju:Hid (∀ x,AL.getLast? = some x→x.c≠(s[k].toNat:Int)):=fun x hx=>by
       rw [List.eq_nil_of_length_eq_zero jA] at hx;cases hx
      have j1:Hid (AL=[]):=List.eq_nil_of_length_eq_zero jA;clear jA
      go_wp2_with fail
      refine B6 (by kernel_rfl) (Vs [vq (.int .i64 (AL.length:Int)),vq (.bool false),vq (.bool false),vq (undef),vq (undef),vq (undef),vq (undef),vq (undef),vq (undef),vq (undef),vq (undef),vq (undef),vq (undef),vq (.bool false)]) (fun W=>Ext wr W) 78 (by kernel_rfl) rfl ?hVx ?hSx ?hS (BN ?hop) ?hfin
      case hop =>
       refine ⟨?_,?k1,?_,?_,?_,?_,?_,?_,?_,?_,?_,?_,?_,?_,trivial⟩
       all_goals
        intro A W jg hS jf ja;skip;have h5:A.tmps.getD 5 undef=.string s:=ja 5 (by kernel_rfl);have h7:A.tmps.getD 7 undef=.int .i64 (k:Int):=ja 7 (by kernel_rfl);have h8:A.tmps.getD 8 undef=.slice an AL.length cn:=ja 8 (by kernel_rfl);have h9:A.tmps.getD 9 undef=.int .i64 (AL.length:Int):=ja 9 (by kernel_rfl);clear ja;simp [Aq,Region.binds,Vs,vq] at jf
       case k1 =>
        refine Ao rfl (.inl ⟨_,W,?_,rfl,Ext.refl _⟩);clear jg hS;simp [go_sem,Act.eval, *];exact j1.out
       all_goals first
        | (refine Ao rfl (.inl ⟨_,W,?_,rfl,Ext.refl _⟩);clear jg hS;simp [go_sem,Act.eval, *];done)
        | exact C2 (j:=2) (d:=33) (b:=false) rfl (by kernel_rfl) (by simp only [jf]) rfl rfl
      case hVx=>exact Av (by simp only [Aj,List.not_mem_nil,or_false,forall_eq_or_imp,forall_eq];and_intros <;> exact An _)
      case hSx=>exact fun W W' h hx=>Ext.trans h hx
      case hS=>exact Ext.refl _
      case hfin =>
       intro A W jg jD hS hv ja;obtain ⟨x,hx,hA⟩:=Aw [31,32,33,34,35,36,37,38,39,40,41,42,43,44] (by kernel_rfl) jg jD ja;have e44:x 44=.bool false:=(hx 44).trans (hv 13 (by decide));rw [hA];simp only [List.foldl];rw [e44];clear e44;simp only [Act.put,List.setIfInBounds_toArray,List.set_cons_succ,List.set_cons_zero];clear hA hx hv ja jg jD;have jq:Hid (Ext wr W):=hS;have Jx:Hid (W.cell? ⟨gT,node*2+1,none⟩=some (.slice an AL.length cn)):=Eq.trans (Below.cell hS (p:=⟨gT,node*2+1,none⟩) j3) kq.out;have j8:Hid (W.frozen? ⟨gT,node*2+1,none⟩=false):=Eq.trans (Below.frozen hS (p:=⟨gT,node*2+1,none⟩) j3) km.out;clear hS;obtain ⟨X',je⟩:=kk.out (by rw [HA.out];exact ju.out);rw [kl.out] at je;have jo:=A6 je;have jj:=A6 (jF.out.later jq.out (A7 _));have ji:=A6 (jm.out.ext jq.out);have jl:Hid (Below w.heap.size w W):=jp.out.trans (Below.mono jq.out jp.out.size);have jt:Hid (w.heap.size≤W.heap.size):=jl.out.size;clear je jq
       go_upto_region 14 with (first | (at_builtin;go_loud ((refine B5 (v:=.slice an AL.length cn) Dl rfl _ _ rfl rfl (jj.out.later ((Below.refl _ _).alloc (A7 _) _) (A7 _)) ⟨W.heap.size,0,none⟩ 1 [⟨(s[k].toNat:Int),(T.length:Int)⟩] rfl (BA (heap_alloc_new _ _)) (by simp only [AI];omega) (by have:=jt.out;simp only [AA];omega) ?_);intro v5 w5 jd jb jw;obtain ⟨a5,c5,jY, -, -⟩:=jd.form;rw [AF,AI] at jY;subst jY;have jJ:w5.heap[gT]? = W.heap[gT]?:=(jb.block gT (by have:=ji.out.own.lt gT rfl;simp only [AA];omega) (fun e=>ji.out.ne jM (by rw [jG.out];exact e.symm))).trans (Below.heap_alloc _ _ _ (ji.out.own.lt gT rfl));have q5:=(World.cell?_of_block (a:=⟨gT,node*2+1,none⟩) jJ).trans Jx.out;have f5:=(World.frozen?_of_block (a:=⟨gT,node*2+1,none⟩) jJ).trans j8.out;have Ji:=A6 jd;have jP:=A6 jb;have j7:=A6 jw;clear jd jb jw jJ)))
       obtain ⟨w6,jB⟩:∃ w6,w5.setCell ⟨gT,node*2+1,none⟩ (.slice a5 (AL.length+1) c5)=w6:=⟨_,rfl⟩
       rw [jB];have jh:Hid (TrM w6 w.heap.size (.slice (some ⟨gT,0,none⟩) T.length cT) (N.set node ⟨N[node].word,a5,AL.length+1,c5⟩) (Ec T node ⟨(s[k].toNat:Int),(T.length:Int)⟩)):=by
        show TrM _ _ _ _ _;have h:=(ji.out.ext ((Below.refl _ W).alloc (A7 _) (.cells #[.int .u8 (s[k].toNat:Int),.int .i64 (T.length:Int)] 155))).put1 (k:=node) (x:=⟨(s[k].toNat:Int),(T.length:Int)⟩) (a':=a5) (c':=c5) jM jr (by rw [HA.out];exact Ji.out) (by rw [jG.out];exact jP.out) (by rw [HA.out,jG.out];exact j7.out);rw [HA.out,jB] at h;exact h
       have jy:Hid (Below w.heap.size w w6):=by
        show Below _ _ _;rw [← jB];exact ((jl.out.trans (((Below.refl _ W).alloc (A7 _) _).mono jl.out.size)).grown jP.out (by have:=jt.out;simp only [AA];omega) fun q hq=>jj.out.ge q hq).setCell (show w.heap.size≤(⟨gT,node*2+1,none⟩:Addr).block from ke) _
       have jH:(N.set node ⟨N[node].word,a5,AL.length+1,c5⟩).length=T.length:=by rw [List.length_set];exact jm.out.len
       obtain ⟨N6,jv⟩:∃ N6,N.set node ⟨N[node].word,a5,AL.length+1,c5⟩=N6:=⟨_,rfl⟩
       rw [jv] at jh jH;have j9:=A6 jH;clear jB q5 f5 jv jH
       go_wp2_with (at_builtin;go_loud (refine B5 (v:=.slice (some ⟨gT,0,none⟩) T.length cT) Ef rfl _ _ rfl rfl (jh.out.own.later ((Below.refl _ _).alloc (A7 _) _) (A7 _)) ⟨w6.heap.size,0,none⟩ 1 [⟨-1,none,0,0⟩] rfl (BA (heap_alloc_new _ _)) (by have:=j9.out;simp only [AI];omega) (by have:=jy.out.size;simp only [AA];omega) ?_);intro v7 w7 jk jc jI;have Js:=A6 jk;have jQ:=A6 jc;clear jk jc jI)
       go_roundg (s.size - (k+1))
       case measure=>have:=jE.out;omega
       case rel =>
        have jS:Below w.heap.size w w7:=(jy.out.trans (((Below.refl _ w6).alloc (A7 _) _).mono jy.out.size)).grown jQ.out (by have:=jy.out.size;simp only [AA];omega) fun q hq=>jh.out.own.ge q hq;exact ⟨k+1,T.length,_,Ez T node s[k],X',by go_num,rfl,by omega,rfl,(jh.out.ext ((Below.refl _ _).alloc (A7 _) _)).grow Js.out jQ.out jS.size,jo.out,jS⟩
     | succ p =>
      have hp:p<AL.length:=by omega
      have j4:(AL.length:Int) - 1=(p:Int):=by omega
      have jZ:IntKind.i64.wrap ((AL.length:Int) - 1)=(p:Int):=by rw [j4];exact IntWalk.i64_in _ (by omega)
      have j1:Hid (0<AL.length):=by show 0<_;omega
      have kx:AL.getLast? = some AL[p]:=by rw [List.getLast?_eq_getElem?,show AL.length - 1=p by omega,AE hp]
      have kE:=A6 kx;have ka:=A6 jZ;obtain ⟨b2,o2,ku,kb,l0,l1⟩:=kG.out.at hp;have hi2:=F5 an b2 o2 AL.length cn p ku hp;have j0:=A6 l0;have kn:=A6 l1;have kF:=A6 j4;clear jA kx ku l0 l1 jZ j4;by_cases jO:AL[p].c=(s[k].toNat:Int)
      ·have jL:(AL[p].c == (s[k].toNat:Int))=true:=by rw [jO];simp
       have je:=kC.out AL[p] (by rw [HA.out];exact AO hp) jO;have kQ:=jn.out.tr.fwd node jr AL[p] (by rw [HA.out];exact AO hp);have jo:=A6 je;obtain ⟨m,hm⟩:∃ m:Nat,AL[p].t=(m:Int):=⟨AL[p].t.toNat,by omega⟩
       rw [hm,Int.toNat_natCast] at jo;rw [hm] at kn;obtain ⟨xc,jx⟩:∃ xc,AL[p].c=xc:=⟨_,rfl⟩
       rw [jx] at j0 jL;clear jO je kQ hm jx
       go_wp2_with fail
       refine B6 (by kernel_rfl) (Vs [vq (.int .i64 (AL.length:Int)),vq (.bool true),vq (.bool true),vq (.slice an AL.length cn),vq (.int .i64 (AL.length:Int)),vq (.int .i64 (p:Int)),vq (.pointer (some ⟨b2,o2+p*2,none⟩)),vq (.pointer (some ⟨b2,o2+p*2,none⟩)),vq (.int .u8 xc),vq (.string s),vq (.int .i64 (k:Int)),vq (.int .u8 (s[k].toNat:Int)),vq (.bool true),vq (.bool true)]) (fun W=>Ext wr W) 78 (by kernel_rfl) rfl ?hVx ?hSx ?hS (BN ?hop) ?hfin
       case hop =>
        refine ⟨?_,?k1,?_,?_,?_,?_,?_,?_,?_,?_,?_,?k11,?_,?_,trivial⟩
        all_goals
         intro A W jg hS jf ja;have l0:=Eq.trans (Below.cell hS (p:=⟨b2,o2+p*2,none⟩) kb) j0.out;have jZ:=ka.out;have h5:A.tmps.getD 5 undef=.string s:=ja 5 (by kernel_rfl);have h7:A.tmps.getD 7 undef=.int .i64 (k:Int):=ja 7 (by kernel_rfl);have h8:A.tmps.getD 8 undef=.slice an AL.length cn:=ja 8 (by kernel_rfl);have h9:A.tmps.getD 9 undef=.int .i64 (AL.length:Int):=ja 9 (by kernel_rfl);clear ja;simp [Aq,Region.binds,Vs,vq] at jf
        case k1 =>
         refine Ao rfl (.inl ⟨_,W,?_,rfl,Ext.refl _⟩);clear jg hS;simp [go_sem,Act.eval, *];exact j1.out
        case k11 =>
         refine B2 (j:=2) (d:=33) (b:=true) rfl (by kernel_rfl) (by simp only [jf]) rfl (.inl ⟨_,W,?_,rfl,Ext.refl _⟩);clear jg hS;simp [go_sem,Act.eval, *]
         all_goals rfl
        all_goals first
         | (refine Ao rfl (.inl ⟨_,W,?_,rfl,Ext.refl _⟩);clear jg hS;simp [go_sem,Act.eval, *];done)
         | (refine B2 (j:=2) (d:=33) (b:=true) rfl (by kernel_rfl) (by simp only [jf]) rfl (.inl ⟨_,W,?_,rfl,Ext.refl _⟩);clear jg hS;simp [go_sem,Act.eval, *];done)
       case hVx=>exact Av (by simp only [Aj,List.not_mem_nil,or_false,forall_eq_or_imp,forall_eq];and_intros <;> exact An _)
       case hSx=>exact fun W W' h hx=>Ext.trans h hx
       case hS=>exact Ext.refl _
       case hfin =>
        intro A W jg jD hS hv ja;obtain ⟨x,hx,hA⟩:=Aw [31,32,33,34,35,36,37,38,39,40,41,42,43,44] (by kernel_rfl) jg jD ja;have e44:x 44=.bool true:=(hx 44).trans (hv 13 (by decide));rw [hA];simp only [List.foldl];rw [e44];clear e44;simp only [Act.put,List.setIfInBounds_toArray,List.set_cons_succ,List.set_cons_zero];clear hA hx hv ja jg jD;have jq:Hid (Ext wr W):=hS;have l1:=Eq.trans (Below.cell hS (p:=⟨b2,o2+p*2+1,none⟩) kb) kn.out;have jZ:=ka.out;have j4:=kF.out;clear hS
        go_wp2_with fail
        go_roundg (s.size - (k+1))
        case measure=>have:=jE.out;omega
        case rel=>exact ⟨k+1,m,N,T,X,by go_num,rfl,by omega,rfl,jm.out.ext jq.out,jo.out,jp.out.trans (Below.mono jq.out jp.out.size)⟩
      ·have jL:(AL[p].c == (s[k].toNat:Int))=false:=by simpa using jO
       have ju:Hid (∀ x,AL.getLast? = some x→x.c≠(s[k].toNat:Int)):=fun x hx=>by
        rw [kE.out] at hx;injection hx with hx;rw [← hx];exact jO
       obtain ⟨xc,jx⟩:∃ xc,AL[p].c=xc:=⟨_,rfl⟩
       rw [jx] at j0 jL;clear jO jx
       go_wp2_with fail
       refine B6 (by kernel_rfl) (Vs [vq (.int .i64 (AL.length:Int)),vq (.bool true),vq (.bool true),vq (.slice an AL.length cn),vq (.int .i64 (AL.length:Int)),vq (.int .i64 (p:Int)),vq (.pointer (some ⟨b2,o2+p*2,none⟩)),vq (.pointer (some ⟨b2,o2+p*2,none⟩)),vq (.int .u8 xc),vq (.string s),vq (.int .i64 (k:Int)),vq (.int .u8 (s[k].toNat:Int)),vq (.bool false),vq (.bool false)]) (fun W=>Ext wr W) 78 (by kernel_rfl) rfl ?hVx ?hSx ?hS (BN ?hop) ?hfin
       case hop =>
        refine ⟨?_,?k1,?_,?_,?_,?_,?_,?_,?_,?_,?_,?k11,?_,?_,trivial⟩
        all_goals
         intro A W jg hS jf ja;have l0:=Eq.trans (Below.cell hS (p:=⟨b2,o2+p*2,none⟩) kb) j0.out;have jZ:=ka.out;have h5:A.tmps.getD 5 undef=.string s:=ja 5 (by kernel_rfl);have h7:A.tmps.getD 7 undef=.int .i64 (k:Int):=ja 7 (by kernel_rfl);have h8:A.tmps.getD 8 undef=.slice an AL.length cn:=ja 8 (by kernel_rfl);have h9:A.tmps.getD 9 undef=.int .i64 (AL.length:Int):=ja 9 (by kernel_rfl);clear ja;simp [Aq,Region.binds,Vs,vq] at jf
        case k1 =>
         refine Ao rfl (.inl ⟨_,W,?_,rfl,Ext.refl _⟩);clear jg hS;simp [go_sem,Act.eval, *];exact j1.out
        case k11 =>
         refine B2 (j:=2) (d:=33) (b:=true) rfl (by kernel_rfl) (by simp only [jf]) rfl (.inl ⟨_,W,?_,rfl,Ext.refl _⟩);clear jg hS;simp [go_sem,Act.eval, *]
         all_goals rfl
        all_goals first
         | (refine Ao rfl (.inl ⟨_,W,?_,rfl,Ext.refl _⟩);clear jg hS;simp [go_sem,Act.eval, *];done)
         | (refine B2 (j:=2) (d:=33) (b:=true) rfl (by kernel_rfl) (by simp only [jf]) rfl (.inl ⟨_,W,?_,rfl,Ext.refl _⟩);clear jg hS;simp [go_sem,Act.eval, *];done)
       case hVx=>exact Av (by simp only [Aj,List.not_mem_nil,or_false,forall_eq_or_imp,forall_eq];and_intros <;> exact An _)
       case hSx=>exact fun W W' h hx=>Ext.trans h hx
       case hS=>exact Ext.refl _
       case hfin =>
        intro A W jg jD hS hv ja;obtain ⟨x,hx,hA⟩:=Aw [31,32,33,34,35,36,37,38,39,40,41,42,43,44] (by kernel_rfl) jg jD ja;have e44:x 44=.bool false:=(hx 44).trans (hv 13 (by decide));rw [hA];simp only [List.foldl];rw [e44];clear e44;simp only [Act.put,List.setIfInBounds_toArray,List.set_cons_succ,List.set_cons_zero];clear hA hx hv ja jg jD;have jq:Hid (Ext wr W):=hS;have Jx:Hid (W.cell? ⟨gT,node*2+1,none⟩=some (.slice an AL.length cn)):=Eq.trans (Below.cell hS (p:=⟨gT,node*2+1,none⟩) j3) kq.out;have j8:Hid (W.frozen? ⟨gT,node*2+1,none⟩=false):=Eq.trans (Below.frozen hS (p:=⟨gT,node*2+1,none⟩) j3) km.out;clear hS;obtain ⟨X',je⟩:=kk.out (by rw [HA.out];exact ju.out);rw [kl.out] at je;have jo:=A6 je;have jj:=A6 (jF.out.later jq.out (A7 _));have ji:=A6 (jm.out.ext jq.out);have jl:Hid (Below w.heap.size w W):=jp.out.trans (Below.mono jq.out jp.out.size);have jt:Hid (w.heap.size≤W.heap.size):=jl.out.size;clear je jq
        go_upto_region 14 with (first | (at_builtin;go_loud ((refine B5 (v:=.slice an AL.length cn) Dl rfl _ _ rfl rfl (jj.out.later ((Below.refl _ _).alloc (A7 _) _) (A7 _)) ⟨W.heap.size,0,none⟩ 1 [⟨(s[k].toNat:Int),(T.length:Int)⟩] rfl (BA (heap_alloc_new _ _)) (by simp only [AI];omega) (by have:=jt.out;simp only [AA];omega) ?_);intro v5 w5 jd jb jw;obtain ⟨a5,c5,jY, -, -⟩:=jd.form;rw [AF,AI] at jY;subst jY;have jJ:w5.heap[gT]? = W.heap[gT]?:=(jb.block gT (by have:=ji.out.own.lt gT rfl;simp only [AA];omega) (fun e=>ji.out.ne jM (by rw [jG.out];exact e.symm))).trans (Below.heap_alloc _ _ _ (ji.out.own.lt gT rfl));have q5:=(World.cell?_of_block (a:=⟨gT,node*2+1,none⟩) jJ).trans Jx.out;have f5:=(World.frozen?_of_block (a:=⟨gT,node*2+1,none⟩) jJ).trans j8.out;have Ji:=A6 jd;have jP:=A6 jb;have j7:=A6 jw;clear jd jb jw jJ)))
        obtain ⟨w6,jB⟩:∃ w6,w5.setCell ⟨gT,node*2+1,none⟩ (.slice a5 (AL.length+1) c5)=w6:=⟨_,rfl⟩
        rw [jB];have jh:Hid (TrM w6 w.heap.size (.slice (some ⟨gT,0,none⟩) T.length cT) (N.set node ⟨N[node].word,a5,AL.length+1,c5⟩) (Ec T node ⟨(s[k].toNat:Int),(T.length:Int)⟩)):=by
         show TrM _ _ _ _ _;have h:=(ji.out.ext ((Below.refl _ W).alloc (A7 _) (.cells #[.int .u8 (s[k].toNat:Int),.int .i64 (T.length:Int)] 155))).put1 (k:=node) (x:=⟨(s[k].toNat:Int),(T.length:Int)⟩) (a':=a5) (c':=c5) jM jr (by rw [HA.out];exact Ji.out) (by rw [jG.out];exact jP.out) (by rw [HA.out,jG.out];exact j7.out);rw [HA.out,jB] at h;exact h
        have jy:Hid (Below w.heap.size w w6):=by
         show Below _ _ _;rw [← jB];exact ((jl.out.trans (((Below.refl _ W).alloc (A7 _) _).mono jl.out.size)).grown jP.out (by have:=jt.out;simp only [AA];omega) fun q hq=>jj.out.ge q hq).setCell (show w.heap.size≤(⟨gT,node*2+1,none⟩:Addr).block from ke) _
        have jH:(N.set node ⟨N[node].word,a5,AL.length+1,c5⟩).length=T.length:=by rw [List.length_set];exact jm.out.len
        obtain ⟨N6,jv⟩:∃ N6,N.set node ⟨N[node].word,a5,AL.length+1,c5⟩=N6:=⟨_,rfl⟩
        rw [jv] at jh jH;have j9:=A6 jH;clear jB q5 f5 jv jH
        go_wp2_with (at_builtin;go_loud (refine B5 (v:=.slice (some ⟨gT,0,none⟩) T.length cT) Ef rfl _ _ rfl rfl (jh.out.own.later ((Below.refl _ _).alloc (A7 _) _) (A7 _)) ⟨w6.heap.size,0,none⟩ 1 [⟨-1,none,0,0⟩] rfl (BA (heap_alloc_new _ _)) (by have:=j9.out;simp only [AI];omega) (by have:=jy.out.size;simp only [AA];omega) ?_);intro v7 w7 jk jc jI;have Js:=A6 jk;have jQ:=A6 jc;clear jk jc jI)
        go_roundg (s.size - (k+1))
        case measure=>have:=jE.out;omega
        case rel =>
         have jS:Below w.heap.size w w7:=(jy.out.trans (((Below.refl _ w6).alloc (A7 _) _).mono jy.out.size)).grown jQ.out (by have:=jy.out.size;simp only [AA];omega) fun q hq=>jh.out.own.ge q hq;exact ⟨k+1,T.length,_,Ez T node s[k],X',by go_num,rfl,by omega,rfl,(jh.out.ext ((Below.refl _ _).alloc (A7 _) _)).grow Js.out jQ.out jS.size,jo.out,jS⟩
    ·have kK:=A6 (jn.out.wordEnd ky ks.out HI.out (by rw [BZ];exact kz) (by omega) ((Ws.map bts).getD (i+1) []));have kj:=jm.out.word (i:=(i:Int)) jM;obtain ⟨w9,j5⟩:∃ w9,wr.setCell ⟨gT,node*2,none⟩ (.int .i64 (i:Int))=w9:=⟨_,rfl⟩
     have kv:Below w.heap.size w w9:=by
      rw [← j5];exact jp.out.setCell (show w.heap.size≤(⟨gT,node*2,none⟩:Addr).block from ke) _
     rw [j5] at kj;have kJ:=A6 kj;have kB:=A6 kv;have kr:=A6 j5;have jU:wr.frozen? ⟨gT,node*2,none⟩=false:=by
      obtain ⟨cs,kd⟩:=Bo jm.out.own (g:=gT) rfl;simp [World.frozen?,kd]
     clear kj kv j5
     go_wp2_with fail
     go_roundg (Ws.length - (i+1))
     case measure=>have:=kD.out;omega
     case rel=>exact ⟨i+1,_,_,X,by go_num,by omega,rfl,by rw [kr.out];exact kJ.out,kK.out,by rw [kr.out];exact kB.out⟩
  ·have kL:i=Ws.length:=by omega
   subst kL;obtain ⟨ax,cx,kO, -, -⟩:=jm.out.own.form;subst kO;have jR:=jm.out.len;rw [jR] at jm ⊢;have kH:=A6 (F0.done (W:=Ws.map bts) (by
    have:=jn.out;rw [show Ws.length=(Ws.map bts).length by simp] at this;exact this) HI.out)
   have kI:=A6 jm.out.tree;clear jR;go_wp2;go_ret;exact ⟨⟨_,_,_,T,rfl,rfl,kI.out,kH.out⟩,jp.out⟩
def sxM (acc:Int) (v1:Value) (aT:Option Addr) (nT cT:Nat) (aL:Option Addr) (nL cL:Nat) (f:Nat→Value):Array Value :=
 #[.int .u8 acc,v1,.slice aT nT cT,.slice aL nL cL,f 0,f 1,f 2,f 3,f 4]
def mpV (k:Nat) (gm:Nat→Nat) (j:Nat):Value:=if j<k then .map (some (gm j)) else .map none
theorem TZ {acc:Int} {v1:Value} {aT:Option Addr} {nT cT:Nat} {aL:Option Addr} {nL cL:Nat} {gm:Nat→Nat} {k g:Nat} (hk:k<5) :
  (sxM acc v1 aT nT cT aL nL cL (mpV k gm)).setIfInBounds (4+k) (.map (some g))=sxM acc v1 aT nT cT aL nL cL (mpV (k+1) (Fu gm k g)):=by
 rcases (show k=0∨k=1∨k=2∨k=3∨k=4 from by omega) with rfl | rfl | rfl | rfl | rfl <;> simp [sxM,mpV,Fu]
theorem SP {acc:Int} {aR:Option Addr} {nR cR:Nat} {aT:Option Addr} {nT cT:Nat} {aL:Option Addr} {nL cL:Nat} {gm:Nat→Nat}:sxM acc (.slice aR nR cR) aT nT cT aL nL cL (mpV 5 gm)=sxC acc aR nR cR aT nT cT aL nL cL gm:=by
 simp [sxM,sxC,mpV]
structure NsM (w0 w:World) (gx:Nat) (cs:Array Value) (k:Nat) (gm:Nat→Nat):Prop where
 rep:w.heap[gx]? = some (.cells cs 120 (0,0))
 maps:∀ j,j<k→MpG CA w (gm j) []∧w0.heap.size≤gm j
 apart:∀ a b,a<k→b<k→gm a=gm b→a=b
 gx:w0.heap.size≤gx
 bl:Below w0.heap.size w0 w
theorem NsM.ext {w0 w w':World} {gx:Nat} {cs:Array Value} {k:Nat} {gm:Nat→Nat} (h:NsM w0 w gx cs k gm) (hx:Ext w w'):NsM w0 w' gx cs k gm :=
 ⟨(Below.block hx _ (A9.1 h.rep).1).trans h.rep,fun j hj=>⟨(h.maps j hj).1.kept (Below.block hx _ (h.maps j hj).1.lt),(h.maps j hj).2⟩,h.apart,h.gx,h.bl.trans (Below.mono hx h.bl.size)⟩
theorem NsM.put {w0 w:World} {gx:Nat} {acc:Int} {v1:Value} {aT:Option Addr} {nT cT:Nat} {aL:Option Addr} {nL cL:Nat} {k:Nat} {gm:Nat→Nat} (h:NsM w0 w gx (sxM acc v1 aT nT cT aL nL cL (mpV k gm)) k gm) (hk:k<5) :
  NsM w0 ((w.alloc (.map #[] 0)).setCell ⟨gx,4+k,none⟩ (.map (some w.heap.size))) gx (sxM acc v1 aT nT cT aL nL cL (mpV (k+1) (Fu gm k w.heap.size))) (k+1) (Fu gm k w.heap.size):=by
 have jc:=(A9.1 h.rep).1;have jb:∀ q,q≠gx→((w.alloc (.map #[] 0)).setCell ⟨gx,4+k,none⟩ (.map (some w.heap.size))).heap[q]? = (w.alloc (.map #[] 0)).heap[q]?:=fun q hq=>Below.heap_setCell _ _ _ _ hq;have hr:(w.alloc (.map #[] 0)).heap[gx]? = some (.cells (sxM acc v1 aT nT cT aL nL cL (mpV k gm)) 120 (0,0)):=(Below.heap_alloc _ _ _ jc).trans h.rep;have jd:∀ j,j<k→gm j≠gx:=fun j hj e=>by
  obtain ⟨es,c,hm⟩:=(h.maps j hj).1.obj;rw [e,h.rep] at hm;cases hm
 refine ⟨?_,fun j hj=>?_,fun a b ha hb ja=>?_,h.gx,?_⟩
 · rw [heap_setCell_same _ gx (4+k) _ _ _ hr,TZ hk]
 ·unfold Fu;by_cases e:j=k
  ·rw [if_pos e];exact ⟨(MpG.new CA w).kept (jb _ (by omega)),h.bl.size⟩
  ·rw [if_neg e];have h1:=h.maps j (by omega);refine ⟨(h1.1.kept (Below.heap_alloc _ _ _ h1.1.lt)).kept (jb _ (jd j (by omega))),h1.2⟩
 ·unfold Fu at ja;by_cases e:a=k
  ·rw [if_pos e] at ja;by_cases e2:b=k
   · omega
   ·rw [if_neg e2] at ja;have:=(h.maps b (by omega)).1.lt;omega
  ·rw [if_neg e] at ja;by_cases e2:b=k
   ·rw [if_pos e2] at ja;have:=(h.maps a (by omega)).1.lt;omega
   ·rw [if_neg e2] at ja;exact h.apart a b (by omega) (by omega) ja
 · exact (h.bl.trans (((Below.refl _ w).alloc (A7 _) _).mono h.bl.size)).setCell (show w0.heap.size≤(⟨gx,4+k,none⟩:Addr).block from h.gx) _
def
  NsP (R:List Rl) (Ws:List ByteArray) (acc:Int) (aL:Option Addr) (nL cL:Nat) (w:World) (e:Ending) (w':World):Prop :=
 ∃
  gx aR cR aT cT gm T,e=.returned (.pointer (some ⟨gx,0,none⟩))∧SX w' gx acc aR (R.filter CC).length cR aT T.length cT aL nL cL gm∧BL w' aR (R.filter CC)∧Dz w' aT T∧TrW T (Ws.map bts)∧UC w.heap.size gm ∧
  MpG CA w' (gm 0) [((0,0),0)]∧(∀ j,0<j→j<5→MpG CA w' (gm j) [])
def WdS (Ws:List ByteArray) (v:Value) (W:World):Prop:=∃ a c,v=.slice a Ws.length c∧Bz W a Ws
theorem QU (Ws:List ByteArray):CQ (WdS Ws):=by
 rintro v w w' ⟨a,c,h1,h2⟩ hx;exact ⟨a,c,h1,h2.later hx (A7 _)⟩
def BgS (Ws:List ByteArray) (v:Value) (W:World):Prop:=∃ aT cT T,v=.slice aT T.length cT∧Dz W aT T∧TrW T (Ws.map bts)
theorem QV (Ws:List ByteArray):CQ (BgS Ws):=by
 rintro v w w' ⟨a,c,T,h1,h2,h3⟩ hx;exact ⟨a,c,T,h1,h2.later hx (A7 _),h3⟩
def RpS (Ws:List ByteArray) (acc:Int) (aL:Option Addr) (nL cL:Nat) (v:Value) (W:World):Prop:=∃ aT cT T,v=.agg #[.int .u8 acc,.slice none 0 0,.slice aT T.length cT,.slice aL nL cL,.map none,.map none,.map none,.map none,.map none]∧Dz W aT T∧TrW T (Ws.map bts)
theorem QW (Ws:List ByteArray) (acc:Int) (aL:Option Addr) (nL cL:Nat):CQ (RpS Ws acc aL nL cL):=by
 rintro v w w' ⟨a,c,T,h1,h2,h3⟩ hx;exact ⟨a,c,T,h1,h2.later hx (A7 _),h3⟩
def PxS (w1:World) (Ws:List ByteArray) (acc:Int) (aL:Option Addr) (nL cL:Nat) (v:Value) (W:World):Prop:=∃ g aT cT T W0,v=.pointer (some ⟨g,0,none⟩)∧W0.heap.size≤g∧W.heap[g]? = some (.cells #[.int .u8 acc,.slice none 0 0,.slice aT T.length cT,.slice aL nL cL,.map none,.map none,.map none,.map none,.map none] 120 (0,0))∧Dz W0 aT T∧TrW T (Ws.map bts)∧Below W0.heap.size W0 W∧Below w1.heap.size w1 W0
theorem LP (w1:World) (Ws:List ByteArray) (acc:Int) (aL:Option Addr) (nL cL:Nat):CQ (PxS w1 Ws acc aL nL cL):=by
 rintro v w w' ⟨g,a,c,T,W0,h1,h0,hg,h2,h3,h4,h5⟩ hx;exact ⟨g,a,c,T,W0,h1,h0,(Below.block hx g (A9.1 hg).1).trans hg,h2,h3,h4.trans (Below.mono hx h4.size),h5⟩
theorem NsM.rules {w0 w W:World} {gx B:Nat} {acc:Int} {v1:Value} {aT:Option Addr} {nT cT:Nat} {aL:Option Addr} {nL cL:Nat} {gm:Nat→Nat} {L1 L2:List Rl} {ya:Option Addr} {yc:Nat} (h:NsM w0 w gx (sxM acc v1 aT nT cT aL nL cL (mpV 5 gm)) 5 gm) (ho:As Cj w B v1 L1) (hp:Gx Cj w B v1 L2 (.slice ya L2.length yc) W) (hB:w0.heap.size≤B) :
  NsM w0 (W.setCell ⟨gx,1,none⟩ (.slice ya L2.length yc)) gx (sxM acc (.slice ya L2.length yc) aT nT cT aL nL cL (mpV 5 gm)) 5 gm∧As Cj (W.setCell ⟨gx,1,none⟩ (.slice ya L2.length yc)) B (.slice ya L2.length yc) L2:=by
 have jc:=(A9.1 h.rep).1;have jb:∀ q,q≠gx→(W.setCell ⟨gx,1,none⟩ (.slice ya L2.length yc)).heap[q]? = W.heap[q]?:=fun q hq=>Below.heap_setCell _ _ _ _ hq;have ja:v1.ownBlock≠some gx:=fun e=>by
  obtain ⟨cs,h1⟩:=Bo ho e;rw [h.rep] at h1;injection h1 with h1;injection h1 with _ h2;exact absurd h2 (by decide)
 have hr:W.heap[gx]? = some (.cells (sxM acc v1 aT nT cT aL nL cL (mpV 5 gm)) 120 (0,0)):=(hp.block gx jc ja).trans h.rep;refine ⟨⟨?_,fun j hj=>⟨?_,(h.maps j hj).2⟩,h.apart,h.gx,?_⟩,hp.own.keep fun g hg=>jb g fun e=>?_⟩
 · rw [heap_setCell_same W gx 1 _ _ _ hr];rfl
 ·have h1:=(h.maps j hj).1;refine (h1.kept (hp.block _ h1.lt fun e=>h1.not_row ho e)).kept (jb _ fun e=>?_);obtain ⟨es,c,hm⟩:=h1.obj;rw [e,h.rep] at hm;cases hm
 · refine Below.setCell (h.bl.trans (hp.below (C:=w0.heap.size) h.bl.size fun q hq=>AC hB (ho.ge q hq))) (show w0.heap.size≤(⟨gx,1,none⟩:Addr).block from h.gx) _
 ·rcases hp.loc with h1 | ⟨q,h1,h2⟩
  · rw [h1] at hg;exact ja (by rw [hg,e])
  · rw [h1] at hg;injection hg with hg;omega
theorem newSearch_any (R:List Rl) (modes acc:Int) (aS:Option Addr) (cS:Nat) (D:List Nd) (aD:Option Addr) (cD:Nat) (aL:Option Addr) (nL cL:Nat) (w:World) (hR:BL w aS R) (hRl:R.length≤1000) (hD:Cc w aD D) (kG:D.length≤9223372036854775807) (hC:Kf D)
  (hl:(BQ D).length≤1000) (hs:∀ x∈BQ D,x.size≤20) (jM:((BQ D).map bts).Pairwise fun a b=>Op.bytesLess a b=true) :
  Calls Tryz.prog 32 #[.agg #[.int .i64 modes,.int .u8 acc,.slice aS R.length cS],.slice aD D.length cD,.slice aL nL cL] w fun e w'=>NsP R (BQ D) acc aL nL cL w e w'∧Below w.heap.size w w':=by
 have HR:=A6 hR;have HD:=A6 hD;have HC:=A6 hC;have HS:=A6 hs;have HI:=A6 jM;clear hR hD hC hs jM;have jX:=@run_makeMap Tryz.prog;have kz:=A6 jX;clear jX
 go_enter Tryz.func32,Tryz.ntmps32
 go_wp2_with fail
 obtain ⟨w1,jZ⟩:∃ w1,w.alloc (.cells #[.int .i64 modes,.int .u8 acc,.slice aS R.length cS] 32)=w1:=⟨_,rfl⟩
 rw [jZ];have jT:Hid (Ext w w1):=by
  show Ext _ _;rw [← jZ];exact (Below.refl _ _).alloc (A7 _) _
 have j1:Hid (w1.heap[w.heap.size]? = some (.cells #[.int .i64 modes,.int .u8 acc,.slice aS R.length cS] 32 (0,0))):=by
  show _=_;rw [← jZ];exact heap_alloc_new _ _
 obtain ⟨gs,j9⟩:∃ gs,w.heap.size=gs:=⟨_,rfl⟩
 rw [j9] at j1 ⊢;have HGS:=A6 j9;clear jZ j9;refine B4 (by kernel_rfl) (Vs [vq (.pointer (some ⟨gs,1,none⟩)),vq (.int .u8 acc),vq (.slice aD D.length cD),WdS (BQ D),BgS (BQ D),vq (.slice aL nL cL),RpS (BQ D) acc aL nL cL,PxS w1 (BQ D) acc aL nL cL,PxS w1 (BQ D) acc aL nL cL]) (Xs []) (fun fL=>(fun W=>Ext w1 W) ) [0,1,0,4,12,0,63,127,255] 53 9 (by kernel_rfl) rfl ?hV ?hS ?hop ?hfin ?hlast
 case hV =>
  refine BC (Av (by simp only [Aj,List.not_mem_nil,or_false,forall_eq_or_imp,forall_eq];exact ⟨An _,An _,An _,QU _,QV _,An _,QW _ _ _ _ _,LP _ _ _ _ _ _,LP _ _ _ _ _ _⟩)) ?_;exact trivial
 case hS =>
  intro fL hf;show (fun W=>Ext w1 W)  _
  first | exact Ext.refl _ | exact Bh _
 case hop =>
  refine ⟨?_,?_,?_,?c3,?c4,?_,?c6,?c7,?c8,trivial⟩
  all_goals first | rw [if_neg (by decide)] | rw [if_pos (by decide)]
  all_goals try intro ac W fL jg jl jY jV jb jc ja jz
  all_goals try have hS:(fun W=>Ext w1 W)  W:=jb
  all_goals try (
   have ks:Kc w1 W:=Kc.of hS (A7 _);have x1:=ks.cell (p:=⟨gs,1,none⟩) (v:=.int .u8 acc) (by rw [cell_of_row w1 gs 1 _ _ (0,0) j1.out];rfl);clear ks)
  all_goals try have hh3:=gdA ac 3 (.pointer (some ⟨gs,0,none⟩)) (ja 3 (by kernel_rfl))
  all_goals try have hh1:=gdA ac 1 (.slice aD D.length cD) (ja 1 (by kernel_rfl))
  all_goals try have hh2:=gdA ac 2 (.slice aL nL cL) (ja 2 (by kernel_rfl))
  all_goals try have d14:(WdS (BQ D)) (ac.tmps.getD 14 undef) W:=jc 3 (by decide)
  all_goals try have d15:(BgS (BQ D)) (ac.tmps.getD 15 undef) W:=jc 4 (by decide)
  all_goals try have d17:(RpS (BQ D) acc aL nL cL) (ac.tmps.getD 17 undef) W:=jc 6 (by decide)
  all_goals try have d18:(PxS w1 (BQ D) acc aL nL cL) (ac.tmps.getD 18 undef) W:=jc 7 (by decide)
  all_goals try (have jc:=DN jc;simp [D8,Aq,vq] at jc)
  all_goals try clear ja jY jV jz
  case c3 =>
   have jh:(fun W=>Ext w1 W)  W:=jb;refine Ao rfl (.inr ⟨62,#[.slice aD D.length cD],W,by (clear jg hS jb jh jl;simp [go_sem,Act.eval, *]),?_⟩);refine (QB D aD cD W ((HD.out.later jT.out (A7 _)).later hS (A7 _)) kG HC.out).mono ?_;rintro e w' ⟨a1,c1,rfl,kL,_,hb⟩;exact ⟨_,rfl,⟨⟨a1,c1,rfl,kL⟩,hb,Ext.trans jb hb⟩⟩
  case c4 =>
   have jh:(fun W=>Ext w1 W)  W:=jb;obtain ⟨a1,c1,e14,jO⟩:=d14;rw [A8] at e14;refine Ao rfl (.inr ⟨61,#[.slice a1 (BQ D).length c1],W,by (clear jg hS jb jh jl jO;simp [go_sem,Act.eval, *]),?_⟩);refine (begin_any (BQ D) (BQ D).length a1 c1 W jO rfl hl HS.out HI.out).mono ?_;rintro e w' ⟨⟨aT,nT,cT,T,rfl,rfl,hT,hW⟩,hb⟩;exact ⟨_,rfl,⟨⟨aT,cT,T,rfl,hT,hW⟩,hb,Ext.trans jb hb⟩⟩
  case c6 =>
   have jh:(fun W=>Ext w1 W)  W:=jb;obtain ⟨aT,cT,T,e15,jC,jE⟩:=d15;rw [A8] at e15;refine Ao rfl (.inl ⟨.agg #[.int .u8 acc,.slice none 0 0,.slice aT T.length cT,.slice aL nL cL,.map none,.map none,.map none,.map none,.map none],W,?_,⟨aT,cT,T,rfl,jC,jE⟩,Ext.refl _,jh⟩);clear jg hS jb jh jl jC jE;simp [go_sem,Act.eval, *]
  case c7 =>
   have jh:(fun W=>Ext w1 W)  W:=jb;obtain ⟨aT,cT,T,e17,jD,jF⟩:=d17;rw [A8] at e17;have jn:Ext W (W.alloc (.cells #[.int .u8 acc,.slice none 0 0,.slice aT T.length cT,.slice aL nL cL,.map none,.map none,.map none,.map none,.map none] 120)):=(Below.refl _ _).alloc (A7 _) _;refine Ao rfl (.inl ⟨.pointer (some ⟨W.heap.size,0,none⟩),W.alloc (.cells #[.int .u8 acc,.slice none 0 0,.slice aT T.length cT,.slice aL nL cL,.map none,.map none,.map none,.map none,.map none] 120),?_,⟨W.heap.size,aT,cT,T,W,rfl,A7 _,heap_alloc_new _ _,jD,jF,jn,hS⟩,jn,Ext.trans jb jn⟩);clear jg hS jb jh jl jD jF jn;simp [go_sem,Act.eval, *]
  case c8 =>
   have jh:(fun W=>Ext w1 W)  W:=jb;refine Ao rfl (.inl ⟨_,W,?_,d18,Ext.refl _,jh⟩);clear jg hS jb jh jl;simp [go_sem,Act.eval, *]
  all_goals (refine Ao rfl (.inl ⟨_,W,?_,rfl,Ext.refl _,jb⟩);clear jg hS jb jl;simp [go_sem,Act.eval, *];done)
 case hlast =>
  intro h;exact absurd rfl h
 case hfin
      =>
  intro _ ac W jg jJ fL hf jb hv ja;have hS:(fun W=>Ext w1 W)  W:=jb;clear jb;obtain ⟨sx,jq,jP⟩:=Aw [11,12,13,14,15,16,17,18,7] (by kernel_rfl) jg jJ ja;have kK:PxS w1 (BQ D) acc aL nL cL (ac.tmps.getD 7 undef) W:=hv 8 (by decide);obtain ⟨gx,aT,cT,T,W0,e7v,jv,jp,km,kn,jt,js⟩:=kK;have e7:sx 7=.pointer (some ⟨gx,0,none⟩):=(jq 7).trans e7v;clear e7v;rw [jP];simp only [List.foldl];simp only [Act.put,List.setIfInBounds_toArray,List.set_cons_succ,List.set_cons_zero];clear jP jq hv ja jg jJ hf;rw [e7];clear e7;have jQ:Hid (Below w.heap.size w W0):=Below.trans jT.out (js.mono (Below.size jT.out));have jd:Hid (NsM w W gx (sxM acc (.slice none 0 0) aT T.length cT aL nL cL (mpV 0 fun _=>0)) 0 fun _=>0):=⟨jp,fun j hj=>absurd hj (Nat.not_lt_zero _),fun a b ha=>absurd ha (Nat.not_lt_zero _),AC jQ.out.size jv,jQ.out.trans (jt.mono jQ.out.size)⟩
  have kD:=A6 km;have kE:=A6 kn;have kd:=A6 jt;have kv:=A6 js;clear km kn jt js jp hS;have jX:=kz.out
  go_wp2_with fail
  go_loopg [19] 5 (fun g v19 wr=>∃ (k:Nat) (gm:Nat→Nat),v19=.int .i64 (k:Int)∧k≤5∧g=5 - k∧NsM w wr gx (sxM acc (.slice none 0 0) aT T.length cT aL nL cL (mpV k gm)) k gm∧Below W0.heap.size W0 wr)
  case atStart=>exact ⟨0,_,rfl,Nat.zero_le _,rfl,jd.out,kd.out⟩
  case round =>
   clear jd kd;obtain ⟨k,gm,rfl,hk,jK,jw,jI⟩:=hrel;have jd:=A6 jw;have jk:=A6 jI;have jB:=A6 jK;have jm:=(A9.1 jw.rep).1;clear jw jI jK;by_cases jA:k<5
   ·have hlI:(k:Int)<5:=by omega
    have h0I:(0:Int)≤(k:Int):=by omega
    have hcl:wr.cell? ⟨gx,4+k,none⟩=some (.map none):=by
     rw [cell_of_row wr gx (4+k) _ _ (0,0) jd.out.rep];rcases (show k=0∨k=1∨k=2∨k=3∨k=4 from by omega) with rfl | rfl | rfl | rfl | rfl <;> simp [sxM,mpV]
    have hfz:wr.frozen? ⟨gx,4+k,none⟩=false:=by simp [World.frozen?,jd.out.rep]
    have jy:=jd.out.put jA;rw [World.setCell_alloc_past _ _ _ _ jm] at jy;have kA:=A6 jy;clear jy;have kw:Hid (Below W0.heap.size W0 ((wr.setCell ⟨gx,4+k,none⟩ (.map (some wr.heap.size))).alloc (.map #[] 0))):=by
     show Below _ _ _;rw [← World.setCell_alloc_past _ _ _ _ jm];exact Below.setCell (jk.out.trans (((Below.refl _ wr).alloc (A7 _) _).mono jk.out.size)) (show W0.heap.size≤(⟨gx,4+k,none⟩:Addr).block from jv) _
    go_wp2_with fail
    go_roundg (5 - (k+1))
    case measure=>have:=jB.out;omega
    case rel=>exact ⟨k+1,_,by go_num,by omega,rfl,kA.out,kw.out⟩
   ·obtain rfl:k=5:=by omega
    clear jX;have kg:Hid (∀ W,Below W0.heap.size W0 W→Kc w1 W):=fun W hb=>(Kc.of kv.out (A7 _)).trans (Kc.of hb (A7 _));have x2:=(kg.out wr jk.out).cell (p:=⟨gs,2,none⟩) (v:=.slice aS R.length cS) (by rw [cell_of_row w1 gs 2 _ _ (0,0) j1.out];rfl)
    go_wp2_with fail
    clear x2
    go_loopg [32] R.length (fun g v32 wr=>∃ (k:Nat) (v1:Value),v32=.int .i64 (k:Int)∧k≤R.length∧g=R.length - k∧NsM w wr gx (sxM acc v1 aT T.length cT aL nL cL (mpV 5 gm)) 5 gm∧As Cj wr W0.heap.size v1 ((R.take k).filter CC)∧Below W0.heap.size W0 wr)
    case atStart=>exact ⟨0,_,rfl,Nat.zero_le _,rfl,jd.out,As.nil _ _ _,jk.out⟩
    case round =>
     clear jd jk jB jA jm;obtain ⟨k,v1,rfl,hk2,jK,jw,jx,jI⟩:=hrel;obtain ⟨a1,c1,kM, -, -⟩:=jx.form;subst kM;have jd:=A6 jw;have jS:=A6 jx;have jk:=A6 jI;have jB:=A6 jK;have jm:=(A9.1 jw.rep).1;clear jw jx jI jK;obtain ⟨L1,jU⟩:∃ L1,(R.take k).filter CC=L1:=⟨_,rfl⟩
     have hL1l:L1.length≤1000:=by
      rw [← jU];exact AC (List.length_filter_le _ _) (by rw [AV];omega)
     rw [jU] at jd jS;have j2:=A6 jU;clear jU;by_cases jA:k<R.length
     ·have kt:Kc w wr:=(Kc.of jT.out (A7 _)).trans (kg.out wr jk.out);obtain ⟨b1,o1,ko,kI,r0,r1,r2,r3,r4⟩:=(BL.kp HR.out kt).at jA;have kJ:=Bp aS b1 o1 R.length cS k ko jA;have Jx:R.take (k+1)=R.take k ++ [R[k]]:=AZ jA;obtain ⟨r,hr⟩:∃ r,R[k]=r:=⟨_,rfl⟩
      rw [hr] at r0 r1 r2 r3 r4 Jx;have kk:=A6 Jx;obtain ⟨frm,dst,inp,out,cost⟩:=r;simp only at r0 r1 r2 r3 r4;clear kt ko hr Jx
      go_upto_region 10 with fail
      obtain ⟨w4,j0⟩:∃ w4,wr.alloc (.cells #[.int .i64 frm,.int .i64 dst,.string inp,.string out,.int .i64 cost] 64)=w4:=⟨_,rfl⟩
      rw [j0];have kF:Hid (Ext wr w4):=by
       show Ext _ _;rw [← j0];exact (Below.refl _ _).alloc (A7 _) _
      have jR:Hid (w4.heap[wr.heap.size]? = some (.cells #[.int .i64 frm,.int .i64 dst,.string inp,.string out,.int .i64 cost] 64 (0,0))):=by
       show _=_;rw [← j0];exact heap_alloc_new _ _
      obtain ⟨g4,kr⟩:∃ g4,wr.heap.size=g4:=⟨_,rfl⟩
      rw [kr] at jR ⊢;have hg4g:g4≠gx:=by omega
      have j3:Hid ((.slice a1 L1.length c1:Value).ownBlock≠some g4):=fun e=>by have:=jS.out.lt _ e;omega
      obtain ⟨d0,d1,d2,d3,d4⟩:=B9 jR.out;have j6:=SM ⟨frm,dst,inp,out,cost⟩ w4;obtain ⟨fb,j7⟩:∃ fb,CC ⟨frm,dst,inp,out,cost⟩=fb:=⟨_,rfl⟩
      rw [j7] at j6;have ky:=A6 j6;have kf:=A6 j7;clear j0 kr j6 j7 r0 r1 r2 r3 r4 kJ kI
      go_wp2_with fail
      refine ky.out.mono ?_;rintro e w5 ⟨rfl,j5⟩;have j4:Hid (Ext wr w5):=Ext.trans kF.out j5;have ke:Hid (w5.heap[g4]? = some (.cells #[.int .i64 frm,.int .i64 dst,.string inp,.string out,.int .i64 cost] 64 (0,0))):=(j5.block g4 (A9.1 jR.out).1).trans jR.out;have je:=A6 (jd.out.ext j4.out);have jf:=A6 (jS.out.later j4.out (A7 _));have jr:Hid (Below W0.heap.size W0 w5):=jk.out.trans (Below.mono j4.out jk.out.size);clear d0 d1 d2 d3 d4 j5;cases fb with
      | false =>
       have HN:Hid ((R.take (k+1)).filter CC=L1):=by show _=_;rw [kk.out,List.filter_append,j2.out];simp [List.filter_cons,kf.out]
       go_wp2_with fail
       go_roundg (R.length - (k+1))
       case measure=>have:=jB.out;omega
       case rel=>exact ⟨k+1,_,by go_num,by omega,rfl,je.out,by rw [HN.out];exact jf.out,jr.out⟩
      | true =>
       have HN:Hid ((R.take (k+1)).filter CC=L1 ++ [⟨frm,dst,inp,out,cost⟩]):=by show _=_;rw [kk.out,List.filter_append,j2.out];simp [List.filter_cons,kf.out]
       have kj:Hid (W0.heap.size≤w5.heap.size):=jr.out.size;have jL:=(A9.1 je.out.rep).1
       go_wp2_with fail
       refine B4 (by kernel_rfl) (Vs [vq (.pointer (some ⟨gx,0,none⟩)),vq (.pointer (some ⟨gx,0,none⟩)),vq (.pointer (some ⟨gx,0,none⟩)),vq (.pointer (some ⟨gx,1,none⟩)),vq (.slice a1 L1.length c1),vq (.agg #[.int .i64 frm,.int .i64 dst,.string inp,.string out,.int .i64 cost]),K8 Cj (.slice a1 L1.length c1) (⟨frm,dst,inp,out,cost⟩:Rl),Gx Cj (w5) (W0.heap.size) (.slice a1 L1.length c1) (L1 ++ [(⟨frm,dst,inp,out,cost⟩:Rl)]),vq (.pointer (some ⟨gx,0,none⟩)),vq (.pointer (some ⟨gx,1,none⟩))]) (Xs [Ext,Ext,Ext,Ext,Ext,Ext,Ext,(fun w w'=>w.grownBy w' (.slice a1 L1.length c1:Value).ownBlock),Ext,Ext]) (fun fL=>(ApT (w5) (.slice a1 L1.length c1)) (fL 7)) [0,0,2,6,14,0,32,126,1,257] 53 10 (by kernel_rfl) rfl ?hV ?hS ?hop ?hfin ?hlast
       case hV =>
        refine BC (Av (by simp only [Aj,List.not_mem_nil,or_false,forall_eq_or_imp,forall_eq];exact ⟨An _,An _,An _,An _,An _,An _,Iz _ _ _,K9,An _,An _⟩)) ?_;exact ⟨.inl rfl,.inl rfl,.inl rfl,.inl rfl,.inl rfl,.inl rfl,.inl rfl,.inr (BO ⟨fun _ _=>fun _ _ _ h _=>h,fun _ _=>fun _ _ _ h _=>h,fun _ _=>fun _ _ _ h _=>h,fun _ _=>fun _ _ _ h _=>h,fun _ _=>fun _ _ _ h _=>h,fun _ _=>fun _ _ _ h _=>h,fun _ _=>J0 _ _ _,fun h=>absurd rfl h,fun _ _=>fun _ _ _ h _=>h,fun _ _=>fun _ _ _ h _=>h,trivial⟩),.inl rfl,.inl rfl,trivial⟩
       case hS =>
        intro fL hf;show (ApT (w5) (.slice a1 L1.length c1)) (fL 7) _;rw [hf 7 (by decide)]
        first | exact Ext.refl _ | exact Bh _
       case hop =>
        refine ⟨?_,?_,?_,?_,?_,?_,?c6,?c7,?_,?_,?_,trivial⟩
        all_goals first | rw [if_neg (by decide)] | rw [if_pos (by decide)]
        all_goals try exact True.intro
        all_goals try intro ac W fL jg jl jY jV jb jc ja jz
        all_goals try have hS:(ApT (w5) (.slice a1 L1.length c1)) (fL 7) W:=jb
        all_goals try (have ju:fL 7=true:=jY 7 (by decide);rw [ju] at hS)
        all_goals try (have ju:fL 7=false:=(by first | exact jl | exact jV 7 (by decide) (by decide));rw [ju] at hS)
        all_goals try (
         have jN:(.slice a1 L1.length c1:Value).ownBlock≠some gx:=fun e=>by
          obtain ⟨cs,h1⟩:=Bo jf.out e;rw [je.out.rep] at h1;injection h1 with h1;injection h1 with _ h2;exact absurd h2 (by decide)
         have ji:=(ApT.old jb gx jL jN).trans je.out.rep;have hcx:W.cell? ⟨gx,1,none⟩=some (.slice a1 L1.length c1):=by rw [cell_of_row W gx 1 _ _ (0,0) ji];rfl
         obtain ⟨d0,d1,d2,d3,d4⟩:=B9 ((ApT.old jb g4 (A9.1 ke.out).1 j3.out).trans ke.out);clear ji jN)
        all_goals try have hh7:=gdA ac 7 (.pointer (some ⟨gx,0,none⟩)) (ja 7 (by kernel_rfl))
        all_goals try have hh10:=gdA ac 10 (.pointer (some ⟨g4,0,none⟩)) (ja 10 (by kernel_rfl))
        all_goals try (have d42:ac.tmps.getD 42 undef=.slice a1 L1.length c1:=jc 4 (by decide);have dd42:=d42;rw [A8] at dd42)
        all_goals try have d44:(K8 Cj (.slice a1 L1.length c1) (⟨frm,dst,inp,out,cost⟩:Rl)) (ac.tmps.getD 44 undef) W:=jc 6 (by decide)
        all_goals try (have jc:=DN jc;simp [D8,Aq,vq] at jc)
        all_goals try clear ja jY jV jz
        case c6 =>
         have jh:(ApT (w5) (.slice a1 L1.length c1)) ((upd fL 6) 7) W:=jb;have jo:(.slice a1 L1.length c1:Value).ownBlock≠some W.heap.size:=fun e=>by
          have h9:=(jf.out).lt _ e;have h8:=Below.size hS;omega
         refine Ao rfl (.inl ⟨.slice (some ⟨W.heap.size,0,none⟩) 1 1,W.alloc (.cells #[.int .i64 frm,.int .i64 dst,.string inp,.string out,.int .i64 cost] 64),?_,⟨_,rfl,heap_alloc_new _ _,jo⟩,(Below.refl _ _).alloc (A7 _) _,(show (ApT (w5) (.slice a1 L1.length c1)) ((upd fL 6) 7) _ by
          rw [show upd fL 6 7=fL 7 from if_neg (by decide)];exact ApT.ext _ _ _ jb ((Below.refl _ _).alloc (A7 _) _))⟩)
         clear jg hS jb jh jl jo;simp [go_sem,Act.eval, *]
        case c7 =>
         obtain ⟨g62,e62,j8,hn62⟩:=d44;refine Ao rfl ((C4 GM (.tmp 42) (.tmp 44) rfl (Ay d42) ((jf.out).later hS (A7 _)) ⟨g62,0,none⟩ 1 [(⟨frm,dst,inp,out,cost⟩:Rl)] (Ay e62) (BA j8) (by simp only [AI];omega) (AC kj.out (Below.size hS))).mono ?_);rintro va w' ⟨ho,jW,kH⟩;have jH:=Gx.made hS ho jW kH;refine ⟨jH,jW,?_⟩;show ApT (w5) (.slice a1 L1.length c1) (upd fL 7 7) w';rw [show upd fL 7 7=true from if_pos rfl];exact jH.old
        all_goals (refine Ao rfl (.inl ⟨_,W,?_,rfl,Ext.refl _,jb⟩);clear jg hS jb jl;simp [go_sem,Act.eval, *];done)
       case hfin =>
        intro h;exact absurd h (by decide)
       case hlast =>
        intro _ ac W jg jJ fL hf jb hv ja;have hS:(ApT (w5) (.slice a1 L1.length c1)) (fL 7) W:=jb;clear jb;rw [hf 7 (by decide)] at hS;have ku:ac.tmps.getD 47 undef=.pointer (some ⟨gx,1,none⟩):=hv 9 (by decide);have jj:Gx Cj (w5) (W0.heap.size) (.slice a1 L1.length c1) (L1 ++ [(⟨frm,dst,inp,out,cost⟩:Rl)]) (ac.tmps.getD 45 undef) W:=hv 7 (by decide);obtain ⟨ya,yc,kb, -, -⟩:=jj.own.form;rw [kb] at jj;have jN:(.slice a1 L1.length c1:Value).ownBlock≠some gx:=fun e=>by
         obtain ⟨cs,h1⟩:=Bo jf.out e;rw [je.out.rep] at h1;injection h1 with h1;injection h1 with _ h2;exact absurd h2 (by decide)
        have ji:=(jj.block gx jL jN).trans je.out.rep;refine C3 rfl rfl rfl rfl (Ay ku) (Ay kb) (by simp [World.frozen?,ji]) (by rw [cell_of_row W _ _ _ _ (0,0) ji];rfl) (by kernel_rfl) ?_;clear ji jN;obtain ⟨wz,ka⟩:∃ wz,W.setCell ⟨gx,1,none⟩ (.slice ya (L1 ++ [(⟨frm,dst,inp,out,cost⟩:Rl)]).length yc)=wz:=⟨_,rfl⟩
        rw [ka];have kc:=A6 jj;have kl:=A6 ka;clear hS jj ku ka;obtain ⟨sx,jq,jP⟩:=Aw [38,39,40,41,42,43,44,45,46,47] (by kernel_rfl) jg jJ ja;clear kb;rw [jP];simp only [List.foldl];simp only [Act.put,List.setIfInBounds_toArray,List.set_cons_succ,List.set_cons_zero];clear jP jq hv ja jg jJ hf;have Js:=je.out.rules jf.out kc.out jQ.out.size;rw [kl.out] at Js;have kq:Below W0.heap.size W0 wz:=by
         rw [← kl.out];exact Below.setCell (jr.out.trans (kc.out.below kj.out fun q hq=>jf.out.ge q hq)) (show W0.heap.size≤(⟨gx,1,none⟩:Addr).block from jv) _
        have ki:=A6 Js;have kx:=A6 kq;clear Js kq
        go_wp2_with fail
        go_roundg (R.length - (k+1))
        case measure=>have:=jB.out;omega
        case rel=>exact ⟨k+1,_,by go_num,by omega,rfl,ki.out.1,by rw [HN.out];exact ki.out.2,kx.out⟩
     ·have jG:R.take k=R:=AM (by omega);have kh:Hid (L1=R.filter CC):=by show _=_;rw [← j2.out,jG]
      have jq:SX wr gx acc a1 L1.length c1 aT T.length cT aL nL cL gm:=by
       have h:=jd.out.rep;rw [SP] at h;exact h
      have kB:=A6 (put_new (w:=wr) 0 0 0 0 0 [] (by omega) rfl jq (jd.out.maps 0 (by decide)).1 (show CA.ok (0,0) from ⟨by decide,by decide⟩) (by decide) (by decide) rfl);have kC:=A6 jq;clear jG jq
      go_wp2_with fail
      refine kB.out.mono ?_;rintro e w9 ⟨rfl,hp⟩;have HP:=A6 hp;clear hp
      go_wp2_with fail
      go_ret;have Ji:=HP.out.kp (jd.out.maps 0 (by decide)).1;have jW:=HP.out.gr;refine ⟨⟨gx,a1,c1,aT,cT,gm,T,rfl,?_,?_,?_,kE.out,⟨jd.out.apart,fun j hj=>(jd.out.maps j hj).2⟩,HP.out.map,fun j h0 hj=>?_⟩,jd.out.bl.trans (HP.out.below (jd.out.maps 0 (by decide)).2 jd.out.bl.size)⟩
      · rw [← kh.out];exact kC.out.kp Ji
      · rw [← kh.out];exact BL.kp (As.ruls jS.out).1 Ji
      · exact (kD.out.later jk.out (A7 _)).kp Ji
      · exact (jd.out.maps j hj).1.kept (jW _ (jd.out.maps j hj).1.lt fun e=>by have:=jd.out.apart j 0 hj (by decide) e;omega)
theorem Na {R:List Rl} {L:List Slt} {i m:Nat} {o:List UInt8} {c:Nat}:RtS (R.filter CC) L i m o c↔RtS R L i m o c:=by
 constructor
 ·intro h
  induction h with
  | start=>exact .start
  | step _ hr hf hm hk ih=>exact .step ih (Al.1 hr).1 hf hm hk
 ·intro h
  induction h with
  | start=>exact .start
  | step _ hr hf hm hk ih=>exact .step ih (Al.2 ⟨hr,hf⟩) hf hm hk
theorem MG (R:List Rl):Io (R.filter CC):=fun r hr=>(Al.1 hr).2
theorem KE {R:List Rl} {acc:Int} {L:List Slt} {i:Nat} {w:List UInt8} {c:Nat}:Whole (R.filter CC) acc L i w c↔Whole R acc L i w c:=by
 unfold Whole;constructor
 · rintro ⟨m,h1,h2⟩;exact ⟨m,h1,Na.1 h2⟩
 · rintro ⟨m,h1,h2⟩;exact ⟨m,h1,Na.2 h2⟩
theorem Fh.fair {R:List Rl} {acc:Int} {L:List Slt} {W:List (List UInt8)} {i:Nat} {l:List (Nat × Nat)} (h:Fh (R.filter CC) acc L W i l):Fh R acc L W i l :=
 ⟨h.sorted,fun k c=>by
  rw [h.mem];exact ⟨fun ⟨hk,hl⟩=>⟨hk,hl.congr fun d=>KE⟩,fun ⟨hk,hl⟩=>⟨hk,hl.congr fun d=>KE.symm⟩⟩⟩
structure Nb (R:List Rl) (acc:Int) (L:List Slt) (W:List (List UInt8)) (i:Nat) (l:List (Nat × Nat)):Prop extends Fh R acc L W i l where
 low:∀ p∈l,p.2≤900000000000
theorem LQ {p q:Nat→Prop} {c:Nat} (h1:∀ d,p d→q d) (h2:∀ d,q d→∃ d',d'≤d∧p d'):CT p c↔CT q c:=by
 constructor
 ·rintro ⟨h3,h4⟩;refine ⟨h1 c h3,fun d hd=>?_⟩;obtain ⟨d',h5,h6⟩:=h2 d hd;exact AC (h4 d' h6) h5
 ·rintro ⟨h3,h4⟩;obtain ⟨d',h5,h6⟩:=h2 c h3;have:=h4 d' (h1 d' h6);have e:d'=c:=by omega
  subst e;exact ⟨h6,fun d hd=>h4 d (h1 d hd)⟩
theorem UH {T:List Bn} {W:List (List UInt8)} {R:List Rl} {L:List Slt} {acc:Int} {i:Nat} {M:Nat→Ent} {l:List (Nat × Nat)} (hT:TrW T W) (jb:Inv R L (folT T) i M) (hs:∀ t,Shut R L (folT T) i M t) (hk:Cs (M i)) (hf:UE T acc (M i) l):Fh R acc L W i l where
 sorted:=hf.sorted
 mem
   k c:=by
  rw [hf.mem];have hA:∀ d,(∃ t,(t,d)∈M i∧Cn T t.2=(k:Int)∧DX acc t.1=true)→∃ h:k<W.length,Whole R acc L i W[k] d:=by
   rintro d ⟨t,h1,h2,h3⟩;obtain ⟨o,h4,h5⟩:=Tk (folw T) (jb.sound i t d (Bd hk h1));obtain ⟨ja,e⟩:=(hT.fol1 o t.2 k h5).1 h2;exact ⟨ja,t.1,h3,by rw [e];exact h4⟩
  constructor
  ·intro hl;obtain ⟨ja,_⟩:=hA c hl.1;refine ⟨ja,(LQ (fun d hd=>(hA d hd).2) fun d hd=>?_).1 hl⟩;obtain ⟨m,h3,h4⟩:=hd;obtain ⟨n,hn⟩:=hT.fol2 W[k] (AO ja);obtain ⟨c',h5,h6⟩:=jb.least hs (RA (folw T) h4 hn);exact ⟨c',h6,(m,n),C6 h5,(hT.fol1 W[k] n k hn).2 ⟨ja,rfl⟩,h3⟩
  ·rintro ⟨ja,hl⟩;refine (LQ (fun d hd=>(hA d hd).2) fun d hd=>?_).2 hl;obtain ⟨m,h3,h4⟩:=hd;obtain ⟨n,hn⟩:=hT.fol2 W[k] (AO ja);obtain ⟨c',h5,h6⟩:=jb.least hs (RA (folw T) h4 hn);exact ⟨c',h6,(m,n),C6 h5,(hT.fol1 W[k] n k hn).2 ⟨ja,rfl⟩,h3⟩
def M0 (j:Nat):Ent:=if j=0 then [((0,0),0)] else []
theorem Un (R:List Rl) (L:List Slt) (fol:Nat→List UInt8→Option Nat):Inv R L fol 0 M0 where
 sound j t c h:=by
  unfold M0 at h;split at h
  ·rename_i e;subst e;rw [Ba] at h;split at h
   · rename_i e2;injection h with h;subst h;rw [← e2];exact .start
   · cases h
  · cases h
 comp k t c r t' d hk:=absurd hk (Nat.not_lt_zero _)
 base _:=⟨0,by simp [M0,Ba],A7 _⟩
theorem Uo {N D:Nat} (hN:0<N):Bnd N 0 0 D M0 where
 keys j:=by unfold M0;split <;> simp [Cs]
 rng j p hp:=by
  unfold M0 at hp;split at hp
  · rw [AJ.1 hp];exact ⟨by decide,hN⟩
  · cases hp
 here p hp:=by
  simp only [M0,if_pos,AJ] at hp;rw [hp];exact Nat.zero_le _
 next j hj p hp:=by
  unfold M0 at hp;rw [if_neg hj] at hp;cases hp
def nextM (i:Nat) (M:Nat→Ent) (j:Nat):Ent:=if i<j then M j else []
theorem Bnd.nextM {N i B D:Nat} {M:Nat→Ent} (h:Bnd N i B D M):Bnd N (i+1) (B+(8*N+1)*D) D (nextM i M) where
 keys j:=by
  unfold Go.Proofs.YthjmdgejnakcmaaGreatDoor.nextM;split
  · exact h.keys j
  · exact List.Pairwise.nil
 rng j p hp:=by
  unfold Go.Proofs.YthjmdgejnakcmaaGreatDoor.nextM at hp;split at hp
  · exact h.rng j p hp
  · cases hp
 here p hp:=by
  unfold Go.Proofs.YthjmdgejnakcmaaGreatDoor.nextM at hp ⊢;rw [if_pos (Nat.lt_succ_self i)] at hp ⊢;have:=h.next (i+1) (by omega) p hp;omega
 next j hj p hp:=by
  unfold Go.Proofs.YthjmdgejnakcmaaGreatDoor.nextM at hp;split at hp
  ·have:=h.next j (by omega) p hp;omega
  · cases hp
theorem Inv.nextM {R:List Rl} {L:List Slt} {fol:Nat→List UInt8→Option Nat} {i:Nat} {M:Nat→Ent} (h:Inv R L fol i M) (hs:∀ t,Shut R L fol i M t):Inv R L fol (i+1) (nextM i M) :=
 h.next hs (fun j hj=>if_pos hj) fun j hj=>if_neg hj
end Go.Proofs.YthjmdgejnakcmaaGreatDoor
