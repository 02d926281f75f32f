/- Texts that the claims share: K9, K10, K11, K12, K13. -/
import Derived.Test.YthjmdgejnakcmaaDoorMK3
import Derived.Test.YthjmdgejnakcmaaDoorMD4
namespace Go.Proofs.YthjmdgejnakcmaaDoor
open Go.RowKit Go.WideShapes Fl
set_option linter.unusedVariables false
set_option linter.unusedSimpArgs false
theorem bl_split:∀ (p:List UInt8) {a b:UInt8} {u v:List UInt8},Op.bytesLess (p ++ a :: u) (p ++ b :: v)=true→a.toNat≤b.toNat
 | [],a,b,u,v,h=>by
  simp only [List.nil_append,Op.bytesLess,Bool.or_eq_true,Bool.and_eq_true,decide_eq_true_eq,beq_iff_eq,UInt8.lt_iff_toNat_lt] at h
  rcases h with h | ⟨h,_⟩
  · omega
  · rw [h];exact Nat.le_refl _
 | x :: p,a,b,u,v,h=>by
  simp only [List.cons_append,Op.bytesLess,Bool.or_eq_true,Bool.and_eq_true,decide_eq_true_eq,beq_iff_eq,UInt8.lt_iff_toNat_lt,Nat.lt_irrefl,false_or,true_and] at h
  exact bl_split p h
theorem bl_irr:∀ x:List UInt8,Op.bytesLess x x=false
 | []=>rfl
 | a :: x=>by
  have h:¬ a<a:=by rw [UInt8.lt_iff_toNat_lt];omega
  simp [Op.bytesLess,h,bl_irr x]
structure TrX (T:List Bn) (X:List (List UInt8)):Prop where
 len:X.length=T.length
 zero:X[0]? = some []
 nd:X.Nodup
 fwd:∀ (n:Nat) (hn:n<T.length),∀ x∈T[n].arcs,0≤x.c∧x.c<256∧0≤x.t∧x.t<(T.length:Int)∧X[x.t.toNat]? = some ((X[n]'(by omega)) ++ [UInt8.ofNat x.c.toNat])
 bwd:∀ (n t:Nat) (hn:n<T.length) (c:UInt8),X[t]? = some ((X[n]'(by omega)) ++ [c])→(⟨(c.toNat:Int),(t:Int)⟩:Ar)∈T[n].arcs
 sorted:∀ (n:Nat) (hn:n<T.length),T[n].arcs.Pairwise fun x y=>x.c<y.c
 clo:∀ (p q:List UInt8),p ++ q∈X→p∈X
section
variable {T:List Bn} {X:List (List UInt8)}
theorem nodup_ix {α:Type} {X:List α} (h:X.Nodup) {i j:Nat} {x:α} (hi:X[i]? = some x) (hj:X[j]? = some x):i=j:=by
 obtain ⟨h1,e1⟩:=List.getElem?_eq_some_iff.1 hi
 obtain ⟨h2,e2⟩:=List.getElem?_eq_some_iff.1 hj
 exact (List.getElem_inj h).1 (e1.trans e2.symm)
theorem ofNat_toNat {c:Int} (h0:0≤c) (h1:c<256):((UInt8.ofNat c.toNat).toNat:Int)=c:=by
 simp only [UInt8.toNat_ofNat'];omega
theorem TrX.find (h:TrX T X) {n:Nat} (hn:n<T.length) {c:UInt8} {t:Nat} (ht:X[t]? = some ((X[n]'(by have:=h.len;omega)) ++ [c])) :
  T[n].arcs.find? (fun x=>x.c == (c.toNat:Int))=some ⟨(c.toNat:Int),(t:Int)⟩:=by
 have hm:=h.bwd n t hn c ht
 cases e:T[n].arcs.find? (fun x=>x.c == (c.toNat:Int)) with
 | none =>
  have:=List.find?_eq_none.1 e _ hm
  simp at this
 | some x =>
  have h1:=List.find?_some e
  simp only [beq_iff_eq] at h1
  obtain ⟨a1,a2,a3,a4,a5⟩:=h.fwd n hn x (List.mem_of_find?_eq_some e)
  have e2:UInt8.ofNat x.c.toNat=c:=UInt8.toNat_inj.1 (by have:=ofNat_toNat a1 a2;omega)
  rw [e2] at a5
  have:=nodup_ix h.nd a5 ht
  obtain ⟨xc,xt⟩:=x
  simp only at h1 this a3 ⊢
  subst h1
  congr 2
  omega
theorem TrX.none (h:TrX T X) {n:Nat} (hn:n<T.length) {c:UInt8} (ht:(X[n]'(by have:=h.len;omega)) ++ [c] ∉ X) :
  T[n].arcs.find? (fun x=>x.c == (c.toNat:Int))=none:=by
 rw [List.find?_eq_none]
 intro x hx
 obtain ⟨a1,a2,a3,a4,a5⟩:=h.fwd n hn x hx
 simp only [beq_iff_eq]
 intro e
 have e2:UInt8.ofNat x.c.toNat=c:=UInt8.toNat_inj.1 (by have:=ofNat_toNat a1 a2;omega)
 rw [e2] at a5
 exact ht (List.mem_of_getElem? a5)
theorem
    TrX.fol (h:TrX T X):∀ (o:List UInt8) {n m:Nat} (hn:n<T.length),folT T n o=some m↔X[m]? = some ((X[n]'(by have:=h.len;omega)) ++ o)
 | [],n,m,hn=>by
  have hn2:n<X.length:=by have:=h.len;omega
  rw [List.append_nil]
  constructor
  · intro e;cases e;exact List.getElem?_eq_getElem hn2
  ·
   intro e
   have:=nodup_ix h.nd e (List.getElem?_eq_getElem hn2)
   rw [this];rfl
 | c
   :: r,n,m,hn=>by
  have hn2:n<X.length:=by have:=h.len;omega
  by_cases hc:X[n] ++ [c]∈X
  ·
   obtain ⟨t,ht⟩:=List.getElem?_of_mem hc
   have hf:=h.find hn ht
   obtain ⟨h1,e1⟩:=List.getElem?_eq_some_iff.1 ht
   have htT:t<T.length:=by have:=h.len;omega
   rw [folT,List.getElem?_eq_getElem hn]
   simp only [hf]
   show folT T t r=some m↔_
   rw [h.fol r htT,e1,List.append_assoc]
   rfl
  ·
   have hf:=h.none hn hc
   rw [folT,List.getElem?_eq_getElem hn]
   simp only [hf]
   constructor
   · intro e;cases e
   ·
    intro e
    refine absurd (h.clo (X[n] ++ [c]) r ?_) hc
    rw [List.append_assoc]
    exact List.mem_of_getElem? e
theorem TrX.trIn (h:TrX T X):TrIn T:=fun b hb x hx=>by
 obtain ⟨n,hn,rfl⟩:=List.mem_iff_getElem.1 hb
 obtain ⟨_,_,h1,h2,_⟩:=h.fwd n hn x hx
 exact ⟨h1,h2⟩
end
def setArc (T:List Bn) (n:Nat) (x:Ar):List Bn:=T.modify n fun b=>⟨b.word,b.arcs ++ [x]⟩
def setWord (T:List Bn) (n:Nat) (i:Int):List Bn:=T.modify n fun b=>⟨i,b.arcs⟩
def addArc (T:List Bn) (n:Nat) (c:UInt8):List Bn:=setArc T n ⟨(c.toNat:Int),(T.length:Int)⟩ ++ [⟨-1,[]⟩]
theorem addArc_len (T:List Bn) (n:Nat) (c:UInt8):(addArc T n c).length=T.length+1:=by simp [addArc,setArc]
theorem addArc_old {T:List Bn} {n k:Nat} {c:UInt8} (hk:k<T.length):(addArc T n c)[k]'(by rw [addArc_len];omega)=if n=k then ⟨T[k].word,T[k].arcs ++ [⟨(c.toNat:Int),(T.length:Int)⟩]⟩ else T[k]:=by
 unfold addArc setArc
 rw [List.getElem_append_left (by simpa using hk),List.getElem_modify]
theorem addArc_new {T:List Bn} {n:Nat} {c:UInt8}:(addArc T n c)[T.length]'(by rw [addArc_len];omega)=⟨-1,[]⟩:=by
 unfold addArc setArc
 rw [List.getElem_append_right (by simp)]
 simp
theorem
    TrX.add {T:List Bn} {X:List (List UInt8)} (h:TrX T X) {n:Nat} (hn:n<T.length) {c:UInt8} (hc:(X[n]'(by have:=h.len;omega)) ++ [c] ∉ X) (hlt:∀ x∈T[n].arcs,x.c<(c.toNat:Int)) :
  TrX (addArc T n c) (X ++ [(X[n]'(by have:=h.len;omega)) ++ [c]]):=by
 have hl:=h.len
 have hXg:∀ k (hk:k<X.length),(X ++ [X[n] ++ [c]])[k]'(by rw [List.length_append];omega)=X[k]:=fun k hk=>List.getElem_append_left hk
 have hXq:∀ k,k<X.length→(X ++ [X[n] ++ [c]])[k]? = X[k]?:=fun k hk=>List.getElem?_append_left hk
 have hXn:(X ++ [X[n] ++ [c]])[X.length]? = some (X[n] ++ [c]):=by simp
 have hXe:∀ t y,(X ++ [X[n] ++ [c]])[t]? = some y→X[t]? = some y∨(t=X.length∧y=X[n] ++ [c]):=fun t y ht=>by
  by_cases h1:t<X.length
  · rw [hXq t h1] at ht;exact .inl ht
  ·
   by_cases h2:t=X.length
   · subst h2;rw [hXn] at ht;injection ht with ht;exact .inr ⟨rfl,ht.symm⟩
   ·
    have:=(List.getElem?_eq_some_iff.1 ht).1
    rw [List.length_append,List.length_singleton] at this
    omega
 refine ⟨by rw [List.length_append,addArc_len,List.length_singleton];omega,by rw [hXq 0 (by omega)];exact h.zero,?_,?_,?_,?_,?_⟩
 ·
  rw [List.nodup_append]
  refine ⟨h.nd,by simp,fun a ha b hb=>?_⟩
  rw [List.mem_singleton.1 hb]
  exact fun e=>hc (e ▸ ha)
 ·
  intro
     k hk x hx
  rw [addArc_len] at hk
  by_cases hkT:k<T.length
  ·
   rw [addArc_old hkT] at hx
   have hXk:(X ++ [X[n] ++ [c]])[k]'(by rw [List.length_append,List.length_singleton];omega)=X[k]:=hXg k (by omega)
   rw [hXk,addArc_len]
   by_cases e:n=k
   ·
    subst e
    rw [if_pos rfl] at hx
    rcases List.mem_append.1 hx with hx | hx
    ·
     obtain ⟨a1,a2,a3,a4,a5⟩:=h.fwd n hkT x hx
     exact ⟨a1,a2,a3,by omega,by rw [hXq _ (by omega)];exact a5⟩
    ·
     rw [List.mem_singleton.1 hx]
     have:=c.toNat_lt
     refine ⟨by simp only;omega,by simp only;omega,by simp only;omega,by simp only;omega,?_⟩
     simp only [Int.toNat_natCast]
     refine (congrArg (fun k=>(X ++ [X[n] ++ [c]])[k]?) hl.symm).trans (hXn.trans ?_)
     simp
   ·
    rw [if_neg e] at hx
    obtain ⟨a1,a2,a3,a4,a5⟩:=h.fwd k hkT x hx
    exact ⟨a1,a2,a3,by omega,by rw [hXq _ (by omega)];exact a5⟩
  ·
   obtain rfl:k=T.length:=by omega
   rw [addArc_new] at hx
   cases hx
 ·
  intro k t hk b ht
  rw [addArc_len] at hk
  by_cases hkT:k<T.length
  ·
   have hXk:(X ++ [X[n] ++ [c]])[k]'(by rw [List.length_append,List.length_singleton];omega)=X[k]:=hXg k (by omega)
   rw [hXk] at ht
   rw [addArc_old hkT]
   rcases hXe t _ ht with h1 | ⟨rfl,h1⟩
   ·
    have hm:=h.bwd k t hkT b h1
    split
    · exact List.mem_append_left _ hm
    · exact hm
   ·
    have e1:=List.append_inj' h1 rfl
    have e2:k=n:=(List.getElem_inj h.nd).1 e1.1
    have e3:b=c:=by simpa using e1.2
    subst e2 e3
    rw [if_pos rfl,hl]
    simp
  ·
   obtain rfl:k=T.length:=by omega
   have hXk:(X ++ [X[n] ++ [c]])[T.length]'(by rw [List.length_append,List.length_singleton];omega)=X[n] ++ [c]:=by
    simp only [← hl]
    rw [List.getElem_append_right (Nat.le_refl _)];simp
   rw [hXk] at ht
   rcases hXe t _ ht with h1 | ⟨_,h1⟩
   · exact absurd (h.clo (X[n] ++ [c]) [b] (List.mem_of_getElem? h1)) hc
   ·
    have:=congrArg List.length h1
    simp at this
 ·
  intro k hk
  rw [addArc_len] at hk
  by_cases hkT:k<T.length
  ·
   rw [addArc_old hkT]
   split
   ·
    rename_i e
    subst e
    refine List.pairwise_append.2 ⟨h.sorted n hkT,List.pairwise_singleton _ _,fun x hx y hy=>?_⟩
    rw [List.mem_singleton.1 hy]
    exact hlt x hx
   · exact h.sorted k hkT
  ·
   obtain rfl:k=T.length:=by omega
   rw [addArc_new]
   exact List.Pairwise.nil
 ·
  intro
     p q hpq
  rw [List.mem_append,List.mem_singleton] at hpq ⊢
  rcases hpq with h1 | h1
  · exact .inl (h.clo p q h1)
  ·
   by_cases hq:q=[]
   · subst hq;rw [List.append_nil] at h1;exact .inr h1
   ·
    refine .inl (h.clo p q.dropLast ?_)
    have e1:p ++ q.dropLast=X[n]:=by
     have:=congrArg List.dropLast h1
     rw [List.dropLast_append_of_ne_nil hq,List.dropLast_concat] at this
     exact this
    rw [e1]
    exact List.getElem_mem _
theorem setWord_len (T:List Bn) (n:Nat) (i:Int):(setWord T n i).length=T.length:=by simp [setWord]
theorem setWord_get {T:List Bn} {n k:Nat} {i:Int} (hk:k<T.length):(setWord T n i)[k]'(by rw [setWord_len];exact hk)=if n=k then ⟨i,T[k].arcs⟩ else T[k]:=by
 unfold setWord;rw [List.getElem_modify]
theorem setWord_arcs {T:List Bn} {n k:Nat} {i:Int} (hk:k<T.length):((setWord T n i)[k]'(by rw [setWord_len];exact hk)).arcs=T[k].arcs:=by
 rw [setWord_get hk];split <;> rfl
theorem TrX.setWord {T:List Bn} {X:List (List UInt8)} (h:TrX T X) (n:Nat) (i:Int):TrX (setWord T n i) X where
 len:=by rw [setWord_len];exact h.len
 zero:=h.zero
 nd:=h.nd
 fwd k hk x hx:=by
  have hk':k<T.length:=by rw [setWord_len] at hk;exact hk
  rw [setWord_arcs hk'] at hx
  obtain ⟨a1,a2,a3,a4,a5⟩:=h.fwd k hk' x hx
  exact ⟨a1,a2,a3,by rw [setWord_len];exact a4,a5⟩
 bwd k t hk c ht:=by
  have hk':k<T.length:=by rw [setWord_len] at hk;exact hk
  rw [setWord_arcs hk']
  exact h.bwd k t hk' c ht
 sorted k hk:=by
  have hk':k<T.length:=by rw [setWord_len] at hk;exact hk
  rw [setWord_arcs hk']
  exact h.sorted k hk'
 clo:=h.clo
structure BegI (W:List (List UInt8)) (i k:Nat) (w:List UInt8) (node:Nat) (T:List Bn) (X:List (List UInt8)):Prop where
 tr:TrX T X
 at_:X[node]? = some (w.take k)
 src:∀ p∈X,(∃ j,∃ h:j<W.length,j<i∧p <+: W[j])∨p <+: w.take k
 word:∀ (n:Nat) (hn:n<T.length),T[n].word = -1∨∃ j,∃ h:j<W.length,j<i∧T[n].word=(j:Int)∧X[n]? = some W[j]
 all:∀ (j:Nat) (h:j<W.length),j<i→∃ n,∃ hn:n<T.length,X[n]? = some W[j]∧T[n].word=(j:Int)
 size:T.length≤1+20*i+k
section
variable {W:List (List UInt8)} {i k node:Nat} {w:List UInt8} {T:List Bn} {X:List (List UInt8)}
theorem BegI.node_lt (h:BegI W i k w node T X):node<T.length:=by
 have:=(List.getElem?_eq_some_iff.1 h.at_).1
 have:=h.tr.len
 omega
theorem BegI.start (W:List (List UInt8)) (w:List UInt8):BegI W 0 0 w 0 [⟨-1,[]⟩] [[]] where
 tr:=by
  refine ⟨rfl,rfl,by simp,?_,?_,?_,?_⟩
  ·
   intro n hn x hx
   have e:n=0:=by simp at hn;omega
   subst e;cases hx
  ·
   intro n t hn c ht
   have e:n=0:=by simp at hn;omega
   subst e
   have h1:=(List.getElem?_eq_some_iff.1 ht).1
   have e2:t=0:=by simp at h1;omega
   subst e2
   simp at ht
  ·
   intro n hn
   have e:n=0:=by simp at hn;omega
   subst e;exact List.Pairwise.nil
  ·
   intro p q h
   have:=List.mem_singleton.1 h
   simp at this
   simp [this.1]
 at_:=by simp
 src p hp:=.inr (by rw [List.mem_singleton.1 hp];exact List.nil_prefix)
 word n hn:=by
  have e:n=0:=by simp at hn;omega
  subst e;exact .inl rfl
 all j h hj:=absurd hj (Nat.not_lt_zero _)
 size:=by simp
theorem take_succ_get {w:List UInt8} {k:Nat} (hk:k<w.length):w.take (k+1)=w.take k ++ [w[k]]:=List.take_succ_eq_append_getElem hk
theorem BegI.follow (h:BegI W i k w node T X) (hk:k<w.length) {x:Ar} (hx:x∈(T[node]'h.node_lt).arcs) (hc:x.c=(w[k].toNat:Int)):BegI W i (k+1) w x.t.toNat T X:=by
 obtain ⟨a1,a2,a3,a4,a5⟩:=h.tr.fwd node h.node_lt x hx
 have e2:UInt8.ofNat x.c.toNat=w[k]:=UInt8.toNat_inj.1 (by have:=ofNat_toNat a1 a2;omega)
 have e3:X[node]'(by have:=h.node_lt;have:=h.tr.len;omega)=w.take k:=(List.getElem?_eq_some_iff.1 h.at_).2
 refine ⟨h.tr,?_,fun p hp=>(h.src p hp).imp id fun h1=>?_,h.word,h.all,by have:=h.size;omega⟩
 · rw [a5,e2,e3,take_succ_get hk]
 · rw [take_succ_get hk];exact h1.trans (List.prefix_append _ _)
theorem
    BegI.arcs_lt (h:BegI W i k w node T X) (hi:i<W.length) (hw:W[i]=w) (hinc:W.Pairwise fun a b=>Op.bytesLess a b=true) (hk:k<w.length) {x:Ar} (hx:x∈(T[node]'h.node_lt).arcs):x.c≤(w[k].toNat:Int):=by
 obtain ⟨a1,a2,a3,a4,a5⟩:=h.tr.fwd node h.node_lt x hx
 have e3:X[node]'(by have:=h.node_lt;have:=h.tr.len;omega)=w.take k:=(List.getElem?_eq_some_iff.1 h.at_).2
 rw [e3] at a5
 have h2:=ofNat_toNat a1 a2
 rcases h.src _ (List.mem_of_getElem? a5) with ⟨j,hj,hji,hp⟩ | hp
 ·
  have h1:=(List.pairwise_iff_getElem.1 hinc) j i hj hi hji
  obtain ⟨u,hu⟩:=hp
  rw [hw,← hu] at h1
  have hw2:w=w.take k ++ w[k] :: w.drop (k+1):=by
   rw [← List.drop_eq_getElem_cons hk,List.take_append_drop]
  rw [hw2,List.append_assoc] at h1
  have h3:∀ {p:List UInt8} {a b:UInt8} {u v:List UInt8},Op.bytesLess (p ++ ([a] ++ u)) (p ++ b :: v)=true→a.toNat≤b.toNat:=fun {p a b u v} h9=>bl_split p h9
  have h4:w.take k=(w.take k ++ w[k] :: w.drop (k+1)).take k:=by rw [← hw2]
  have h5:=bl_split (w.take k) (a:=UInt8.ofNat x.c.toNat) (b:=w[k]) (u:=u) (v:=w.drop (k+1)) (by
   have h6:Op.bytesLess (w.take k ++ ([UInt8.ofNat x.c.toNat] ++ u)) w=true:=by
    rw [hw2]
    rw [← h4]
    rw [← h4] at h1
    exact h1
   rw [← hw2]
   exact h6)
  omega
 ·
  have:=hp.length_le
  rw [List.length_append,List.length_singleton] at this
  omega
theorem
    BegI.add (h:BegI W i k w node T X) (hi:i<W.length) (hw:W[i]=w) (hinc:W.Pairwise fun a b=>Op.bytesLess a b=true) (hk:k<w.length) (hlast:∀ x,(T[node]'h.node_lt).arcs.getLast? = some x→x.c≠(w[k].toNat:Int)) :
  ∃ X',BegI W i (k+1) w T.length (addArc T node w[k]) X':=by
 have hn:=h.node_lt
 have hl:=h.tr.len
 have e3:X[node]'(by omega)=w.take k:=(List.getElem?_eq_some_iff.1 h.at_).2
 have hlt:∀ x∈T[node].arcs,x.c<(w[k].toNat:Int):=fun x hx=>by
  cases e:T[node].arcs.getLast? with
  | none=>rw [List.getLast?_eq_none_iff] at e;rw [e] at hx;cases hx
  | some y =>
   have hy:=List.mem_of_getLast? e
   have h1:=h.arcs_lt hi hw hinc hk hy
   have h2:=hlast y e
   obtain ⟨l,hl2⟩:=List.getLast?_eq_some_iff.1 e
   have h3:=h.tr.sorted node hn
   rw [hl2] at h3 hx
   rcases List.mem_append.1 hx with hx | hx
   ·
    have:=(List.pairwise_append.1 h3).2.2 x hx y (by simp)
    omega
   · rw [List.mem_singleton.1 hx];omega
 have hc:(X[node]'(by omega)) ++ [w[k]] ∉ X:=fun hm=>by
  obtain ⟨t,ht⟩:=List.getElem?_of_mem hm
  have:=hlt _ (h.tr.bwd node t hn w[k] ht)
  simp only at this
  omega
 have htr:=h.tr.add hn hc hlt
 refine ⟨_,htr,?_,fun p hp=>?_,fun n hn2=>?_,fun j hj hji=>?_,?_⟩
 ·
  have h1:(X ++ [(X[node]'(by omega)) ++ [w[k]]])[X.length]? = some ((X[node]'(by omega)) ++ [w[k]]):=by simp
  rw [take_succ_get hk,← e3]
  exact (congrArg (fun j=>(X ++ [(X[node]'(by omega)) ++ [w[k]]])[j]?) hl.symm).trans h1
 ·
  rcases List.mem_append.1 hp with hp | hp
  ·
   refine (h.src p hp).imp id fun h1=>?_
   rw [take_succ_get hk];exact h1.trans (List.prefix_append _ _)
  ·
   rw [List.mem_singleton.1 hp,e3,take_succ_get hk]
   exact .inr (List.prefix_refl _)
 ·
  rw [addArc_len] at hn2
  by_cases hnT:n<T.length
  ·
   rw [addArc_old hnT]
   have hx:(X ++ [(X[node]'(by omega)) ++ [w[k]]])[n]? = X[n]?:=List.getElem?_append_left (by omega)
   rw [hx]
   have:=h.word n hnT
   split <;> exact this
  ·
   obtain rfl:n=T.length:=by omega
   rw [addArc_new]
   exact .inl rfl
 ·
  obtain ⟨n,hn3,h1,h2⟩:=h.all j hj hji
  refine ⟨n,by rw [addArc_len];omega,?_,?_⟩
  · rw [List.getElem?_append_left (by omega)];exact h1
  · rw [addArc_old hn3];split <;> exact h2
 · rw [addArc_len];have:=h.size;omega
theorem
    BegI.wordEnd (h:BegI W i k w node T X) (hi:i<W.length) (hw:W[i]=w) (hinc:W.Pairwise fun a b=>Op.bytesLess a b=true) (hk:¬ k<w.length) (hk20:k≤20) (w':List UInt8):BegI W (i+1) 0 w' 0 (setWord T node (i:Int)) X:=by
 have hn:=h.node_lt
 have hl:=h.tr.len
 have hat:X[node]? = some w:=by rw [h.at_,List.take_of_length_le (by omega)]
 refine ⟨h.tr.setWord node i,by rw [List.take_zero];exact h.tr.zero,fun p hp=>.inl ?_,fun n hn2=>?_,fun j hj hji=>?_,?_⟩
 ·
  rcases h.src p hp with ⟨j,hj,hji,h1⟩ | h1
  · exact ⟨j,hj,by omega,h1⟩
  · exact ⟨i,hi,Nat.lt_succ_self _,by rw [hw];exact h1.trans (List.take_prefix _ _)⟩
 ·
  have hn3:n<T.length:=by rw [setWord_len] at hn2;exact hn2
  rw [setWord_get hn3]
  split
  ·
   rename_i e
   subst e
   exact .inr ⟨i,hi,Nat.lt_succ_self _,rfl,by rw [hat,hw]⟩
  ·
   rcases h.word n hn3 with h1 | ⟨j,hj,hji,h1⟩
   · exact .inl h1
   · exact .inr ⟨j,hj,by omega,h1⟩
 ·
  by_cases e:j=i
  ·
   subst e
   exact ⟨node,by rw [setWord_len];exact hn,by rw [hat,hw],by rw [setWord_get hn,if_pos rfl]⟩
  ·
   obtain ⟨n,hn3,h1,h2⟩:=h.all j hj (by omega)
   refine ⟨n,by rw [setWord_len];exact hn3,h1,?_⟩
   rw [setWord_get hn3,if_neg ?_]
   · exact h2
   ·
    intro e2
    subst e2
    rw [hat] at h1
    injection h1 with h1
    have h3:=(List.pairwise_iff_getElem.1 hinc) j i hj hi (by omega)
    rw [hw,← h1] at h3
    have:Op.bytesLess w w=false:=bl_irr w
    rw [this] at h3
    cases h3
 · rw [setWord_len];have:=h.size;omega
end
structure TrW (T:List Bn) (W:List (List UInt8)):Prop where
 trIn:TrIn T
 wd:∀ b∈T,b.word<(W.length:Int)
 pos:0<T.length
 size:T.length≤1+20*W.length
 fol1:∀ o n (k:Nat),folT T 0 o=some n→(wordT T n=(k:Int)↔∃ h:k<W.length,W[k]=o)
 fol2:∀ w∈W,∃ n,folT T 0 w=some n
theorem
    BegI.done {W:List (List UInt8)} {w:List UInt8} {T:List Bn} {X:List (List UInt8)} (h:BegI W W.length 0 w 0 T X) (hinc:W.Pairwise fun a b=>Op.bytesLess a b=true):TrW T W:=by
 have hn:=h.node_lt
 have hl:=h.tr.len
 have h0:X[0]'(by omega)=[]:=(List.getElem?_eq_some_iff.1 h.tr.zero).2
 have hf:∀ o m,folT T 0 o=some m↔X[m]? = some o:=fun o m=>by rw [h.tr.fol o hn,h0];rfl
 refine ⟨h.tr.trIn,fun b hb=>?_,hn,h.size,fun o n k ho=>?_,fun w hw=>?_⟩
 ·
  obtain ⟨n,hn2,rfl⟩:=List.mem_iff_getElem.1 hb
  rcases h.word n hn2 with h1 | ⟨j,hj,_,h1,_⟩ <;> omega
 ·
  have hx:=(hf o n).1 ho
  have hnT:n<T.length:=by have:=(List.getElem?_eq_some_iff.1 hx).1;omega
  have hwt:wordT T n=T[n].word:=by unfold wordT;rw [List.getElem?_eq_getElem hnT]
  rw [hwt]
  constructor
  ·
   intro h1
   rcases h.word n hnT with h2 | ⟨j,hj,_,h2,h3⟩
   · omega
   ·
    have e:j=k:=by omega
    subst e
    rw [hx] at h3
    injection h3 with h3
    exact ⟨hj,h3.symm⟩
  ·
   rintro ⟨hk,rfl⟩
   obtain ⟨m,hm,h1,h2⟩:=h.all k hk hk
   have:=nodup_ix h.tr.nd h1 hx
   subst this
   exact h2
 ·
  obtain ⟨j,hj,rfl⟩:=List.mem_iff_getElem.1 hw
  obtain ⟨m,hm,h1,h2⟩:=h.all j hj hj
  exact ⟨m,(hf _ _).2 h1⟩
end Go.Proofs.YthjmdgejnakcmaaDoor
namespace Go.Proofs.YthjmdgejnakcmaaDoor
open Go.RowKit Go.WideShapes Fl
set_option linter.unusedVariables false
set_option linter.unusedSimpArgs false
structure BV where
 word:Int
 a:Option Addr
 n:Nat
 c:Nat
def BV.s (x:BV):Value:=.slice x.a x.n x.c
def rowBn:RowT BV:=⟨77,92,2,32,.agg #[.int .i64 0,.slice none 0 0],fun x=>[.int .i64 x.word,.slice x.a x.n x.c]⟩
theorem rowBn_ok:rowBn.Ok:=⟨Tryd.underlying77,by kernel_rfl,rfl,by decide,fun _=>rfl,fun x u hu=>by
 have h:u=.int .i64 x.word∨u=.slice x.a x.n x.c:=by simpa [rowBn] using hu
 rcases h with rfl | rfl <;> rfl,by decide⟩
theorem ownG_obj {α:Type} {T:RowT α} {w:World} {B:Nat} {v:Value} {L:List α} (h:OwnG T w B v L) {g:Nat} (hg:v.ownBlock=some g):∃ cs,w.heap[g]? = some (.cells cs T.e (0,0)):=by
 rcases h.2 with ⟨rfl,_⟩ | ⟨g',cap,cur,rfl,_,h2,_⟩
 · cases hg
 · cases hg;exact ⟨_,h2⟩
theorem OwnG.setCell {α:Type} {T:RowT α} {w:World} {B g n c0 i:Nat} {N N':List α} {y:Value} (h:OwnG T w B (.slice (some ⟨g,0,none⟩) n c0) N) (hl:N'.length=N.length) (hf:N'.flatMap T.enc=(N.flatMap T.enc).set i y) (hi:i<N.length*T.k) (hT:T.Ok) :
  OwnG T (w.setCell ⟨g,i,none⟩ y) B (.slice (some ⟨g,0,none⟩) n c0) N':=by
 rcases h.2 with ⟨he,_⟩ | ⟨g',cap,cur,he,h1,h2,h3,h4,h5,h6⟩
 · cases he
 ·
  injection he with e1 e2 e3
  injection e1 with e1
  injection e1 with e1 _ _
  subst e1
  subst e2
  subst e3
  refine ⟨by rw [flat_len hT,hl],.inr ⟨g,c0,cur.setIfInBounds i y,by rw [hl],h1,heap_setCell_same w g i cur _ y h2,by rw [hl];exact h3,h4,by simpa using h5,?_⟩⟩
  rw [hl,hf,← h6,Array.toList_setIfInBounds,List.take_set]
theorem
    enc_set {N:List BV} {k:Nat} (hk:k<N.length) (y:BV) {j:Nat} {u:Value} (hj:j<2) (he:(rowBn.enc N[k]).set j u=rowBn.enc y):(N.set k y).flatMap rowBn.enc=(N.flatMap rowBn.enc).set (k*2+j) u:=by
 induction N generalizing k with
 | nil=>simp at hk
 | cons x r ih =>
  cases k with
  | zero =>
   simp only [List.set_cons_zero,List.flatMap_cons,Nat.zero_mul,Nat.zero_add]
   rw [← he,List.set_append_left]
   · rfl
   · show j<2;exact hj
  | succ k =>
   simp only [List.set_cons_succ,List.flatMap_cons]
   rw [ih (by simpa using hk) he,List.set_append_right]
   ·
    congr 2
    show k*2+j=(k+1)*2+j - 2
    omega
   · show 2≤(k+1)*2+j;omega
structure TrM (w:World) (B:Nat) (v:Value) (N:List BV) (T:List Bn):Prop where
 own:OwnG rowBn w B v N
 len:N.length=T.length
 row:∀ (k:Nat) (h:k<N.length) (h2:k<T.length),N[k].word=T[k].word∧OwnG rowArc w B N[k].s T[k].arcs
 dis:∀ (j k:Nat) (hj:j<N.length) (hk:k<N.length) (q:Nat),j≠k→N[j].s.ownBlock=some q→N[k].s.ownBlock≠some q
section
variable {w w':World} {B:Nat} {v:Value} {N:List BV} {T:List Bn}
theorem TrM.ext (h:TrM w B v N T) (hx:Ext w w'):TrM w' B v N T :=
 ⟨h.own.later hx (Nat.le_refl _),h.len,fun k h1 h2=>⟨(h.row k h1 h2).1,(h.row k h1 h2).2.later hx (Nat.le_refl _)⟩,h.dis⟩
theorem TrM.arcs (h:TrM w B v N T) {k:Nat} (hk:k<T.length):∃ hN:k<N.length,N[k].n=T[k].arcs.length∧T[k].arcs.length≤N[k].c∧ArcS w N[k].a T[k].arcs:=by
 have hN:k<N.length:=by rw [h.len];exact hk
 obtain ⟨h1,h2,h3⟩:=(h.row k hN hk).2.arcs
 exact ⟨hN,h2,h3,h1⟩
theorem TrM.cells {g n c:Nat} (h:TrM w B (.slice (some ⟨g,0,none⟩) n c) N T) {k:Nat} (hk:k<T.length):∃ hN:k<N.length,w.cell? ⟨g,k*2,none⟩=some (.int .i64 T[k].word)∧w.cell? ⟨g,k*2+1,none⟩=some (.slice N[k].a T[k].arcs.length N[k].c):=by
 obtain ⟨hN,h1,h2,h3⟩:=h.arcs hk
 refine ⟨hN,?_,?_⟩
 ·
  have:=h.own.cell rowBn_ok hN (j:=0) (by decide)
  rw [show (rowBn.enc N[k])[0]? = some (.int .i64 N[k].word) from rfl,(h.row k hN hk).1] at this
  exact this
 ·
  have:=h.own.cell rowBn_ok hN (j:=1) (by decide)
  rw [show (rowBn.enc N[k])[1]? = some (.slice N[k].a N[k].n N[k].c) from rfl,h1] at this
  exact this
theorem TrM.tree {a:Option Addr} {n c:Nat} (h:TrM w B (.slice a n c) N T):TreeS w a T:=fun k hk=>by
 rcases h.own.blk with ⟨_,rfl⟩ | ⟨g,c2,he2,_,hg,_⟩
 · have:=h.len;simp at this;omega
 ·
  injection he2 with f1 f2 f3
  subst f1 f2 f3
  obtain ⟨hN,h1,h2⟩:=h.cells hk
  obtain ⟨_,h3,h4,h5⟩:=h.arcs hk
  have h6:=(h.row k hN hk).2.form
  obtain ⟨a',c',e1,e2,e3⟩:=h6
  refine ⟨g,0,rfl,hg,by rw [Nat.zero_add];exact h1,_,_,by rw [Nat.zero_add];exact h2,?_,h5⟩
  unfold maxLen at e3
  omega
theorem TrM.ne {g n c k:Nat} (h:TrM w B (.slice (some ⟨g,0,none⟩) n c) N T) (hk:k<N.length):N[k].s.ownBlock≠some g:=fun e=>by
 obtain ⟨cs,h1⟩:=ownG_obj h.own (g:=g) rfl
 obtain ⟨cs2,h2⟩:=ownG_obj (h.row k hk (by rw [← h.len];exact hk)).2 e
 rw [h1] at h2
 injection h2 with h2
 injection h2 with _ h3
 exact absurd h3 (by decide)
theorem
    TrM.put1 {g n c k:Nat} {x:Ar} {a':Option Addr} {c':Nat} (h:TrM w B (.slice (some ⟨g,0,none⟩) n c) N T) (hk:k<N.length) (hk2:k<T.length) (ho:OwnG rowArc w' B (.slice a' (T[k].arcs.length+1) c') (T[k].arcs ++ [x])) (hg:w.grownBy w' N[k].s.ownBlock)
  (hat:(Value.slice a' (T[k].arcs.length+1) c').ownBlock=N[k].s.ownBlock∨(Value.slice a' (T[k].arcs.length+1) c').ownBlock=some w.heap.size) :
  TrM (w'.setCell ⟨g,k*2+1,none⟩ (.slice a' (T[k].arcs.length+1) c')) B (.slice (some ⟨g,0,none⟩) n c) (N.set k ⟨N[k].word,a',T[k].arcs.length+1,c'⟩) (setArc T k x):=by
 have hne:∀ q,q≠g→(w'.setCell ⟨g,k*2+1,none⟩ (.slice a' (T[k].arcs.length+1) c')).heap[q]? = w'.heap[q]?:=fun q hq=>Below.heap_setCell _ _ _ _ hq
 have hgl:=h.own.lt g rfl
 have hgk:w'.heap[g]? = w.heap[g]?:=hg.block g hgl fun e=>h.ne hk e.symm
 have hown':OwnG rowBn w' B (.slice (some ⟨g,0,none⟩) n c) N:=h.own.keep fun q hq=>by injection hq with hq;rw [← hq];exact hgk
 have hg':(Value.slice a' (T[k].arcs.length+1) c').ownBlock≠some g:=fun e=>by
  rcases hat with h1 | h1
  · rw [h1] at e;exact h.ne hk e
  · rw [h1] at e;injection e with e;omega
 have hsl:(setArc T k x).length=T.length:=by simp [setArc]
 have hsg:∀ j (hj:j<T.length),(setArc T k x)[j]'(by rw [hsl];exact hj)=if k=j then ⟨T[j].word,T[j].arcs ++ [x]⟩ else T[j]:=fun j hj=>by
  unfold setArc;rw [List.getElem_modify]
 refine ⟨hown'.setCell (by simp) (enc_set hk _ (j:=1) (by decide) rfl) (by show k*2+1<N.length*2;omega) rowBn_ok,by rw [List.length_set,hsl];exact h.len,fun j hj hj2=>?_,fun j j2 hj hj2 q hjj hq=>?_⟩
 ·
  have hj':j<N.length:=by simpa using hj
  have hjT:j<T.length:=by rw [← h.len];exact hj'
  rw [hsg j hjT,List.getElem_set]
  by_cases e:k=j
  ·
   subst e
   rw [if_pos rfl,if_pos rfl]
   exact ⟨(h.row k hk hk2).1,ho.keep fun q hq=>hne q fun e=>hg' (by rw [← e];exact hq)⟩
  ·
   rw [if_neg e,if_neg e]
   refine ⟨(h.row j hj' hjT).1,(h.row j hj' hjT).2.keep fun q hq=>?_⟩
   rw [hne q fun e2=>h.ne hj' (by rw [← e2];exact hq)]
   exact hg.block q ((h.row j hj' hjT).2.lt q hq) fun e2=>h.dis j k hj' hk q (fun e3=>e e3.symm) hq e2.symm
 ·
  have hj':j<N.length:=by simpa using hj
  have hj2':j2<N.length:=by simpa using hj2
  rw [List.getElem_set] at hq ⊢
  by_cases e:k=j
  ·
   rw [if_pos e] at hq
   have e2:¬ k=j2:=fun e2=>hjj (e.symm.trans e2)
   rw [if_neg e2]
   intro e3
   have hq':(Value.slice a' (T[k].arcs.length+1) c').ownBlock=some q:=hq
   rcases hat with h1 | h1
   · rw [h1] at hq';exact h.dis k j2 hk hj2' q e2 hq' e3
   ·
    rw [h1] at hq';injection hq' with hq'
    have:=(h.row j2 hj2' (by rw [← h.len];exact hj2')).2.lt q e3
    omega
  ·
   rw [if_neg e] at hq
   by_cases e2:k=j2
   ·
    rw [if_pos e2]
    intro e3
    have e3':(Value.slice a' (T[k].arcs.length+1) c').ownBlock=some q:=e3
    rcases hat with h1 | h1
    · rw [h1] at e3';exact h.dis j k hj' hk q (fun e4=>e e4.symm) hq e3'
    ·
     rw [h1] at e3';injection e3' with e3'
     have:=(h.row j hj' (by rw [← h.len];exact hj')).2.lt q hq
     omega
   ·
    rw [if_neg e2]
    exact h.dis j j2 hj' hj2' q hjj hq
theorem
    TrM.grow {v':Value} (h:TrM w B v N T) (ho:OwnG rowBn w' B v' (N ++ [⟨-1,none,0,0⟩])) (hg:w.grownBy w' v.ownBlock) (hB:B≤w'.heap.size):TrM w' B v' (N ++ [⟨-1,none,0,0⟩]) (T ++ [⟨-1,[]⟩]):=by
 have hnew:∀ (j:Nat) (hj:j<(N ++ [(⟨-1,none,0,0⟩:BV)]).length),¬ j<N.length→(N ++ [(⟨-1,none,0,0⟩:BV)])[j]=⟨-1,none,0,0⟩:=fun j hj hn=>by
  rw [List.getElem_append_right (by omega)]
  have:j - N.length=0:=by rw [List.length_append,List.length_singleton] at hj;omega
  simp [this]
 refine ⟨ho,by rw [List.length_append,List.length_append,h.len];rfl,fun j hj hj2=>?_,fun j j2 hj hj2 q hjj hq=>?_⟩
 ·
  by_cases e:j<N.length
  ·
   have eT:j<T.length:=by rw [← h.len];exact e
   rw [List.getElem_append_left e,List.getElem_append_left eT]
   refine ⟨(h.row j e eT).1,(h.row j e eT).2.keep fun q hq=>hg.block q ((h.row j e eT).2.lt q hq) fun e2=>?_⟩
   obtain ⟨cs,h1⟩:=ownG_obj h.own e2.symm
   obtain ⟨cs2,h2⟩:=ownG_obj (h.row j e eT).2 hq
   rw [h1] at h2
   injection h2 with h2
   injection h2 with _ h3
   exact absurd h3 (by decide)
  ·
   rw [hnew j hj e]
   have eT:¬ j<T.length:=by rw [← h.len];exact e
   have:(T ++ [(⟨-1,[]⟩:Bn)])[j]=⟨-1,[]⟩:=by
    rw [List.getElem_append_right (by omega)]
    have:j - T.length=0:=by rw [List.length_append,List.length_singleton] at hj2;omega
    simp [this]
   rw [this]
   exact ⟨rfl,OwnG.nil _ _ _⟩
 ·
  by_cases e:j<N.length
  ·
   rw [List.getElem_append_left e] at hq
   by_cases e2:j2<N.length
   · rw [List.getElem_append_left e2];exact h.dis j j2 e e2 q hjj hq
   · rw [hnew j2 hj2 e2];intro h9;cases h9
  · rw [hnew j hj e] at hq;cases hq
theorem TrM.word {g n c k:Nat} {i:Int} (h:TrM w B (.slice (some ⟨g,0,none⟩) n c) N T) (hk:k<N.length) :
  TrM (w.setCell ⟨g,k*2,none⟩ (.int .i64 i)) B (.slice (some ⟨g,0,none⟩) n c) (N.set k ⟨i,N[k].a,N[k].n,N[k].c⟩) (setWord T k i):=by
 have hne:∀ q,q≠g→(w.setCell ⟨g,k*2,none⟩ (.int .i64 i)).heap[q]? = w.heap[q]?:=fun q hq=>Below.heap_setCell _ _ _ _ hq
 have hsg:∀ j (hj:j<T.length),(setWord T k i)[j]'(by rw [setWord_len];exact hj)=if k=j then ⟨i,T[j].arcs⟩ else T[j]:=fun j hj=>setWord_get hj
 have hs:∀ j (hj:j<N.length),((N.set k ⟨i,N[k].a,N[k].n,N[k].c⟩)[j]'(by simpa using hj)).s=N[j].s:=fun j hj=>by
  rw [List.getElem_set]
  split
  · rename_i e;subst e;rfl
  · rfl
 refine ⟨h.own.setCell (by simp) (enc_set hk _ (j:=0) (by decide) rfl) (by show k*2<N.length*2;omega) rowBn_ok,by rw [List.length_set,setWord_len];exact h.len,fun j hj hj2=>?_,fun j j2 hj hj2 q hjj hq=>?_⟩
 ·
  have hj':j<N.length:=by simpa using hj
  have hjT:j<T.length:=by rw [← h.len];exact hj'
  have h1:=h.row j hj' hjT
  have h2:OwnG rowArc (w.setCell ⟨g,k*2,none⟩ (.int .i64 i)) B N[j].s T[j].arcs:=h1.2.keep fun q hq=>hne q fun e=>h.ne hj' (by rw [← e];exact hq)
  refine ⟨?_,?_⟩
  ·
   rw [hsg j hjT,List.getElem_set]
   split
   · rfl
   · exact h1.1
  · rw [hs j hj',setWord_arcs hjT];exact h2
 ·
  have hj':j<N.length:=by simpa using hj
  have hj2':j2<N.length:=by simpa using hj2
  rw [hs j hj'] at hq
  rw [hs j2 hj2']
  exact h.dis j j2 hj' hj2' q hjj hq
end
end Go.Proofs.YthjmdgejnakcmaaDoor
namespace Go.Proofs.YthjmdgejnakcmaaDoor
open Go.RowKit Go.WideShapes Fl
set_option linter.unusedVariables false
set_option linter.unusedSimpArgs false
def BegP (W:List ByteArray) (e:Ending) (w':World):Prop:=∃ aT nT cT T,e=.returned (.slice aT nT cT)∧nT=T.length∧TreeS w' aT T∧TrW T (W.map bts)
theorem StrS.kp {w w1:World} {a:Option Addr} {L:List ByteArray} (h:StrS w a L) (hk:Kc w w1):StrS w1 a L:=fun k hl=>by
 obtain ⟨b,o,ha,h1,h2⟩:=h k hl
 exact ⟨b,o,ha,Nat.lt_of_lt_of_le h1 hk.size,hk.cell h2⟩
theorem idx_strs2 (a:Option Addr) (b o len cap k:Nat) (ha:a=some ⟨b,o,none⟩) (hk:k<len) (w:World) :
  (Instr.indexAt 42 (.slice a len cap) (.int .i64 (k:Int))).run Tryd.prog w=.ok (.pointer (some ⟨b,o+k,none⟩)) w:=by
 subst ha
 have h0:(0:Int)≤(k:Int):=by omega
 have h1:(k:Int)<(len:Int):=by omega
 simp [go_sem,h0,h1]
theorem wbts {W:List ByteArray} {i:Nat} (hi:i<W.length):(W.map bts)[i]'(by simpa using hi)=bts W[i]:=by simp
set_option maxHeartbeats 6400000 in
set_option maxRecDepth 100000 in
theorem
    begin_any
         (Ws:List ByteArray) (n:Nat) (a:Option Addr) (cap:Nat) (w:World) (hW:StrS w a Ws) (hn:n=Ws.length) (hl:Ws.length≤1000) (hs:∀ x∈Ws,x.size≤20) (hinc:(Ws.map bts).Pairwise fun a b=>Op.bytesLess a b=true) :
  Calls Tryd.prog 27 #[.slice a n cap] w fun e w'=>BegP Ws e w'∧Below w.heap.size w w':=by
 subst hn
 have HW:=Lib.hid hW;have HS:=Lib.hid hs;have HI:=Lib.hid hinc
 clear hW hs hinc
 go_enter Tryd.func27,Tryd.ntmps27
 go_wp2
 have HT0:Hid (TrM (w.alloc (.cells #[.int .i64 (-1),.slice none 0 0] 92)) w.heap.size (.slice (some ⟨w.heap.size,0,none⟩) 1 1) [⟨-1,none,0,0⟩] [⟨-1,[]⟩]):=by
  refine ⟨OwnG.one rowBn_ok (x:=⟨-1,none,0,0⟩) (heap_alloc_new _ _) (Nat.le_refl _),rfl,fun k h h2=>?_,fun j k hj hk q hjk hq=>?_⟩
  ·
   have e:k=0:=by simp at h;omega
   subst e
   exact ⟨rfl,OwnG.nil _ _ _⟩
  ·
   have e:j=0:=by simp at hj;omega
   subst e
   cases hq
 go_loopg [3,14] Ws.length (fun g v3 v14 wr=>∃ (i:Nat) (N:List BV) (T:List Bn) (X:List (List UInt8)),v14=.int .i64 (i:Int)∧i≤Ws.length∧g=Ws.length - i∧TrM wr w.heap.size v3 N T∧BegI (Ws.map bts) i 0 ((Ws.map bts).getD i []) 0 T X∧Below w.heap.size w wr)
 case atStart=>exact ⟨0,_,_,_,rfl,Nat.zero_le _,rfl,HT0.out,BegI.start _ _,(Below.refl _ _).alloc (Nat.le_refl _) _⟩
 case round =>
  clear HT0
  obtain ⟨i,N,T,X,rfl,hi,hgk,htm,hbi,hbl⟩:=hrel
  have HTM:=Lib.hid htm;have HBI:=Lib.hid hbi;have HBL:=Lib.hid hbl;have HGK:=Lib.hid hgk
  have hTp:=hbi.node_lt
  have hTs:=hbi.size
  clear htm hbi hbl hgk
  by_cases hlt:i<Ws.length
  ·
   obtain ⟨
       b0,
         o0,ha0,hb0,q0⟩:=(StrS.kp HW.out (Kc.of HBL.out (Nat.le_refl _))).at hlt
   have hidx:=idx_strs2 a b0 o0 Ws.length cap i ha0 hlt
   have hs20:=HS.out _ (List.getElem_mem hlt)
   have hwi:=wbts hlt
   have hgd:(Ws.map bts).getD i []=bts Ws[i]:=by rw [List.getD_eq_getElem?_getD,List.getElem?_eq_getElem (by simpa using hlt),← hwi];rfl
   obtain ⟨s,hse⟩:∃ s,Ws[i]=s:=⟨_,rfl⟩
   rw [hse] at q0 hs20 hwi hgd
   rw [hgd] at HBI
   have HWI:=Lib.hid hwi
   have hiW:i<(Ws.map bts).length:=by simpa using hlt
   clear ha0 hwi hgd hse
   go_wp2_with fail
   go_loopg [3,6,21] s.size (fun g v3 v6 v21 wr=>∃ (k node:Nat) (N:List BV) (T:List Bn) (X:List (List UInt8)),v21=.int .i64 (k:Int)∧v6=.int .i64 (node:Int)∧k≤s.size∧g=s.size - k∧TrM wr w.heap.size v3 N T∧BegI (Ws.map bts) i k (bts s) node T X∧Below w.heap.size w wr)
   case atStart=>exact ⟨0,0,_,_,_,rfl,rfl,Nat.zero_le _,rfl,HTM.out,HBI.out,HBL.out⟩
   case round =>
    clear HTM HBI HBL hTp hTs
    obtain ⟨k,node,N,T,X,rfl,rfl,hk,hgk2,htm,hbi,hbl⟩:=hrel
    have HGK2:=Lib.hid hgk2
    have hnd:=hbi.node_lt
    have hTs:=hbi.size
    have hndN:node<N.length:=by rw [htm.len];exact hnd
    rcases htm.own.blk with ⟨_,rfl⟩ | ⟨gT,cT,rfl,hgB,hgs,hcT⟩
    · simp at hndN
    have hNl:=htm.len
    rw [hNl] at htm hcT ⊢
    obtain ⟨hN2,t0,t1⟩:=htm.cells hnd
    obtain ⟨_,t2,t3,t4⟩:=htm.arcs hnd
    have hidt:=idx_tree (some ⟨gT,0,none⟩) gT 0 T.length cT node rfl hnd
    rw [Nat.zero_add] at hidt
    have hrow:=(htm.row node hN2 hnd).2
    have HTM:=Lib.hid htm;have HBI:=Lib.hid hbi;have HBL:=Lib.hid hbl;have HROW:=Lib.hid hrow
    clear htm hbi hbl hgk2 hrow hNl
    by_cases hlk:k<s.size
    ·
     have hlk2:k<(bts s).length:=by rw [bts_len];exact hlk
     have HFO:=Lib.hid (fun x=>HBI.out.follow hlk2 (x:=x))
     have HAD:=Lib.hid (HBI.out.add hiW HWI.out HI.out hlk2)
     have hal:T[node].arcs.length≤256:=by
      have h1:=HBI.out.tr.sorted node hnd
      have h2:=nodup_bound 256 (T[node].arcs.map fun x=>x.c.toNat) (by
       unfold List.Nodup
       rw [List.pairwise_map]
       refine List.Pairwise.imp_of_mem (fun {a b} ha hb hab=>?_) h1
       have h3:=(HBI.out.tr.fwd node hnd a ha).1
       have h4:=(HBI.out.tr.fwd node hnd b hb).1
       omega) (fun x hx=>by
       obtain ⟨y,hy,rfl⟩:=List.mem_map.1 hx
       have h3:=HBI.out.tr.fwd node hnd y hy
       omega)
      simpa using h2
     obtain ⟨AL,hA⟩:∃ AL,T[node].arcs=AL:=⟨_,rfl⟩
     obtain ⟨an,han⟩:∃ an,N[node].a=an:=⟨_,rfl⟩
     obtain ⟨cn,hcn⟩:∃ cn,N[node].c=cn:=⟨_,rfl⟩
     rw [hA] at t1 t2 t3 t4 hal
     rw [han,hcn] at t1
     rw [han] at t4
     have HSV:Hid (N[node].s=.slice an AL.length cn):=by show _=_;unfold BV.s;rw [han,hcn,t2]
     rw [HSV.out,hA] at HROW
     have HA:=Lib.hid hA
     have hbyte:(bts s)[k]'hlk2=s[k]:=rfl
     have HBY:=Lib.hid hbyte
     have HT4:=Lib.hid t4
     have hTb:T.length≤100000:=by omega
     have hfzT:wr.frozen? ⟨gT,node*2+1,none⟩=false:=by
      obtain ⟨cs,hcs⟩:=ownG_obj HTM.out.own (g:=gT) rfl
      simp [World.frozen?,hcs]
     have hc0:(0:Int)≤(s[k].toNat:Int):=by omega
     have hc1:(s[k].toNat:Int)≤255:=by have:=s[k].toNat_lt;omega
     have HT1:=Lib.hid t1;have HFZ:=Lib.hid hfzT
     clear hA han hcn t2 t3 t4 hbyte
     cases hlen:AL.length with
     | zero =>
      have HLAST:Hid (∀ x,AL.getLast? = some x→x.c≠(s[k].toNat:Int)):=fun x hx=>by
       rw [List.eq_nil_of_length_eq_zero hlen] at hx;cases hx
      have HNL:Hid (AL=[]):=List.eq_nil_of_length_eq_zero hlen
      clear hlen
      go_wp2_with fail
      refine wp_region_rv (by kernel_rfl) (Vs [vq (.int .i64 (AL.length:Int)),vq (.bool false),vq (.bool false),vq (undef),vq (undef),vq (undef),vq (undef),vq (undef),vq (undef),vq (undef),vq (undef),vq (undef),vq (undef),vq (.bool false)]) (fun W=>Ext wr W) 78 (by kernel_rfl) rfl ?hVx ?hSx ?hS (opsOk_all ?hop) ?hfin
      case hop =>
       refine ⟨?_,?k1,?_,?_,?_,?_,?_,?_,?_,?_,?_,?_,?_,?_,trivial⟩
       all_goals
        intro A W hsz hS hdep hbase
        skip
        have h5:A.tmps.getD 5 undef=.string s:=hbase 5 (by kernel_rfl)
        have h7:A.tmps.getD 7 undef=.int .i64 (k:Int):=hbase 7 (by kernel_rfl)
        have h8:A.tmps.getD 8 undef=.slice an AL.length cn:=hbase 8 (by kernel_rfl)
        have h9:A.tmps.getD 9 undef=.int .i64 (AL.length:Int):=hbase 9 (by kernel_rfl)
        clear hbase
        simp [slotOf,Region.binds,Vs,vq] at hdep
       case k1 =>
        refine opOk_run rfl (.inl ⟨_,W,?_,rfl,Ext.refl _⟩)
        clear hsz hS;simp [go_sem,Act.eval, *]
        exact HNL.out
       all_goals first
        | (refine opOk_run rfl (.inl ⟨_,W,?_,rfl,Ext.refl _⟩);clear hsz hS;simp [go_sem,Act.eval, *];done)
        | exact opOk_skip (j:=2) (d:=33) (b:=false) rfl (by kernel_rfl) (by simp only [hdep]) rfl rfl
      case hVx=>exact vs_stays (by simp only [List.mem_cons,List.not_mem_nil,or_false,forall_eq_or_imp,forall_eq];and_intros <;> exact stays_const _)
      case hSx=>exact fun W W' h hx=>Ext.trans h hx
      case hS=>exact Ext.refl _
      case hfin =>
       intro A W hsz hdf hS hv hbase
       obtain ⟨x,hx,hA⟩:=act_puts [31,32,33,34,35,36,37,38,39,40,41,42,43,44] (by kernel_rfl) hsz hdf hbase
       have e44:x 44=.bool false:=(hx 44).trans (hv 13 (by decide))
       rw [hA]
       simp only [List.foldl]
       rw [e44]
       clear e44
       simp only [Act.put,List.setIfInBounds_toArray,List.set_cons_succ,List.set_cons_zero]
       clear hA hx hv hbase hsz hdf
       have HS0:Hid (Ext wr W):=hS
       have HQ5:Hid (W.cell? ⟨gT,node*2+1,none⟩=some (.slice an AL.length cn)):=Eq.trans (Below.cell hS (p:=⟨gT,node*2+1,none⟩) hgs) HT1.out
       have HF5:Hid (W.frozen? ⟨gT,node*2+1,none⟩=false):=Eq.trans (Below.frozen hS (p:=⟨gT,node*2+1,none⟩) hgs) HFZ.out
       clear hS
       obtain ⟨X',hbi'⟩:=HAD.out (by rw [HA.out];exact HLAST.out)
       rw [HBY.out] at hbi'
       have HBI':=Lib.hid hbi'
       have HROWW:=Lib.hid (HROW.out.later HS0.out (Nat.le_refl _))
       have HTMW:=Lib.hid (HTM.out.ext HS0.out)
       have HBLW:Hid (Below w.heap.size w W):=HBL.out.trans (Below.mono HS0.out HBL.out.size)
       have HBW9:Hid (w.heap.size≤W.heap.size):=HBLW.out.size
       clear hbi' HS0
       go_upto_region 14 with (first | (at_builtin;go_loud ((refine wpList_append_g (v:=.slice an AL.length cn) rowArc_ok rfl _ _ rfl rfl (HROWW.out.later ((Below.refl _ _).alloc (Nat.le_refl _) _) (Nat.le_refl _)) ⟨W.heap.size,0,none⟩ 1 [⟨(s[k].toNat:Int),(T.length:Int)⟩] rfl (cells_built (heap_alloc_new _ _)) (by simp only [List.length_singleton];omega) (by have:=HBW9.out;simp only [World.size_alloc];omega) ?_);intro v5 w5 hown5 hgrow5 hat5;obtain ⟨a5,c5,hv5, -, -⟩:=hown5.form;rw [List.length_append,List.length_singleton] at hv5;subst hv5;have hb5:w5.heap[gT]? = W.heap[gT]?:=(hgrow5.block gT (by have:=HTMW.out.own.lt gT rfl;simp only [World.size_alloc];omega) (fun e=>HTMW.out.ne hN2 (by rw [HSV.out];exact e.symm))).trans (Below.heap_alloc _ _ _ (HTMW.out.own.lt gT rfl));have q5:=(World.cell?_of_block (a:=⟨gT,node*2+1,none⟩) hb5).trans HQ5.out;have f5:=(World.frozen?_of_block (a:=⟨gT,node*2+1,none⟩) hb5).trans HF5.out;have HO5:=Lib.hid hown5;have HG5:=Lib.hid hgrow5;have HA5:=Lib.hid hat5;clear hown5 hgrow5 hat5 hb5)))
       obtain ⟨w6,hw6⟩:∃ w6,w5.setCell ⟨gT,node*2+1,none⟩ (.slice a5 (AL.length+1) c5)=w6:=⟨_,rfl⟩
       rw [hw6]
       have HTM6:Hid (TrM w6 w.heap.size (.slice (some ⟨gT,0,none⟩) T.length cT) (N.set node ⟨N[node].word,a5,AL.length+1,c5⟩) (setArc T node ⟨(s[k].toNat:Int),(T.length:Int)⟩)):=by
        show TrM _ _ _ _ _
        have h:=(HTMW.out.ext ((Below.refl _ W).alloc (Nat.le_refl _) (.cells #[.int .u8 (s[k].toNat:Int),.int .i64 (T.length:Int)] 72))).put1 (k:=node) (x:=⟨(s[k].toNat:Int),(T.length:Int)⟩) (a':=a5) (c':=c5) hN2 hnd (by rw [HA.out];exact HO5.out) (by rw [HSV.out];exact HG5.out) (by rw [HA.out,HSV.out];exact HA5.out)
        rw [HA.out,hw6] at h
        exact h
       have HB6:Hid (Below w.heap.size w w6):=by
        show Below _ _ _
        rw [← hw6]
        exact ((HBLW.out.trans (((Below.refl _ W).alloc (Nat.le_refl _) _).mono HBLW.out.size)).grown HG5.out (by have:=HBW9.out;simp only [World.size_alloc];omega) fun q hq=>HROWW.out.ge q hq).setCell (show w.heap.size≤(⟨gT,node*2+1,none⟩:Addr).block from hgB) _
       have hN6:(N.set node ⟨N[node].word,a5,AL.length+1,c5⟩).length=T.length:=by rw [List.length_set];exact HTM.out.len
       obtain ⟨N6,hN6e⟩:∃ N6,N.set node ⟨N[node].word,a5,AL.length+1,c5⟩=N6:=⟨_,rfl⟩
       rw [hN6e] at HTM6 hN6
       have HN6:=Lib.hid hN6
       clear hw6 q5 f5 hN6e hN6
       go_wp2_with (at_builtin;go_loud (refine wpList_append_g (v:=.slice (some ⟨gT,0,none⟩) T.length cT) rowBn_ok rfl _ _ rfl rfl (HTM6.out.own.later ((Below.refl _ _).alloc (Nat.le_refl _) _) (Nat.le_refl _)) ⟨w6.heap.size,0,none⟩ 1 [⟨-1,none,0,0⟩] rfl (cells_built (heap_alloc_new _ _)) (by have:=HN6.out;simp only [List.length_singleton];omega) (by have:=HB6.out.size;simp only [World.size_alloc];omega) ?_);intro v7 w7 hown7 hgrow7 hat7;have HO7:=Lib.hid hown7;have HG7:=Lib.hid hgrow7;clear hown7 hgrow7 hat7)
       go_roundg (s.size - (k+1))
       case measure=>have:=HGK2.out;omega
       case rel =>
        have hb7:Below w.heap.size w w7:=(HB6.out.trans (((Below.refl _ w6).alloc (Nat.le_refl _) _).mono HB6.out.size)).grown HG7.out (by have:=HB6.out.size;simp only [World.size_alloc];omega) fun q hq=>HTM6.out.own.ge q hq
        exact ⟨k+1,T.length,_,addArc T node s[k],X',by go_num,rfl,by omega,rfl,(HTM6.out.ext ((Below.refl _ _).alloc (Nat.le_refl _) _)).grow HO7.out HG7.out hb7.size,HBI'.out,hb7⟩
     | succ p =>
      have hp:p<AL.length:=by omega
      have hpe:(AL.length:Int) - 1=(p:Int):=by omega
      have hwp:IntKind.i64.wrap ((AL.length:Int) - 1)=(p:Int):=by rw [hpe];exact IntWalk.i64_in _ (by omega)
      have HNL:Hid (0<AL.length):=by show 0<_;omega
      have hgl:AL.getLast? = some AL[p]:=by rw [List.getLast?_eq_getElem?,show AL.length - 1=p by omega,List.getElem?_eq_getElem hp]
      have HGL:=Lib.hid hgl;have HWP:=Lib.hid hwp
      obtain ⟨b2,o2,ha2,hb2,l0,l1⟩:=HT4.out.at hp
      have hi2:=idx_arcs an b2 o2 AL.length cn p ha2 hp
      have HL0:=Lib.hid l0;have HL1:=Lib.hid l1;have HPE:=Lib.hid hpe
      clear hlen hgl ha2 l0 l1 hwp hpe
      by_cases hxc:AL[p].c=(s[k].toNat:Int)
      ·
       have hxcB:(AL[p].c == (s[k].toNat:Int))=true:=by rw [hxc];simp
       have hbi':=HFO.out AL[p] (by rw [HA.out];exact List.getElem_mem hp) hxc
       have hxt:=HBI.out.tr.fwd node hnd AL[p] (by rw [HA.out];exact List.getElem_mem hp)
       have HBI':=Lib.hid hbi'
       obtain ⟨m,hm⟩:∃ m:Nat,AL[p].t=(m:Int):=⟨AL[p].t.toNat,by omega⟩
       rw [hm,Int.toNat_natCast] at HBI'
       rw [hm] at HL1
       obtain ⟨xc,hxce⟩:∃ xc,AL[p].c=xc:=⟨_,rfl⟩
       rw [hxce] at HL0 hxcB
       clear hxc hbi' hxt hm hxce
       go_wp2_with fail
       refine wp_region_rv (by kernel_rfl) (Vs [vq (.int .i64 (AL.length:Int)),vq (.bool true),vq (.bool true),vq (.slice an AL.length cn),vq (.int .i64 (AL.length:Int)),vq (.int .i64 (p:Int)),vq (.pointer (some ⟨b2,o2+p*2,none⟩)),vq (.pointer (some ⟨b2,o2+p*2,none⟩)),vq (.int .u8 xc),vq (.string s),vq (.int .i64 (k:Int)),vq (.int .u8 (s[k].toNat:Int)),vq (.bool true),vq (.bool true)]) (fun W=>Ext wr W) 78 (by kernel_rfl) rfl ?hVx ?hSx ?hS (opsOk_all ?hop) ?hfin
       case hop =>
        refine ⟨?_,?k1,?_,?_,?_,?_,?_,?_,?_,?_,?_,?k11,?_,?_,trivial⟩
        all_goals
         intro A W hsz hS hdep hbase
         have l0:=Eq.trans (Below.cell hS (p:=⟨b2,o2+p*2,none⟩) hb2) HL0.out
         have hwp:=HWP.out
         have h5:A.tmps.getD 5 undef=.string s:=hbase 5 (by kernel_rfl)
         have h7:A.tmps.getD 7 undef=.int .i64 (k:Int):=hbase 7 (by kernel_rfl)
         have h8:A.tmps.getD 8 undef=.slice an AL.length cn:=hbase 8 (by kernel_rfl)
         have h9:A.tmps.getD 9 undef=.int .i64 (AL.length:Int):=hbase 9 (by kernel_rfl)
         clear hbase
         simp [slotOf,Region.binds,Vs,vq] at hdep
        case k1 =>
         refine opOk_run rfl (.inl ⟨_,W,?_,rfl,Ext.refl _⟩)
         clear hsz hS;simp [go_sem,Act.eval, *]
         exact HNL.out
        case k11 =>
         refine opOk_runG (j:=2) (d:=33) (b:=true) rfl (by kernel_rfl) (by simp only [hdep]) rfl (.inl ⟨_,W,?_,rfl,Ext.refl _⟩)
         clear hsz hS;simp [go_sem,Act.eval, *]
         all_goals rfl
        all_goals first
         | (refine opOk_run rfl (.inl ⟨_,W,?_,rfl,Ext.refl _⟩);clear hsz hS;simp [go_sem,Act.eval, *];done)
         | (refine opOk_runG (j:=2) (d:=33) (b:=true) rfl (by kernel_rfl) (by simp only [hdep]) rfl (.inl ⟨_,W,?_,rfl,Ext.refl _⟩);clear hsz hS;simp [go_sem,Act.eval, *];done)
       case hVx=>exact vs_stays (by simp only [List.mem_cons,List.not_mem_nil,or_false,forall_eq_or_imp,forall_eq];and_intros <;> exact stays_const _)
       case hSx=>exact fun W W' h hx=>Ext.trans h hx
       case hS=>exact Ext.refl _
       case hfin =>
        intro A W hsz hdf hS hv hbase
        obtain ⟨x,hx,hA⟩:=act_puts [31,32,33,34,35,36,37,38,39,40,41,42,43,44] (by kernel_rfl) hsz hdf hbase
        have e44:x 44=.bool true:=(hx 44).trans (hv 13 (by decide))
        rw [hA]
        simp only [List.foldl]
        rw [e44]
        clear e44
        simp only [Act.put,List.setIfInBounds_toArray,List.set_cons_succ,List.set_cons_zero]
        clear hA hx hv hbase hsz hdf
        have HS0:Hid (Ext wr W):=hS
        have l1:=Eq.trans (Below.cell hS (p:=⟨b2,o2+p*2+1,none⟩) hb2) HL1.out
        have hwp:=HWP.out
        have hpe:=HPE.out
        clear hS
        go_wp2_with fail
        go_roundg (s.size - (k+1))
        case measure=>have:=HGK2.out;omega
        case rel=>exact ⟨k+1,m,N,T,X,by go_num,rfl,by omega,rfl,HTM.out.ext HS0.out,HBI'.out,HBL.out.trans (Below.mono HS0.out HBL.out.size)⟩
      ·
       have hxcB:(AL[p].c == (s[k].toNat:Int))=false:=by simpa using hxc
       have HLAST:Hid (∀ x,AL.getLast? = some x→x.c≠(s[k].toNat:Int)):=fun x hx=>by
        rw [HGL.out] at hx;injection hx with hx;rw [← hx];exact hxc
       obtain ⟨xc,hxce⟩:∃ xc,AL[p].c=xc:=⟨_,rfl⟩
       rw [hxce] at HL0 hxcB
       clear hxc hxce
       go_wp2_with fail
       refine wp_region_rv (by kernel_rfl) (Vs [vq (.int .i64 (AL.length:Int)),vq (.bool true),vq (.bool true),vq (.slice an AL.length cn),vq (.int .i64 (AL.length:Int)),vq (.int .i64 (p:Int)),vq (.pointer (some ⟨b2,o2+p*2,none⟩)),vq (.pointer (some ⟨b2,o2+p*2,none⟩)),vq (.int .u8 xc),vq (.string s),vq (.int .i64 (k:Int)),vq (.int .u8 (s[k].toNat:Int)),vq (.bool false),vq (.bool false)]) (fun W=>Ext wr W) 78 (by kernel_rfl) rfl ?hVx ?hSx ?hS (opsOk_all ?hop) ?hfin
       case hop =>
        refine ⟨?_,?k1,?_,?_,?_,?_,?_,?_,?_,?_,?_,?k11,?_,?_,trivial⟩
        all_goals
         intro A W hsz hS hdep hbase
         have l0:=Eq.trans (Below.cell hS (p:=⟨b2,o2+p*2,none⟩) hb2) HL0.out
         have hwp:=HWP.out
         have h5:A.tmps.getD 5 undef=.string s:=hbase 5 (by kernel_rfl)
         have h7:A.tmps.getD 7 undef=.int .i64 (k:Int):=hbase 7 (by kernel_rfl)
         have h8:A.tmps.getD 8 undef=.slice an AL.length cn:=hbase 8 (by kernel_rfl)
         have h9:A.tmps.getD 9 undef=.int .i64 (AL.length:Int):=hbase 9 (by kernel_rfl)
         clear hbase
         simp [slotOf,Region.binds,Vs,vq] at hdep
        case k1 =>
         refine opOk_run rfl (.inl ⟨_,W,?_,rfl,Ext.refl _⟩)
         clear hsz hS;simp [go_sem,Act.eval, *]
         exact HNL.out
        case k11 =>
         refine opOk_runG (j:=2) (d:=33) (b:=true) rfl (by kernel_rfl) (by simp only [hdep]) rfl (.inl ⟨_,W,?_,rfl,Ext.refl _⟩)
         clear hsz hS;simp [go_sem,Act.eval, *]
         all_goals rfl
        all_goals first
         | (refine opOk_run rfl (.inl ⟨_,W,?_,rfl,Ext.refl _⟩);clear hsz hS;simp [go_sem,Act.eval, *];done)
         | (refine opOk_runG (j:=2) (d:=33) (b:=true) rfl (by kernel_rfl) (by simp only [hdep]) rfl (.inl ⟨_,W,?_,rfl,Ext.refl _⟩);clear hsz hS;simp [go_sem,Act.eval, *];done)
       case hVx=>exact vs_stays (by simp only [List.mem_cons,List.not_mem_nil,or_false,forall_eq_or_imp,forall_eq];and_intros <;> exact stays_const _)
       case hSx=>exact fun W W' h hx=>Ext.trans h hx
       case hS=>exact Ext.refl _
       case hfin =>
        intro A W hsz hdf hS hv hbase
        obtain ⟨x,hx,hA⟩:=act_puts [31,32,33,34,35,36,37,38,39,40,41,42,43,44] (by kernel_rfl) hsz hdf hbase
        have e44:x 44=.bool false:=(hx 44).trans (hv 13 (by decide))
        rw [hA]
        simp only [List.foldl]
        rw [e44]
        clear e44
        simp only [Act.put,List.setIfInBounds_toArray,List.set_cons_succ,List.set_cons_zero]
        clear hA hx hv hbase hsz hdf
        have HS0:Hid (Ext wr W):=hS
        have HQ5:Hid (W.cell? ⟨gT,node*2+1,none⟩=some (.slice an AL.length cn)):=Eq.trans (Below.cell hS (p:=⟨gT,node*2+1,none⟩) hgs) HT1.out
        have HF5:Hid (W.frozen? ⟨gT,node*2+1,none⟩=false):=Eq.trans (Below.frozen hS (p:=⟨gT,node*2+1,none⟩) hgs) HFZ.out
        clear hS
        obtain ⟨X',hbi'⟩:=HAD.out (by rw [HA.out];exact HLAST.out)
        rw [HBY.out] at hbi'
        have HBI':=Lib.hid hbi'
        have HROWW:=Lib.hid (HROW.out.later HS0.out (Nat.le_refl _))
        have HTMW:=Lib.hid (HTM.out.ext HS0.out)
        have HBLW:Hid (Below w.heap.size w W):=HBL.out.trans (Below.mono HS0.out HBL.out.size)
        have HBW9:Hid (w.heap.size≤W.heap.size):=HBLW.out.size
        clear hbi' HS0
        go_upto_region 14 with (first | (at_builtin;go_loud ((refine wpList_append_g (v:=.slice an AL.length cn) rowArc_ok rfl _ _ rfl rfl (HROWW.out.later ((Below.refl _ _).alloc (Nat.le_refl _) _) (Nat.le_refl _)) ⟨W.heap.size,0,none⟩ 1 [⟨(s[k].toNat:Int),(T.length:Int)⟩] rfl (cells_built (heap_alloc_new _ _)) (by simp only [List.length_singleton];omega) (by have:=HBW9.out;simp only [World.size_alloc];omega) ?_);intro v5 w5 hown5 hgrow5 hat5;obtain ⟨a5,c5,hv5, -, -⟩:=hown5.form;rw [List.length_append,List.length_singleton] at hv5;subst hv5;have hb5:w5.heap[gT]? = W.heap[gT]?:=(hgrow5.block gT (by have:=HTMW.out.own.lt gT rfl;simp only [World.size_alloc];omega) (fun e=>HTMW.out.ne hN2 (by rw [HSV.out];exact e.symm))).trans (Below.heap_alloc _ _ _ (HTMW.out.own.lt gT rfl));have q5:=(World.cell?_of_block (a:=⟨gT,node*2+1,none⟩) hb5).trans HQ5.out;have f5:=(World.frozen?_of_block (a:=⟨gT,node*2+1,none⟩) hb5).trans HF5.out;have HO5:=Lib.hid hown5;have HG5:=Lib.hid hgrow5;have HA5:=Lib.hid hat5;clear hown5 hgrow5 hat5 hb5)))
        obtain ⟨w6,hw6⟩:∃ w6,w5.setCell ⟨gT,node*2+1,none⟩ (.slice a5 (AL.length+1) c5)=w6:=⟨_,rfl⟩
        rw [hw6]
        have HTM6:Hid (TrM w6 w.heap.size (.slice (some ⟨gT,0,none⟩) T.length cT) (N.set node ⟨N[node].word,a5,AL.length+1,c5⟩) (setArc T node ⟨(s[k].toNat:Int),(T.length:Int)⟩)):=by
         show TrM _ _ _ _ _
         have h:=(HTMW.out.ext ((Below.refl _ W).alloc (Nat.le_refl _) (.cells #[.int .u8 (s[k].toNat:Int),.int .i64 (T.length:Int)] 72))).put1 (k:=node) (x:=⟨(s[k].toNat:Int),(T.length:Int)⟩) (a':=a5) (c':=c5) hN2 hnd (by rw [HA.out];exact HO5.out) (by rw [HSV.out];exact HG5.out) (by rw [HA.out,HSV.out];exact HA5.out)
         rw [HA.out,hw6] at h
         exact h
        have HB6:Hid (Below w.heap.size w w6):=by
         show Below _ _ _
         rw [← hw6]
         exact ((HBLW.out.trans (((Below.refl _ W).alloc (Nat.le_refl _) _).mono HBLW.out.size)).grown HG5.out (by have:=HBW9.out;simp only [World.size_alloc];omega) fun q hq=>HROWW.out.ge q hq).setCell (show w.heap.size≤(⟨gT,node*2+1,none⟩:Addr).block from hgB) _
        have hN6:(N.set node ⟨N[node].word,a5,AL.length+1,c5⟩).length=T.length:=by rw [List.length_set];exact HTM.out.len
        obtain ⟨N6,hN6e⟩:∃ N6,N.set node ⟨N[node].word,a5,AL.length+1,c5⟩=N6:=⟨_,rfl⟩
        rw [hN6e] at HTM6 hN6
        have HN6:=Lib.hid hN6
        clear hw6 q5 f5 hN6e hN6
        go_wp2_with (at_builtin;go_loud (refine wpList_append_g (v:=.slice (some ⟨gT,0,none⟩) T.length cT) rowBn_ok rfl _ _ rfl rfl (HTM6.out.own.later ((Below.refl _ _).alloc (Nat.le_refl _) _) (Nat.le_refl _)) ⟨w6.heap.size,0,none⟩ 1 [⟨-1,none,0,0⟩] rfl (cells_built (heap_alloc_new _ _)) (by have:=HN6.out;simp only [List.length_singleton];omega) (by have:=HB6.out.size;simp only [World.size_alloc];omega) ?_);intro v7 w7 hown7 hgrow7 hat7;have HO7:=Lib.hid hown7;have HG7:=Lib.hid hgrow7;clear hown7 hgrow7 hat7)
        go_roundg (s.size - (k+1))
        case measure=>have:=HGK2.out;omega
        case rel =>
         have hb7:Below w.heap.size w w7:=(HB6.out.trans (((Below.refl _ w6).alloc (Nat.le_refl _) _).mono HB6.out.size)).grown HG7.out (by have:=HB6.out.size;simp only [World.size_alloc];omega) fun q hq=>HTM6.out.own.ge q hq
         exact ⟨k+1,T.length,_,addArc T node s[k],X',by go_num,rfl,by omega,rfl,(HTM6.out.ext ((Below.refl _ _).alloc (Nat.le_refl _) _)).grow HO7.out HG7.out hb7.size,HBI'.out,hb7⟩
    ·
     have HWE:=Lib.hid (HBI.out.wordEnd hiW HWI.out HI.out (by rw [bts_len];exact hlk) (by omega) ((Ws.map bts).getD (i+1) []))
     have htw:=HTM.out.word (i:=(i:Int)) hN2
     obtain ⟨w9,hw9⟩:∃ w9,wr.setCell ⟨gT,node*2,none⟩ (.int .i64 (i:Int))=w9:=⟨_,rfl⟩
     have hb9:Below w.heap.size w w9:=by
      rw [← hw9];exact HBL.out.setCell (show w.heap.size≤(⟨gT,node*2,none⟩:Addr).block from hgB) _
     rw [hw9] at htw
     have HTW:=Lib.hid htw;have HB9:=Lib.hid hb9;have HW9:=Lib.hid hw9
     have hfzT:wr.frozen? ⟨gT,node*2,none⟩=false:=by
      obtain ⟨cs,hcs⟩:=ownG_obj HTM.out.own (g:=gT) rfl
      simp [World.frozen?,hcs]
     clear htw hb9 hw9
     go_wp2_with fail
     go_roundg (Ws.length - (i+1))
     case measure=>have:=HGK.out;omega
     case rel=>exact ⟨i+1,_,_,X,by go_num,by omega,rfl,by rw [HW9.out];exact HTW.out,HWE.out,by rw [HW9.out];exact HB9.out⟩
  ·
   have hTE:i=Ws.length:=by omega
   subst hTE
   obtain ⟨ax,cx,hax, -, -⟩:=HTM.out.own.form
   subst hax
   have hNl:=HTM.out.len
   rw [hNl] at HTM ⊢
   have HTE:=Lib.hid (BegI.done (W:=Ws.map bts) (by
    have:=HBI.out
    rw [show Ws.length=(Ws.map bts).length by simp] at this
    exact this) HI.out)
   have HTS:=Lib.hid HTM.out.tree
   clear hNl
   go_wp2
   go_ret
   exact ⟨⟨_,_,_,T,rfl,rfl,HTS.out,HTE.out⟩,HBL.out⟩
def sxM (acc:Int) (v1:Value) (aT:Option Addr) (nT cT:Nat) (aL:Option Addr) (nL cL:Nat) (f:Nat→Value):Array Value :=
 #[.int .u8 acc,v1,.slice aT nT cT,.slice aL nL cL,f 0,f 1,f 2,f 3,f 4]
def mpV (k:Nat) (gm:Nat→Nat) (j:Nat):Value:=if j<k then .map (some (gm j)) else .map none
theorem sxM_set {acc:Int} {v1:Value} {aT:Option Addr} {nT cT:Nat} {aL:Option Addr} {nL cL:Nat} {gm:Nat→Nat} {k g:Nat} (hk:k<5) :
  (sxM acc v1 aT nT cT aL nL cL (mpV k gm)).setIfInBounds (4+k) (.map (some g))=sxM acc v1 aT nT cT aL nL cL (mpV (k+1) (updF gm k g)):=by
 rcases (show k=0∨k=1∨k=2∨k=3∨k=4 from by omega) with rfl | rfl | rfl | rfl | rfl <;> simp [sxM,mpV,updF]
theorem sxM_full {acc:Int} {aR:Option Addr} {nR cR:Nat} {aT:Option Addr} {nT cT:Nat} {aL:Option Addr} {nL cL:Nat} {gm:Nat→Nat}:sxM acc (.slice aR nR cR) aT nT cT aL nL cL (mpV 5 gm)=sxC acc aR nR cR aT nT cT aL nL cL gm:=by
 simp [sxM,sxC,mpV]
structure NsM (w0 w:World) (gx:Nat) (cs:Array Value) (k:Nat) (gm:Nat→Nat):Prop where
 rep:w.heap[gx]? = some (.cells cs 82 (0,0))
 maps:∀ j,j<k→MpG keyS w (gm j) []∧w0.heap.size≤gm j
 apart:∀ a b,a<k→b<k→gm a=gm b→a=b
 gx:w0.heap.size≤gx
 bl:Below w0.heap.size w0 w
theorem NsM.ext {w0 w w':World} {gx:Nat} {cs:Array Value} {k:Nat} {gm:Nat→Nat} (h:NsM w0 w gx cs k gm) (hx:Ext w w'):NsM w0 w' gx cs k gm :=
 ⟨(Below.block hx _ (Array.getElem?_eq_some_iff.1 h.rep).1).trans h.rep,fun j hj=>⟨(h.maps j hj).1.kept (Below.block hx _ (h.maps j hj).1.lt),(h.maps j hj).2⟩,h.apart,h.gx,h.bl.trans (Below.mono hx h.bl.size)⟩
theorem
    NsM.put {w0 w:World} {gx:Nat} {acc:Int} {v1:Value} {aT:Option Addr} {nT cT:Nat} {aL:Option Addr} {nL cL:Nat} {k:Nat} {gm:Nat→Nat} (h:NsM w0 w gx (sxM acc v1 aT nT cT aL nL cL (mpV k gm)) k gm) (hk:k<5) :
  NsM w0 ((w.alloc (.map #[] 0)).setCell ⟨gx,4+k,none⟩ (.map (some w.heap.size))) gx (sxM acc v1 aT nT cT aL nL cL (mpV (k+1) (updF gm k w.heap.size))) (k+1) (updF gm k w.heap.size):=by
 have hgx:=(Array.getElem?_eq_some_iff.1 h.rep).1
 have hne:∀ q,q≠gx→((w.alloc (.map #[] 0)).setCell ⟨gx,4+k,none⟩ (.map (some w.heap.size))).heap[q]? = (w.alloc (.map #[] 0)).heap[q]?:=fun q hq=>Below.heap_setCell _ _ _ _ hq
 have hr:(w.alloc (.map #[] 0)).heap[gx]? = some (.cells (sxM acc v1 aT nT cT aL nL cL (mpV k gm)) 82 (0,0)):=(Below.heap_alloc _ _ _ hgx).trans h.rep
 have hmg:∀ j,j<k→gm j≠gx:=fun j hj e=>by
  obtain ⟨es,c,hm⟩:=(h.maps j hj).1.obj
  rw [e,h.rep] at hm;cases hm
 refine ⟨?_,fun j hj=>?_,fun a b ha hb hab=>?_,h.gx,?_⟩
 · rw [heap_setCell_same _ gx (4+k) _ _ _ hr,sxM_set hk]
 ·
  unfold updF
  by_cases e:j=k
  ·
   rw [if_pos e]
   exact ⟨(MpG.new keyS w).kept (hne _ (by omega)),h.bl.size⟩
  ·
   rw [if_neg e]
   have h1:=h.maps j (by omega)
   refine ⟨(h1.1.kept (Below.heap_alloc _ _ _ h1.1.lt)).kept (hne _ (hmg j (by omega))),h1.2⟩
 ·
  unfold updF at hab
  by_cases e:a=k
  ·
   rw [if_pos e] at hab
   by_cases e2:b=k
   · omega
   ·
    rw [if_neg e2] at hab
    have:=(h.maps b (by omega)).1.lt
    omega
  ·
   rw [if_neg e] at hab
   by_cases e2:b=k
   ·
    rw [if_pos e2] at hab
    have:=(h.maps a (by omega)).1.lt
    omega
   ·
    rw [if_neg e2] at hab
    exact h.apart a b (by omega) (by omega) hab
 · exact (h.bl.trans (((Below.refl _ w).alloc (Nat.le_refl _) _).mono h.bl.size)).setCell (show w0.heap.size≤(⟨gx,4+k,none⟩:Addr).block from h.gx) _
def
  NsP (R:List Rl) (Ws:List ByteArray) (acc:Int) (aL:Option Addr) (nL cL:Nat) (w:World) (e:Ending) (w':World):Prop :=
 ∃
  gx aR cR aT cT gm T,e=.returned (.pointer (some ⟨gx,0,none⟩))∧SX w' gx acc aR (R.filter fairB).length cR aT T.length cT aL nL cL gm∧RulS w' aR (R.filter fairB)∧TreeS w' aT T∧TrW T (Ws.map bts)∧GmOk w.heap.size gm ∧
  MpG keyS w' (gm 0) [((0,0),0)]∧(∀ j,0<j→j<5→MpG keyS w' (gm j) [])
def WdS (Ws:List ByteArray) (v:Value) (W:World):Prop:=∃ a c,v=.slice a Ws.length c∧StrS W a Ws
theorem wdS_stays (Ws:List ByteArray):Stays (WdS Ws):=by
 rintro v w w' ⟨a,c,h1,h2⟩ hx
 exact ⟨a,c,h1,h2.later hx (Nat.le_refl _)⟩
def BgS (Ws:List ByteArray) (v:Value) (W:World):Prop:=∃ aT cT T,v=.slice aT T.length cT∧TreeS W aT T∧TrW T (Ws.map bts)
theorem bgS_stays (Ws:List ByteArray):Stays (BgS Ws):=by
 rintro v w w' ⟨a,c,T,h1,h2,h3⟩ hx
 exact ⟨a,c,T,h1,h2.later hx (Nat.le_refl _),h3⟩
def RpS (Ws:List ByteArray) (acc:Int) (aL:Option Addr) (nL cL:Nat) (v:Value) (W:World):Prop:=∃ aT cT T,v=.agg #[.int .u8 acc,.slice none 0 0,.slice aT T.length cT,.slice aL nL cL,.map none,.map none,.map none,.map none,.map none]∧TreeS W aT T∧TrW T (Ws.map bts)
theorem rpS_stays (Ws:List ByteArray) (acc:Int) (aL:Option Addr) (nL cL:Nat):Stays (RpS Ws acc aL nL cL):=by
 rintro v w w' ⟨a,c,T,h1,h2,h3⟩ hx
 exact ⟨a,c,T,h1,h2.later hx (Nat.le_refl _),h3⟩
def PxS (w1:World) (Ws:List ByteArray) (acc:Int) (aL:Option Addr) (nL cL:Nat) (v:Value) (W:World):Prop:=∃ g aT cT T W0,v=.pointer (some ⟨g,0,none⟩)∧W0.heap.size≤g∧W.heap[g]? = some (.cells #[.int .u8 acc,.slice none 0 0,.slice aT T.length cT,.slice aL nL cL,.map none,.map none,.map none,.map none,.map none] 82 (0,0))∧TreeS W0 aT T∧TrW T (Ws.map bts)∧Below W0.heap.size W0 W∧Below w1.heap.size w1 W0
theorem pxS_stays (w1:World) (Ws:List ByteArray) (acc:Int) (aL:Option Addr) (nL cL:Nat):Stays (PxS w1 Ws acc aL nL cL):=by
 rintro v w w' ⟨g,a,c,T,W0,h1,h0,hg,h2,h3,h4,h5⟩ hx
 exact ⟨g,a,c,T,W0,h1,h0,(Below.block hx g (Array.getElem?_eq_some_iff.1 hg).1).trans hg,h2,h3,h4.trans (Below.mono hx h4.size),h5⟩
theorem NsM.rules {w0 w W:World} {gx B:Nat} {acc:Int} {v1:Value} {aT:Option Addr} {nT cT:Nat} {aL:Option Addr} {nL cL:Nat} {gm:Nat→Nat} {L1 L2:List Rl} {ya:Option Addr} {yc:Nat} (h:NsM w0 w gx (sxM acc v1 aT nT cT aL nL cL (mpV 5 gm)) 5 gm) (ho:OwnG rowRul w B v1 L1) (hp:AppP rowRul w B v1 L2 (.slice ya L2.length yc) W) (hB:w0.heap.size≤B) :
  NsM w0 (W.setCell ⟨gx,1,none⟩ (.slice ya L2.length yc)) gx (sxM acc (.slice ya L2.length yc) aT nT cT aL nL cL (mpV 5 gm)) 5 gm∧OwnG rowRul (W.setCell ⟨gx,1,none⟩ (.slice ya L2.length yc)) B (.slice ya L2.length yc) L2:=by
 have hgx:=(Array.getElem?_eq_some_iff.1 h.rep).1
 have hne:∀ q,q≠gx→(W.setCell ⟨gx,1,none⟩ (.slice ya L2.length yc)).heap[q]? = W.heap[q]?:=fun q hq=>Below.heap_setCell _ _ _ _ hq
 have hn1:v1.ownBlock≠some gx:=fun e=>by
  obtain ⟨cs,h1⟩:=ownG_obj ho e
  rw [h.rep] at h1
  injection h1 with h1
  injection h1 with _ h2
  exact absurd h2 (by decide)
 have hr:W.heap[gx]? = some (.cells (sxM acc v1 aT nT cT aL nL cL (mpV 5 gm)) 82 (0,0)):=(hp.block gx hgx hn1).trans h.rep
 refine ⟨⟨?_,fun j hj=>⟨?_,(h.maps j hj).2⟩,h.apart,h.gx,?_⟩,hp.own.keep fun g hg=>hne g fun e=>?_⟩
 · rw [heap_setCell_same W gx 1 _ _ _ hr];rfl
 ·
  have h1:=(h.maps j hj).1
  refine (h1.kept (hp.block _ h1.lt fun e=>h1.not_row ho e)).kept (hne _ fun e=>?_)
  obtain ⟨es,c,hm⟩:=h1.obj
  rw [e,h.rep] at hm;cases hm
 · refine Below.setCell (h.bl.trans (hp.below (C:=w0.heap.size) h.bl.size fun q hq=>Nat.le_trans hB (ho.ge q hq))) (show w0.heap.size≤(⟨gx,1,none⟩:Addr).block from h.gx) _
 ·
  rcases hp.loc with h1 | ⟨q,h1,h2⟩
  · rw [h1] at hg;exact hn1 (by rw [hg,e])
  · rw [h1] at hg;injection hg with hg;omega
set_option maxHeartbeats 6400000 in
set_option maxRecDepth 100000 in
theorem
    newSearch_any (R:List Rl) (modes acc:Int) (aS:Option Addr) (cS:Nat) (D:List Nd) (aD:Option Addr) (cD:Nat) (aL:Option Addr) (nL cL:Nat) (w:World) (hR:RulS w aS R) (hRl:R.length≤1000) (hD:DawgS w aD D) (hDl:D.length≤9223372036854775807) (hC:CsOk D)
  (hl:(wordsF D).length≤1000) (hs:∀ x∈wordsF D,x.size≤20) (hinc:((wordsF D).map bts).Pairwise fun a b=>Op.bytesLess a b=true) :
  Calls Tryd.prog 19 #[.agg #[.int .i64 modes,.int .u8 acc,.slice aS R.length cS],.slice aD D.length cD,.slice aL nL cL] w fun e w'=>NsP R (wordsF D) acc aL nL cL w e w'∧Below w.heap.size w w':=by
 have HR:=Lib.hid hR;have HD:=Lib.hid hD;have HC:=Lib.hid hC;have HS:=Lib.hid hs;have HI:=Lib.hid hinc
 clear hR hD hC hs hinc
 have hmm:=@run_makeMap Tryd.prog
 have HMM:=Lib.hid hmm
 clear hmm
 go_enter Tryd.func19,Tryd.ntmps19
 go_wp2_with fail
 obtain ⟨w1,hw1⟩:∃ w1,w.alloc (.cells #[.int .i64 modes,.int .u8 acc,.slice aS R.length cS] 36)=w1:=⟨_,rfl⟩
 rw [hw1]
 have HX1:Hid (Ext w w1):=by
  show Ext _ _
  rw [← hw1];exact (Below.refl _ _).alloc (Nat.le_refl _) _
 have HC1:Hid (w1.heap[w.heap.size]? = some (.cells #[.int .i64 modes,.int .u8 acc,.slice aS R.length cS] 36 (0,0))):=by
  show _=_
  rw [← hw1];exact heap_alloc_new _ _
 obtain ⟨gs,hgs⟩:∃ gs,w.heap.size=gs:=⟨_,rfl⟩
 rw [hgs] at HC1 ⊢
 have HGS:=Lib.hid hgs
 clear hw1 hgs
 refine wp_region_st (by kernel_rfl) (Vs [vq (.pointer (some ⟨gs,1,none⟩)),vq (.int .u8 acc),vq (.slice aD D.length cD),WdS (wordsF D),BgS (wordsF D),vq (.slice aL nL cL),RpS (wordsF D) acc aL nL cL,PxS w1 (wordsF D) acc aL nL cL,PxS w1 (wordsF D) acc aL nL cL]) (Xs []) (fun fL=>(fun W=>Ext w1 W) ) [0,1,0,4,12,0,63,127,255] 53 9 (by kernel_rfl) rfl ?hV ?hS ?hop ?hfin ?hlast
 case hV =>
  refine xs_stays (vs_stays (by simp only [List.mem_cons,List.not_mem_nil,or_false,forall_eq_or_imp,forall_eq];exact ⟨stays_const _,stays_const _,stays_const _,wdS_stays _,bgS_stays _,stays_const _,rpS_stays _ _ _ _ _,pxS_stays _ _ _ _ _ _,pxS_stays _ _ _ _ _ _⟩)) ?_
  exact trivial
 case hS =>
  intro fL hf
  show (fun W=>Ext w1 W)  _
  first | exact Ext.refl _ | exact drew_ext _
 case hop =>
  refine ⟨?_,?_,?_,?c3,?c4,?_,?c6,?c7,?c8,trivial⟩
  all_goals first | rw [if_neg (by decide)] | rw [if_pos (by decide)]
  all_goals try intro ac W fL hsz hfi hms hdn hS0 hdep hbase hund
  all_goals try have hS:(fun W=>Ext w1 W)  W:=hS0
  all_goals try (
   have hk9:Kc w1 W:=Kc.of hS (Nat.le_refl _)
   have x1:=hk9.cell (p:=⟨gs,1,none⟩) (v:=.int .u8 acc) (by rw [cell_of_row w1 gs 1 _ _ (0,0) HC1.out];rfl)
   clear hk9)
  all_goals try have hh3:=gdA ac 3 (.pointer (some ⟨gs,0,none⟩)) (hbase 3 (by kernel_rfl))
  all_goals try have hh1:=gdA ac 1 (.slice aD D.length cD) (hbase 1 (by kernel_rfl))
  all_goals try have hh2:=gdA ac 2 (.slice aL nL cL) (hbase 2 (by kernel_rfl))
  all_goals try have d14:(WdS (wordsF D)) (ac.tmps.getD 14 undef) W:=hdep 3 (by decide)
  all_goals try have d15:(BgS (wordsF D)) (ac.tmps.getD 15 undef) W:=hdep 4 (by decide)
  all_goals try have d17:(RpS (wordsF D) acc aL nL cL) (ac.tmps.getD 17 undef) W:=hdep 6 (by decide)
  all_goals try have d18:(PxS w1 (wordsF D) acc aL nL cL) (ac.tmps.getD 18 undef) W:=hdep 7 (by decide)
  all_goals try (have hdep:=depL hdep;simp [DepL,slotOf,vq] at hdep)
  all_goals try clear hbase hms hdn hund
  case c3 =>
   have hS1:(fun W=>Ext w1 W)  W:=hS0
   refine opOk_run rfl (.inr ⟨28,#[.slice aD D.length cD],W,by (clear hsz hS hS0 hS1 hfi;simp [go_sem,Act.eval, *]),?_⟩)
   refine (words_any D aD cD W ((HD.out.later HX1.out (Nat.le_refl _)).later hS (Nat.le_refl _)) hDl HC.out).mono ?_
   rintro e w' ⟨a1,c1,rfl,hs1,_,hb⟩
   exact ⟨_,rfl,⟨⟨a1,c1,rfl,hs1⟩,hb,Ext.trans hS0 hb⟩⟩
  case c4 =>
   have hS1:(fun W=>Ext w1 W)  W:=hS0
   obtain ⟨a1,c1,e14,hs14⟩:=d14
   rw [Array.getD_eq_getD_getElem?] at e14
   refine opOk_run rfl (.inr ⟨27,#[.slice a1 (wordsF D).length c1],W,by (clear hsz hS hS0 hS1 hfi hs14;simp [go_sem,Act.eval, *]),?_⟩)
   refine (begin_any (wordsF D) (wordsF D).length a1 c1 W hs14 rfl hl HS.out HI.out).mono ?_
   rintro e w' ⟨⟨aT,nT,cT,T,rfl,rfl,hT,hW⟩,hb⟩
   exact ⟨_,rfl,⟨⟨aT,cT,T,rfl,hT,hW⟩,hb,Ext.trans hS0 hb⟩⟩
  case c6 =>
   have hS1:(fun W=>Ext w1 W)  W:=hS0
   obtain ⟨aT,cT,T,e15,hT15,hW15⟩:=d15
   rw [Array.getD_eq_getD_getElem?] at e15
   refine opOk_run rfl (.inl ⟨.agg #[.int .u8 acc,.slice none 0 0,.slice aT T.length cT,.slice aL nL cL,.map none,.map none,.map none,.map none,.map none],W,?_,⟨aT,cT,T,rfl,hT15,hW15⟩,Ext.refl _,hS1⟩)
   clear hsz hS hS0 hS1 hfi hT15 hW15;simp [go_sem,Act.eval, *]
  case c7 =>
   have hS1:(fun W=>Ext w1 W)  W:=hS0
   obtain ⟨aT,cT,T,e17,hT17,hW17⟩:=d17
   rw [Array.getD_eq_getD_getElem?] at e17
   have hx18:Ext W (W.alloc (.cells #[.int .u8 acc,.slice none 0 0,.slice aT T.length cT,.slice aL nL cL,.map none,.map none,.map none,.map none,.map none] 82)):=(Below.refl _ _).alloc (Nat.le_refl _) _
   refine opOk_run rfl (.inl ⟨.pointer (some ⟨W.heap.size,0,none⟩),W.alloc (.cells #[.int .u8 acc,.slice none 0 0,.slice aT T.length cT,.slice aL nL cL,.map none,.map none,.map none,.map none,.map none] 82),?_,⟨W.heap.size,aT,cT,T,W,rfl,Nat.le_refl _,heap_alloc_new _ _,hT17,hW17,hx18,hS⟩,hx18,Ext.trans hS0 hx18⟩)
   clear hsz hS hS0 hS1 hfi hT17 hW17 hx18;simp [go_sem,Act.eval, *]
  case c8 =>
   have hS1:(fun W=>Ext w1 W)  W:=hS0
   refine opOk_run rfl (.inl ⟨_,W,?_,d18,Ext.refl _,hS1⟩)
   clear hsz hS hS0 hS1 hfi;simp [go_sem,Act.eval, *]
  all_goals (refine opOk_run rfl (.inl ⟨_,W,?_,rfl,Ext.refl _,hS0⟩);clear hsz hS hS0 hfi;simp [go_sem,Act.eval, *];done)
 case hlast =>
  intro h;exact absurd rfl h
 case hfin
      =>
  intro _ ac W hsz hdf fL hf hS0 hv hbase
  have hS:(fun W=>Ext w1 W)  W:=hS0
  clear hS0
  obtain ⟨sx,hsx,hsA⟩:=act_puts [11,12,13,14,15,16,17,18,7] (by kernel_rfl) hsz hdf hbase
  have hp7:PxS w1 (wordsF D) acc aL nL cL (ac.tmps.getD 7 undef) W:=hv 8 (by decide)
  obtain ⟨gx,aT,cT,T,W0,e7v,hgx7,hrep7,hT7,hW7,hbl7,hbl1⟩:=hp7
  have e7:sx 7=.pointer (some ⟨gx,0,none⟩):=(hsx 7).trans e7v
  clear e7v
  rw [hsA]
  simp only [List.foldl]
  simp only [Act.put,List.setIfInBounds_toArray,List.set_cons_succ,List.set_cons_zero]
  clear hsA hsx hv hbase hsz hdf hf
  rw [e7]
  clear e7
  have HB0:Hid (Below w.heap.size w W0):=Below.trans HX1.out (hbl1.mono (Below.size HX1.out))
  have HNS:Hid (NsM w W gx (sxM acc (.slice none 0 0) aT T.length cT aL nL cL (mpV 0 fun _=>0)) 0 fun _=>0):=⟨hrep7,fun j hj=>absurd hj (Nat.not_lt_zero _),fun a b ha=>absurd ha (Nat.not_lt_zero _),Nat.le_trans HB0.out.size hgx7,HB0.out.trans (hbl7.mono HB0.out.size)⟩
  have HT7:=Lib.hid hT7;have HW7:=Lib.hid hW7;have HB7:=Lib.hid hbl7;have HB1:=Lib.hid hbl1
  clear hT7 hW7 hbl7 hbl1 hrep7 hS
  have hmm:=HMM.out
  go_wp2_with fail
  go_loopg [19] 5 (fun g v19 wr=>∃ (k:Nat) (gm:Nat→Nat),v19=.int .i64 (k:Int)∧k≤5∧g=5 - k∧NsM w wr gx (sxM acc (.slice none 0 0) aT T.length cT aL nL cL (mpV k gm)) k gm∧Below W0.heap.size W0 wr)
  case atStart=>exact ⟨0,_,rfl,Nat.zero_le _,rfl,HNS.out,HB7.out⟩
  case round =>
   clear HNS HB7
   obtain ⟨k,gm,rfl,hk,hgk,hns,hbl⟩:=hrel
   have HNS:=Lib.hid hns;have HBL:=Lib.hid hbl;have HGK:=Lib.hid hgk
   have hgxl:=(Array.getElem?_eq_some_iff.1 hns.rep).1
   clear hns hbl hgk
   by_cases hlt:k<5
   ·
    have hlI:(k:Int)<5:=by omega
    have h0I:(0:Int)≤(k:Int):=by omega
    have hcl:wr.cell? ⟨gx,4+k,none⟩=some (.map none):=by
     rw [cell_of_row wr gx (4+k) _ _ (0,0) HNS.out.rep]
     rcases (show k=0∨k=1∨k=2∨k=3∨k=4 from by omega) with rfl | rfl | rfl | rfl | rfl <;> simp [sxM,mpV]
    have hfz:wr.frozen? ⟨gx,4+k,none⟩=false:=by simp [World.frozen?,HNS.out.rep]
    have hput:=HNS.out.put hlt
    rw [World.setCell_alloc_past _ _ _ _ hgxl] at hput
    have HPT:=Lib.hid hput
    clear hput
    have HBP:Hid (Below W0.heap.size W0 ((wr.setCell ⟨gx,4+k,none⟩ (.map (some wr.heap.size))).alloc (.map #[] 0))):=by
     show Below _ _ _
     rw [← World.setCell_alloc_past _ _ _ _ hgxl]
     exact Below.setCell (HBL.out.trans (((Below.refl _ wr).alloc (Nat.le_refl _) _).mono HBL.out.size)) (show W0.heap.size≤(⟨gx,4+k,none⟩:Addr).block from hgx7) _
    go_wp2_with fail
    go_roundg (5 - (k+1))
    case measure=>have:=HGK.out;omega
    case rel=>exact ⟨k+1,_,by go_num,by omega,rfl,HPT.out,HBP.out⟩
   ·
    obtain rfl:k=5:=by omega
    clear hmm
    have HK1:Hid (∀ W,Below W0.heap.size W0 W→Kc w1 W):=fun W hb=>(Kc.of HB1.out (Nat.le_refl _)).trans (Kc.of hb (Nat.le_refl _))
    have x2:=(HK1.out wr HBL.out).cell (p:=⟨gs,2,none⟩) (v:=.slice aS R.length cS) (by rw [cell_of_row w1 gs 2 _ _ (0,0) HC1.out];rfl)
    go_wp2_with fail
    clear x2
    go_loopg [32] R.length (fun g v32 wr=>∃ (k:Nat) (v1:Value),v32=.int .i64 (k:Int)∧k≤R.length∧g=R.length - k∧NsM w wr gx (sxM acc v1 aT T.length cT aL nL cL (mpV 5 gm)) 5 gm∧OwnG rowRul wr W0.heap.size v1 ((R.take k).filter fairB)∧Below W0.heap.size W0 wr)
    case atStart=>exact ⟨0,_,rfl,Nat.zero_le _,rfl,HNS.out,OwnG.nil _ _ _,HBL.out⟩
    case round =>
     clear HNS HBL HGK hlt hgxl
     obtain ⟨k,v1,rfl,hk2,hgk,hns,hown,hbl⟩:=hrel
     obtain ⟨a1,c1,hv1, -, -⟩:=hown.form
     subst hv1
     have HNS:=Lib.hid hns;have HOW:=Lib.hid hown;have HBL:=Lib.hid hbl;have HGK:=Lib.hid hgk
     have hgxl:=(Array.getElem?_eq_some_iff.1 hns.rep).1
     clear hns hown hbl hgk
     obtain ⟨L1,hL1⟩:∃ L1,(R.take k).filter fairB=L1:=⟨_,rfl⟩
     have hL1l:L1.length≤1000:=by
      rw [← hL1]
      exact Nat.le_trans (List.length_filter_le _ _) (by rw [List.length_take];omega)
     rw [hL1] at HNS HOW
     have HL1:=Lib.hid hL1
     clear hL1
     by_cases hlt:k<R.length
     ·
      have hkr:Kc w wr:=(Kc.of HX1.out (Nat.le_refl _)).trans (HK1.out wr HBL.out)
      obtain ⟨b1,o1,ha1,hb1,r0,r1,r2,r3,r4⟩:=(RulS.kp HR.out hkr).at hlt
      have hi1:=idx_rules aS b1 o1 R.length cS k ha1 hlt
      have htk:R.take (k+1)=R.take k ++ [R[k]]:=List.take_succ_eq_append_getElem hlt
      obtain ⟨r,hr⟩:∃ r,R[k]=r:=⟨_,rfl⟩
      rw [hr] at r0 r1 r2 r3 r4 htk
      have HTK:=Lib.hid htk
      obtain ⟨frm,dst,inp,out,cost⟩:=r
      simp only at r0 r1 r2 r3 r4
      clear hkr ha1 hr htk
      go_upto_region 10 with fail
      obtain ⟨w4,hw4⟩:∃ w4,wr.alloc (.cells #[.int .i64 frm,.int .i64 dst,.string inp,.string out,.int .i64 cost] 33)=w4:=⟨_,rfl⟩
      rw [hw4]
      have HX4:Hid (Ext wr w4):=by
       show Ext _ _
       rw [← hw4];exact (Below.refl _ _).alloc (Nat.le_refl _) _
      have HC4:Hid (w4.heap[wr.heap.size]? = some (.cells #[.int .i64 frm,.int .i64 dst,.string inp,.string out,.int .i64 cost] 33 (0,0))):=by
       show _=_
       rw [← hw4];exact heap_alloc_new _ _
      obtain ⟨g4,hg4⟩:∃ g4,wr.heap.size=g4:=⟨_,rfl⟩
      rw [hg4] at HC4 ⊢
      have hg4g:g4≠gx:=by omega
      have HNR4:Hid ((.slice a1 L1.length c1:Value).ownBlock≠some g4):=fun e=>by have:=HOW.out.lt _ e;omega
      obtain ⟨d0,d1,d2,d3,d4⟩:=rul_cells HC4.out
      have hfa:=fair_any ⟨frm,dst,inp,out,cost⟩ w4
      obtain ⟨fb,hfb⟩:∃ fb,fairB ⟨frm,dst,inp,out,cost⟩=fb:=⟨_,rfl⟩
      rw [hfb] at hfa
      have HFA:=Lib.hid hfa;have HFB:=Lib.hid hfb
      clear hw4 hg4 hfa hfb r0 r1 r2 r3 r4 hi1 hb1
      go_wp2_with fail
      refine HFA.out.mono ?_
      rintro e w5 ⟨rfl,hb5⟩
      have HX5:Hid (Ext wr w5):=Ext.trans HX4.out hb5
      have HC5:Hid (w5.heap[g4]? = some (.cells #[.int .i64 frm,.int .i64 dst,.string inp,.string out,.int .i64 cost] 33 (0,0))):=(hb5.block g4 (Array.getElem?_eq_some_iff.1 HC4.out).1).trans HC4.out
      have HNS5:=Lib.hid (HNS.out.ext HX5.out)
      have HOW5:=Lib.hid (HOW.out.later HX5.out (Nat.le_refl _))
      have HBL5:Hid (Below W0.heap.size W0 w5):=HBL.out.trans (Below.mono HX5.out HBL.out.size)
      clear d0 d1 d2 d3 d4 hb5
      cases fb with
      | false =>
       have HN:Hid ((R.take (k+1)).filter fairB=L1):=by show _=_;rw [HTK.out,List.filter_append,HL1.out];simp [List.filter_cons,HFB.out]
       go_wp2_with fail
       go_roundg (R.length - (k+1))
       case measure=>have:=HGK.out;omega
       case rel=>exact ⟨k+1,_,by go_num,by omega,rfl,HNS5.out,by rw [HN.out];exact HOW5.out,HBL5.out⟩
      | true =>
       have HN:Hid ((R.take (k+1)).filter fairB=L1 ++ [⟨frm,dst,inp,out,cost⟩]):=by show _=_;rw [HTK.out,List.filter_append,HL1.out];simp [List.filter_cons,HFB.out]
       have HSZ:Hid (W0.heap.size≤w5.heap.size):=HBL5.out.size
       have hgx5:=(Array.getElem?_eq_some_iff.1 HNS5.out.rep).1
       go_wp2_with fail
       refine wp_region_st (by kernel_rfl) (Vs [vq (.pointer (some ⟨gx,0,none⟩)),vq (.pointer (some ⟨gx,0,none⟩)),vq (.pointer (some ⟨gx,0,none⟩)),vq (.pointer (some ⟨gx,1,none⟩)),vq (.slice a1 L1.length c1),vq (.agg #[.int .i64 frm,.int .i64 dst,.string inp,.string out,.int .i64 cost]),RowG1 rowRul (.slice a1 L1.length c1) (⟨frm,dst,inp,out,cost⟩:Rl),AppP rowRul (w5) (W0.heap.size) (.slice a1 L1.length c1) (L1 ++ [(⟨frm,dst,inp,out,cost⟩:Rl)]),vq (.pointer (some ⟨gx,0,none⟩)),vq (.pointer (some ⟨gx,1,none⟩))]) (Xs [Ext,Ext,Ext,Ext,Ext,Ext,Ext,(fun w w'=>w.grownBy w' (.slice a1 L1.length c1:Value).ownBlock),Ext,Ext]) (fun fL=>(ApT (w5) (.slice a1 L1.length c1)) (fL 7)) [0,0,2,6,14,0,32,126,1,257] 53 10 (by kernel_rfl) rfl ?hV ?hS ?hop ?hfin ?hlast
       case hV =>
        refine xs_stays (vs_stays (by simp only [List.mem_cons,List.not_mem_nil,or_false,forall_eq_or_imp,forall_eq];exact ⟨stays_const _,stays_const _,stays_const _,stays_const _,stays_const _,stays_const _,rowG1_stays _ _ _,appP_stays,stays_const _,stays_const _⟩)) ?_
        exact ⟨.inl rfl,.inl rfl,.inl rfl,.inl rfl,.inl rfl,.inl rfl,.inl rfl,.inr (staysM_all ⟨fun _ _=>fun _ _ _ h _=>h,fun _ _=>fun _ _ _ h _=>h,fun _ _=>fun _ _ _ h _=>h,fun _ _=>fun _ _ _ h _=>h,fun _ _=>fun _ _ _ h _=>h,fun _ _=>fun _ _ _ h _=>h,fun _ _=>rowG1_grown _ _ _,fun h=>absurd rfl h,fun _ _=>fun _ _ _ h _=>h,fun _ _=>fun _ _ _ h _=>h,trivial⟩),.inl rfl,.inl rfl,trivial⟩
       case hS =>
        intro fL hf
        show (ApT (w5) (.slice a1 L1.length c1)) (fL 7) _
        rw [hf 7 (by decide)]
        first | exact Ext.refl _ | exact drew_ext _
       case hop =>
        refine ⟨?_,?_,?_,?_,?_,?_,?c6,?c7,?_,?_,?_,trivial⟩
        all_goals first | rw [if_neg (by decide)] | rw [if_pos (by decide)]
        all_goals try exact True.intro
        all_goals try intro ac W fL hsz hfi hms hdn hS0 hdep hbase hund
        all_goals try have hS:(ApT (w5) (.slice a1 L1.length c1)) (fL 7) W:=hS0
        all_goals try (have hfl7:fL 7=true:=hms 7 (by decide);rw [hfl7] at hS)
        all_goals try (have hfl7:fL 7=false:=(by first | exact hfi | exact hdn 7 (by decide) (by decide));rw [hfl7] at hS)
        all_goals try (
         have hnx:(.slice a1 L1.length c1:Value).ownBlock≠some gx:=fun e=>by
          obtain ⟨cs,h1⟩:=ownG_obj HOW5.out e
          rw [HNS5.out.rep] at h1
          injection h1 with h1
          injection h1 with _ h2
          exact absurd h2 (by decide)
         have hblk:=(ApT.old hS0 gx hgx5 hnx).trans HNS5.out.rep
         have hcx:W.cell? ⟨gx,1,none⟩=some (.slice a1 L1.length c1):=by rw [cell_of_row W gx 1 _ _ (0,0) hblk];rfl
         obtain ⟨d0,d1,d2,d3,d4⟩:=rul_cells ((ApT.old hS0 g4 (Array.getElem?_eq_some_iff.1 HC5.out).1 HNR4.out).trans HC5.out)
         clear hblk hnx)
        all_goals try have hh7:=gdA ac 7 (.pointer (some ⟨gx,0,none⟩)) (hbase 7 (by kernel_rfl))
        all_goals try have hh10:=gdA ac 10 (.pointer (some ⟨g4,0,none⟩)) (hbase 10 (by kernel_rfl))
        all_goals try (have d42:ac.tmps.getD 42 undef=.slice a1 L1.length c1:=hdep 4 (by decide);have dd42:=d42;rw [Array.getD_eq_getD_getElem?] at dd42)
        all_goals try have d44:(RowG1 rowRul (.slice a1 L1.length c1) (⟨frm,dst,inp,out,cost⟩:Rl)) (ac.tmps.getD 44 undef) W:=hdep 6 (by decide)
        all_goals try (have hdep:=depL hdep;simp [DepL,slotOf,vq] at hdep)
        all_goals try clear hbase hms hdn hund
        case c6 =>
         have hS1:(ApT (w5) (.slice a1 L1.length c1)) ((upd fL 6) 7) W:=hS0
         have hlt62:(.slice a1 L1.length c1:Value).ownBlock≠some W.heap.size:=fun e=>by
          have h9:=(HOW5.out).lt _ e
          have h8:=Below.size hS
          omega
         refine opOk_run rfl (.inl ⟨.slice (some ⟨W.heap.size,0,none⟩) 1 1,W.alloc (.cells #[.int .i64 frm,.int .i64 dst,.string inp,.string out,.int .i64 cost] 33),?_,⟨_,rfl,heap_alloc_new _ _,hlt62⟩,(Below.refl _ _).alloc (Nat.le_refl _) _,(show (ApT (w5) (.slice a1 L1.length c1)) ((upd fL 6) 7) _ by
          rw [show upd fL 6 7=fL 7 from if_neg (by decide)]
          exact ApT.ext _ _ _ hS0 ((Below.refl _ _).alloc (Nat.le_refl _) _))⟩)
         clear hsz hS hS0 hS1 hfi hlt62;simp [go_sem,Act.eval, *]
        case c7 =>
         obtain ⟨g62,e62,hg62,hn62⟩:=d44
         refine opOk_run rfl ((opres_append_g rowRul_ok (.tmp 42) (.tmp 44) rfl (eval_tmp d42) ((HOW5.out).later hS (Nat.le_refl _)) ⟨g62,0,none⟩ 1 [(⟨frm,dst,inp,out,cost⟩:Rl)] (eval_tmp e62) (cells_built hg62) (by simp only [List.length_singleton];omega) (Nat.le_trans HSZ.out (Below.size hS))).mono ?_)
         rintro va w' ⟨ho,hgr,hat⟩
         have hap8:=AppP.made hS ho hgr hat
         refine ⟨hap8,hgr,?_⟩
         show ApT (w5) (.slice a1 L1.length c1) (upd fL 7 7) w'
         rw [show upd fL 7 7=true from if_pos rfl]
         exact hap8.old
        all_goals (refine opOk_run rfl (.inl ⟨_,W,?_,rfl,Ext.refl _,hS0⟩);clear hsz hS hS0 hfi;simp [go_sem,Act.eval, *];done)
       case hfin =>
        intro h;exact absurd h (by decide)
       case hlast =>
        intro _ ac W hsz hdf fL hf hS0 hv hbase
        have hS:(ApT (w5) (.slice a1 L1.length c1)) (fL 7) W:=hS0
        clear hS0
        rw [hf 7 (by decide)] at hS
        have hst:ac.tmps.getD 47 undef=.pointer (some ⟨gx,1,none⟩):=hv 9 (by decide)
        have hap9:AppP rowRul (w5) (W0.heap.size) (.slice a1 L1.length c1) (L1 ++ [(⟨frm,dst,inp,out,cost⟩:Rl)]) (ac.tmps.getD 45 undef) W:=hv 7 (by decide)
        obtain ⟨ya,yc,hya, -, -⟩:=hap9.own.form
        rw [hya] at hap9
        have hnx:(.slice a1 L1.length c1:Value).ownBlock≠some gx:=fun e=>by
         obtain ⟨cs,h1⟩:=ownG_obj HOW5.out e
         rw [HNS5.out.rep] at h1
         injection h1 with h1
         injection h1 with _ h2
         exact absurd h2 (by decide)
        have hblk:=(hap9.block gx hgx5 hnx).trans HNS5.out.rep
        refine wpOp_store rfl rfl rfl rfl (eval_tmp hst) (eval_tmp hya) (by simp [World.frozen?,hblk]) (by rw [cell_of_row W _ _ _ _ (0,0) hblk];rfl) (by kernel_rfl) ?_
        clear hblk hnx
        obtain ⟨wz,hwz⟩:∃ wz,W.setCell ⟨gx,1,none⟩ (.slice ya (L1 ++ [(⟨frm,dst,inp,out,cost⟩:Rl)]).length yc)=wz:=⟨_,rfl⟩
        rw [hwz]
        have HAP:=Lib.hid hap9;have HWZ:=Lib.hid hwz
        clear hS hap9 hst hwz
        obtain ⟨sx,hsx,hsA⟩:=act_puts [38,39,40,41,42,43,44,45,46,47] (by kernel_rfl) hsz hdf hbase
        clear hya
        rw [hsA]
        simp only [List.foldl]
        simp only [Act.put,List.setIfInBounds_toArray,List.set_cons_succ,List.set_cons_zero]
        clear hsA hsx hv hbase hsz hdf hf
        have hru:=HNS5.out.rules HOW5.out HAP.out HB0.out.size
        rw [HWZ.out] at hru
        have hbz:Below W0.heap.size W0 wz:=by
         rw [← HWZ.out]
         exact Below.setCell (HBL5.out.trans (HAP.out.below HSZ.out fun q hq=>HOW5.out.ge q hq)) (show W0.heap.size≤(⟨gx,1,none⟩:Addr).block from hgx7) _
        have HRU:=Lib.hid hru;have HBZ:=Lib.hid hbz
        clear hru hbz
        go_wp2_with fail
        go_roundg (R.length - (k+1))
        case measure=>have:=HGK.out;omega
        case rel=>exact ⟨k+1,_,by go_num,by omega,rfl,HRU.out.1,by rw [HN.out];exact HRU.out.2,HBZ.out⟩
     ·
      have hall:R.take k=R:=List.take_of_length_le (by omega)
      have HLE:Hid (L1=R.filter fairB):=by show _=_;rw [← HL1.out,hall]
      have hsx:SX wr gx acc a1 L1.length c1 aT T.length cT aL nL cL gm:=by
       have h:=HNS.out.rep
       rw [sxM_full] at h
       exact h
      have HPU:=Lib.hid (put_new (w:=wr) 0 0 0 0 0 [] (by omega) rfl hsx (HNS.out.maps 0 (by decide)).1 (show keyS.ok (0,0) from ⟨by decide,by decide⟩) (by decide) (by decide) rfl)
      have HSX:=Lib.hid hsx
      clear hall hsx
      go_wp2_with fail
      refine HPU.out.mono ?_
      rintro e w9 ⟨rfl,hp⟩
      have HP:=Lib.hid hp
      clear hp
      go_wp2_with fail
      go_ret
      have hkp:=HP.out.kp (HNS.out.maps 0 (by decide)).1
      have hgr:=HP.out.gr
      refine ⟨⟨gx,a1,c1,aT,cT,gm,T,rfl,?_,?_,?_,HW7.out,⟨HNS.out.apart,fun j hj=>(HNS.out.maps j hj).2⟩,HP.out.map,fun j h0 hj=>?_⟩,HNS.out.bl.trans (HP.out.below (HNS.out.maps 0 (by decide)).2 HNS.out.bl.size)⟩
      · rw [← HLE.out];exact HSX.out.kp hkp
      · rw [← HLE.out];exact RulS.kp (OwnG.ruls HOW.out).1 hkp
      · exact (HT7.out.later HBL.out (Nat.le_refl _)).kp hkp
      · exact (HNS.out.maps j hj).1.kept (hgr _ (HNS.out.maps j hj).1.lt fun e=>by have:=HNS.out.apart j 0 hj (by decide) e;omega)
theorem rts_fair {R:List Rl} {L:List Slt} {i m:Nat} {o:List UInt8} {c:Nat}:RtS (R.filter fairB) L i m o c↔RtS R L i m o c:=by
 constructor
 ·
  intro h
  induction h with
  | start=>exact .start
  | step _ hr hf hm hk ih=>exact .step ih (List.mem_filter.1 hr).1 hf hm hk
 ·
  intro h
  induction h with
  | start=>exact .start
  | step _ hr hf hm hk ih=>exact .step ih (List.mem_filter.2 ⟨hr,hf⟩) hf hm hk
theorem fairs_filter (R:List Rl):Fairs (R.filter fairB):=fun r hr=>(List.mem_filter.1 hr).2
theorem whole_fair {R:List Rl} {acc:Int} {L:List Slt} {i:Nat} {w:List UInt8} {c:Nat}:Whole (R.filter fairB) acc L i w c↔Whole R acc L i w c:=by
 unfold Whole
 constructor
 · rintro ⟨m,h1,h2⟩;exact ⟨m,h1,rts_fair.1 h2⟩
 · rintro ⟨m,h1,h2⟩;exact ⟨m,h1,rts_fair.2 h2⟩
theorem FndOk.fair {R:List Rl} {acc:Int} {L:List Slt} {W:List (List UInt8)} {i:Nat} {l:List (Nat × Nat)} (h:FndOk (R.filter fairB) acc L W i l):FndOk R acc L W i l :=
 ⟨h.sorted,fun k c=>by
  rw [h.mem]
  exact ⟨fun ⟨hk,hl⟩=>⟨hk,hl.congr fun d=>whole_fair⟩,fun ⟨hk,hl⟩=>⟨hk,hl.congr fun d=>whole_fair.symm⟩⟩⟩
structure FndB (R:List Rl) (acc:Int) (L:List Slt) (W:List (List UInt8)) (i:Nat) (l:List (Nat × Nat)):Prop extends FndOk R acc L W i l where
 low:∀ p∈l,p.2≤900000000000
theorem least_iff {p q:Nat→Prop} {c:Nat} (h1:∀ d,p d→q d) (h2:∀ d,q d→∃ d',d'≤d∧p d'):Least p c↔Least q c:=by
 constructor
 ·
  rintro ⟨h3,h4⟩
  refine ⟨h1 c h3,fun d hd=>?_⟩
  obtain ⟨d',h5,h6⟩:=h2 d hd
  exact Nat.le_trans (h4 d' h6) h5
 ·
  rintro ⟨h3,h4⟩
  obtain ⟨d',h5,h6⟩:=h2 c h3
  have:=h4 d' (h1 d' h6)
  have e:d'=c:=by omega
  subst e
  exact ⟨h6,fun d hd=>h4 d (h1 d hd)⟩
theorem fnd_ok {T:List Bn} {W:List (List UInt8)} {R:List Rl} {L:List Slt} {acc:Int} {i:Nat} {M:Nat→Ent} {l:List (Nat × Nat)} (hT:TrW T W) (hinv:Inv R L (folT T) i M) (hs:∀ t,Shut R L (folT T) i M t) (hk:KeysN (M i)) (hf:FndE T acc (M i) l):FndOk R acc L W i l where
 sorted:=hf.sorted
 mem
   k c:=by
  rw [hf.mem]
  have hA:∀ d,(∃ t,(t,d)∈M i∧wordT T t.2=(k:Int)∧accB acc t.1=true)→∃ h:k<W.length,Whole R acc L i W[k] d:=by
   rintro d ⟨t,h1,h2,h3⟩
   obtain ⟨o,h4,h5⟩:=rt_of (folw T) (hinv.sound i t d (look_of_mem hk h1))
   obtain ⟨hkw,e⟩:=(hT.fol1 o t.2 k h5).1 h2
   exact ⟨hkw,t.1,h3,by rw [e];exact h4⟩
  constructor
  ·
   intro hl
   obtain ⟨hkw,_⟩:=hA c hl.1
   refine ⟨hkw,(least_iff (fun d hd=>(hA d hd).2) fun d hd=>?_).1 hl⟩
   obtain ⟨m,h3,h4⟩:=hd
   obtain ⟨n,hn⟩:=hT.fol2 W[k] (List.getElem_mem hkw)
   obtain ⟨c',h5,h6⟩:=hinv.least hs (rt_mk (folw T) h4 hn)
   exact ⟨c',h6,(m,n),look_mem h5,(hT.fol1 W[k] n k hn).2 ⟨hkw,rfl⟩,h3⟩
  ·
   rintro ⟨hkw,hl⟩
   refine (least_iff (fun d hd=>(hA d hd).2) fun d hd=>?_).2 hl
   obtain ⟨m,h3,h4⟩:=hd
   obtain ⟨n,hn⟩:=hT.fol2 W[k] (List.getElem_mem hkw)
   obtain ⟨c',h5,h6⟩:=hinv.least hs (rt_mk (folw T) h4 hn)
   exact ⟨c',h6,(m,n),look_mem h5,(hT.fol1 W[k] n k hn).2 ⟨hkw,rfl⟩,h3⟩
def M0 (j:Nat):Ent:=if j=0 then [((0,0),0)] else []
theorem inv0 (R:List Rl) (L:List Slt) (fol:Nat→List UInt8→Option Nat):Inv R L fol 0 M0 where
 sound j t c h:=by
  unfold M0 at h
  split at h
  ·
   rename_i e
   subst e
   rw [look_cons] at h
   split at h
   · rename_i e2;injection h with h;subst h;rw [← e2];exact .start
   · cases h
  · cases h
 comp k t c r t' d hk:=absurd hk (Nat.not_lt_zero _)
 base _:=⟨0,by simp [M0,look_cons],Nat.le_refl _⟩
theorem bnd0 {N D:Nat} (hN:0<N):Bnd N 0 0 D M0 where
 keys j:=by unfold M0;split <;> simp [KeysN]
 rng j p hp:=by
  unfold M0 at hp
  split at hp
  · rw [List.mem_singleton.1 hp];exact ⟨by decide,hN⟩
  · cases hp
 here p hp:=by
  simp only [M0,if_pos,List.mem_singleton] at hp
  rw [hp];exact Nat.zero_le _
 next j hj p hp:=by
  unfold M0 at hp
  rw [if_neg hj] at hp
  cases hp
def nextM (i:Nat) (M:Nat→Ent) (j:Nat):Ent:=if i<j then M j else []
theorem Bnd.nextM {N i B D:Nat} {M:Nat→Ent} (h:Bnd N i B D M):Bnd N (i+1) (B+(8*N+1)*D) D (nextM i M) where
 keys j:=by
  unfold Go.Proofs.YthjmdgejnakcmaaDoor.nextM
  split
  · exact h.keys j
  · exact List.Pairwise.nil
 rng j p hp:=by
  unfold Go.Proofs.YthjmdgejnakcmaaDoor.nextM at hp
  split at hp
  · exact h.rng j p hp
  · cases hp
 here p hp:=by
  unfold Go.Proofs.YthjmdgejnakcmaaDoor.nextM at hp ⊢
  rw [if_pos (Nat.lt_succ_self i)] at hp ⊢
  have:=h.next (i+1) (by omega) p hp
  omega
 next j hj p hp:=by
  unfold Go.Proofs.YthjmdgejnakcmaaDoor.nextM at hp
  split at hp
  ·
   have:=h.next j (by omega) p hp
   omega
  · cases hp
theorem Inv.nextM {R:List Rl} {L:List Slt} {fol:Nat→List UInt8→Option Nat} {i:Nat} {M:Nat→Ent} (h:Inv R L fol i M) (hs:∀ t,Shut R L fol i M t):Inv R L fol (i+1) (nextM i M) :=
 h.next hs (fun j hj=>if_pos hj) fun j hj=>if_neg hj
end Go.Proofs.YthjmdgejnakcmaaDoor
