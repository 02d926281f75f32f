/- Texts that the claims share: KA, KB, KM, KC, KD, K1, K2. -/
import Derived.Maps.OwnOps
import Derived.Maps.RangeWalk
import Derived.DeepKeys4
import Derived.Test.YtpljngaejaehcaaGreatDoorMF1
import Derived.Test.YtpljngaejaehcaaGreatDoorMD1
set_option maxHeartbeats 1600000
set_option linter.unusedVariables false
set_option linter.unusedSimpArgs false
namespace Go.Proofs.YtpljngaejaehcaaGreatDoor
open Go.RowKit Fl
structure Ch where
 key:UInt8
 cost:Int
deriving DecidableEq
abbrev Slt:=List Ch
def Fj (s:Slt) (c:UInt8):Option Nat:=(s.find? fun h=>h.key == c).map fun h=>h.cost.toNat
def
  letsC:List Slt→List UInt8→Option Nat
 | _,[]=>some 0
 | [],_ :: _=>none
 | s :: L,c :: r=>match Fj s c with
  | none=>none
  | some a=>(letsC L r).map (a+·)
theorem Ge (L:List Slt):letsC L []=some 0:=by cases L <;> rfl
theorem Gf:∀ {L:List Slt} {r:List UInt8} {c:Nat},letsC L r=some c→r.length≤L.length
 | _,[],_,_=>Nat.zero_le _
 | [],_ :: _,_,h=>by cases h
 | s
   :: L,c :: r,n,h=>by
  simp only [letsC] at h;split at h
  · cases h
  ·cases e:letsC L r with
   | none=>rw [e] at h;cases h
   | some b=>have:=Gf e;simp;omega
def Bp (C:Nat) (L:List Slt):Prop:=∀ s∈L,∀ h∈s,0≤h.cost∧h.cost≤(C:Int)
theorem Bp.tail {C:Nat} {s:Slt} {L:List Slt} (h:Bp C (s :: L)):Bp C L:=fun x hx=>h x (List.mem_cons_of_mem _ hx)
theorem Bp.drop {C:Nat} {L:List Slt} (h:Bp C L) (k:Nat):Bp C (L.drop k):=fun x hx=>h x (List.mem_of_mem_drop hx)
theorem Mz {C:Nat} {s:Slt} {c:UInt8} {n:Nat} (hs:∀ h∈s,0≤h.cost∧h.cost≤(C:Int)) (h:Fj s c=some n):n≤C:=by
 unfold Fj at h;cases e:s.find? fun h=>h.key == c with
 | none=>rw [e] at h;cases h
 | some x =>
  rw [e] at h;have:=hs x (List.mem_of_find?_eq_some e);simp at h;omega
theorem letsC_le {C:Nat}:∀ {L:List Slt} {r:List UInt8} {n:Nat},Bp C L→letsC L r=some n→n≤r.length*C
 | _,[],n,_,h=>by rw [Ge] at h;cases h;simp
 | [],_ :: _,_,_,h=>by cases h
 | s
   :: L,c :: r,n,hb,h=>by
  simp only [letsC] at h;split at h
  · cases h
  ·rename_i a ha;cases e:letsC L r with
   | none=>rw [e] at h;cases h
   | some b =>
    rw [e] at h;simp at h;have h1:=Mz (hb s A9) ha;have h2:=letsC_le hb.tail e;simp only [List.length_cons,Nat.add_mul];omega
def bts (s:ByteArray):List UInt8:=s.data.toList
theorem CX (s:ByteArray):(bts s).length=s.size:=by simp [bts]
def Bj (r:Rl):Bool:=decide (0≤r.frm) && (decide (r.frm<8) && (decide (0≤r.dst) && (decide (r.dst<8) && (decide ((r.inp.size:Int)≤4) && (decide (0≤r.cost) && decide (r.cost≤1000))))))
theorem CQ {r:Rl}:Bj r=true↔0≤r.frm∧r.frm<8∧0≤r.dst∧r.dst<8∧r.inp.size≤4∧0≤r.cost∧r.cost≤1000:=by
 unfold Bj;simp only [Bool.and_eq_true,decide_eq_true_eq];constructor
 · rintro ⟨h1,h2,h3,h4,h5,h6,h7⟩;exact ⟨h1,h2,h3,h4,by omega,h6,h7⟩
 · rintro ⟨h1,h2,h3,h4,h5,h6,h7⟩;exact ⟨h1,h2,h3,h4,by omega,h6,h7⟩
inductive RtS (R:List Rl) (L:List Slt):Nat→Nat→List UInt8→Nat→Prop
 | start:RtS R L 0 0 [] 0
 | step {i m:Nat} {o:List UInt8} {c k:Nat} {r:Rl}:RtS R L i m o c→r∈R→Bj r=true→r.frm=(m:Int)→letsC (L.drop i) (bts r.inp)=some k →
   RtS R L (i+r.inp.size) r.dst.toNat (o ++ bts r.out) (c+(r.cost.toNat+k))
theorem RtS.place {R:List Rl} {L:List Slt} {i m:Nat} {o:List UInt8} {c:Nat} (h:RtS R L i m o c):i≤L.length:=by
 induction h with
 | start=>exact Nat.zero_le _
 | step _ _ _ _ hk ih =>
  have:=Gf hk;rw [CX,List.length_drop] at this;omega
inductive Rt (R:List Rl) (L:List Slt) (fol:Nat→List UInt8→Option Nat):Nat→Nat × Nat→Nat→Prop
 | start:Rt R L fol 0 (0,0) 0
 | step {i m n n':Nat} {c k:Nat} {r:Rl}:Rt R L fol i (m,n) c→r∈R→Bj r=true→r.frm=(m:Int)→letsC (L.drop i) (bts r.inp)=some k→fol n (bts r.out)=some n' →
   Rt R L fol (i+r.inp.size) (r.dst.toNat,n') (c+(r.cost.toNat+k))
structure Rr (fol:Nat→List UInt8→Option Nat):Prop where
 nil:∀ n,fol n []=some n
 app:∀ n a b,fol n (a ++ b)=(fol n a).bind fun x=>fol x b
theorem So {R:List Rl} {L:List Slt} {fol:Nat→List UInt8→Option Nat} (hf:Rr fol) {i:Nat} {t:Nat × Nat} {c:Nat} (h:Rt R L fol i t c):∃ o,RtS R L i t.1 o c∧fol 0 o=some t.2:=by
 induction h with
 | start=>exact ⟨[],.start,hf.nil 0⟩
 | step h1 hr hfr hm hk hn ih =>
  obtain ⟨o,ho,ja⟩:=ih;refine ⟨o ++ _,.step ho hr hfr hm hk,?_⟩;rw [hf.app,ja];exact hn
theorem Ra {R:List Rl} {L:List Slt} {fol:Nat→List UInt8→Option Nat} (hf:Rr fol) {i m:Nat} {o:List UInt8} {c:Nat} (h:RtS R L i m o c):∀ {n:Nat},fol 0 o=some n→Rt R L fol i (m,n) c:=by
 induction h with
 | start=>intro n hn;rw [hf.nil] at hn;cases hn;exact .start
 | step h1 hr hfr hm hk ih =>
  intro n hn;rw [hf.app] at hn;cases e:fol 0 _ with
  | none=>rw [e] at hn;cases hn
  | some x =>
   rw [e] at hn;exact .step (ih e) hr hfr hm hk hn
def D3 (p:Nat→Prop) (c:Nat):Prop:=p c∧∀ d,p d→c≤d
theorem D3.uniq {p:Nat→Prop} {c d:Nat} (h:D3 p c) (h2:D3 p d):c=d:=Nat.le_antisymm (h.2 d h2.1) (h2.2 c h.1)
theorem D3.congr {p q:Nat→Prop} {c:Nat} (h:D3 p c) (ja:∀ d,p d↔q d):D3 q c:=⟨(ja c).1 h.1,fun d hd=>h.2 d ((ja d).2 hd)⟩
theorem L7 {p:Nat→Prop} (h:∃ c,p c):∃ c,D3 p c:=by
 obtain ⟨c,hc⟩:=h
 induction c using Nat.strongRecOn with
 | ind c ih =>
  by_cases hm:∃ d,d<c∧p d
  · obtain ⟨d,hd,jb⟩:=hm;exact ih d hd jb
  · exact ⟨c,hc,fun d hd=>Nat.le_of_not_lt fun ja=>hm ⟨d,ja,hd⟩⟩
def DK (acc:Int) (m:Nat):Bool:=acc / 2 ^ m % 2 == 1
def Whole (R:List Rl) (acc:Int) (L:List Slt) (i:Nat) (w:List UInt8) (c:Nat):Prop:=∃ m,DK acc m=true∧RtS R L i m w c
structure DY (R:List Rl) (acc:Int) (L:List Slt) (W:List (List UInt8)) (i:Nat) (l:List (Nat × Nat)):Prop where
 sorted:l.Pairwise fun a b=>a.1<b.1
 mem:∀ k c,(k,c)∈l↔∃ h:k<W.length,D3 (Whole R acc L i W[k]) c
theorem sorted_eq:∀ {a b:List (Nat × Nat)},a.Pairwise (fun x y=>x.1<y.1)→b.Pairwise (fun x y=>x.1<y.1)→(∀ x,x∈a↔x∈b)→a=b
 | [],[],_,_,_=>rfl
 | [],y :: b,_,_,h=>by have:=(h y).2 A9;cases this
 | x :: a,[],_,_,h=>by have:=(h x).1 A9;cases this
 | x
   :: a,y :: b,ha,hb,h=>by
  obtain ⟨ja,je⟩:=AQ.1 ha;obtain ⟨jb,jf⟩:=AQ.1 hb;have e:x=y:=by
   rcases AS.1 ((h x).1 A9) with e | e
   · exact e
   ·rcases AS.1 ((h y).2 A9) with e2 | e2
    · exact e2.symm
    · have:=jb x e;have:=ja y e2;omega
  subst e;have hx:∀ z,z∈a↔z∈b:=fun z=>by
   have hz:=h z;simp only [AS] at hz;constructor
   ·intro jc;rcases hz.1 (.inr jc) with e | e
    · subst e;exact absurd (ja z jc) (Nat.lt_irrefl _)
    · exact e
   ·intro jd;rcases hz.2 (.inr jd) with e | e
    · subst e;exact absurd (jb z jd) (Nat.lt_irrefl _)
    · exact e
  rw [sorted_eq je jf hx]
theorem DY.uniq {R R':List Rl} {acc acc':Int} {L L':List Slt} {W:List (List UInt8)} {i i':Nat} {l l':List (Nat × Nat)} (h:DY R acc L W i l) (h':DY R' acc' L' W i' l')
  (he:∀ w∈W,∀ c,Whole R acc L i w c↔Whole R' acc' L' i' w c):l=l' :=
 sorted_eq h.sorted h'.sorted fun ⟨k,c⟩=>by
  rw [h.mem,h'.mem];constructor
  · rintro ⟨hk,hl⟩;exact ⟨hk,hl.congr fun d=>he _ (AG hk) d⟩
  · rintro ⟨hk,hl⟩;exact ⟨hk,hl.congr fun d=>(he _ (AG hk) d).symm⟩
theorem DY.costs {R:List Rl} {acc:Int} {L:List Slt} {W:List (List UInt8)} {i:Nat} {l:List (Nat × Nat)} (h:DY R acc L W i l) {k:Nat} (hk:k<W.length) {d:Nat} (hd:Whole R acc L i W[k] d):∃ c,(k,c)∈l∧c≤d:=by
 obtain ⟨c,hc⟩:=L7 ⟨d,hd⟩;exact ⟨c,(h.mem k c).2 ⟨hk,hc⟩,hc.2 d hd⟩
abbrev Stt:=Nat × Nat
def D4 {α:Type} (E:List (α × Nat)):Prop:=E.Pairwise fun a b=>a.1≠b.1
theorem Gg {α:Type} (E:List (α × Nat)):D4 E↔(E.map (·.1)).Nodup:=by unfold D4 List.Nodup;rw [AR]
section
variable {α:Type} [DecidableEq α]
def look:List (α × Nat)→α→Option Nat
 | [],_=>none
 | p :: E,t=>if p.1=t then some p.2 else look E t
def D5 (E:List (α × Nat)) (t:α) (c:Nat):List (α × Nat):=if (look E t).isSome then E.map fun p=>if p.1=t then (t,c) else p else E ++ [(t,c)]
variable {E F:List (α × Nat)} {t u:α} {c d:Nat}
theorem look_nil (t:α):look ([]:List (α × Nat)) t=none:=rfl
theorem BO (p:α × Nat) (E:List (α × Nat)) (t:α):look (p :: E) t=if p.1=t then some p.2 else look E t:=rfl
theorem C1 (h:look E t=some c):(t,c)∈E:=by
 induction E with
 | nil=>cases h
 | cons p E ih =>
  rw [BO] at h;split at h
  · rename_i e;cases h;rw [← e];exact A9
  · exact List.mem_cons_of_mem _ (ih h)
theorem BM (hn:D4 E) (h:(t,c)∈E):look E t=some c:=by
 induction E with
 | nil=>cases h
 | cons p E ih =>
  obtain ⟨h1,h2⟩:=AQ.1 hn;rw [BO];rcases AS.1 h with rfl | h
  · simp
  · rw [if_neg (h1 _ h),ih h2 h]
theorem Ns:look E t=none↔∀ p∈E,p.1≠t:=by
 induction E with
 | nil=>simp [look_nil]
 | cons p E ih =>
  rw [BO];by_cases h:p.1=t
  · simp [h]
  · simp [h,ih]
theorem P8 (E F:List (α × Nat)) (t:α):look (E ++ F) t=(look E t).or (look F t):=by
 induction E with
 | nil=>simp [look_nil]
 | cons p E ih =>
  rw [List.cons_append,BO,BO,ih];split
  · rfl
  · rfl
theorem Gw (ja:t≠u):∀ F:List (α × Nat),look (F.map fun p=>if p.1=t then (t,c) else p) u=look F u
 | []=>rfl
 | p
   :: F=>by
  rw [List.map_cons,BO,BO,Gw ja F];by_cases hp:p.1=t
  ·simp only [hp,if_true];rw [if_neg ja,if_neg ja]
  · simp only [hp,if_false]
theorem Gx:∀ F:List (α × Nat),(look F t).isSome=true→look (F.map fun p=>if p.1=t then (t,c) else p) t=some c
 | [],h=>by simp [look_nil] at h
 | p
   :: F,h=>by
  rw [List.map_cons,BO];by_cases hp:p.1=t
  · simp [hp]
  ·rw [BO,if_neg hp] at h;simp only [hp,if_false];exact Gx F h
theorem DZ (E:List (α × Nat)) (t:α) (c:Nat) (u:α):look (D5 E t c) u=if t=u then some c else look E u:=by
 unfold D5;split
 ·rename_i h;by_cases ja:t=u
  · rw [if_pos ja];subst ja;exact Gx E h
  · rw [if_neg ja];exact Gw ja E
 ·rename_i h;rw [P8,BO,look_nil];have hn:look E t=none:=by cases e:look E t with | none=>rfl | some x=>rw [e] at h;simp at h
  by_cases ja:t=u
  · subst ja;rw [hn];simp
  · simp [ja]
theorem P9 (E:List (α × Nat)) (t:α) (c:Nat):(E.map fun p=>if p.1=t then (t,c) else p).map (·.1)=E.map (·.1):=by
 rw [List.map_map];refine List.map_congr_left fun p _=>?_;by_cases h:p.1=t
 · simp [h]
 · simp [h]
theorem D4.put (h:D4 E) (t:α) (c:Nat):D4 (D5 E t c):=by
 unfold D5;split
 · rw [Gg,P9,← Gg];exact h
 ·rename_i hs;have hn:look E t=none:=by cases e:look E t with | none=>rfl | some x=>rw [e] at hs;simp at hs
  refine List.pairwise_append.2 ⟨h,List.pairwise_singleton _ _,fun a ha b hb=>?_⟩;rw [AD.1 hb];exact Ns.1 hn a ha
theorem G9 (E:List (α × Nat)) (t:α) (c:Nat):(D5 E t c).length=if (look E t).isSome then E.length else E.length+1:=by
 unfold D5;split <;> simp
theorem Hl {p:α × Nat} (h:p∈D5 E t c):p=(t,c)∨p∈E:=by
 unfold D5 at h;split at h
 ·obtain ⟨q,hq,e⟩:=AH.1 h;split at e
  · exact .inl e.symm
  · exact .inr (e ▸ hq)
 ·rcases AT.1 h with h | h
  · exact .inr h
  · exact .inl (AD.1 h)
end
abbrev Ent:=List (Stt × Nat)
theorem nodup_bound:∀ (K:Nat) (l:List Nat),l.Nodup→(∀ x∈l,x<K)→l.length≤K
 | 0,l,_,h=>by cases l with | nil=>simp | cons x r=>exact absurd (h x A9) (Nat.not_lt_zero _)
 | K
   +
    1,l,hn,h=>by
  by_cases hk:K∈l
  ·have h1:=nodup_bound K (l.erase K) (hn.erase _) fun x hx=>by
    have h2:=h x (List.mem_of_mem_erase hx);have:x≠K:=fun e=>by subst e;exact (hn.not_mem_erase) hx
    omega
   rw [List.length_erase_of_mem hk] at h1;omega
  ·have:=nodup_bound K l hn fun x hx=>by
    have h2:=h x hx;have:x≠K:=fun e=>hk (e ▸ hx);omega
   omega
def L8 (N:Nat) (E:Ent):Prop:=∀ p∈E,p.1.1<8∧p.1.2<N
theorem L8.put {N:Nat} {E:Ent} (h:L8 N E) {t:Stt} (h1:t.1<8) (h2:t.2<N) (c:Nat):L8 N (D5 E t c):=fun p hp=>by
 rcases Hl hp with rfl | hp
 · exact ⟨h1,h2⟩
 · exact h p hp
theorem Qd {N:Nat} {a b:Stt} (ha:a.2<N) (hb:b.2<N) (h:a.1*N+a.2=b.1*N+b.2):a=b:=by
 have h0:0<N:=by omega
 have e2:a.2=b.2:=by
  have:=congrArg (· % N) h;simpa [Nat.mul_comm _ N,Nat.mul_add_mod,Nat.mod_eq_of_lt ha,Nat.mod_eq_of_lt hb] using this
 have e1:a.1=b.1:=by
  rw [e2] at h;exact Nat.eq_of_mul_eq_mul_right h0 (Nat.add_right_cancel h)
 exact Prod.ext e1 e2
theorem GA {N:Nat} {E:Ent} (hn:D4 E) (hr:L8 N E):E.length≤8*N:=by
 have h:=nodup_bound (8*N) (E.map fun p=>p.1.1*N+p.1.2) (by
  unfold List.Nodup;rw [AR];exact List.Pairwise.imp_of_mem (fun {a b} ha hb ja e=>ja (Qd (hr a ha).2 (hr b hb).2 e)) hn) (by
  intro x hx;obtain ⟨p,hp,rfl⟩:=AH.1 hx;obtain ⟨h1,h2⟩:=hr p hp;have:p.1.1*N≤7*N:=Nat.mul_le_mul_right N (by omega);omega)
 simpa using h
def K1 (E:Ent):Nat:=(E.map (·.2)).sum
def pot (N C:Nat) (E:Ent):Nat:=(8*N - E.length)*(C+1)+K1 E
theorem sum_put_old {E:Ent} (hn:D4 E) {t:Stt} {c d:Nat} (h:look E t=some d):K1 (D5 E t c)+d=K1 E+c:=by
 have hs:(look E t).isSome=true:=by rw [h];rfl
 unfold D5;rw [if_pos hs];unfold K1;clear hs
 induction E with
 | nil=>cases h
 | cons p E ih =>
  obtain ⟨h1,h2⟩:=AQ.1 hn;rw [BO] at h;rw [List.map_cons,List.map_cons,List.map_cons,List.sum_cons,List.sum_cons];by_cases hp:p.1=t
  ·rw [if_pos hp] at h;cases h;rw [if_pos hp];have:(E.map fun p=>if p.1=t then (t,c) else p)=E:=by
    refine (List.map_congr_left fun q hq=>?_).trans (List.map_id _);have ja:¬ q.1=t:=fun e=>h1 q hq (hp.trans e.symm);rw [if_neg ja];rfl
   rw [this];show c+_+_=_;omega
  ·rw [if_neg hp] at h;rw [if_neg hp];have:=ih h2 h;omega
theorem Qe {N C:Nat} {E:Ent} (hn:D4 E) (hr:L8 N E) {t:Stt} {c:Nat} (h1:t.1<8) (h2:t.2<N) (hc:c≤C) (jb:∀ d,look E t=some d→c<d):pot N C (D5 E t c)+1≤pot N C E:=by
 have hl:=GA (hn.put t c) (hr.put h1 h2 c);have ja:=G9 E t c;unfold pot;cases e:look E t with
 | some d =>
  rw [e] at ja;have hs:=sum_put_old (c:=c) hn e;have:=jb d e;simp at ja;rw [ja];omega
 | none =>
  rw [e] at ja;simp at ja;have hs:K1 (D5 E t c)=K1 E+c:=by unfold D5 K1;simp [e]
  rw [ja,hs];rw [ja] at hl;have:(8*N - E.length)=(8*N - (E.length+1))+1:=by omega
  rw [this,Nat.add_mul];omega
theorem Rs {N C:Nat} {E:Ent} (hn:D4 E) (hr:L8 N E) (hc:∀ p∈E,p.2≤C):pot N C E≤8*N*(C+1):=by
 have hl:=GA hn hr;have hs:K1 E≤E.length*C:=by
  unfold K1;clear hl hn hr
  induction E with
  | nil=>simp
  | cons p E ih =>
   have h1:=hc p A9;have h2:=ih fun q hq=>hc q (List.mem_cons_of_mem _ hq);rw [List.map_cons,List.sum_cons,List.length_cons,Nat.add_mul];omega
 unfold pot;obtain ⟨k,hk⟩:∃ k,8*N=E.length+k:=⟨8*N - E.length,by omega⟩
 rw [hk,Nat.add_sub_cancel_left,Nat.add_mul,Nat.mul_add E.length];omega
open Go.RowKit Go.WideShapes Go.Maps Go.WideMaps Fl
structure FK (α:Type) where
 mt:TypeId
 kt:TypeId
 val:α→Value
 kl:α→Lit
 ok:α→Prop
structure FK.Ok {α:Type} (T:FK α):Prop where
 keyed:Keyed Tryz.prog T.kt
 und:Tryz.prog.underlying T.mt=some (.map T.kt 3)
 key:∀ x,T.ok x→keyOf Tryz.prog T.kt (T.val x)=some (T.kl x)
 inj:∀ x y,T.val x=T.val y→x=y
theorem FK.Ok.kl_inj {α:Type} {T:FK α} (h:T.Ok) {x y:α} (hx:T.ok x) (hy:T.ok y) (e:T.kl x=T.kl y):x=y :=
 h.inj _ _ (h.keyed.inj (h.key x hx) (e ▸ h.key y hy))
theorem FK.Ok.isKey {α:Type} {T:FK α} (h:T.Ok) {x:α} (hx:T.ok x):WideAt.IsKeyLit (T.kl x):=h.keyed.key (h.key x hx)
theorem Qf {c:Nat} (h:c≤1152921504606846976):(Lit.int .i64 (c:Int)).wf=true:=by simp [Lit.wf,IntKind.min,IntKind.max,IntKind.bits,IntKind.signed];omega
section
variable {α:Type} [DecidableEq α] {T:FK α} {w w1:World} {g:Nat} {E:List (α × Nat)}
structure Iy (T:FK α) (D:DataW Unit) (E:List (α × Nat)):Prop where
 keys:D4 E
 ok:∀ p∈E,T.ok p.1∧p.2≤1152921504606846976
 has:∀ x,T.ok x→Maps.has D (T.kl x)=(look E x).isSome
 at_:∀ x,T.ok x→D.atKey (T.kl x) (.lit (.int .i64 0))=.lit (.int .i64 (((look E x).getD 0:Nat):Int))
 all:∀ l,Maps.has D l=true→∃ p∈E,l=T.kl p.1
 size:Maps.size D=E.length
def MpG (T:FK α) (w:World) (g:Nat) (E:List (α × Nat)):Prop:=∃ D:DataW Unit,w.ownsMap Tryz.prog T.kt (plainElem Tryz.prog 3) g E.length D∧Iy T D E
theorem Iy.empty (T:FK α):Iy T (.map []) [] :=
 ⟨List.Pairwise.nil,fun p hp=>(by cases hp),fun x _=>by simp [Maps.has,look_nil],fun x _=>by simp [DataW.atKey,look_nil],fun l h=>by simp [Maps.has] at h,rfl⟩
theorem MpG.new (T:FK α) (w:World):MpG T (w.alloc (.map #[] 0)) w.heap.size []:=⟨.map [],World.ownsMap_made _ _ _ _,Iy.empty T⟩
theorem MpG.kept (h:MpG T w g E) (hk:w1.heap[g]? = w.heap[g]?):MpG T w1 g E:=by
 obtain ⟨D,⟨es,clock,hb,h1⟩,h2⟩:=h;exact ⟨D,⟨es,clock,hk.trans hb,h1⟩,h2⟩
theorem MpG.obj (h:MpG T w g E):∃ es c,w.heap[g]? = some (.map es c):=by
 obtain ⟨D,⟨es,clock,hb,_⟩,_⟩:=h;exact ⟨es,clock,hb⟩
theorem MpG.lt (h:MpG T w g E):g<w.heap.size:=by
 obtain ⟨es,c,h⟩:=h.obj;exact (A5.1 h).1
theorem MpG.keys (h:MpG T w g E):D4 E:=h.choose_spec.2.keys
theorem MpG.okk (h:MpG T w g E):∀ p∈E,T.ok p.1∧p.2≤1152921504606846976:=h.choose_spec.2.ok
theorem MpG.look_ok (hT:T.Ok) (h:MpG T w g E) {x:α} (hx:T.ok x) :
  (Instr.lookup T.mt (.map (some g)) (T.val x) true).run Tryz.prog w=.ok (.tuple #[.int .i64 (((look E x).getD 0:Nat):Int),.bool (look E x).isSome]) w:=by
 obtain ⟨D,h1,h2⟩:=h;obtain ⟨v,ps,ja,hv⟩:=h1.look_ok hT.keyed hT.und (Tryz.zeroValue3 w) (plainElem_int (H:=Unit) Tryz.underlying3 (a:=0) (by decide)) (hT.key x hx);rw [h2.at_ x hx] at hv;obtain ⟨a,rfl,hz,_⟩:=plainElem_int_inv Tryz.underlying3 hv;rw [h2.has x hx] at ja;have:=congrArg Prod.fst hz;simp only [DataW.lit.injEq,Lit.int.injEq,true_and] at this;rw [this];exact ja
theorem MpG.look (hT:T.Ok) (h:MpG T w g E) {x:α} (hx:T.ok x) :
  (Instr.lookup T.mt (.map (some g)) (T.val x) false).run Tryz.prog w=.ok (.int .i64 (((look E x).getD 0:Nat):Int)) w:=by
 obtain ⟨D,h1,h2⟩:=h;obtain ⟨c,jb,ja,_⟩:=h1.lookup_int hT.keyed hT.und Tryz.underlying3 (Tryz.zeroValue3 w) (hT.key x hx);rw [h2.at_ x hx] at ja;simp only [DataW.lit.injEq,Lit.int.injEq,true_and] at ja;rw [ja];exact jb
theorem Iy.put {D:DataW Unit} (hT:T.Ok) (h:Iy T D E) (hD:Tidy D) {x:α} (hx:T.ok x) {c:Nat} (hc:c≤1152921504606846976):Iy T (D.put (T.kl x) (.lit (.int .i64 (c:Int)))) (D5 E x c):=by
 have hk:=hT.isKey hx;refine ⟨h.keys.put x c,fun p hp=>?_,fun y hy=>?_,fun y hy=>?_,fun l hl=>?_,?_⟩
 ·rcases Hl hp with rfl | hp
  · exact ⟨hx,hc⟩
  · exact h.ok p hp
 ·rw [DZ];by_cases e:x=y
  · subst e;rw [has_put_same hD.isMap hk];simp
  · rw [if_neg e,has_put_other (fun e2=>e (hT.kl_inj hx hy e2.symm)),h.has y hy]
 ·rw [DZ];by_cases e:x=y
  · subst e;rw [atKey_put_same hD.isMap hk];simp
  · rw [if_neg e,atKey_put_other (fun e2=>e (hT.kl_inj hx hy e2.symm)),h.at_ y hy]
 ·have ja:∀ y,(∃ c',(y,c')∈D5 E x c)↔(look (D5 E x c) y).isSome=true:=fun y=>by
   constructor
   ·rintro ⟨c',hm⟩;rw [BM (h.keys.put x c) hm];rfl
   ·intro h9;obtain ⟨c',e⟩:=Option.isSome_iff_exists.1 h9;exact ⟨c',C1 e⟩
  by_cases e:l=T.kl x
  ·obtain ⟨c',hm⟩:=(ja x).2 (by rw [DZ,if_pos rfl];rfl);exact ⟨_,hm,e⟩
  ·rw [has_put_other e] at hl;obtain ⟨p,hp,e2⟩:=h.all l hl;have jb:x≠p.1:=fun e3=>e (by rw [e2,e3]);obtain ⟨c',hm⟩:=(ja p.1).2 (by rw [DZ,if_neg jb,BM h.keys (c:=p.2) hp];rfl);exact ⟨_,hm,e2⟩
 · rw [size_put hD,h.has x hx,h.size,G9]
theorem M9 {D:DataW Unit} {k:TypeId} {R:Value→Option (DataW Unit × List MemPlace)} {n:Nat} (h:w.ownsMap Tryz.prog k R g n D):w.ownsMap Tryz.prog k R g (Maps.size D) D:=by
 obtain ⟨es,clock,hb,F,hs,rfl⟩:=h;exact ⟨es,clock,hb,F,by rw [size_eq,length_sorted];simp,rfl⟩
theorem MpG.run_put (hT:T.Ok) (h:MpG T w g E) {x:α} (hx:T.ok x) {c:Nat} (hc:c≤1152921504606846976) (hl:E.length<1000000) :
  ∃ w',(Instr.mapUpdate T.mt (.map (some g)) (T.val x) (.int .i64 (c:Int))).run Tryz.prog w=.ok () w'∧MpG T w' g (D5 E x c)∧w.grownBy w' (some g):=by
 obtain ⟨D,h1,h2⟩:=h;obtain ⟨w',ja,h3,h4⟩:=h1.update hT.keyed hT.und (by unfold maxLen;omega) (hT.key x hx) (plainElem_int (H:=Unit) Tryz.underlying3 (Qf hc));have hd:=h2.put hT (h1.tidy hT.keyed) hx hc;refine ⟨w',ja,⟨_,?_,hd⟩,h4⟩;have:=M9 h3;rw [hd.size] at this;exact this
theorem GB (hT:T.Ok) (h:MpG T w g E) {x:α} (hx:T.ok x) {c:Nat} (hc:c≤1152921504606846976) (hl:E.length<1000000) {ops:Array Oper} {rest:List Oper} {o:Oper} {a:Act} {Q:Exit→Act→World→Prop}
  (jc:o.guard=none) (m k v:Operand) (jd:o.op=Op.mapUpdate T.mt m k v) (hm:a.eval m=.map (some g)) (hk:a.eval k=T.val x) (hv:a.eval v=.int .i64 (c:Int))
  (hK:∀ w',MpG T w' g (D5 E x c)→w.grownBy w' (some g)→wpList Tryz.prog ops Q rest (a.put o.dst undef) w'):wpList Tryz.prog ops Q (o :: rest) a w:=by
 refine wpList_plain jc fun K' jb=>?_;obtain ⟨w',ja,r1,r2⟩:=h.run_put hT hx hc hl;unfold Oper.wp;simp [execOp,jd,hm,hk,hv,ja,Result.andThen];exact jb _ _ (hK w' r1 r2)
theorem MpG.run_clear (hT:T.Ok) (h:MpG T w g E) (ty:TypeId):∃ w',(Builtin.clear_ #[T.mt] ty #[.map (some g)]).run Tryz.prog w=.ok (.tuple #[]) w'∧MpG T w' g []∧w.grownBy w' (some g):=by
 obtain ⟨es,clock,hb⟩:=h.obj;refine ⟨ChangeMaps.setBlock w g (.map #[] clock),?_,⟨.map [],⟨#[],clock,ChangeMaps.heap_setBlock_same hb _,⟨by simp,MapKept.stamped_empty _,by simp⟩,A3 _,rfl⟩,Iy.empty T⟩,⟨rfl,rfl,rfl,by simp [ChangeMaps.setBlock],fun i _ hi=>ChangeMaps.heap_setBlock_other hb _ (fun e=>hi (by rw [e]))⟩⟩;simp [Builtin.clear_,run_underlying hT.und,MapKept.run_getObj_map hb,MapKept.run_setObj_map _ hb,Result.andThen,ChangeMaps.setBlock]
def Cq (l:List (α × Nat)) (p:α × Nat):List (α × Nat):=l.filter fun q=>decide (q≠p)
theorem CK {l:List (α × Nat)} {p q:α × Nat}:q∈Cq l p↔q∈l∧q≠p:=by unfold Cq;rw [AU];simp
theorem Cr {l:List (α × Nat)} {p:α × Nat} (h:p∈l):(Cq l p).length<l.length:=List.length_filter_lt_length_iff_exists.2 ⟨_,h,by simp⟩
def RgG (T:FK α) (w:World) (g r:Nat) (E rest:List (α × Nat)):Prop:=∃ (D:DataW Unit) (left:Lit→Bool) (cnt:Nat),w.ranges Tryz.prog T.kt (plainElem Tryz.prog 3) g r E.length D left cnt∧Iy T D E∧(∀ p∈rest,p∈E) ∧
 (∀ p∈E,left (T.kl p.1)=decide (p∈rest))∧(∀ l,left l=true→∃ p∈E,l=T.kl p.1)
theorem RgG.map {r:Nat} {rest:List (α × Nat)} (h:RgG T w g r E rest):MpG T w g E:=by
 obtain ⟨D,left,cnt,h1,h2,_⟩:=h;exact ⟨D,h1.owns,h2⟩
theorem RgG.sub {r:Nat} {rest:List (α × Nat)} (h:RgG T w g r E rest):∀ p∈rest,p∈E:=by
 obtain ⟨D,left,cnt,h1,h2,h3,_⟩:=h;exact h3
theorem RgG.lt {r:Nat} {rest:List (α × Nat)} (h:RgG T w g r E rest):r<w.heap.size:=by
 obtain ⟨D,left,cnt,h1,h2,_⟩:=h;exact h1.lt
theorem RgG.kept {r:Nat} {rest:List (α × Nat)} (h:RgG T w g r E rest) {row:Option Nat} (hg:w.grownBy w1 row) (h1:some g≠row) (h2:some r≠row):RgG T w1 g r E rest:=by
 obtain ⟨D,left,cnt,h3,h4⟩:=h;exact ⟨D,left,cnt,h3.kept hg h1 h2,h4⟩
theorem RgG.below {r:Nat} {rest:List (α × Nat)} (h:RgG T w g r E rest) (hb:Below w.heap.size w w1):RgG T w1 g r E rest :=
 h.kept (row:=none) ⟨hb.os,hb.tape,hb.output,hb.size,fun k hk _=>hb.block k hk⟩ (by simp) (by simp)
theorem MpG.run_range (hT:T.Ok) (h:MpG T w g E):∃ w',(Instr.range T.mt (.map (some g))).run Tryz.prog w=.ok (.pointer (some ⟨w.heap.size,0,none⟩)) w'∧RgG T w' g w.heap.size E E∧Below w.heap.size w w'∧w'.heap.size=w.heap.size+1:=by
 obtain ⟨D,h1,h2⟩:=h;obtain ⟨w',ja,h3,h4,h5⟩:=h1.range hT.keyed hT.und;refine ⟨w',ja,⟨D,_,_,h3,h2,fun p hp=>hp,fun p hp=>?_,fun l hl=>h2.all l hl⟩,⟨h4.os,h4.tape,h4.output,h4.size,fun k hk=>h4.block k hk (by simp)⟩,h5⟩;rw [h2.has p.1 (h2.ok p hp).1,BM h2.keys (c:=p.2) hp];simp [hp]
theorem Er (hT:T.Ok) (h:MpG T w g E) {ops:Array Oper} {rest:List Oper} {o:Oper} {a:Act} {Q:Exit→Act→World→Prop} (jc:o.guard=none) (m:Operand) (jd:o.op=Op.range T.mt m) (hm:a.eval m=.map (some g))
  (hK:∀ w',RgG T w' g w.heap.size E E→Below w.heap.size w w'→w.heap.size<w'.heap.size→wpList Tryz.prog ops Q rest (a.put o.dst (.pointer (some ⟨w.heap.size,0,none⟩))) w'):wpList Tryz.prog ops Q (o :: rest) a w:=by
 refine wpList_plain jc fun K' jb=>?_;obtain ⟨w',ja,r1,r2,r3⟩:=h.run_range hT;unfold Oper.wp;simp [execOp,jd,hm,ja,Result.andThen];exact jb _ _ (hK w' r1 r2 (by omega))
theorem wpList_next_g (hT:T.Ok) {r:Nat} {todo:List (α × Nat)} (h:RgG T w g r E todo) {ops:Array Oper} {rest:List Oper} {o:Oper} {a:Act} {Q:Exit→Act→World→Prop} (jm:o.guard=none) (it:Operand) (jh:o.op=Op.next it false) (hit:a.eval it=.pointer (some ⟨r,0,none⟩))
  (jb:todo=[]→wpList Tryz.prog ops Q rest (a.put o.dst (.tuple #[.bool false])) w)
  (jc:∀ (p:α × Nat) (w':World),p∈todo→RgG T w' g r E (Cq todo p)→w.grownBy w' (some r)→w.heap.size≤w'.heap.size→w'.rangeLeft g r<w.rangeLeft g r →
   (Instr.entry (.pointer (some ⟨r,0,none⟩))).run Tryz.prog w'=.ok (.tuple #[T.val p.1,.int .i64 (p.2:Int)]) w'→wpList Tryz.prog ops Q rest (a.put o.dst (.tuple #[.bool true,T.val p.1,.int .i64 (p.2:Int)])) w'):wpList Tryz.prog ops Q (o :: rest) a w:=by
 refine wpList_plain jm fun K' jf=>?_;obtain ⟨D,left,cnt,h1,h2,h3,h4,h5⟩:=h;unfold Oper.wp;rcases h1.next hT.keyed o.type with ⟨h0,hl,ja⟩ | ⟨key,v,kl,y,w',cnt',jd,jg,hv,jk,ja,jj,jo,jn,hsz,jl⟩
 ·simp [execOp,jh,hit,ja,Result.andThen];refine jf _ _ (jb ?_);cases todo with
  | nil=>rfl
  | cons p t =>
   have:=h4 p (h3 p A9);rw [hl] at this;simp at this
 ·obtain ⟨p,hp,rfl⟩:=h5 kl jg;have je:=h2.ok p hp;obtain rfl:key=T.val p.1:=hT.keyed.inj jd (hT.key p.1 je.1);obtain ⟨c,rfl,rfl,_⟩:=plainElem_int_inv Tryz.underlying3 hv;have hc:=jk (.lit (.int .i64 0));rw [h2.at_ p.1 je.1,BM h2.keys (c:=p.2) hp] at hc;simp only [DataW.lit.injEq,Lit.int.injEq,true_and,Option.getD_some] at hc;subst hc;have jp:p∈todo:=by
   have:=h4 p hp;rw [jg] at this;exact of_decide_eq_true this.symm
  simp [execOp,jh,hit,ja,Result.andThen];refine jf _ _ (jc p w' jp ⟨D,_,_,jj,h2,fun q hq=>h3 q (CK.1 hq).1,fun q hq=>?_,fun l hl=>?_⟩ jn (by omega) (by rw [jj.left_eq,h1.left_eq];exact jo) jl)
  ·have ji:=h2.ok q hq;rw [h4 q hq];by_cases e:q=p
   ·subst e;simp [WideAt.sameKey_self (hT.isKey ji.1),CK]
   ·have:q.1≠p.1:=fun e2=>e (Prod.ext e2 (by
     have a1:=BM h2.keys (t:=q.1) (c:=q.2) hq;have a2:=BM h2.keys (t:=p.1) (c:=p.2) hp;rw [e2,a2] at a1;exact (Option.some.inj a1).symm))
    rw [sameKey_ne (fun e2=>this (hT.kl_inj ji.1 je.1 e2))];simp [e,CK]
  ·simp only [Bool.and_eq_true] at hl;exact h5 l hl.1
end
def FL (t:Stt):Value:=.agg #[.int .i64 (t.1:Int),.int .i64 (t.2:Int)]
def BY:FK Stt:=⟨141,183,FL,fun t=>.string (keyBytes [.int .i64 (t.1:Int),.int .i64 (t.2:Int)]),fun t=>t.1<1000000∧t.2<1000000⟩
theorem Nt:laidOutB Tryz.prog=true:=by kernel_rfl
theorem PA:(183:TypeId)<Tryz.prog.types.size:=of_decide_eq_true (by kernel_rfl)
theorem PB:KeyLaw Tryz.prog 183:=deep_law_laid Nt (m:=2) (by omega) PA (by kernel_rfl) (by rw [Tryz.underlying183])
theorem C0:BY.Ok where
 keyed:=Keyed.of_law PB
 und:=Tryz.underlying141
 key
   x hx:=by
  have h1:Tryz.prog.keyType 183=true:=by kernel_rfl
  have hc:Tryz.prog.cellsOf 183=2:=by kernel_rfl
  have ja:Tryz.prog.cellsOf 3=1:=by kernel_rfl
  have hf:(FL x).formed Tryz.prog 183=true:=by simp [FL,Value.formed,Tryz.underlying183,hc]
  have w1:(Lit.int .i64 (x.1:Int)).wf=true:=Qf (by have:=hx.1;omega);have w2:(Lit.int .i64 (x.2:Int)).wf=true:=Qf (by have:=hx.2;omega);obtain ⟨n,hn⟩:∃ n,Tryz.prog.types.size+1=n+2:=⟨Tryz.prog.types.size - 1,by
   have:1≤Tryz.prog.types.size:=of_decide_eq_true (by kernel_rfl);omega⟩
  have hl:Tryz.prog.keyLits (Tryz.prog.types.size+1) 183 [.int .i64 (x.1:Int),.int .i64 (x.2:Int)]=some [.int .i64 (x.1:Int),.int .i64 (x.2:Int)]:=by
   rw [hn];simp [Program.keyLits,Tryz.underlying183,Tryz.underlying3,hc,ja,w1,w2]
  show keyOf Tryz.prog 183 (FL x)=_;unfold keyOf;rw [Tryz.underlying183];simp only [h1,hf,Bool.and_self,if_true];have jb:(FL x).cells.toList=[.int .i64 (x.1:Int),.int .i64 (x.2:Int)]:=by simp [FL,Value.cells]
  rw [jb,hl];rfl
 inj x y h:=by
  simp [BY,FL] at h;exact Prod.ext (by omega) (by omega)
def FM:FK Nat:=⟨173,3,fun n=>.int .i64 (n:Int),fun n=>.int .i64 (n:Int),fun n=>n<1000000⟩
theorem ES:FM.Ok where
 keyed:=int_keyed Tryz.underlying3
 und:=Tryz.underlying173
 key x hx:=keyOf_int_mk Tryz.underlying3 (Qf (by have:x<1000000:=hx;omega))
 inj x y h:=by simp [FM] at h;omega
section
variable {R:List Rl} {L:List Slt} {fol:Nat→List UInt8→Option Nat}
def L9 (R:List Rl) (L:List Slt) (fol:Nat→List UInt8→Option Nat) (i:Nat) (t:Stt) (r:Rl) (t':Stt) (d:Nat):Prop :=
 r∈R∧Bj r=true∧r.frm=(t.1:Int)∧∃ k n',letsC (L.drop i) (bts r.inp)=some k∧fol t.2 (bts r.out)=some n'∧t'=(r.dst.toNat,n')∧d=r.cost.toNat+k
theorem Rt.go {i:Nat} {t t':Stt} {c d:Nat} {r:Rl} (h:Rt R L fol i t c) (hs:L9 R L fol i t r t' d):Rt R L fol (i+r.inp.size) t' (c+d):=by
 obtain ⟨h1,h2,h3,k,n',h4,h5,rfl,rfl⟩:=hs;exact .step h h1 h2 h3 h4 h5
structure Inv (R:List Rl) (L:List Slt) (fol:Nat→List UInt8→Option Nat) (i:Nat) (M:Nat→Ent):Prop where
 sound:∀ j t c,look (M j) t=some c→Rt R L fol j t c
 comp:∀ k t c r t' d,k<i→Rt R L fol k t c→L9 R L fol k t r t' d→i≤k+r.inp.size→∃ c',look (M (k+r.inp.size)) t'=some c'∧c'≤c+d
 base:i=0→∃ c',look (M 0) (0,0)=some c'∧c'≤0
def Shut (R:List Rl) (L:List Slt) (fol:Nat→List UInt8→Option Nat) (i:Nat) (M:Nat→Ent) (t:Stt):Prop :=
 ∀ c r t' d,look (M i) t=some c→L9 R L fol i t r t' d→∃ c',look (M (i+r.inp.size)) t'=some c'∧c'≤c+d
theorem Inv.least {i:Nat} {M:Nat→Ent} (h:Inv R L fol i M) (hs:∀ t,Shut R L fol i M t) {t:Stt} {c:Nat} (hr:Rt R L fol i t c):∃ c',look (M i) t=some c'∧c'≤c:=by
 suffices ∀ j t c,Rt R L fol j t c→j=i→∃ c',look (M i) t=some c'∧c'≤c from this i t c hr rfl
 intro j t c hj
 induction hj with
 | start=>intro e;subst e;exact h.base rfl
 | @step k m n n' c lc r h1 hr hf hm hk hn ih =>
  intro e;have jc:L9 R L fol k (m,n) r (r.dst.toNat,n') (r.cost.toNat+lc):=⟨hr,hf,hm,lc,n',hk,hn,rfl,rfl⟩
  by_cases hz:k=i
  ·subst hz;obtain ⟨c1,jd,hle⟩:=ih rfl;obtain ⟨c2,ja,jb⟩:=hs (m,n) c1 r _ _ jd jc;rw [e] at ja;exact ⟨c2,ja,by omega⟩
  ·obtain ⟨c2,ja,jb⟩:=h.comp k (m,n) c r _ _ (by omega) h1 jc (by omega);rw [e] at ja;exact ⟨c2,ja,jb⟩
theorem Inv.next {i:Nat} {M M':Nat→Ent} (h:Inv R L fol i M) (hs:∀ t,Shut R L fol i M t) (hM:∀ j,i<j→M' j=M j) (h0:∀ j,¬ i<j→M' j=[]):Inv R L fol (i+1) M' where
 sound j t c hl:=by
  by_cases hj:i<j
  · rw [hM j hj] at hl;exact h.sound j t c hl
  · rw [h0 j hj] at hl;cases hl
 comp k t c r t' d hk hr hst hle:=by
  rw [hM _ (by omega)];by_cases hz:k=i
  ·subst hz;obtain ⟨c1,ja,hle1⟩:=h.least hs hr;obtain ⟨c2,jb,hle2⟩:=hs t c1 r t' d ja hst;exact ⟨c2,jb,by omega⟩
  · exact h.comp k t c r t' d (by omega) hr hst (by omega)
 base e:=absurd e (by omega)
def N1 (M M':Nat→Ent):Prop:=∀ j t c,look (M j) t=some c→∃ c',look (M' j) t=some c'∧c'≤c
theorem Inv.falls {i:Nat} {M M':Nat→Ent} (h:Inv R L fol i M) (hf:N1 M M') (hs:∀ j t c,look (M' j) t=some c→Rt R L fol j t c):Inv R L fol i M' where
 sound:=hs
 comp k t c r t' d hk hr hst hle:=by
  obtain ⟨c1,h1,l1⟩:=h.comp k t c r t' d hk hr hst hle;obtain ⟨c2,h2,l2⟩:=hf _ _ _ h1;exact ⟨c2,h2,by omega⟩
 base e:=by
  obtain ⟨c1,h1,l1⟩:=h.base e;obtain ⟨c2,h2,l2⟩:=hf _ _ _ h1;exact ⟨c2,h2,by omega⟩
def DE (M:Nat→Ent) (j:Nat) (t:Stt) (c:Nat):Nat→Ent:=fun k=>if k=j then D5 (M k) t c else M k
theorem Cs (M:Nat→Ent) (j:Nat) (t:Stt) (c:Nat) (k:Nat) (u:Stt):look (DE M j t c k) u=if k=j∧t=u then some c else look (M k) u:=by
 unfold DE;by_cases h:k=j
 ·rw [if_pos h,DZ];by_cases h2:t=u
  · simp [h,h2]
  · simp [h,h2]
 · simp [h]
theorem Nu {M:Nat→Ent} {j:Nat} {t:Stt} {c:Nat} (h:∀ d,look (M j) t=some d→c≤d):N1 M (DE M j t c):=fun k u e he=>by
 rw [Cs];split
 · rename_i hk;obtain ⟨rfl,rfl⟩:=hk;exact ⟨c,rfl,h e he⟩
 · exact ⟨e,he,A3 _⟩
theorem Shut.falls {i:Nat} {M M':Nat→Ent} {t:Stt} (h:Shut R L fol i M t) (hf:N1 M M') (he:look (M' i) t=look (M i) t):Shut R L fol i M' t:=fun c r t' d hc ja=>by
 rw [he] at hc;obtain ⟨c1,h1,l1⟩:=h c r t' d hc ja;obtain ⟨c2,h2,l2⟩:=hf _ _ _ h1;exact ⟨c2,h2,by omega⟩
structure Bnd (N i B D:Nat) (M:Nat→Ent):Prop where
 keys:∀ j,D4 (M j)
 rng:∀ j,L8 N (M j)
 here:∀ p∈M i,p.2≤B+(M i).length*D
 next:∀ j,j≠i→∀ p∈M j,p.2≤B+(8*N+1)*D
theorem Bnd.here_le {N i B D:Nat} {M:Nat→Ent} (h:Bnd N i B D M) {t:Stt} {c:Nat} (hc:look (M i) t=some c):c≤B+8*N*D:=by
 have h1:=h.here _ (C1 hc);have h2:=Nat.mul_le_mul_right D (GA (h.keys i) (h.rng i));simp only at h1;omega
theorem Bnd.put {N i B D:Nat} {M:Nat→Ent} (h:Bnd N i B D M) {j:Nat} {s t:Stt} {c d:Nat} (hs:look (M i) s=some c) (hd:d≤D) (h1:t.1<8) (h2:t.2<N) (ja:∀ x,look (M j) t=some x→c+d<x):Bnd N i B D (DE M j t (c+d)) where
 keys k:=by
  unfold DE;split
  · exact (h.keys k).put _ _
  · exact h.keys k
 rng k:=by
  unfold DE;split
  · exact (h.rng k).put h1 h2 _
  · exact h.rng k
 here p hp:=by
  unfold DE at hp ⊢;split at hp
  ·rename_i e;subst e;rw [if_pos rfl];have hl:=G9 (M i) t (c+d);rcases Hl hp with rfl | hp
   ·have h3:=h.here _ (C1 hs);simp only at h3 ⊢;cases e:look (M i) t with
    | none =>
     rw [e] at hl;simp at hl;rw [hl,Nat.add_mul];omega
    | some x =>
     rw [e] at hl;simp at hl;have h4:=h.here _ (C1 e);have h5:=ja x e;simp only at h4;rw [hl];omega
   ·have h3:=h.here p hp;have:(M i).length≤(D5 (M i) t (c+d)).length:=by rw [hl];split <;> omega
    have:=Nat.mul_le_mul_right D this;omega
  · rename_i e;rw [if_neg e];exact h.here p hp
 next k hk p hp:=by
  unfold DE at hp;split at hp
  ·rcases Hl hp with rfl | hp
   ·have:=h.here_le hs;simp only [Nat.add_mul];omega
   · exact h.next k hk p hp
  · exact h.next k hk p hp
end
def raise (r:Rl) (k:Nat):Rl:={ r with cost:=r.cost+(k:Int) }
def LA (R:List Rl) (L:List Slt) (i:Nat):List Rl:=R.filterMap fun r=>(letsC (L.drop i) (bts r.inp)).map (raise r)
def BL (R:List Rl) (L:List Slt) (i m:Nat):List Rl:=(LA R L i).filter fun r=>decide (r.frm=(m:Int))
def JP (R:List Rl):Prop:=∀ r∈R,Bj r=true
theorem I4 {R:List Rl} {L:List Slt} {i:Nat} {s:Rl}:s∈LA R L i↔∃ r k,r∈R∧letsC (L.drop i) (bts r.inp)=some k∧s=raise r k:=by
 unfold LA;rw [List.mem_filterMap];constructor
 ·rintro ⟨r,hr,h⟩;cases e:letsC (L.drop i) (bts r.inp) with
  | none=>rw [e] at h;cases h
  | some k=>rw [e] at h;cases h;exact ⟨r,k,hr,e,rfl⟩
 ·rintro ⟨r,k,hr,h,rfl⟩;exact ⟨r,hr,by rw [h];rfl⟩
section
variable {R:List Rl} {L:List Slt} {fol:Nat→List UInt8→Option Nat} {i N B D C n:Nat} {q:List Stt} {M:Nat→Ent} {t:Stt} {ct:Nat}
structure Vis (R:List Rl) (L:List Slt) (fol:Nat→List UInt8→Option Nat) (i N B D:Nat) (q:List Stt) (n:Nat) (M:Nat→Ent):Prop where
 inv:Inv R L fol i M
 bnd:Bnd N i B D M
 qs:∀ t∈q,∃ c,look (M i) t=some c
 pend:∀ t c,look (M i) t=some c→Shut R L fol i M t∨t∈q.drop n
def Did (fol:Nat→List UInt8→Option Nat) (i:Nat) (M:Nat→Ent) (t:Stt) (ct:Nat) (s:Rl):Prop :=
 ∀ n',fol t.2 (bts s.out)=some n'→∃ c',look (M (i+s.inp.size)) (s.dst.toNat,n')=some c'∧c'≤ct+s.cost.toNat
structure CR (R:List Rl) (L:List Slt) (fol:Nat→List UInt8→Option Nat) (i N B D:Nat) (q:List Stt) (n:Nat) (M:Nat→Ent) (t:Stt) (ct:Nat) (S:List Rl):Prop where
 inv:Inv R L fol i M
 bnd:Bnd N i B D M
 qs:∀ t∈q,∃ c,look (M i) t=some c
 here:look (M i) t=some ct
 pend:∀ u c,u≠t→look (M i) u=some c→Shut R L fol i M u∨u∈q.drop (n+1)
 did:∀ s∈S,Did fol i M t ct s
theorem Vis.enter (h:Vis R L fol i N B D q n M) (hn:n<q.length) (hq:q[n]=t) (hc:look (M i) t=some ct):CR R L fol i N B D q n M t ct [] where
 inv:=h.inv
 bnd:=h.bnd
 qs:=h.qs
 here:=hc
 pend u c hu hl:=by
  rcases h.pend u c hl with h1 | h1
  · exact .inl h1
  ·rw [AE hn] at h1;rcases AS.1 h1 with e | h1
   · exact absurd (e.trans hq) hu
   · exact .inr h1
 did s hs:=by cases hs
theorem CR.leave (h:CR R L fol i N B D q n M t ct (BL R L i t.1)):Vis R L fol i N B D q (n+1) M where
 inv:=h.inv
 bnd:=h.bnd
 qs:=h.qs
 pend u c hl:=by
  by_cases hu:u=t
  ·subst hu;refine .inl fun c0 r t' d ja jc=>?_;obtain ⟨h1,h2,h3,k,n',h4,h5,rfl,rfl⟩:=jc;have hf:=CQ.1 h2;have hm:raise r k∈BL R L i u.1:=by
    unfold BL;rw [AU];exact ⟨I4.2 ⟨r,k,h1,h4,rfl⟩,by show decide (r.frm=_)=true;simpa using h3⟩
   obtain ⟨c',jb,hle⟩:=h.did _ hm n' h5;rw [h.here] at ja;cases ja;refine ⟨c',jb,?_⟩;have:(raise r k).cost.toNat=r.cost.toNat+k:=by show (r.cost+(k:Int)).toNat=_;omega
   omega
  · exact h.pend u c hu hl
theorem CR.start (ja:Inv R L fol i M) (hb:Bnd N i B D M) {q:List Stt} (hq:∀ t,t∈q↔∃ c,look (M i) t=some c):Vis R L fol i N B D q 0 M where
 inv:=ja
 bnd:=hb
 qs t ht:=(hq t).1 ht
 pend t c hc:=.inr (by rw [List.drop_zero];exact (hq t).2 ⟨c,hc⟩)
theorem Vis.done (h:Vis R L fol i N B D q n M) (hn:¬ n<q.length):∀ t,Shut R L fol i M t:=fun t c r t' d hc ja=>by
 rcases h.pend t c hc with h1 | h1
 · exact h1 c r t' d hc ja
 · rw [List.drop_eq_nil_of_le (by omega)] at h1;cases h1
theorem CR.skip {S:List Rl} {s:Rl} (h:CR R L fol i N B D q n M t ct S) (hf:fol t.2 (bts s.out)=none):CR R L fol i N B D q n M t ct (S ++ [s]) :=
 ⟨h.inv,h.bnd,h.qs,h.here,h.pend,fun x hx=>by
  rcases AT.1 hx with hx | hx
  · exact h.did x hx
  · rw [AD.1 hx];intro n' hn;rw [hf] at hn;cases hn⟩
theorem CR.same {S:List Rl} {s:Rl} {n' old:Nat} (h:CR R L fol i N B D q n M t ct S) (hf:fol t.2 (bts s.out)=some n') (ho:look (M (i+s.inp.size)) (s.dst.toNat,n')=some old) (ja:old≤ct+s.cost.toNat):CR R L fol i N B D q n M t ct (S ++ [s]) :=
 ⟨h.inv,h.bnd,h.qs,h.here,h.pend,fun x hx=>by
  rcases AT.1 hx with hx | hx
  · exact h.did x hx
  · rw [AD.1 hx];intro n2 hn;rw [hf] at hn;cases hn;exact ⟨old,ho,ja⟩⟩
theorem CR.put {S:List Rl} {s:Rl} {n' m:Nat} (h:CR R L fol i N B D q n M t ct S) (hm:s∈BL R L i t.1) (hF:JP R) (hf:fol t.2 (bts s.out)=some n') (hN:n'<N) (hD:s.cost.toNat≤D) (jj:s.dst.toNat=m) (hn:n<q.length)
  (jf:∀ x,look (M (i+s.inp.size)) (m,n')=some x→ct+s.cost.toNat<x) (jh:s.inp.size=0→(m,n')≠t) :
  CR R L fol i N B D (if s.inp.size=0 then q ++ [(m,n')] else q) n (DE M (i+s.inp.size) (m,n') (ct+s.cost.toNat)) t ct (S ++ [s]):=by
 subst jj;obtain ⟨jk,jl⟩:=AU.1 hm;obtain ⟨r,k,hr,hk,rfl⟩:=I4.1 jk;have jg:=hF r hr;have hfq:=CQ.1 jg;have jb:(raise r k).cost.toNat=r.cost.toNat+k:=by show (r.cost+(k:Int)).toNat=_;omega
 have ei:(raise r k).inp=r.inp:=rfl;have eo:(raise r k).out=r.out:=rfl;have ed:(raise r k).dst=r.dst:=rfl;have jm:=of_decide_eq_true jl;simp only [ei,eo,ed] at hf jf jh ⊢;have jn:L9 R L fol i t r (r.dst.toNat,n') (r.cost.toNat+k):=⟨hr,jg,jm,k,n',hk,hf,rfl,rfl⟩
 have ja:N1 M (DE M (i+r.inp.size) (r.dst.toNat,n') (ct+(raise r k).cost.toNat)):=Nu fun d hd=>Nat.le_of_lt (jf d hd);have jc:look (DE M (i+r.inp.size) (r.dst.toNat,n') (ct+(raise r k).cost.toNat) i) t=some ct:=by
  rw [Cs];split
  · rename_i e;exact absurd e.2 (jh (by omega))
  · exact h.here
 refine ⟨?_,?_,?_,jc,?_,?_⟩
 ·refine h.inv.falls ja fun j u c hl=>?_;rw [Cs] at hl;split at hl
  ·rename_i e;obtain ⟨rfl,rfl⟩:=e;cases hl;rw [jb];exact (h.inv.sound i t ct h.here).go jn
  · exact h.inv.sound j u c hl
 · exact h.bnd.put h.here hD (by show r.dst.toNat<8;omega) hN jf
 ·intro u hu;have hold:∀ u∈q,∃ c,look (DE M (i+r.inp.size) (r.dst.toNat,n') (ct+(raise r k).cost.toNat) i) u=some c:=fun u hu=>by
   obtain ⟨c,hc⟩:=h.qs u hu;obtain ⟨c',je,_⟩:=ja i u c hc;exact ⟨c',je⟩
  split at hu
  ·rename_i hz;rcases AT.1 hu with hu | hu
   · exact hold u hu
   ·rw [AD.1 hu];refine ⟨ct+(raise r k).cost.toNat,?_⟩;rw [Cs,if_pos ⟨by omega,rfl⟩]
  · exact hold u hu
 ·intro u c hu hl;rw [Cs] at hl;by_cases hx:i=i+r.inp.size∧(r.dst.toNat,n')=u
  ·have hz:r.inp.size=0:=by omega
   rw [if_pos hz];refine .inr ?_;rw [List.drop_append_of_le_length (by omega)];exact List.mem_append_right _ (AD.2 hx.2.symm)
  ·rw [if_neg hx] at hl;rcases h.pend u c hu hl with h1 | h1
   ·refine .inl (h1.falls ja ?_);rw [Cs,if_neg hx]
   ·refine .inr ?_;split
    · rw [List.drop_append_of_le_length (by omega)];exact List.mem_append_left _ h1
    · exact h1
 ·intro x hx n2 jd;rcases AT.1 hx with hx | hx
  ·obtain ⟨c',je,hle⟩:=h.did x hx n2 jd;obtain ⟨c2,ji,hle2⟩:=ja _ _ _ je;exact ⟨c2,ji,by omega⟩
  ·rw [AD.1 hx] at jd ⊢;have:n2=n':=by
    rw [eo,hf] at jd;exact (Option.some.inj jd).symm
   subst this;refine ⟨ct+(raise r k).cost.toNat,?_,A3 _⟩;show look (DE M (i+r.inp.size) (r.dst.toNat,n2) _ (i+r.inp.size)) (r.dst.toNat,n2)=_;rw [Cs,if_pos ⟨rfl,rfl⟩]
end
open Go.RowKit Go.WideShapes Fl
structure Kc (w w':World):Prop where
 size:w.heap.size≤w'.heap.size
 block:∀ (q:Nat) (cs:Array Value) (t:TypeId) (f:Nat × Nat),w.heap[q]? = some (.cells cs t f)→w'.heap[q]? = some (.cells cs t f)
theorem Kc.refl (w:World):Kc w w:=⟨A3 _,fun _ _ _ _ h=>h⟩
theorem Kc.trans {a b c:World} (h:Kc a b) (h2:Kc b c):Kc a c:=⟨A8 h.size h2.size,fun q cs t f hq=>h2.block q cs t f (h.block q cs t f hq)⟩
theorem Kc.of {w w':World} {B:Nat} (h:Below B w w') (hB:w.heap.size≤B):Kc w w' :=
 ⟨h.size,fun q cs t f hq=>(h.block q (A7 (A5.1 hq).1 hB)).trans hq⟩
theorem Kc.cell {w w':World} (h:Kc w w') {p:Addr} {v:Value} (hp:w.cell? p=some v):w'.cell? p=some v:=by
 unfold World.cell? at hp ⊢;cases e:w.heap[p.block]? with
 | none=>rw [e] at hp;cases hp
 | some o =>
  cases o with
  | cells cs t f=>rw [h.block _ _ _ _ e];rw [e] at hp;exact hp
  | _=>rw [e] at hp;cases hp
theorem DD.kp {w w1:World} {a:Option Addr} {X:List Ar} (h:DD w a X) (hk:Kc w w1):DD w1 a X:=fun k hl=>by
 obtain ⟨b,o,ha,h1,h2,h3⟩:=h k hl;exact ⟨b,o,ha,A7 h1 hk.size,hk.cell h2,hk.cell h3⟩
theorem BG.kp {w w1:World} {a:Option Addr} {R:List Rl} (h:BG w a R) (hk:Kc w w1):BG w1 a R:=by
 rcases h with h | ⟨b,o,ha,h1,h2⟩
 · exact .inl h
 · exact .inr ⟨b,o,ha,A7 h1 hk.size,fun i hi=>⟨hk.cell (h2 i hi).c0,hk.cell (h2 i hi).c1,hk.cell (h2 i hi).c2,hk.cell (h2 i hi).c3,hk.cell (h2 i hi).c4⟩⟩
def chA (X:Slt):List Ar:=X.map fun h=>⟨(h.key.toNat:Int),h.cost⟩
theorem Cy (X:Slt):(chA X).length=X.length:=by simp [chA]
def CE (w:World) (a:Option Addr) (L:List Slt):Prop:=∀ k (hk:k<L.length),∃ b o,a=some ⟨b,o,none⟩∧b<w.heap.size∧∃ aa cc,w.cell? ⟨b,o+k,none⟩=some (.slice aa L[k].length cc)∧L[k].length≤9223372036854775807∧DD w aa (chA L[k])
theorem CE.kp {w w1:World} {a:Option Addr} {L:List Slt} (h:CE w a L) (hk:Kc w w1):CE w1 a L:=fun k hl=>by
 obtain ⟨b,o,ha,h1,aa,cc,h2,h3,h4⟩:=h k hl;exact ⟨b,o,ha,A7 h1 hk.size,aa,cc,hk.cell h2,h3,h4.kp hk⟩
theorem CE.later {w w1:World} {a:Option Addr} {L:List Slt} {B:Nat} (h:CE w a L) (hb:Below B w w1) (hB:w.heap.size≤B):CE w1 a L:=h.kp (Kc.of hb hB)
theorem CE.at {w:World} {a:Option Addr} {L:List Slt} (h:CE w a L) {k:Nat} (hk:k<L.length):∃ b o,a=some ⟨b,o,none⟩∧b<w.heap.size∧∃ aa cc,w.cell? ⟨b,o+k,none⟩=some (.slice aa L[k].length cc)∧L[k].length≤9223372036854775807∧DD w aa (chA L[k]):=h k hk
theorem JQ (a:Option Addr) (b o len cap k:Nat) (ha:a=some ⟨b,o,none⟩) (hk:k<len) (w:World) :
  (Instr.indexAt 41 (.slice a len cap) (.int .i64 (k:Int))).run Tryz.prog w=.ok (.pointer (some ⟨b,o+k,none⟩)) w:=by
 subst ha;have h0:(0:Int)≤(k:Int):=by omega
 have h1:(k:Int)<(len:Int):=by omega
 simp [go_sem,h0,h1]
theorem Hm (a:Option Addr) (b o len cap k:Nat) (ha:a=some ⟨b,o,none⟩) (hk:k<len) (w:World) :
  (Instr.indexAt 81 (.slice a len cap) (.int .i64 (k:Int))).run Tryz.prog w=.ok (.pointer (some ⟨b,o+k*2,none⟩)) w:=by
 subst ha;have h0:(0:Int)≤(k:Int):=by omega
 have h1:(k:Int)<(len:Int):=by omega
 simp [go_sem,h0,h1]
def Dr (X:List Ar) (c:Int):Int:=if X.findIdx (fun x=>x.c == c)<X.length then (X.findIdx (fun x=>x.c == c):Int) else -1
theorem GC {X:List Ar} {c:Int} {k:Nat} (hk:k<X.length) (ja:(X.take k).all (fun x=>!(x.c == c))=true) (h:(X[k].c == c)=true):Dr X c=(k:Int):=by
 have:X.findIdx (fun x=>x.c == c)=k:=by
  rw [List.findIdx_eq hk];refine ⟨h,fun j hj=>?_⟩;rw [List.all_eq_true] at ja;have:=ja X[j] (by rw [List.mem_take_iff_getElem];exact ⟨j,by omega,rfl⟩);simpa using this
 unfold Dr;rw [this,if_pos hk]
theorem ET {X:List Ar} {c:Int} (ja:X.all (fun x=>!(x.c == c))=true):Dr X c = -1:=by
 have:X.findIdx (fun x=>x.c == c)=X.length:=by
  rw [List.findIdx_eq_length];intro x hx;have:=List.all_eq_true.1 ja x hx;simpa using this
 unfold Dr;rw [this,if_neg (Nat.lt_irrefl _)]
theorem JR {X:List Ar} {p:Ar→Bool} {k:Nat} (hk:k<X.length) (h:(X.take k).all p=true) (hp:p X[k]=true):(X.take (k+1)).all p=true:=by
 rw [AN hk,List.all_append,h];simp [hp]
theorem N4 (c t:Int) (s:ByteArray) (gs gk k:Nat) (w:World) (hs:w.cell? ⟨gs,0,none⟩=some (.string s)) (hgs:gs<w.heap.size) (hk:w.cell? ⟨gk,0,none⟩=some (.int .i64 (k:Int))) (hgk:gk<w.heap.size) (hlt:k<s.size) (r:Bool) (hr:(c == (s[k].toNat:Int))=r) :
  Calls Tryz.prog 149 #[.agg #[.int .u8 c,.int .i64 t],.pointer (some ⟨gs,0,none⟩),.pointer (some ⟨gk,0,none⟩)] w fun e w'=>e=.returned (.bool r)∧Below w.heap.size w w':=by
 cases r with
 | true =>
  go_enter Tryz.func149,Tryz.ntmps149
  go_wp2
  go_region
  go_wp2;go_ret;exact ⟨rfl,by go_grown⟩
 | false =>
  go_enter Tryz.func149,Tryz.ntmps149
  go_wp2
  go_region
  go_wp2;go_ret;exact ⟨rfl,by go_grown⟩
theorem idx_chs_any (X:List Ar) (a:Option Addr) (n cap:Nat) (s:ByteArray) (gs gk k:Nat) (w:World) (hX:DD w a X) (hn:n=X.length) (hl:n≤9223372036854775807) (hs:w.cell? ⟨gs,0,none⟩=some (.string s)) (jk:gs<w.heap.size) (hk:w.cell? ⟨gk,0,none⟩=some (.int .i64 (k:Int))) (jj:gk<w.heap.size) (jg:k<s.size) :
  Calls Tryz.prog 148 #[.slice a n cap,.func (.func 149) #[] #[.pointer (some ⟨gs,0,none⟩),.pointer (some ⟨gk,0,none⟩)]] w fun e w'=>e=.returned (.int .i64 (Dr X (s[k].toNat:Int)))∧Below w.heap.size w w':=by
 subst hn;have HX:=A0 hX;have ji:=A0 hs;have jh:=A0 hk;clear hX hs hk
 go_enter Tryz.func148,Tryz.ntmps148
 go_wp2
 go_loopw [8] (fun q wr=>∃ j:Nat,j≤X.length∧q=.int .i64 (j:Int)∧(X.take j).all (fun x=>!(x.c == (s[k].toNat:Int)))=true∧Below w.heap.size w wr) (fun q _=>X.length - (intOf q).toNat)
 case atStart=>exact ⟨0,Nat.zero_le _,rfl,rfl,Below.refl _ _⟩
 case round =>
  obtain ⟨j,hj,rfl,ht,hB⟩:=hrel;have HT:=A0 ht;have HB:=A0 hB;clear ht;have hzB:=hB.size;clear hB;by_cases ja:j<X.length
  ·obtain ⟨b1,o1,jf,hb1,q0,q1⟩:=(HX.out.later HB.out (A3 _)).at ja;have hi1:=Hm a b1 o1 X.length cap j jf ja;have s1:=(HB.out.cell (p:=⟨gs,0,none⟩) jk).trans ji.out;have k1:=(HB.out.cell (p:=⟨gk,0,none⟩) jj).trans jh.out;have jd:=A0 s1;have jc:=A0 k1;obtain ⟨x,hx⟩:∃ x,X[j]=x:=⟨_,rfl⟩
   have je:=A0 hx;rw [hx] at q0 q1;obtain ⟨xc,xt⟩:=x;simp only at q0 q1;clear jf hx s1 k1;obtain ⟨r,hr⟩:∃ r,(xc == (s[k].toNat:Int))=r:=⟨_,rfl⟩
   have HR:=A0 hr;clear hr;cases r with
   | true =>
    have HN:Hid (Dr X (s[k].toNat:Int)=(j:Int)):=GC ja HT.out (by rw [je.out];exact HR.out)
    go_wp2_with (go_at_call 149;refine (N4 xc xt s gs gk k _ jd.out (by omega) jc.out (by omega) jg true HR.out).mono ?_;rintro e w1 ⟨rfl,hb⟩;have jb:=A0 (HB.out.trans (hb.mono HB.out.size));clear hb)
    go_ret;exact ⟨BW HN.out.symm,jb.out⟩
   | false =>
    have HN:Hid ((X.take (j+1)).all (fun x=>!(x.c == (s[k].toNat:Int)))=true):=JR ja HT.out (by rw [je.out];simp only [HR.out];rfl)
    go_wp2_with (go_at_call 149;refine (N4 xc xt s gs gk k _ jd.out (by omega) jc.out (by omega) jg false HR.out).mono ?_;rintro e w1 ⟨rfl,hb⟩;have jb:=A0 (HB.out.trans (hb.mono HB.out.size));clear hb)
    go_roundw
    case rel=>exact ⟨j+1,by omega,by go_num,HN.out,jb.out⟩
    case measure=>simp [intOf];omega
  ·have HN:Hid (Dr X (s[k].toNat:Int) = -1):=ET (by have:=HT.out;rwa [AF (by omega)] at this);go_wp2;go_ret;exact ⟨BW HN.out.symm,HB.out⟩
theorem LB (c t:Int) (s:ByteArray) (gs gk k:Nat) (w:World) (hs:w.cell? ⟨gs,0,none⟩=some (.string s)) (hgs:gs<w.heap.size) (hk:w.cell? ⟨gk,0,none⟩=some (.int .i64 (k:Int))) (hgk:gk<w.heap.size) (hlt:k<s.size) (r:Bool) (hr:(c == (s[k].toNat:Int))=r) :
  Calls Tryz.prog 134 #[.agg #[.int .u8 c,.int .i64 t],.pointer (some ⟨gs,0,none⟩),.pointer (some ⟨gk,0,none⟩)] w fun e w'=>e=.returned (.bool r)∧Below w.heap.size w w':=by
 cases r with
 | true =>
  go_enter Tryz.func134,Tryz.ntmps134
  go_wp2
  go_region
  go_wp2;go_ret;exact ⟨rfl,by go_grown⟩
 | false =>
  go_enter Tryz.func134,Tryz.ntmps134
  go_wp2
  go_region
  go_wp2;go_ret;exact ⟨rfl,by go_grown⟩
theorem idx_arcs_any (X:List Ar) (a:Option Addr) (n cap:Nat) (s:ByteArray) (gs gk k:Nat) (w:World) (hX:DD w a X) (hn:n=X.length) (hl:n≤9223372036854775807) (hs:w.cell? ⟨gs,0,none⟩=some (.string s)) (jk:gs<w.heap.size) (hk:w.cell? ⟨gk,0,none⟩=some (.int .i64 (k:Int))) (jj:gk<w.heap.size) (jg:k<s.size) :
  Calls Tryz.prog 133 #[.slice a n cap,.func (.func 134) #[] #[.pointer (some ⟨gs,0,none⟩),.pointer (some ⟨gk,0,none⟩)]] w fun e w'=>e=.returned (.int .i64 (Dr X (s[k].toNat:Int)))∧Below w.heap.size w w':=by
 subst hn;have HX:=A0 hX;have ji:=A0 hs;have jh:=A0 hk;clear hX hs hk
 go_enter Tryz.func133,Tryz.ntmps133
 go_wp2
 go_loopw [8] (fun q wr=>∃ j:Nat,j≤X.length∧q=.int .i64 (j:Int)∧(X.take j).all (fun x=>!(x.c == (s[k].toNat:Int)))=true∧Below w.heap.size w wr) (fun q _=>X.length - (intOf q).toNat)
 case atStart=>exact ⟨0,Nat.zero_le _,rfl,rfl,Below.refl _ _⟩
 case round =>
  obtain ⟨j,hj,rfl,ht,hB⟩:=hrel;have HT:=A0 ht;have HB:=A0 hB;clear ht;have hzB:=hB.size;clear hB;by_cases ja:j<X.length
  ·obtain ⟨b1,o1,jf,hb1,q0,q1⟩:=(HX.out.later HB.out (A3 _)).at ja;have hi1:=EI a b1 o1 X.length cap j jf ja;have s1:=(HB.out.cell (p:=⟨gs,0,none⟩) jk).trans ji.out;have k1:=(HB.out.cell (p:=⟨gk,0,none⟩) jj).trans jh.out;have jd:=A0 s1;have jc:=A0 k1;obtain ⟨x,hx⟩:∃ x,X[j]=x:=⟨_,rfl⟩
   have je:=A0 hx;rw [hx] at q0 q1;obtain ⟨xc,xt⟩:=x;simp only at q0 q1;clear jf hx s1 k1;obtain ⟨r,hr⟩:∃ r,(xc == (s[k].toNat:Int))=r:=⟨_,rfl⟩
   have HR:=A0 hr;clear hr;cases r with
   | true =>
    have HN:Hid (Dr X (s[k].toNat:Int)=(j:Int)):=GC ja HT.out (by rw [je.out];exact HR.out)
    go_wp2_with (go_at_call 134;refine (LB xc xt s gs gk k _ jd.out (by omega) jc.out (by omega) jg true HR.out).mono ?_;rintro e w1 ⟨rfl,hb⟩;have jb:=A0 (HB.out.trans (hb.mono HB.out.size));clear hb)
    go_ret;exact ⟨BW HN.out.symm,jb.out⟩
   | false =>
    have HN:Hid ((X.take (j+1)).all (fun x=>!(x.c == (s[k].toNat:Int)))=true):=JR ja HT.out (by rw [je.out];simp only [HR.out];rfl)
    go_wp2_with (go_at_call 134;refine (LB xc xt s gs gk k _ jd.out (by omega) jc.out (by omega) jg false HR.out).mono ?_;rintro e w1 ⟨rfl,hb⟩;have jb:=A0 (HB.out.trans (hb.mono HB.out.size));clear hb)
    go_roundw
    case rel=>exact ⟨j+1,by omega,by go_num,HN.out,jb.out⟩
    case measure=>simp [intOf];omega
  ·have HN:Hid (Dr X (s[k].toNat:Int) = -1):=ET (by have:=HT.out;rwa [AF (by omega)] at this);go_wp2;go_ret;exact ⟨BW HN.out.symm,HB.out⟩
theorem I5 {α:Type} [DecidableEq α] {T:FK α} {W:World} {g:Nat} {E:List (α × Nat)} (hT:T.Ok) (h:MpG T W g E) {x:α} (hx:T.ok x) {c:Nat} (hc:c≤1152921504606846976) (hl:E.length<1000000)
  {ops:Array Oper} {Q:Exit→Act→World→Prop} {L:Nat} {K:Act→World→Prop} {o:Oper} {A:Act} {m k v:Operand}
  (ho:ops[L]? = some o) (hg:o.guard=none) (jb:o.op=Op.mapUpdate T.mt m k v) (hd:o.dst=none) (hm:A.eval m=.map (some g)) (hk:A.eval k=T.val x) (hv:A.eval v=.int .i64 (c:Int))
  (hK:∀ w',MpG T w' g (D5 E x c)→W.grownBy w' (some g)→K A w'):wpOp Tryz.prog ops Q L K A W:=by
 obtain ⟨w',ja,r1,r2⟩:=h.run_put hT hx hc hl;unfold wpOp;rw [ho];have hw:Region.wanted o (yielded ops A.tmps)=true:=by unfold Region.wanted;rw [hg]
 simp only [hw,if_pos];refine .inl ?_;unfold Oper.wp execOp;simp only [jb,hm,hk,hv];simp [go_sem,ja];rw [hd];exact hK w' r1 r2
theorem Kc.map {w w':World} {g:Nat} (hg:w.grownBy w' (some g)) (hm:∃ es c,w.heap[g]? = some (.map es c)):Kc w w' :=
 ⟨hg.size,fun q cs t f hq=>(hg.block q (A5.1 hq).1 fun e=>by
  obtain ⟨es,c,hm⟩:=hm;injection e with e;rw [← e,hq] at hm;cases hm).trans hq⟩
def sxC (acc:Int) (aR:Option Addr) (nR cR:Nat) (aT:Option Addr) (nT cT:Nat) (aL:Option Addr) (nL cL:Nat) (gm:Nat→Nat):Array Value :=
 #[.int .u8 acc,.slice aR nR cR,.slice aT nT cT,.slice aL nL cL,.map (some (gm 0)),.map (some (gm 1)),.map (some (gm 2)),.map (some (gm 3)),.map (some (gm 4))]
def SX (w:World) (gx:Nat) (acc:Int) (aR:Option Addr) (nR cR:Nat) (aT:Option Addr) (nT cT:Nat) (aL:Option Addr) (nL cL:Nat) (gm:Nat→Nat):Prop :=
 w.heap[gx]? = some (.cells (sxC acc aR nR cR aT nT cT aL nL cL gm) 180 (0,0))
section
variable {w w':World} {gx:Nat} {acc:Int} {aR:Option Addr} {nR cR:Nat} {aT:Option Addr} {nT cT:Nat} {aL:Option Addr} {nL cL:Nat} {gm:Nat→Nat}
theorem SX.lt (h:SX w gx acc aR nR cR aT nT cT aL nL cL gm):gx<w.heap.size:=(A5.1 h).1
theorem SX.kp (h:SX w gx acc aR nR cR aT nT cT aL nL cL gm) (hk:Kc w w'):SX w' gx acc aR nR cR aT nT cT aL nL cL gm:=hk.block _ _ _ _ h
theorem SX.cells (h:SX w gx acc aR nR cR aT nT cT aL nL cL gm):w.cell? ⟨gx,0,none⟩=some (.int .u8 acc)∧w.cell? ⟨gx,1,none⟩=some (.slice aR nR cR)∧w.cell? ⟨gx,2,none⟩=some (.slice aT nT cT)∧w.cell? ⟨gx,3,none⟩=some (.slice aL nL cL):=by
 refine ⟨?_,?_,?_,?_⟩ <;> (rw [cell_of_row w gx _ _ _ (0,0) h];rfl)
theorem SX.mapAt (h:SX w gx acc aR nR cR aT nT cT aL nL cL gm) {j:Nat} (hj:j<5):w.cell? ⟨gx,4+j,none⟩=some (.map (some (gm j))):=by
 rw [cell_of_row w gx _ _ _ (0,0) h];rcases (show j=0∨j=1∨j=2∨j=3∨j=4 from by omega) with rfl | rfl | rfl | rfl | rfl <;> rfl
theorem Es (i j:Nat) (hi:i≤1000000) (hj:i % 5=j) (hx:SX w gx acc aR nR cR aT nT cT aL nL cL gm) :
  Calls Tryz.prog 81 #[.pointer (some ⟨gx,0,none⟩),.int .i64 (i:Int)] w fun e w'=>e=.returned (.map (some (gm j)))∧w=w':=by
 have ja:j<5:=by omega
 have c0:=hx.mapAt ja;have hgx:=hx.lt;have HX:=A0 hx;have hm:(i:Int) % 5=(j:Int):=by omega
 have h0:(0:Int)≤(j:Int):=by omega
 have h5:(j:Int)<5:=by omega
 have HJ:=A0 hj;clear hx hj ja
 go_enter Tryz.func81,Tryz.ntmps81
 go_wp2;go_ret;exact ⟨rfl,rfl⟩
structure Dz (w w':World) (g:Nat) (t:Stt) (E:Ent) (c:Nat):Prop where
 map:MpG BY w' g (D5 E t c)
 gr:∀ q,q<w.heap.size→q≠g→w'.heap[q]? = w.heap[q]?
 os:w'.os=w.os
 tape:w'.tape=w.tape
 output:w'.output=w.output
 size:w.heap.size≤w'.heap.size
theorem Dz.below {g:Nat} {t:Stt} {E:Ent} {c B:Nat} (h:Dz w w' g t E c) (hg:B≤g) (hB:B≤w.heap.size):Below B w w' :=
 ⟨h.os,h.tape,h.output,h.size,fun q hq=>h.gr q (by omega) (by omega)⟩
theorem Dz.kp {g:Nat} {t:Stt} {E:Ent} {c:Nat} (h:Dz w w' g t E c) (hm:MpG BY w g E):Kc w w' :=
 Kc.map (g:=g) ⟨h.os,h.tape,h.output,h.size,fun k hk ja=>h.gr k hk fun e=>ja (by rw [e])⟩ hm.obj
theorem PC (i j m n:Nat) (c:Nat) (E:Ent) (hi:i≤1000000) (hj:i % 5=j) (hx:SX w gx acc aR nR cR aT nT cT aL nL cL gm) (hM:MpG BY w (gm j) E) (jh:BY.ok (m,n)) (hE:E.length<1000000) (hc:c≤1152921504606846976) (old:Nat) (jg:look E (m,n)=some old) (hle:old≤c) :
  Calls Tryz.prog 106 #[.pointer (some ⟨gx,0,none⟩),.int .i64 (i:Int),.agg #[.int .i64 (m:Int),.int .i64 (n:Int)],.int .i64 (c:Int)] w fun e w'=>e=.returned (.bool false)∧Below w.heap.size w w':=by
 have hle2:(old:Int)≤(c:Int):=by omega
 have HX:=A0 hx;have HM:=A0 hM;have jk:=A0 jh;have jj:=A0 jg;have HJ:=A0 hj;have HE:=A0 hE;clear hx hM jh jg hj hE
 go_enter Tryz.func106,Tryz.ntmps106
 go_wp2_with fail
 refine Am (by kernel_rfl) (Vs [vq (.pointer (some ⟨gx,0,none⟩)),vq (.int .i64 (i:Int)),vq (.map (some (gm j))),vq (.agg #[.int .i64 (m:Int),.int .i64 (n:Int)]),vq (.tuple #[.int .i64 (old:Int),.bool true]),vq (.tuple #[.int .i64 (old:Int),.bool true]),vq (.int .i64 (old:Int)),vq (.bool true),vq (.int .i64 (old:Int)),vq (.bool true)]) (fun W=>Below (w.heap.size+1) (w.alloc (.cells #[.int .i64 (m:Int),.int .i64 (n:Int)] 183)) W) 30 (by kernel_rfl) rfl ?hVx ?hSx ?hS (Ay ?hop) ?hfin
 case hop =>
  refine ⟨?_,?_,?k2,?_,?_,?_,?_,?_,?_,?_,trivial⟩
  all_goals
   intro A W jc hS jd ja;have hW:=Below.trans ((Below.refl w.heap.size w).alloc (A3 _) (.cells #[.int .i64 (m:Int),.int .i64 (n:Int)] 183)) (hS.mono (Nat.le_succ _));have ji:=HX.out.kp (Kc.of hW (A3 _));have b0:W.cell? ⟨w.heap.size,0,none⟩=some (.int .i64 (m:Int)):=(hS.cell (p:=⟨w.heap.size,0,none⟩) (Nat.lt_succ_self _)).trans (by rw [cell_of_row _ w.heap.size 0 _ _ (0,0) (heap_alloc_new _ _)];rfl);have b1:W.cell? ⟨w.heap.size,1,none⟩=some (.int .i64 (n:Int)):=(hS.cell (p:=⟨w.heap.size,1,none⟩) (Nat.lt_succ_self _)).trans (by rw [cell_of_row _ w.heap.size 1 _ _ (0,0) (heap_alloc_new _ _)];rfl);have je:MpG BY W (gm j) E:=HM.out.kept (hW.block _ HM.out.lt);have jb:=je.look_ok C0 (x:=(m,n)) jk.out;rw [jj.out] at jb;simp only [BY,FL,Option.getD,Option.isSome] at jb;have h0:A.tmps.getD 0 undef=.pointer (some ⟨gx,0,none⟩):=ja 0 (by kernel_rfl);have h1:A.tmps.getD 1 undef=.int .i64 (i:Int):=ja 1 (by kernel_rfl);have h6:A.tmps.getD 6 undef=.pointer (some ⟨w.heap.size,0,none⟩):=ja 6 (by kernel_rfl);clear ja;simp [AY,Region.binds,Vs,vq] at jd
  case k2 =>
   refine AX rfl (.inr ⟨81,#[.pointer (some ⟨gx,0,none⟩),.int .i64 (i:Int)],W,by (clear jc hS ji je jb;simp [go_sem,Act.eval, *]),?_⟩);refine (Es i j hi HJ.out ji).mono ?_;rintro e w' ⟨rfl,rfl⟩;exact ⟨_,rfl,rfl,Ext.refl _⟩
  all_goals first
   | (refine AX rfl (.inl ⟨_,W,?_,rfl,Ext.refl _⟩);clear jc hS;simp [go_sem,Act.eval, *];done)
 case hVx=>exact Af (by simp only [AS,List.not_mem_nil,or_false,forall_eq_or_imp,forall_eq];and_intros <;> exact AW _)
 case hSx=>exact fun W W' h hx=>h.trans (Below.mono hx (by have:=h.size;simp only [A6] at this;exact this))
 case hS=>exact Below.refl _ _
 case hfin =>
  intro A W jc jf hS hv ja;obtain ⟨x,hx,hA⟩:=Ag [12,13,14,15,16,11,17,18,9,10] (by kernel_rfl) jc jf ja;have e9:x 9=.int .i64 (old:Int):=(hx 9).trans (hv 8 (by decide));have e10:x 10=.bool true:=(hx 10).trans (hv 9 (by decide));rw [hA];simp only [List.foldl];rw [e9,e10];clear e9 e10;simp only [Act.put,List.setIfInBounds_toArray,List.set_cons_succ,List.set_cons_zero];clear hA hx hv ja jc jf;have HB:=A0 (Below.trans ((Below.refl w.heap.size w).alloc (A3 _) (.cells #[.int .i64 (m:Int),.int .i64 (n:Int)] 183)) (hS.mono (Nat.le_succ _)));clear hS;go_wp2;go_ret;exact ⟨rfl,HB.out⟩
theorem put_new (i j m n:Nat) (c:Nat) (E:Ent) (hi:i≤1000000) (hj:i % 5=j) (hx:SX w gx acc aR nR cR aT nT cT aL nL cL gm) (hM:MpG BY w (gm j) E) (jo:BY.ok (m,n)) (hE:E.length<1000000) (hc:c≤1152921504606846976) (jm:look E (m,n)=none) :
  Calls Tryz.prog 106 #[.pointer (some ⟨gx,0,none⟩),.int .i64 (i:Int),.agg #[.int .i64 (m:Int),.int .i64 (n:Int)],.int .i64 (c:Int)] w fun e w'=>e=.returned (.bool true)∧Dz w w' (gm j) (m,n) E c:=by
 have HX:=A0 hx;have HM:=A0 hM;have jk:=A0 jo;have jq:=A0 jm;have HJ:=A0 hj;have HE:=A0 hE;clear hx hM jo jm hj hE
 go_enter Tryz.func106,Tryz.ntmps106
 go_wp2_with fail
 refine Am (by kernel_rfl) (Vs [vq (.pointer (some ⟨gx,0,none⟩)),vq (.int .i64 (i:Int)),vq (.map (some (gm j))),vq (.agg #[.int .i64 (m:Int),.int .i64 (n:Int)]),vq (.tuple #[.int .i64 (0:Int),.bool false]),vq (.tuple #[.int .i64 (0:Int),.bool false]),vq (.int .i64 (0:Int)),vq (.bool false),vq (.int .i64 (0:Int)),vq (.bool false)]) (fun W=>Below (w.heap.size+1) (w.alloc (.cells #[.int .i64 (m:Int),.int .i64 (n:Int)] 183)) W) 30 (by kernel_rfl) rfl ?hVx ?hSx ?hS (Ay ?hop) ?hfin
 case hop =>
  refine ⟨?_,?_,?k2,?_,?_,?_,?_,?_,?_,?_,trivial⟩
  all_goals
   intro A W jc hS jb ja;have hW:=Below.trans ((Below.refl w.heap.size w).alloc (A3 _) (.cells #[.int .i64 (m:Int),.int .i64 (n:Int)] 183)) (hS.mono (Nat.le_succ _));have ji:=HX.out.kp (Kc.of hW (A3 _));have b0:W.cell? ⟨w.heap.size,0,none⟩=some (.int .i64 (m:Int)):=(hS.cell (p:=⟨w.heap.size,0,none⟩) (Nat.lt_succ_self _)).trans (by rw [cell_of_row _ w.heap.size 0 _ _ (0,0) (heap_alloc_new _ _)];rfl);have b1:W.cell? ⟨w.heap.size,1,none⟩=some (.int .i64 (n:Int)):=(hS.cell (p:=⟨w.heap.size,1,none⟩) (Nat.lt_succ_self _)).trans (by rw [cell_of_row _ w.heap.size 1 _ _ (0,0) (heap_alloc_new _ _)];rfl);have jg:MpG BY W (gm j) E:=HM.out.kept (hW.block _ HM.out.lt);have je:=jg.look_ok C0 (x:=(m,n)) jk.out;rw [jq.out] at je;simp only [BY,FL,Option.getD,Option.isSome] at je;have h0:A.tmps.getD 0 undef=.pointer (some ⟨gx,0,none⟩):=ja 0 (by kernel_rfl);have h1:A.tmps.getD 1 undef=.int .i64 (i:Int):=ja 1 (by kernel_rfl);have h6:A.tmps.getD 6 undef=.pointer (some ⟨w.heap.size,0,none⟩):=ja 6 (by kernel_rfl);clear ja;simp [AY,Region.binds,Vs,vq] at jb
  case k2 =>
   refine AX rfl (.inr ⟨81,#[.pointer (some ⟨gx,0,none⟩),.int .i64 (i:Int)],W,by (clear jc hS ji jg je;simp [go_sem,Act.eval, *]),?_⟩);refine (Es i j hi HJ.out ji).mono ?_;rintro e w' ⟨rfl,rfl⟩;exact ⟨_,rfl,rfl,Ext.refl _⟩
  all_goals first
   | (refine AX rfl (.inl ⟨_,W,?_,rfl,Ext.refl _⟩);clear jc hS;simp [go_sem,Act.eval, *];done)
 case hVx=>exact Af (by simp only [AS,List.not_mem_nil,or_false,forall_eq_or_imp,forall_eq];and_intros <;> exact AW _)
 case hSx=>exact fun W W' h hx=>h.trans (Below.mono hx (by have:=h.size;simp only [A6] at this;exact this))
 case hS=>exact Below.refl _ _
 case hfin =>
  intro A W jc jh hS hv ja;obtain ⟨x,hx,hA⟩:=Ag [12,13,14,15,16,11,17,18,9,10] (by kernel_rfl) jc jh ja;have e9:x 9=.int .i64 (0:Int):=(hx 9).trans (hv 8 (by decide));have e10:x 10=.bool false:=(hx 10).trans (hv 9 (by decide));rw [hA];simp only [List.foldl];rw [e9,e10];clear e9 e10;simp only [Act.put,List.setIfInBounds_toArray,List.set_cons_succ,List.set_cons_zero];clear hA hx hv ja jc jh;have jr:=A0 hS;clear hS
  go_wp2_with fail
  refine An (by kernel_rfl) (Vs [vq (.pointer (some ⟨gx,0,none⟩)),vq (.int .i64 (i:Int)),vq (.map (some (gm j))),vq (.agg #[.int .i64 (m:Int),.int .i64 (n:Int)]),vq (.int .i64 (c:Int))]) (Xs []) (fun fL=>(fun W=>Below (w.heap.size+1) (w.alloc (.cells #[.int .i64 (m:Int),.int .i64 (n:Int)] 183)) W) ) [0,0,3,0,0] 30 5 (by kernel_rfl) rfl ?hV ?hS ?hop ?hfin ?hlast
  case hV =>
   refine Az (Af (by simp only [AS,List.not_mem_nil,or_false,forall_eq_or_imp,forall_eq];and_intros <;> exact AW _)) ?_;exact trivial
  case hS =>
   intro fL hf;show (fun W=>Below (w.heap.size+1) (w.alloc (.cells #[.int .i64 (m:Int),.int .i64 (n:Int)] 183)) W)  _;exact jr.out.trans ⟨rfl,rfl,rfl,A3 _,fun _ _=>rfl⟩
  case hop =>
   refine ⟨?_,?_,?c2,?_,?_,?_,trivial⟩
   all_goals first | rw [if_neg (by decide)] | rw [if_pos (by decide)]
   all_goals try exact True.intro
   all_goals try intro ac W fL jc jl ju jt jd jb ja jj
   all_goals try have hS:(fun W=>Below (w.heap.size+1) (w.alloc (.cells #[.int .i64 (m:Int),.int .i64 (n:Int)] 183)) W)  W:=jd
   all_goals try (
    have hW:=Below.trans ((Below.refl w.heap.size w).alloc (A3 _) (.cells #[.int .i64 (m:Int),.int .i64 (n:Int)] 183)) (hS.mono (Nat.le_succ _));have ji:=HX.out.kp (Kc.of hW (A3 _));have b0:W.cell? ⟨w.heap.size,0,none⟩=some (.int .i64 (m:Int)):=(hS.cell (p:=⟨w.heap.size,0,none⟩) (Nat.lt_succ_self _)).trans (by rw [cell_of_row _ w.heap.size 0 _ _ (0,0) (heap_alloc_new _ _)];rfl);have b1:W.cell? ⟨w.heap.size,1,none⟩=some (.int .i64 (n:Int)):=(hS.cell (p:=⟨w.heap.size,1,none⟩) (Nat.lt_succ_self _)).trans (by rw [cell_of_row _ w.heap.size 1 _ _ (0,0) (heap_alloc_new _ _)];rfl))
   all_goals try have hh0:=gdA ac 0 (.pointer (some ⟨gx,0,none⟩)) (ja 0 (by kernel_rfl))
   all_goals try have hh1:=gdA ac 1 (.int .i64 (i:Int)) (ja 1 (by kernel_rfl))
   all_goals try have hh3:=gdA ac 3 (.int .i64 (c:Int)) (ja 3 (by kernel_rfl))
   all_goals try have hh6:=gdA ac 6 (.pointer (some ⟨w.heap.size,0,none⟩)) (ja 6 (by kernel_rfl))
   all_goals try (have jb:=DJ jb;simp [Cg,AY,vq] at jb)
   all_goals try clear ja ju jt jj
   case c2 =>
    have js:(fun W=>Below (w.heap.size+1) (w.alloc (.cells #[.int .i64 (m:Int),.int .i64 (n:Int)] 183)) W)  W:=jd;refine AX rfl (.inr ⟨81,#[.pointer (some ⟨gx,0,none⟩),.int .i64 (i:Int)],W,by (clear jc hS jd js jl ji;simp [go_sem,Act.eval, *]),?_⟩);refine (Es i j hi HJ.out ji).mono ?_;rintro e w' ⟨rfl,rfl⟩;exact ⟨_,rfl,⟨rfl,Ext.refl _,jd⟩⟩
   all_goals (refine AX rfl (.inl ⟨_,W,?_,rfl,Ext.refl _,jd⟩);clear jc hS jd jl;simp [go_sem,Act.eval, *];done)
  case hfin =>
   intro h;exact absurd h (by decide)
  case hlast =>
   intro _ ac W jc jh fL hf jd hv ja;have hS:(fun W=>Below (w.heap.size+1) (w.alloc (.cells #[.int .i64 (m:Int),.int .i64 (n:Int)] 183)) W)  W:=jd;clear jd;have hW:=Below.trans ((Below.refl w.heap.size w).alloc (A3 _) (.cells #[.int .i64 (m:Int),.int .i64 (n:Int)] 183)) (hS.mono (Nat.le_succ _));have jg:MpG BY W (gm j) E:=HM.out.kept (hW.block _ HM.out.lt);refine I5 C0 jg jk.out hc HE.out rfl rfl rfl rfl (Ad (hv 2 (by decide))) (Ad (hv 3 (by decide))) (Ad (hv 4 (by decide))) ?_;intro w9 jn jf;have HP:=A0 (show Dz w w9 (gm j) (m,n) E c from ⟨jn,fun q hq jv=>(jf.block q (A7 hq hW.size) (fun e=>jv (by injection e))).trans (hW.block q hq),jf.os.trans hW.os,jf.tape.trans hW.tape,jf.output.trans hW.output,A8 hW.size jf.size⟩);clear hS jn jf hW jg;obtain ⟨sx,jw,jp⟩:=Ag [25,26,27,28,29] (by kernel_rfl) jc jh ja;rw [jp];simp only [List.foldl];simp only [Act.put,List.setIfInBounds_toArray,List.set_cons_succ,List.set_cons_zero];clear jp jw hv ja jc jh hf
   go_wp2_with fail
   go_ret;exact ⟨rfl,HP.out⟩
theorem put_low (i j m n:Nat) (c:Nat) (E:Ent) (hi:i≤1000000) (hj:i % 5=j) (hx:SX w gx acc aR nR cR aT nT cT aL nL cL gm) (hM:MpG BY w (gm j) E) (jo:BY.ok (m,n)) (hE:E.length<1000000) (hc:c≤1152921504606846976) (old:Nat) (jm:look E (m,n)=some old) (hlt:c<old) :
  Calls Tryz.prog 106 #[.pointer (some ⟨gx,0,none⟩),.int .i64 (i:Int),.agg #[.int .i64 (m:Int),.int .i64 (n:Int)],.int .i64 (c:Int)] w fun e w'=>e=.returned (.bool true)∧Dz w w' (gm j) (m,n) E c:=by
 have hle2:¬ (old:Int)≤(c:Int):=by omega
 have HX:=A0 hx;have HM:=A0 hM;have jk:=A0 jo;have jq:=A0 jm;have HJ:=A0 hj;have HE:=A0 hE;clear hx hM jo jm hj hE
 go_enter Tryz.func106,Tryz.ntmps106
 go_wp2_with fail
 refine Am (by kernel_rfl) (Vs [vq (.pointer (some ⟨gx,0,none⟩)),vq (.int .i64 (i:Int)),vq (.map (some (gm j))),vq (.agg #[.int .i64 (m:Int),.int .i64 (n:Int)]),vq (.tuple #[.int .i64 (old:Int),.bool true]),vq (.tuple #[.int .i64 (old:Int),.bool true]),vq (.int .i64 (old:Int)),vq (.bool true),vq (.int .i64 (old:Int)),vq (.bool true)]) (fun W=>Below (w.heap.size+1) (w.alloc (.cells #[.int .i64 (m:Int),.int .i64 (n:Int)] 183)) W) 30 (by kernel_rfl) rfl ?hVx ?hSx ?hS (Ay ?hop) ?hfin
 case hop =>
  refine ⟨?_,?_,?k2,?_,?_,?_,?_,?_,?_,?_,trivial⟩
  all_goals
   intro A W jc hS jb ja;have hW:=Below.trans ((Below.refl w.heap.size w).alloc (A3 _) (.cells #[.int .i64 (m:Int),.int .i64 (n:Int)] 183)) (hS.mono (Nat.le_succ _));have ji:=HX.out.kp (Kc.of hW (A3 _));have b0:W.cell? ⟨w.heap.size,0,none⟩=some (.int .i64 (m:Int)):=(hS.cell (p:=⟨w.heap.size,0,none⟩) (Nat.lt_succ_self _)).trans (by rw [cell_of_row _ w.heap.size 0 _ _ (0,0) (heap_alloc_new _ _)];rfl);have b1:W.cell? ⟨w.heap.size,1,none⟩=some (.int .i64 (n:Int)):=(hS.cell (p:=⟨w.heap.size,1,none⟩) (Nat.lt_succ_self _)).trans (by rw [cell_of_row _ w.heap.size 1 _ _ (0,0) (heap_alloc_new _ _)];rfl);have jg:MpG BY W (gm j) E:=HM.out.kept (hW.block _ HM.out.lt);have je:=jg.look_ok C0 (x:=(m,n)) jk.out;rw [jq.out] at je;simp only [BY,FL,Option.getD,Option.isSome] at je;have h0:A.tmps.getD 0 undef=.pointer (some ⟨gx,0,none⟩):=ja 0 (by kernel_rfl);have h1:A.tmps.getD 1 undef=.int .i64 (i:Int):=ja 1 (by kernel_rfl);have h6:A.tmps.getD 6 undef=.pointer (some ⟨w.heap.size,0,none⟩):=ja 6 (by kernel_rfl);clear ja;simp [AY,Region.binds,Vs,vq] at jb
  case k2 =>
   refine AX rfl (.inr ⟨81,#[.pointer (some ⟨gx,0,none⟩),.int .i64 (i:Int)],W,by (clear jc hS ji jg je;simp [go_sem,Act.eval, *]),?_⟩);refine (Es i j hi HJ.out ji).mono ?_;rintro e w' ⟨rfl,rfl⟩;exact ⟨_,rfl,rfl,Ext.refl _⟩
  all_goals first
   | (refine AX rfl (.inl ⟨_,W,?_,rfl,Ext.refl _⟩);clear jc hS;simp [go_sem,Act.eval, *];done)
 case hVx=>exact Af (by simp only [AS,List.not_mem_nil,or_false,forall_eq_or_imp,forall_eq];and_intros <;> exact AW _)
 case hSx=>exact fun W W' h hx=>h.trans (Below.mono hx (by have:=h.size;simp only [A6] at this;exact this))
 case hS=>exact Below.refl _ _
 case hfin =>
  intro A W jc jh hS hv ja;obtain ⟨x,hx,hA⟩:=Ag [12,13,14,15,16,11,17,18,9,10] (by kernel_rfl) jc jh ja;have e9:x 9=.int .i64 (old:Int):=(hx 9).trans (hv 8 (by decide));have e10:x 10=.bool true:=(hx 10).trans (hv 9 (by decide));rw [hA];simp only [List.foldl];rw [e9,e10];clear e9 e10;simp only [Act.put,List.setIfInBounds_toArray,List.set_cons_succ,List.set_cons_zero];clear hA hx hv ja jc jh;have jr:=A0 hS;clear hS
  go_wp2_with fail
  refine An (by kernel_rfl) (Vs [vq (.pointer (some ⟨gx,0,none⟩)),vq (.int .i64 (i:Int)),vq (.map (some (gm j))),vq (.agg #[.int .i64 (m:Int),.int .i64 (n:Int)]),vq (.int .i64 (c:Int))]) (Xs []) (fun fL=>(fun W=>Below (w.heap.size+1) (w.alloc (.cells #[.int .i64 (m:Int),.int .i64 (n:Int)] 183)) W) ) [0,0,3,0,0] 30 5 (by kernel_rfl) rfl ?hV ?hS ?hop ?hfin ?hlast
  case hV =>
   refine Az (Af (by simp only [AS,List.not_mem_nil,or_false,forall_eq_or_imp,forall_eq];and_intros <;> exact AW _)) ?_;exact trivial
  case hS =>
   intro fL hf;show (fun W=>Below (w.heap.size+1) (w.alloc (.cells #[.int .i64 (m:Int),.int .i64 (n:Int)] 183)) W)  _;exact jr.out.trans ⟨rfl,rfl,rfl,A3 _,fun _ _=>rfl⟩
  case hop =>
   refine ⟨?_,?_,?c2,?_,?_,?_,trivial⟩
   all_goals first | rw [if_neg (by decide)] | rw [if_pos (by decide)]
   all_goals try exact True.intro
   all_goals try intro ac W fL jc jl ju jt jd jb ja jj
   all_goals try have hS:(fun W=>Below (w.heap.size+1) (w.alloc (.cells #[.int .i64 (m:Int),.int .i64 (n:Int)] 183)) W)  W:=jd
   all_goals try (
    have hW:=Below.trans ((Below.refl w.heap.size w).alloc (A3 _) (.cells #[.int .i64 (m:Int),.int .i64 (n:Int)] 183)) (hS.mono (Nat.le_succ _));have ji:=HX.out.kp (Kc.of hW (A3 _));have b0:W.cell? ⟨w.heap.size,0,none⟩=some (.int .i64 (m:Int)):=(hS.cell (p:=⟨w.heap.size,0,none⟩) (Nat.lt_succ_self _)).trans (by rw [cell_of_row _ w.heap.size 0 _ _ (0,0) (heap_alloc_new _ _)];rfl);have b1:W.cell? ⟨w.heap.size,1,none⟩=some (.int .i64 (n:Int)):=(hS.cell (p:=⟨w.heap.size,1,none⟩) (Nat.lt_succ_self _)).trans (by rw [cell_of_row _ w.heap.size 1 _ _ (0,0) (heap_alloc_new _ _)];rfl))
   all_goals try have hh0:=gdA ac 0 (.pointer (some ⟨gx,0,none⟩)) (ja 0 (by kernel_rfl))
   all_goals try have hh1:=gdA ac 1 (.int .i64 (i:Int)) (ja 1 (by kernel_rfl))
   all_goals try have hh3:=gdA ac 3 (.int .i64 (c:Int)) (ja 3 (by kernel_rfl))
   all_goals try have hh6:=gdA ac 6 (.pointer (some ⟨w.heap.size,0,none⟩)) (ja 6 (by kernel_rfl))
   all_goals try (have jb:=DJ jb;simp [Cg,AY,vq] at jb)
   all_goals try clear ja ju jt jj
   case c2 =>
    have js:(fun W=>Below (w.heap.size+1) (w.alloc (.cells #[.int .i64 (m:Int),.int .i64 (n:Int)] 183)) W)  W:=jd;refine AX rfl (.inr ⟨81,#[.pointer (some ⟨gx,0,none⟩),.int .i64 (i:Int)],W,by (clear jc hS jd js jl ji;simp [go_sem,Act.eval, *]),?_⟩);refine (Es i j hi HJ.out ji).mono ?_;rintro e w' ⟨rfl,rfl⟩;exact ⟨_,rfl,⟨rfl,Ext.refl _,jd⟩⟩
   all_goals (refine AX rfl (.inl ⟨_,W,?_,rfl,Ext.refl _,jd⟩);clear jc hS jd jl;simp [go_sem,Act.eval, *];done)
  case hfin =>
   intro h;exact absurd h (by decide)
  case hlast =>
   intro _ ac W jc jh fL hf jd hv ja;have hS:(fun W=>Below (w.heap.size+1) (w.alloc (.cells #[.int .i64 (m:Int),.int .i64 (n:Int)] 183)) W)  W:=jd;clear jd;have hW:=Below.trans ((Below.refl w.heap.size w).alloc (A3 _) (.cells #[.int .i64 (m:Int),.int .i64 (n:Int)] 183)) (hS.mono (Nat.le_succ _));have jg:MpG BY W (gm j) E:=HM.out.kept (hW.block _ HM.out.lt);refine I5 C0 jg jk.out hc HE.out rfl rfl rfl rfl (Ad (hv 2 (by decide))) (Ad (hv 3 (by decide))) (Ad (hv 4 (by decide))) ?_;intro w9 jn jf;have HP:=A0 (show Dz w w9 (gm j) (m,n) E c from ⟨jn,fun q hq jv=>(jf.block q (A7 hq hW.size) (fun e=>jv (by injection e))).trans (hW.block q hq),jf.os.trans hW.os,jf.tape.trans hW.tape,jf.output.trans hW.output,A8 hW.size jf.size⟩);clear hS jn jf hW jg;obtain ⟨sx,jw,jp⟩:=Ag [25,26,27,28,29] (by kernel_rfl) jc jh ja;rw [jp];simp only [List.foldl];simp only [Act.put,List.setIfInBounds_toArray,List.set_cons_succ,List.set_cons_zero];clear jp jw hv ja jc jh hf
   go_wp2_with fail
   go_ret;exact ⟨rfl,HP.out⟩
theorem N7 (i j m n:Nat) (c:Nat) (E:Ent) (hi:i≤1000000) (hj:i % 5=j) (hx:SX w gx acc aR nR cR aT nT cT aL nL cL gm) (hM:MpG BY w (gm j) E) (ja:BY.ok (m,n)) (hE:E.length<1000000) (hc:c≤1152921504606846976) (jb:∀ x,look E (m,n)=some x→c<x) :
  Calls Tryz.prog 106 #[.pointer (some ⟨gx,0,none⟩),.int .i64 (i:Int),.agg #[.int .i64 (m:Int),.int .i64 (n:Int)],.int .i64 (c:Int)] w fun e w'=>e=.returned (.bool true)∧Dz w w' (gm j) (m,n) E c:=by
 cases e:look E (m,n) with
 | none=>exact put_new i j m n c E hi hj hx hM ja hE hc e
 | some old=>exact put_low i j m n c E hi hj hx hM ja hE hc old e (jb old e)
theorem Dz.of_ext {w1:World} {g:Nat} {t:Stt} {E:Ent} {c:Nat} (hx:Ext w w1) (h:Dz w1 w' g t E c):Dz w w' g t E c :=
 ⟨h.map,fun q hq ja=>(h.gr q (A7 hq (Below.size hx)) ja).trans (Below.block hx q hq),h.os.trans (Below.os hx),h.tape.trans (Below.tape hx),h.output.trans (Below.output hx),A8 (Below.size hx) h.size⟩
end
end Go.Proofs.YtpljngaejaehcaaGreatDoor
