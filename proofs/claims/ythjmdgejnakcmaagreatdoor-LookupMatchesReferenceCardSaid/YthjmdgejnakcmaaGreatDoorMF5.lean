/- Texts that the claims share: RefI, Same, Sane, Safe, Views2. -/
import Derived.Test.YthjmdgejnakcmaaGreatDoorMF4
import Derived.Test.YthjmdgejnakcmaaGreatDoorMF1
import Derived.Test.YthjmdgejnakcmaaGreatDoorMD6
set_option linter.unusedVariables false
set_option linter.unusedSimpArgs false
namespace Go.Proofs.YthjmdgejnakcmaaGreatDoor.Fl
open Go.RowKit
open Classical in
noncomputable def CY (S:Sch):Int :=
 if validB S=true then (if (BA S).testBit 0=true then (if CD S=[] then (if Et S=[] then 0 else 41) else 40) else 50) else 20
theorem IV {l:List Nat} (h:l≠[]):0<l.length:=by rcases l with _ | ⟨x,l⟩;exact absurd rfl h;simp
set_option maxHeartbeats 3200000 in
theorem
    rsound_any (S:Sch) (a:Option Addr) (cap:Nat) (w:World) (hR:BJ w a S.rules) (h0:0≤S.acc) (h1:S.acc≤255) (hl:S.rules.length≤9223372036854775807) (hS:validB S=true→Fit S) :
  Calls Tryz.prog 28 #[.agg #[.int .i64 S.modes,.int .u8 S.acc,.slice a S.rules.length cap]] w fun e w'=>e=.returned (.int .i64 (CY S))∧Below w.heap.size w w':=by
 have HR:=A0 hR;have HS:=A0 hS;clear hR hS
 by_cases hv:validB S=true
 ·
  have hFit:=HS.out hv
  have HFit:=A0 hFit
  have HV:=A0 hv
  have m0:=hFit.m0;have m1:=hFit.m1
  obtain ⟨mm,hmm⟩:=Int.eq_ofNat_of_zero_le (show 0≤S.modes by omega)
  have HM:Hid (S.modes.toNat=mm):=by show _=_;omega
  have hmm0:0<mm:=by omega
  obtain ⟨l0,hl0⟩:∃ l0,(BA S).testBit 0=l0:=⟨_,rfl⟩
  have HF:Hid (Ej S=⟨Dg S S.rules.length,CD S,Et S⟩):=by show _=_;rw [Ej,if_pos hv]
  have HE0:Hid (CY S=if l0=true then (if CD S=[] then (if Et S=[] then 0 else 41) else 40) else 50):=by show _=_;rw [CY,if_pos hv,hl0]
  have HL0:=A0 hl0
  clear hmm hl0 hv hFit
  by_cases hst:CD S=[]
  ·
   have HL2:Hid (∀ n,n=(CD S).length→¬ (0:Int)<(n:Int)):=fun n h=>by rw [hst] at h;simp at h;omega
   have HST:=A0 hst
   clear hst
   by_cases hen:Et S=[]
   ·
    have HL3:Hid (∀ n,n=(Et S).length→¬ (0:Int)<(n:Int)):=fun n h=>by rw [hen] at h;simp at h;omega
    have HEN:=A0 hen
    clear hen
    cases l0 with
    | false =>
     have HE:Hid (50=CY S):=by show _=_;rw [HE0.out];rfl
     go_enter Tryz.func28,Tryz.ntmps28
     go_wp2_with (first | (go_at_call 54;refine (Bj S a cap _ (HR.out.later (by first | exact hB | go_grown) (A3 _)) h0 h1 hl).mono ?_;rintro e w1 ⟨he,hb⟩;rw [HV.out] at he;subst he;obtain ⟨hz,hc,hf⟩:=BL hb (by first | (simp only [A6,World.size_setCell,World.size_drew];rfl) | rfl);have hB:=Al (B:=w.heap.size) (w:=w) (by first | exact hB | go_grown) hb (A3 _);clear hb) | (go_at_call 55;refine (rfind_any S a cap _ (HR.out.later (by first | exact hB | go_grown) (A3 _)) h0 h1 hl HS.out).mono ?_;rintro e w2 ⟨v1,v2,v3,rfl,hd1,hd2,hd3,hb⟩;obtain ⟨a1,n1,c1,hv1⟩:=hd1.form;obtain ⟨a2,n2,c2,hv2⟩:=hd2.form;obtain ⟨a3,n3,c3,hv3⟩:=hd3.form;subst hv1 hv2 hv3;have hn2:=hd2.sls.2;have hn3:=hd3.sls.2;rw [HF.out] at hn2 hn3;have HN2:=A0 hn2;have HN3:=A0 hn3;have hl2:=HL2.out n2 hn2;have hl3:=HL3.out n3 hn3;clear hd1 hd2 hd3 hn2 hn3;obtain ⟨hz,hc,hf⟩:=BL hb (by first | (simp only [A6,World.size_setCell,World.size_drew];rfl) | rfl);have hB:=Al (B:=w.heap.size) (w:=w) (by first | exact hB | go_grown) hb (A3 _);clear hb) | (go_at_call 56;refine (rlive_any S a cap _ (HR.out.later (by first | exact hB.alloc (by have:=hB.size;omega) _ | exact hB | go_grown) (A3 _)) HFit.out).mono ?_;rintro e w3 ⟨v,rfl,⟨g3,hv,hg3,hmask⟩,hb⟩;rw [HM.out] at hv hmask;subst hv;have hq3:=BE hmask (i:=0) (by omega);rw [HL0.out] at hq3;clear hmask;obtain ⟨hz,hc,hf⟩:=BL hb (by first | (simp only [A6,World.size_setCell,World.size_drew];rfl) | rfl);have hB:=Al (B:=w.heap.size) (w:=w) (by go_grown) hb (A3 _);clear hb) | fail)
     go_ret
     exact ⟨CM HE.out,hB⟩
    | true =>
     have HE:Hid (0=CY S):=by show _=_;rw [HE0.out,if_pos rfl,if_pos HST.out,if_pos HEN.out]
     go_enter Tryz.func28,Tryz.ntmps28
     go_wp2_with (first | (go_at_call 54;refine (Bj S a cap _ (HR.out.later (by first | exact hB | go_grown) (A3 _)) h0 h1 hl).mono ?_;rintro e w1 ⟨he,hb⟩;rw [HV.out] at he;subst he;obtain ⟨hz,hc,hf⟩:=BL hb (by first | (simp only [A6,World.size_setCell,World.size_drew];rfl) | rfl);have hB:=Al (B:=w.heap.size) (w:=w) (by first | exact hB | go_grown) hb (A3 _);clear hb) | (go_at_call 55;refine (rfind_any S a cap _ (HR.out.later (by first | exact hB | go_grown) (A3 _)) h0 h1 hl HS.out).mono ?_;rintro e w2 ⟨v1,v2,v3,rfl,hd1,hd2,hd3,hb⟩;obtain ⟨a1,n1,c1,hv1⟩:=hd1.form;obtain ⟨a2,n2,c2,hv2⟩:=hd2.form;obtain ⟨a3,n3,c3,hv3⟩:=hd3.form;subst hv1 hv2 hv3;have hn2:=hd2.sls.2;have hn3:=hd3.sls.2;rw [HF.out] at hn2 hn3;have HN2:=A0 hn2;have HN3:=A0 hn3;have hl2:=HL2.out n2 hn2;have hl3:=HL3.out n3 hn3;clear hd1 hd2 hd3 hn2 hn3;obtain ⟨hz,hc,hf⟩:=BL hb (by first | (simp only [A6,World.size_setCell,World.size_drew];rfl) | rfl);have hB:=Al (B:=w.heap.size) (w:=w) (by first | exact hB | go_grown) hb (A3 _);clear hb) | (go_at_call 56;refine (rlive_any S a cap _ (HR.out.later (by first | exact hB.alloc (by have:=hB.size;omega) _ | exact hB | go_grown) (A3 _)) HFit.out).mono ?_;rintro e w3 ⟨v,rfl,⟨g3,hv,hg3,hmask⟩,hb⟩;rw [HM.out] at hv hmask;subst hv;have hq3:=BE hmask (i:=0) (by omega);rw [HL0.out] at hq3;clear hmask;obtain ⟨hz,hc,hf⟩:=BL hb (by first | (simp only [A6,World.size_setCell,World.size_drew];rfl) | rfl);have hB:=Al (B:=w.heap.size) (w:=w) (by go_grown) hb (A3 _);clear hb) | fail)
     go_ret
     exact ⟨CM HE.out,hB⟩
   ·
    have HL3:Hid (∀ n,n=(Et S).length→(0:Int)<(n:Int)):=fun n h=>by have:=IV hen;omega
    have HEN:=A0 hen
    clear hen
    cases l0 with
    | false =>
     have HE:Hid (50=CY S):=by show _=_;rw [HE0.out];rfl
     go_enter Tryz.func28,Tryz.ntmps28
     go_wp2_with (first | (go_at_call 54;refine (Bj S a cap _ (HR.out.later (by first | exact hB | go_grown) (A3 _)) h0 h1 hl).mono ?_;rintro e w1 ⟨he,hb⟩;rw [HV.out] at he;subst he;obtain ⟨hz,hc,hf⟩:=BL hb (by first | (simp only [A6,World.size_setCell,World.size_drew];rfl) | rfl);have hB:=Al (B:=w.heap.size) (w:=w) (by first | exact hB | go_grown) hb (A3 _);clear hb) | (go_at_call 55;refine (rfind_any S a cap _ (HR.out.later (by first | exact hB | go_grown) (A3 _)) h0 h1 hl HS.out).mono ?_;rintro e w2 ⟨v1,v2,v3,rfl,hd1,hd2,hd3,hb⟩;obtain ⟨a1,n1,c1,hv1⟩:=hd1.form;obtain ⟨a2,n2,c2,hv2⟩:=hd2.form;obtain ⟨a3,n3,c3,hv3⟩:=hd3.form;subst hv1 hv2 hv3;have hn2:=hd2.sls.2;have hn3:=hd3.sls.2;rw [HF.out] at hn2 hn3;have HN2:=A0 hn2;have HN3:=A0 hn3;have hl2:=HL2.out n2 hn2;have hl3:=HL3.out n3 hn3;clear hd1 hd2 hd3 hn2 hn3;obtain ⟨hz,hc,hf⟩:=BL hb (by first | (simp only [A6,World.size_setCell,World.size_drew];rfl) | rfl);have hB:=Al (B:=w.heap.size) (w:=w) (by first | exact hB | go_grown) hb (A3 _);clear hb) | (go_at_call 56;refine (rlive_any S a cap _ (HR.out.later (by first | exact hB.alloc (by have:=hB.size;omega) _ | exact hB | go_grown) (A3 _)) HFit.out).mono ?_;rintro e w3 ⟨v,rfl,⟨g3,hv,hg3,hmask⟩,hb⟩;rw [HM.out] at hv hmask;subst hv;have hq3:=BE hmask (i:=0) (by omega);rw [HL0.out] at hq3;clear hmask;obtain ⟨hz,hc,hf⟩:=BL hb (by first | (simp only [A6,World.size_setCell,World.size_drew];rfl) | rfl);have hB:=Al (B:=w.heap.size) (w:=w) (by go_grown) hb (A3 _);clear hb) | fail)
     go_ret
     exact ⟨CM HE.out,hB⟩
    | true =>
     have HE:Hid (41=CY S):=by show _=_;rw [HE0.out,if_pos rfl,if_pos HST.out,if_neg HEN.out]
     go_enter Tryz.func28,Tryz.ntmps28
     go_wp2_with (first | (go_at_call 54;refine (Bj S a cap _ (HR.out.later (by first | exact hB | go_grown) (A3 _)) h0 h1 hl).mono ?_;rintro e w1 ⟨he,hb⟩;rw [HV.out] at he;subst he;obtain ⟨hz,hc,hf⟩:=BL hb (by first | (simp only [A6,World.size_setCell,World.size_drew];rfl) | rfl);have hB:=Al (B:=w.heap.size) (w:=w) (by first | exact hB | go_grown) hb (A3 _);clear hb) | (go_at_call 55;refine (rfind_any S a cap _ (HR.out.later (by first | exact hB | go_grown) (A3 _)) h0 h1 hl HS.out).mono ?_;rintro e w2 ⟨v1,v2,v3,rfl,hd1,hd2,hd3,hb⟩;obtain ⟨a1,n1,c1,hv1⟩:=hd1.form;obtain ⟨a2,n2,c2,hv2⟩:=hd2.form;obtain ⟨a3,n3,c3,hv3⟩:=hd3.form;subst hv1 hv2 hv3;have hn2:=hd2.sls.2;have hn3:=hd3.sls.2;rw [HF.out] at hn2 hn3;have HN2:=A0 hn2;have HN3:=A0 hn3;have hl2:=HL2.out n2 hn2;have hl3:=HL3.out n3 hn3;clear hd1 hd2 hd3 hn2 hn3;obtain ⟨hz,hc,hf⟩:=BL hb (by first | (simp only [A6,World.size_setCell,World.size_drew];rfl) | rfl);have hB:=Al (B:=w.heap.size) (w:=w) (by first | exact hB | go_grown) hb (A3 _);clear hb) | (go_at_call 56;refine (rlive_any S a cap _ (HR.out.later (by first | exact hB.alloc (by have:=hB.size;omega) _ | exact hB | go_grown) (A3 _)) HFit.out).mono ?_;rintro e w3 ⟨v,rfl,⟨g3,hv,hg3,hmask⟩,hb⟩;rw [HM.out] at hv hmask;subst hv;have hq3:=BE hmask (i:=0) (by omega);rw [HL0.out] at hq3;clear hmask;obtain ⟨hz,hc,hf⟩:=BL hb (by first | (simp only [A6,World.size_setCell,World.size_drew];rfl) | rfl);have hB:=Al (B:=w.heap.size) (w:=w) (by go_grown) hb (A3 _);clear hb) | fail)
     go_ret
     exact ⟨CM HE.out,hB⟩
  ·
   have HL2:Hid (∀ n,n=(CD S).length→(0:Int)<(n:Int)):=fun n h=>by have:=IV hst;omega
   have HL3:Hid (∀ n:Nat,n=(Et S).length→True):=fun _ _=>trivial
   have HST:=A0 hst
   clear hst
   cases l0 with
   | false =>
    have HE:Hid (50=CY S):=by show _=_;rw [HE0.out];rfl
    go_enter Tryz.func28,Tryz.ntmps28
    go_wp2_with (first | (go_at_call 54;refine (Bj S a cap _ (HR.out.later (by first | exact hB | go_grown) (A3 _)) h0 h1 hl).mono ?_;rintro e w1 ⟨he,hb⟩;rw [HV.out] at he;subst he;obtain ⟨hz,hc,hf⟩:=BL hb (by first | (simp only [A6,World.size_setCell,World.size_drew];rfl) | rfl);have hB:=Al (B:=w.heap.size) (w:=w) (by first | exact hB | go_grown) hb (A3 _);clear hb) | (go_at_call 55;refine (rfind_any S a cap _ (HR.out.later (by first | exact hB | go_grown) (A3 _)) h0 h1 hl HS.out).mono ?_;rintro e w2 ⟨v1,v2,v3,rfl,hd1,hd2,hd3,hb⟩;obtain ⟨a1,n1,c1,hv1⟩:=hd1.form;obtain ⟨a2,n2,c2,hv2⟩:=hd2.form;obtain ⟨a3,n3,c3,hv3⟩:=hd3.form;subst hv1 hv2 hv3;have hn2:=hd2.sls.2;have hn3:=hd3.sls.2;rw [HF.out] at hn2 hn3;have HN2:=A0 hn2;have HN3:=A0 hn3;have hl2:=HL2.out n2 hn2;have hl3:=HL3.out n3 hn3;clear hd1 hd2 hd3 hn2 hn3;obtain ⟨hz,hc,hf⟩:=BL hb (by first | (simp only [A6,World.size_setCell,World.size_drew];rfl) | rfl);have hB:=Al (B:=w.heap.size) (w:=w) (by first | exact hB | go_grown) hb (A3 _);clear hb) | (go_at_call 56;refine (rlive_any S a cap _ (HR.out.later (by first | exact hB.alloc (by have:=hB.size;omega) _ | exact hB | go_grown) (A3 _)) HFit.out).mono ?_;rintro e w3 ⟨v,rfl,⟨g3,hv,hg3,hmask⟩,hb⟩;rw [HM.out] at hv hmask;subst hv;have hq3:=BE hmask (i:=0) (by omega);rw [HL0.out] at hq3;clear hmask;obtain ⟨hz,hc,hf⟩:=BL hb (by first | (simp only [A6,World.size_setCell,World.size_drew];rfl) | rfl);have hB:=Al (B:=w.heap.size) (w:=w) (by go_grown) hb (A3 _);clear hb) | fail)
    go_ret
    exact ⟨CM HE.out,hB⟩
   | true =>
    have HE:Hid (40=CY S):=by show _=_;rw [HE0.out,if_pos rfl,if_neg HST.out]
    go_enter Tryz.func28,Tryz.ntmps28
    go_wp2_with (first | (go_at_call 54;refine (Bj S a cap _ (HR.out.later (by first | exact hB | go_grown) (A3 _)) h0 h1 hl).mono ?_;rintro e w1 ⟨he,hb⟩;rw [HV.out] at he;subst he;obtain ⟨hz,hc,hf⟩:=BL hb (by first | (simp only [A6,World.size_setCell,World.size_drew];rfl) | rfl);have hB:=Al (B:=w.heap.size) (w:=w) (by first | exact hB | go_grown) hb (A3 _);clear hb) | (go_at_call 55;refine (rfind_any S a cap _ (HR.out.later (by first | exact hB | go_grown) (A3 _)) h0 h1 hl HS.out).mono ?_;rintro e w2 ⟨v1,v2,v3,rfl,hd1,hd2,hd3,hb⟩;obtain ⟨a1,n1,c1,hv1⟩:=hd1.form;obtain ⟨a2,n2,c2,hv2⟩:=hd2.form;obtain ⟨a3,n3,c3,hv3⟩:=hd3.form;subst hv1 hv2 hv3;have hn2:=hd2.sls.2;have hn3:=hd3.sls.2;rw [HF.out] at hn2 hn3;have HN2:=A0 hn2;have HN3:=A0 hn3;have hl2:=HL2.out n2 hn2;have hl3:=HL3.out n3 hn3;clear hd1 hd2 hd3 hn2 hn3;obtain ⟨hz,hc,hf⟩:=BL hb (by first | (simp only [A6,World.size_setCell,World.size_drew];rfl) | rfl);have hB:=Al (B:=w.heap.size) (w:=w) (by first | exact hB | go_grown) hb (A3 _);clear hb) | (go_at_call 56;refine (rlive_any S a cap _ (HR.out.later (by first | exact hB.alloc (by have:=hB.size;omega) _ | exact hB | go_grown) (A3 _)) HFit.out).mono ?_;rintro e w3 ⟨v,rfl,⟨g3,hv,hg3,hmask⟩,hb⟩;rw [HM.out] at hv hmask;subst hv;have hq3:=BE hmask (i:=0) (by omega);rw [HL0.out] at hq3;clear hmask;obtain ⟨hz,hc,hf⟩:=BL hb (by first | (simp only [A6,World.size_setCell,World.size_drew];rfl) | rfl);have hB:=Al (B:=w.heap.size) (w:=w) (by go_grown) hb (A3 _);clear hb) | fail)
    go_ret
    exact ⟨CM HE.out,hB⟩
 ·
  have hv':validB S=false:=by simpa using hv
  have HV:=A0 hv'
  have HE:Hid (20=CY S):=by show _=_;rw [CY,if_neg hv]
  clear hv hv'
  go_enter Tryz.func28,Tryz.ntmps28
  go_wp2_with (first | (go_at_call 54;refine (Bj S a cap _ (HR.out.later (by first | exact hB | go_grown) (A3 _)) h0 h1 hl).mono ?_;rintro e w1 ⟨he,hb⟩;rw [HV.out] at he;subst he;obtain ⟨hz,hc,hf⟩:=BL hb (by first | (simp only [A6,World.size_setCell,World.size_drew];rfl) | rfl);have hB:=Al (B:=w.heap.size) (w:=w) (by first | exact hB | go_grown) hb (A3 _);clear hb) | fail)
  go_ret
  exact ⟨CM HE.out,hB⟩
theorem NC:Bw false=fun _=>true:=funext fun _=>rfl
theorem Ot:Bw true=CL:=funext fun _=>rfl
theorem
    bestTo_spec {use:Rl→Bool} {R:List Rl} {start n:Nat} {K:Wk} (hK:Dl use R start (n+1) K) (ok:Nat→Bool):∀ M,
  (C2 K ok M=[]∧∀ t,t<M→K.is t=true→ok t=false) ∨
  (∃ t,t<M∧K.is t=true∧ok t=true∧C2 K ok M=K.ch t∧∀ t',t'<M→K.is t'=true→ok t'=true→sle (K.ch t) (K.ch t')):=by
 intro M
 induction M with
 | zero=>exact .inl ⟨rfl,fun t h=>absurd h (by omega)⟩
 | succ M ih =>
  rw [C2,Gj]
  by_cases h1:K.is M=true∧ok M=true
  ·
   rcases ih with ⟨h2,h3⟩ | ⟨t,ht,his,hok,hb,hle⟩
   ·
    rw [h2,h1.1,h1.2]
    refine .inr ⟨M,by omega,h1.1,h1.2,rfl,fun t' ht' hi' ho'=>?_⟩
    by_cases e:t'=M
    · subst e;exact Dv _
    · rw [h3 t' (by omega) hi'] at ho';cases ho'
   ·
    have hl1:=(hK.ch _ h1.1).1
    have hl2:=(hK.ch _ his).1
    have hne:(K.ch t).isEmpty=false:=by
     rcases hq:K.ch t with _ | ⟨x,l⟩
     · rw [hq] at hl2;simp at hl2
     · rfl
    rw [hb,h1.1,h1.2,hne]
    simp only [Bool.true_and,Bool.false_or]
    by_cases hbf:Ax (ints (K.ch M)) (ints (K.ch t))=true
    ·
     rw [if_pos hbf]
     have hsl:=(Dy (hl1.trans hl2.symm)).1 hbf
     refine .inr ⟨M,by omega,h1.1,h1.2,rfl,fun t' ht' hi' ho'=>?_⟩
     by_cases e:t'=M
     · subst e;exact Dv _
     · exact C7 (.inr hsl) (hle t' (by omega) hi' ho')
    ·
     rw [if_neg hbf]
     refine .inr ⟨t,by omega,his,hok,rfl,fun t' ht' hi' ho'=>?_⟩
     by_cases e:t'=M
     ·
      subst e
      rcases Hd (K.ch t') (K.ch t) with h | h
      · exact absurd ((Dy (hl1.trans hl2.symm)).2 h) hbf
      · exact h
     · exact hle t' (by omega) hi' ho'
  ·
   have h2:(K.is M && (ok M && ((C2 K ok M).isEmpty || Ax (ints (K.ch M)) (ints (C2 K ok M)))))=false:=by
    cases ha:K.is M <;> cases hb:ok M <;> simp [ha,hb] at h1 ⊢
   rw [if_neg (by rw [h2];simp)]
   rcases ih with ⟨h2,h3⟩ | ⟨t,ht,his,hok,hb,hle⟩
   ·
    refine .inl ⟨h2,fun t ht hi=>?_⟩
    by_cases e:t=M
    ·
     subst e
     cases ho:ok t with
     | false=>rfl
     | true=>exact absurd ⟨hi,ho⟩ h1
    · exact h3 t (by omega) hi
   ·
    refine .inr ⟨t,by omega,his,hok,hb,fun t' ht' hi' ho'=>?_⟩
    by_cases e:t'=M
    · subst e;exact absurd ⟨hi',ho'⟩ h1
    · exact hle t' (by omega) hi' ho'
theorem
    rsF_spec {S:Sch} (hS:Fit S):∀ f k,
  (rsF S f k=[]∧∀ d t,k<d.length→d.length≤k+f→leads (fun _=>true) S.rules 0 d=some t→Ci S t=false) ∨
  (k<(rsF S f k).length∧(∃ t,leads (fun _=>true) S.rules 0 (rsF S f k)=some t∧Ci S t=true) ∧
   ∀ d t,k<d.length→leads (fun _=>true) S.rules 0 d=some t→Ci S t=true→sle (rsF S f k) d):=by
 have hm0:0<S.modes.toNat:=by have:=hS.m0;omega
 intro f
 induction f with
 | zero=>intro k;exact .inl ⟨rfl,fun d t h1 h2=>absurd h1 (by omega)⟩
 | succ f ih =>
  intro k
  have hK:Dl (fun _=>true) S.rules 0 (k+1) (CA (Bw false) S.rules 0 true (k+1)):=by rw [NC];exact Hn (k+1)
  rw [rsF]
  rcases bestTo_spec hK (Ci S) S.modes.toNat with ⟨h1,h2⟩ | ⟨t,ht,his,hok,hb,hle⟩
  ·
   rw [if_pos h1]
   have hno:∀ d t,d.length=k+1→leads (fun _=>true) S.rules 0 d=some t→Ci S t=false:=fun d t hd hl =>
    h2 t (Cg hS hm0 hl) ((hK.is t).2 ⟨d,hd,hl⟩)
   rcases ih (k+1) with ⟨h3,h4⟩ | ⟨h3,h4,h5⟩
   ·
    refine .inl ⟨h3,fun d t h6 h7 h8=>?_⟩
    by_cases e:d.length=k+1
    · exact hno d t e h8
    · exact h4 d t (by omega) (by omega) h8
   ·
    refine .inr ⟨by omega,h4,fun d t h6 h7 h8=>?_⟩
    by_cases e:d.length=k+1
    · rw [hno d t e h7] at h8;cases h8
    · exact h5 d t (by omega) h7 h8
  ·
   have hl:=hK.ch t his
   have hne:C2 (CA (Bw false) S.rules 0 true (k+1)) (Ci S) S.modes.toNat≠[]:=by
    rw [hb];intro h;rw [h] at hl;simp at hl
   rw [if_neg hne,hb]
   refine .inr ⟨by omega,⟨t,hl.2,hok⟩,fun d t' h6 h7 h8=>?_⟩
   by_cases e:d.length=k+1
   · exact C7 (hle t' (Cg hS hm0 h7) ((hK.is t').2 ⟨d,e,h7⟩) h8) (hK.least t' d e h7)
   · exact .inr (.inl (by omega))
theorem ER {S:Sch} (hS:Fit S) {t:Nat} (ht:t<S.modes.toNat):(255 - BA S).testBit t=Ci S t:=by
 have hl:BA S<256:=Ph hS
 have:=hS.m1
 rw [show 255 - BA S=2 ^ 8 - (BA S+1) by omega,Nat.testBit_two_pow_sub_succ (by omega),decide_eq_true (by omega)]
 rfl
theorem
    rstuck_eq {S:Sch} (hS:Fit S):CD S=If S:=by
 have hm0:0<S.modes.toNat:=by have:=hS.m0;omega
 have hm8:S.modes.toNat≤8:=by have:=hS.m1;omega
 unfold CD If
 by_cases h0:(BA S).testBit 0=true
 ·
  rw [if_pos h0,if_pos h0]
  rcases F4 (use:=fun _=>true) (goal:=255 - BA S) hS.small hm8 hm0 with ⟨h1,h2⟩ | ⟨h1,h2⟩
  ·
   rw [h1]
   rcases rsF_spec hS S.modes.toNat 0 with ⟨h3,_⟩ | ⟨h3,⟨t,h4,h5⟩,_⟩
   · exact h3
   ·
    have h6:=h2 _ t (fun h=>by rw [h] at h3;simp at h3) h4
    rw [ER hS (Cg hS hm0 h4),h5] at h6;cases h6
  ·
   obtain ⟨g,hg,hgb⟩:=h1.is
   have hgd:Ci S g=true:=by rw [← ER hS (Cg hS hm0 hg)];exact hgb
   have hpos:0<(bfs (fun _=>true) (255 - BA S) S.rules 0).length:=IV h1.ne
   rcases rsF_spec hS S.modes.toNat 0 with ⟨_,h4⟩ | ⟨h3,⟨t,h4,h5⟩,h6⟩
   · rw [h4 _ g hpos (by omega) hg] at hgd;cases hgd
   ·
    refine LK (use:=fun _=>true) (R:=S.rules) (start:=0) (goal:=255 - BA S) ⟨fun h=>by rw [h] at h3;simp at h3,⟨t,h4,by rw [ER hS (Cg hS hm0 h4)];exact h5⟩,fun d g' hd hl hb=>?_⟩ h1
    exact h6 d g' (IV hd) hl (by rw [← ER hS (Cg hS hm0 hl)];exact hb)
 · rw [if_neg h0,if_neg h0]
def QW (S:Sch) (m:Nat) (d:List Nat):Prop:=Ga S m=true∧d≠[]∧leads CL S.rules m d=some m
def Bi (P:List Nat→Prop) (b:List Nat):Prop:=(b=[]∧∀ d,¬ P d)∨(b≠[]∧P b∧∀ d,P d→sle b d)
theorem Kq {P:List Nat→Prop} {a b:List Nat} (ha:Bi P a) (hb:Bi P b):a=b:=by
 rcases ha with ⟨rfl,h1⟩ | ⟨_,h1,h2⟩ <;> rcases hb with ⟨rfl,h3⟩ | ⟨_,h3,h4⟩
 · rfl
 · exact absurd h3 (h1 _)
 · exact absurd h1 (h3 _)
 · exact GZ (h2 _ h3) (h4 _ h1)
theorem Cw {P Q:List Nat→Prop} {a:List Nat} (h:∀ d,P d↔Q d) (ha:Bi P a):Bi Q a:=by
 have:P=Q:=funext fun d=>propext (h d)
 rw [← this];exact ha
open Classical in
theorem
    least_or {P Q:List Nat→Prop} {a b c:List Nat} (ha:Bi P a) (hb:Bi Q b) (hc:c=if b=[] then a else if a=[] then b else if sl b a then b else a):Bi (fun d=>P d∨Q d) c:=by
 rcases hb with ⟨rfl,h3⟩ | ⟨hbn,h3,h4⟩
 ·
  rw [if_pos rfl] at hc;subst hc
  exact Cw (fun d=>⟨.inl,fun h=>h.elim id fun h=>absurd h (h3 d)⟩) ha
 ·
  rw [if_neg hbn] at hc
  rcases ha with ⟨rfl,h1⟩ | ⟨han,h1,h2⟩
  ·
   rw [if_pos rfl] at hc;subst hc
   exact .inr ⟨hbn,.inr h3,fun d h=>h.elim (fun h=>absurd h (h1 d)) (h4 d)⟩
  ·
   rw [if_neg han] at hc
   by_cases h:sl b a
   ·
    rw [if_pos h] at hc;subst hc
    exact .inr ⟨hbn,.inr h3,fun d hd=>hd.elim (fun hd=>.inr (KW h (h2 d hd))) (h4 d)⟩
   ·
    rw [if_neg h] at hc;subst hc
    refine .inr ⟨han,.inl h1,fun d hd=>hd.elim (h2 d) fun hd=>C7 ?_ (h4 d hd)⟩
    rcases Hd b c with h5 | h5
    · exact absurd h5 h
    · exact h5
theorem
    lexC_lex:∀ {a b:List Nat},a.length=b.length→(OA (ints a) (ints b)<0↔DC a b)
 | [],[],_=>by simp [ints,OA,DC]
 | [],_ :: _,h=>by simp at h
 | _ :: _,[],h=>by simp at h
 | x
   :: a,y :: b,h=>by
  have ih:=lexC_lex (a:=a) (b:=b) (by simpa using h)
  show OA ((x:Int) :: ints a) ((y:Int) :: ints b)<0↔(x<y∨(x=y∧DC a b))
  rw [OA]
  by_cases h1:(x:Int)<y
  ·
   rw [if_pos h1]
   exact ⟨fun _=>.inl (by omega),fun _=>by omega⟩
  ·
   rw [if_neg h1]
   by_cases h2:(y:Int)<x
   ·
    rw [if_pos h2]
    exact ⟨fun h=>absurd h (by omega),fun h=>by rcases h with h | h <;> omega⟩
   ·
    rw [if_neg h2,ih]
    exact ⟨fun h=>.inr ⟨by omega,h⟩,fun h=>h.elim (fun h=>absurd h (by omega)) (fun h=>h.2)⟩
theorem Nt (a b:List Nat):Sa (ints a) (ints b)<0↔sl a b:=by
 unfold Sa
 rw [B6,B6]
 by_cases h:a.length=b.length
 ·
  rw [if_pos h,lexC_lex h]
  exact ⟨fun h2=>.inr ⟨h,h2⟩,fun h2=>h2.elim (fun h3=>absurd h3 (by omega)) (fun h3=>h3.2)⟩
 ·
  rw [if_neg h]
  exact ⟨fun h2=>.inl (by omega),fun h2=>h2.elim (fun h3=>by omega) (fun h3=>absurd h3.1 h)⟩
theorem Hv {S:Sch} (hS:Fit S) {m:Nat} (hm:m<S.modes.toNat) (hc:Ga S m=true):Bi (QW S m) (bfs CL (2 ^ m) S.rules m):=by
 have hm8:S.modes.toNat≤8:=by have:=hS.m1;omega
 rcases F4 (use:=CL) (goal:=2 ^ m) hS.small hm8 hm with ⟨h1,h2⟩ | ⟨h1,h2⟩
 ·
  refine .inl ⟨h1,fun d hd=>?_⟩
  have:=h2 d m hd.2.1 hd.2.2
  rw [Nat.testBit_two_pow] at this;simp at this
 ·
  obtain ⟨g,hg,hgb⟩:=h1.is
  rw [Nat.testBit_two_pow] at hgb
  obtain rfl:m=g:=by simpa using hgb
  exact .inr ⟨h1.ne,⟨hc,h1.ne,hg⟩,fun d hd=>h1.least d m hd.2.1 hd.2.2 (by rw [Nat.testBit_two_pow];simp)⟩
def Kr (S:Sch) (M:Nat) (d:List Nat):Prop:=∃ m,m<M∧QW S m d
theorem CT {S:Sch} {M:Nat} (d:List Nat):Kr S (M+1) d↔(Kr S M d∨QW S M d):=by
 constructor
 ·
  rintro ⟨m,h1,h2⟩
  by_cases e:m=M
  · subst e;exact .inr h2
  · exact .inl ⟨m,by omega,h2⟩
 ·
  rintro (⟨m,h1,h2⟩ | h)
  · exact ⟨m,by omega,h2⟩
  · exact ⟨M,by omega,h⟩
open Classical in
theorem
    endF_least {S:Sch} (hS:Fit S):∀ M,M≤S.modes.toNat→Bi (Kr S M) ((List.range M).foldl (endStep S) [])
 | 0,_=>.inl ⟨rfl,fun d ⟨m,h,_⟩=>absurd h (by omega)⟩
 | M
   +
    1,h=>by
  have ih:=endF_least hS M (by omega)
  rw [List.range_succ,List.foldl_append]
  show Bi _ (endStep S ((List.range M).foldl (endStep S) []) M)
  generalize (List.range M).foldl (endStep S) []=a at ih
  unfold endStep
  by_cases hc:Ga S M=true
  ·
   rw [if_pos hc]
   refine Cw (fun d=>(CT d).symm) (least_or ih (Hv hS (by omega) hc) ?_)
   by_cases h1:bfs CL (2 ^ M) S.rules M=[]
   · rw [if_pos h1,if_pos h1]
   ·
    rw [if_neg h1,if_neg h1]
    by_cases h2:a=[]
    · rw [if_pos h2,if_pos h2]
    ·
     rw [if_neg h2,if_neg h2]
     by_cases h3:sl (bfs CL (2 ^ M) S.rules M) a
     · rw [if_pos h3,if_pos ((Nt _ _).2 h3)]
     · rw [if_neg h3,if_neg (fun h=>h3 ((Nt _ _).1 h))]
  ·
   rw [if_neg hc]
   exact Cw (fun d=>⟨fun h=>(CT d).2 (.inl h),fun h=>((CT d).1 h).elim id fun h=>absurd h.1 hc⟩) ih
theorem GM {use:Rl→Bool} {R:List Rl} {K:Wk} (h:∀ t,K.is t=false):∀ k t,(C9 use R K k).is t=false
 | 0,_=>rfl
 | k+1,t=>by
  rw [C9]
  split
  · unfold stepK;rw [h,Bool.false_and,if_neg (by simp)];exact GM h k t
  · exact GM h k t
theorem IC {use:Rl→Bool} {R:List Rl} {m:Nat}:∀ n t,(CA use R m false n).is t=false
 | 0,t=>by show (if t=m then false else false)=false;split <;> rfl
 | n+1,t=>GM (IC n) R.length t
def TH (S:Sch) (m n:Nat) (d:List Nat):Prop:=QW S m d∧d.length≤n
open Classical in
theorem
    rendN_least {S:Sch} (hS:Fit S) {m:Nat} {P:List Nat→Prop} {b:List Nat} (hb:Bi P b):∀ n,Bi (fun d=>P d∨TH S m n d) (D7 S m b n)
 | 0=>by
  rw [D7]
  exact Cw (fun d=>⟨.inl,fun h=>h.elim id fun h=>absurd h.1.2.1 (fun h2=>h2 (List.eq_nil_of_length_eq_zero (by have:=h.2;omega)))⟩) hb
 | n
   +
    1
     => by
  have ih:=rendN_least hS hb n (m:=m)
  rw [D7]
  generalize D7 S m b n=a at ih
  by_cases hc:Ga S m=true
  ·
   rw [hc]
   have hK:Dl CL S.rules m (n+1) (CA (Bw true) S.rules m true (n+1)):=by rw [Ot];exact Hn (n+1)
   generalize CA (Bw true) S.rules m true (n+1)=K at hK
   have hQ:Bi (fun d=>QW S m d∧d.length=n+1) (if K.is m=true then K.ch m else []):=by
    by_cases h1:K.is m=true
    ·
     rw [if_pos h1]
     have h2:=hK.ch m h1
     have h3:K.ch m≠[]:=fun h=>by rw [h] at h2;simp at h2
     exact .inr ⟨h3,⟨⟨hc,h3,h2.2⟩,h2.1⟩,fun d hd=>hK.least m d hd.2 hd.1.2.2⟩
    ·
     rw [if_neg h1]
     exact .inl ⟨rfl,fun d hd=>h1 ((hK.is m).2 ⟨d,hd.2,hd.1.2.2⟩)⟩
   have hor:=least_or ih hQ (c:=EP K a m) ?_
   ·
    refine Cw (fun d=>?_) hor
    constructor
    ·
     rintro ((h | ⟨h1,h2⟩) | ⟨h1,h2⟩)
     · exact .inl h
     · exact .inr ⟨h1,by omega⟩
     · exact .inr ⟨h1,by omega⟩
    ·
     rintro (h | ⟨h1,h2⟩)
     · exact .inl (.inl h)
     ·
      by_cases e:d.length=n+1
      · exact .inr ⟨h1,e⟩
      · exact .inl (.inr ⟨h1,by omega⟩)
   ·
    unfold EP
    by_cases h1:K.is m=true
    ·
     have h2:=hK.ch m h1
     have h3:K.ch m≠[]:=fun h=>by rw [h] at h2;simp at h2
     rw [if_pos h1,if_neg h3,h1,Bool.true_and]
     by_cases h4:a=[]
     · rw [if_pos h4,h4];rfl
     ·
      have hae:a.isEmpty=false:=by rcases a with _ | ⟨x,l⟩;exact absurd rfl h4;rfl
      rw [if_neg h4,hae,Bool.false_or]
      have hiff:(decide ((K.ch m).length<a.length) || (decide ((K.ch m).length=a.length) && Ax (ints (K.ch m)) (ints a)))=true↔sl (K.ch m) a:=by
       simp only [Bool.or_eq_true,Bool.and_eq_true,decide_eq_true_eq]
       constructor
       ·
        rintro (h | ⟨h,h'⟩)
        · exact .inl h
        · exact (Dy h).1 h'
       ·
        rintro (h | ⟨h,h'⟩)
        · exact .inl h
        · exact .inr ⟨h,(beforeB_lex h).2 h'⟩
      by_cases h5:sl (K.ch m) a
      · rw [if_pos h5,if_pos (hiff.2 h5)]
      · rw [if_neg h5,if_neg (fun h=>h5 (hiff.1 h))]
    ·
     have h1':K.is m=false:=by simpa using h1
     rw [if_neg h1,if_pos rfl,h1',Bool.false_and,if_neg (by simp)]
  ·
   have hc':Ga S m=false:=by simpa using hc
   rw [hc',EP,IC,Bool.false_and,if_neg (by simp)]
   exact Cw (fun d=>⟨fun h=>h.elim .inl fun h=>absurd h.1.1 hc,fun h=>h.elim .inl fun h=>absurd h.1.1 hc⟩) ih
theorem
    rendM_least {S:Sch} (hS:Fit S):∀ M,M≤S.modes.toNat→Bi (Kr S M) (G2 S M)
 | 0,_=>.inl ⟨rfl,fun d ⟨m,h,_⟩=>absurd h (by omega)⟩
 | M
   +
    1,h=>by
  have ih:=rendM_least hS M (by omega)
  have hm8:S.modes.toNat≤8:=by have:=hS.m1;omega
  rw [G2]
  have h1:=rendN_least hS ih S.modes.toNat (m:=M)
  rcases h1 with ⟨h2,h3⟩ | ⟨h2,h3,h4⟩
  ·
   refine .inl ⟨h2,fun d hd=>?_⟩
   rcases (CT d).1 hd with hd | hd
   · exact h3 d (.inl hd)
   ·
    rcases Hv hS (by omega) hd.1 with ⟨_,h5⟩ | ⟨h5,h6,h7⟩
    · exact h5 d hd
    · exact h3 _ (.inr ⟨h6,Ng hS.small hm8 (by omega)⟩)
  ·
   refine .inr ⟨h2,?_,fun d hd=>?_⟩
   ·
    rcases h3 with h3 | h3
    · exact (CT _).2 (.inl h3)
    · exact (CT _).2 (.inr h3.1)
   ·
    rcases (CT d).1 hd with hd | hd
    · exact h4 d (.inl hd)
    ·
     rcases Hv hS (by omega) hd.1 with ⟨_,h5⟩ | ⟨h5,h6,h7⟩
     · exact absurd hd (h5 d)
     · exact C7 (h4 _ (.inr ⟨h6,Ng hS.small hm8 (by omega)⟩)) (h7 d hd)
theorem rend_eq {S:Sch} (hS:Fit S):Et S=T9 S:=Kq (rendM_least hS _ (A3 _)) (endF_least hS _ (A3 _))
theorem Nu {S:Sch} (hS:Fit S) (h0:(BA S).testBit 0=true):Sb (Cb S) (BA S)=true↔If S≠[]:=by
 have hm0:0<S.modes.toNat:=by have:=hS.m0;omega
 have hm8:S.modes.toNat≤8:=by have:=hS.m1;omega
 unfold Sb If
 rw [if_pos h0,List.any_eq_true]
 constructor
 ·
  rintro ⟨m,_,hm⟩
  simp only [Bool.and_eq_true,Bool.not_eq_true'] at hm
  rw [Js] at hm
  obtain ⟨c,hc⟩:=(reach_spec hS hm0).1 hm.1
  have hcn:c≠[]:=by
   rintro rfl
   cases hc
   rw [h0] at hm;cases hm.2
  intro hb
  rcases F4 (use:=fun _=>true) (goal:=255 - BA S) hS.small hm8 hm0 with ⟨_,h2⟩ | ⟨h1,_⟩
  ·
   have:=h2 c m hcn hc
   rw [ER hS (Cg hS hm0 hc),Ci,hm.2] at this;cases this
  · exact h1.ne hb
 ·
  intro hb
  rcases F4 (use:=fun _=>true) (goal:=255 - BA S) hS.small hm8 hm0 with ⟨h1,_⟩ | ⟨h1,_⟩
  · exact absurd h1 hb
  ·
   obtain ⟨g,hg,hgb⟩:=h1.is
   have hlt:=Cg hS hm0 hg
   rw [ER hS hlt,Ci] at hgb
   refine ⟨g,by simp;omega,?_⟩
   rw [hgb,Js,(reach_spec hS hm0).2 ⟨_,hg⟩];rfl
theorem Ou {S:Sch} (hS:validB S=true→Fit S):CY S=F5 S:=by
 unfold CY F5
 by_cases h:validB S=true
 ·
  rw [if_pos h,if_pos h]
  by_cases h0:(BA S).testBit 0=true
  ·
   rw [if_pos h0,if_pos h0,rstuck_eq (hS h),rend_eq (hS h)]
   by_cases h1:If S=[]
   · rw [if_pos h1,if_neg (fun h2=>(Nu (hS h) h0).1 h2 h1)]
   · rw [if_neg h1,if_pos ((Nu (hS h) h0).2 h1)]
  · rw [if_neg h0,if_neg h0]
 · rw [if_neg h,if_neg h]
def rl (f t:Int) (i:List UInt8):Rl:=⟨f,t,⟨i.toArray⟩,⟨#[]⟩,0⟩
def SA:Sch:=⟨2,1,[rl 0 0 [97],rl 0 1 [98]]⟩
def SE:Sch:=⟨0,0,[]⟩
def Nv (r q:Rl):Bool:=decide (r.frm=q.frm) && (decide (r.dst=q.dst) && (decide (r.inp.data.toList=q.inp.data.toList) && (decide (r.out.data.toList=q.out.data.toList) && decide (r.cost=q.cost))))
theorem Rq (r q:Rl):G8 r q=Nv r q:=by
 unfold G8 Nv;simp only [ByteArray.toList_eq]
def QX (S:Sch):Bool:=Cf S && (List.range S.rules.length).all fun i=>match S.rules[i]? with | some r=>EX S.modes r && !(S.rules.take i).any (Nv r) | none=>true
theorem En (S:Sch):validB S=true↔Ib S:=by simp [validB]
theorem valid_of {S:Sch} (h:QX S=true):validB S=true:=by
 unfold QX at h
 rw [Bool.and_eq_true,List.all_eq_true] at h
 rw [En]
 refine ⟨h.1,fun i hi _=>?_⟩
 have:=h.2 i (by simpa using hi)
 rw [AA hi] at this
 unfold D3
 have e:(S.rules.take i).any (G8 S.rules[i])=(S.rules.take i).any (Nv S.rules[i]):=by congr 1;funext q;exact Rq _ _
 rw [e];exact this
theorem QY {S:Sch} (h:validB S=true) (ha:0≤S.acc) (hb:S.acc≤255):Fit S:=by
 have hv:Ib S:=(En S).1 h
 have h1:=hv.1
 unfold Cf at h1
 simp only [Bool.and_eq_true,decide_eq_true_eq] at h1
 refine ⟨h1.1,h1.2.1,ha,hb,h1.2.2.1,fun i hi=>?_⟩
 have h2:=hv.2 i hi hi
 unfold D3 EX at h2
 simp only [Bool.and_eq_true,decide_eq_true_eq] at h2
 exact ⟨h2.1.1,h2.1.2.1,h2.1.2.2.1,h2.1.2.2.2.1⟩
theorem vA:validB SA=true:=valid_of (by decide +kernel)
theorem vE:validB SE=false:=by
 cases hb:validB SE with
 | false=>rfl
 | true=>exact absurd ((En SE).1 hb).1 (by decide +kernel)
theorem JD (j:Nat) (hj:j<6):validB (Lf j)=true:=by
 rcases (show j=0∨j=1∨j=2∨j=3∨j=4∨j=5 by omega) with rfl | rfl | rfl | rfl | rfl | rfl <;> exact valid_of (by decide +kernel)
theorem ND (j:Nat) (hj:j<6):F5 (Lf j)=0:=by
 rw [F5,if_pos (JD j hj)]
 rcases (show j=0∨j=1∨j=2∨j=3∨j=4∨j=5 by omega) with rfl | rfl | rfl | rfl | rfl | rfl <;> rw [if_pos (by decide +kernel),if_neg (by decide +kernel),if_pos (by decide +kernel)]
theorem Nw {w:World} {g q:Nat} {x y z:Value} (h:q≠g):(((w.setCell ⟨g,0,none⟩ x).setCell ⟨g,1,none⟩ y).setCell ⟨g,2,none⟩ z).heap[q]? = w.heap[q]?:=by
 rw [Below.heap_setCell _ _ _ _ h,Below.heap_setCell _ _ _ _ h,Below.heap_setCell _ _ _ _ h]
theorem
    BJ.apart {w w1:World} {a:Option Addr} {R:List Rl} {g:Nat} {x y z:Value} {t:TypeId} {f:Nat × Nat} (h:BJ w a R) (hg:w.heap[g]? = some (.cells #[x,y,z] t f)) (hk:∀ q,q≠g→w1.heap[q]? = w.heap[q]?) (hz:w.heap.size≤w1.heap.size):BJ w1 a R:=by
 rcases h with h | ⟨b,o,ha,hb,hc⟩
 · exact .inl h
 ·
  by_cases h0:R=[]
  · exact .inl h0
  ·
   have hne:b≠g:=fun e=>by
    have h5:=hc 0 (List.length_pos_iff.2 h0)
    obtain ⟨_,_,_,_,h4⟩:=h5
    rw [e,cell_of_row w g _ _ _ f hg] at h4
    have:(#[x,y,z]:Array Value)[o+0*5+4]? = none:=Array.getElem?_eq_none (by simp)
    rw [this] at h4
    cases h4
   have hcl:∀ i,w1.cell? ⟨b,i,none⟩=w.cell? ⟨b,i,none⟩:=fun i=>World.cell?_of_block (hk b hne)
   refine .inr ⟨b,o,ha,by omega,fun i hi=>?_⟩
   obtain ⟨h1,h2,h3,h4,h5⟩:=hc i hi
   exact ⟨(hcl _).trans h1,(hcl _).trans h2,(hcl _).trans h3,(hcl _).trans h4,(hcl _).trans h5⟩
structure Nx (w:World) (S:Sch) (b:Option Addr) (c:Nat):Prop where
 valid:validB S=true
 sound:F5 S=0
 acc:S.acc=1
 mod:1≤S.modes∧S.modes≤2
 len:S.rules.length≤9
 cap:S.rules.length≤c
 rul:BJ w b S.rules
def TI (w:World) (e:Ending) (w':World):Prop:=∃ (S:Sch) (b:Option Addr) (c:Nat),e=.returned (.agg #[.int .i64 S.modes,.int .u8 S.acc,.slice b S.rules.length c])∧Nx w' S b c∧Below w.heap.size w w'
set_option maxHeartbeats 3200000 in
set_option maxRecDepth 100000 in
theorem QZ (x0 x1:Int) (a:Option Addr) (len cap:Nat) (Q:Nat→RR) (w:World) (h00:0≤x0) (h01:x0≤255) (h10:0≤x1) (h11:x1≤255) (hQ:Dk w a len Q) :
  Calls Tryz.prog 10 #[.agg #[.int .u8 x0,.int .u8 x1,.slice a len cap]] w (TI w):=by
 have HQ:=A0 hQ;clear hQ
 go_enter Tryz.func10,Tryz.ntmps10
 go_wp2_with fail
 obtain ⟨w1,hw1⟩:∃ w1,(w.alloc (.cells #[.int .u8 x0,.int .u8 x1,.slice a len cap] 24)).alloc (.cells #[.int .i64 0,.int .u8 0,.slice none 0 0] 32)=w1:=⟨_,rfl⟩
 rw [hw1]
 have HX1:Hid (Ext w w1):=by show Ext _ _;rw [← hw1];exact ((Below.refl _ _).alloc (A3 _) _).alloc (by simp only [A6];omega) _
 have HR1:Hid (w1.heap[w.heap.size]? = some (.cells #[.int .u8 x0,.int .u8 x1,.slice a len cap] 24 (0,0))):=by
  show _=_
  rw [← hw1,Below.heap_alloc _ _ _ (by simp only [A6];omega)]
  exact heap_alloc_new _ _
 have HS1:Hid (w1.heap[w.heap.size+1]? = some (.cells #[.int .i64 0,.int .u8 0,.slice none 0 0] 32 (0,0))):=by
  show _=_
  rw [← hw1]
  have h:=heap_alloc_new (w.alloc (.cells #[.int .u8 x0,.int .u8 x1,.slice a len cap] 24)) (.cells #[.int .i64 0,.int .u8 0,.slice none 0 0] 32)
  rw [A6] at h
  exact h
 have HZ1:Hid (w.heap.size+1<w1.heap.size):=(A5.1 HS1.out).1
 clear hw1
 refine (made2_any x0 x1 a len cap Q w1 h00 h01 h10 h11 (HQ.out.later HX1.out (A3 _))).mono ?_
 rintro e w2 ⟨S,b,c,rfl,hm1,hm2,hac,hl9,hrul,hcap,hb⟩
 have HRU:=A0 hrul;have HB2:=A0 hb
 have HFS:Hid (validB S=true→Fit S):=fun h=>QY h (by rw [hac];decide) (by rw [hac];decide)
 have HAC:=A0 hac
 clear hrul hb hac
 go_wp2_with (fail)
 obtain ⟨w4,hw4⟩:∃ w4,w2.alloc (.cells #[.int .i64 S.modes,.int .u8 S.acc,.slice b S.rules.length c] 32)=w4:=⟨_,rfl⟩
 have HB4:Hid (Ext w2 w4):=by show Ext _ _;rw [← hw4];exact (Below.refl _ _).alloc (A3 _) _
 have HS4:Hid (w4.heap[w2.heap.size]? = some (.cells #[.int .i64 S.modes,.int .u8 S.acc,.slice b S.rules.length c] 32 (0,0))):=by show _=_;rw [← hw4];exact heap_alloc_new _ _
 rw [hw4]
 clear hw4
 have HW4:Hid (Below w.heap.size w w4):=(HX1.out.trans HB2.out).trans HB4.out
 refine (rsound_any S b c w4 (HRU.out.later HB4.out (A3 _)) (by rw [HAC.out];decide) (by rw [HAC.out];decide) (by omega) HFS.out).mono ?_
 rw [Ou HFS.out]
 rintro e w5 ⟨rfl,hb5⟩
 have HB5:=A0 hb5
 have HS5:=A0 ((hb5.block _ (A5.1 HS4.out).1).trans HS4.out)
 have HW5:Hid (Below w.heap.size w w5):=HW4.out.trans (hb5.mono HW4.out.size)
 have H15:Hid (Below w1.heap.size w1 w5):=(HB2.out.trans (HB4.out.mono HB2.out.size)).trans (hb5.mono (A8 HB2.out.size HB4.out.size))
 obtain ⟨c0,c1,c2⟩:=cells3 HS5.out
 have HR5:=A0 ((H15.out.block _ (by have:=HZ1.out;omega)).trans HR1.out)
 have HT5:=A0 ((H15.out.block _ HZ1.out).trans HS1.out)
 obtain ⟨r0,r1,r2⟩:=cells3 HR5.out
 obtain ⟨t0,t1,t2⟩:=cells3 HT5.out
 have tf:∀ i,w5.frozen? ⟨w.heap.size+1,i,none⟩=false:=fun i=>by simp [World.frozen?,HT5.out]
 clear hb5
 obtain ⟨sd,hsd⟩:∃ sd,F5 S=sd:=⟨_,rfl⟩
 have HSD:=A0 hsd
 rw [hsd]
 clear hsd
 by_cases h0:sd=0
 ·
  have hne:(sd != 0)=false:=by simp [h0]
  have hva:Hid (validB S=true):=by
   show _=_
   cases hv:validB S with
   | true=>rfl
   | false=>have h:=HSD.out;rw [F5,if_neg (by rw [hv];simp)] at h;omega
  have HSD0:Hid (F5 S=0):=HSD.out.trans h0
  clear h0
  go_wp2_with fail
  obtain ⟨q0,q1,q2⟩:=cells3 (LO (a:=.int .i64 S.modes) (b:=.int .u8 S.acc) (c:=.slice b S.rules.length c) HT5.out)
  refine bodyPost_ret (v:=.agg #[.int .i64 S.modes,.int .u8 S.acc,.slice b S.rules.length c]) (by simp [results,Tryz.results10,go_sem,q0,q1,q2]) rfl ⟨S,b,c,rfl,⟨hva.out,HSD0.out,HAC.out,⟨hm1,hm2⟩,hl9,hcap,?_⟩,?_⟩
  · exact BJ.apart (HRU.out.later (Ext.trans HB4.out HB5.out) (A3 _)) HT5.out (fun q hq=>Nw hq) (by simp only [World.size_setCell];exact A3 _)
  · exact ((HW5.out.setCell (by show w.heap.size≤w.heap.size+1;omega) _).setCell (by show w.heap.size≤w.heap.size+1;omega) _).setCell (by show w.heap.size≤w.heap.size+1;omega) _
 ·
  have hne:(sd != 0)=true:=by simp [h0]
  clear h0
  go_wp2_with fail
  clear c0 c1 c2 r0 r1 r2 t0 t1 t2 tf
  refine (base_any x0 w5 h00 h01).mono ?_
  rintro e w6 ⟨S2,b2,n2,rfl,rfl,hm3,hm4,hac2, -,hl5,hown,hb6,j,hj, -,hS2⟩
  have HT6:=A0 ((hb6.block _ (A5.1 HT5.out).1).trans HT5.out)
  obtain ⟨t0,t1,t2⟩:=cells3 HT6.out
  have tf:∀ i,w6.frozen? ⟨w.heap.size+1,i,none⟩=false:=fun i=>by simp [World.frozen?,HT6.out]
  have HOW:=A0 hown;have HB6:=A0 hb6;have HE:=A0 hS2;have HAC2:=A0 hac2
  clear hown hb6 hS2 hac2
  go_wp2_with fail
  obtain ⟨q0,q1,q2⟩:=cells3 (LO (a:=.int .i64 S2.modes) (b:=.int .u8 S2.acc) (c:=.slice b2 S2.rules.length S2.rules.length) HT6.out)
  refine bodyPost_ret (v:=.agg #[.int .i64 S2.modes,.int .u8 S2.acc,.slice b2 S2.rules.length S2.rules.length]) (by simp [results,Tryz.results10,go_sem,q0,q1,q2]) rfl ⟨S2,b2,_,rfl,⟨by rw [HE.out];exact JD j hj,by rw [HE.out];exact ND j hj,HAC2.out,⟨hm3,hm4⟩,by omega,A3 _,?_⟩,?_⟩
  · exact BJ.apart HOW.out.ruls.1 HT6.out (fun q hq=>Nw hq) (by simp only [World.size_setCell];exact A3 _)
  · exact (((HW5.out.trans (HB6.out.mono HW5.out.size)).setCell (by show w.heap.size≤w.heap.size+1;omega) _).setCell (by show w.heap.size≤w.heap.size+1;omega) _).setCell (by show w.heap.size≤w.heap.size+1;omega) _
open Go.ChangeShapes Go.WideShapes Go.ChangeAt Go.RowKit
structure Qa where
 M:Int
 A:Int
 a:Option Addr
 len:Nat
 cap:Nat
 Q:Nat→RR
structure Qb (w:World) (x:Qa):Prop where
 m0:0≤x.M
 m1:x.M≤255
 a0:0≤x.A
 a1:x.A≤255
 rows:Dk w x.a x.len x.Q
instance:Inhabited RR:=⟨⟨none,0,0,none,0,0,0,0,0,fun _=>0,fun _=>0⟩⟩
section
variable {H:Type} {enc:TypeId × Value→H} {w:World} {base:Nat} {spare:Nat→Bool} {held:Bool} {d:DataW H} {p:List MemPlace} {r:Reach} {b0:Nat} {v:Value}
theorem Ks {P:Program} {t:TypeId} {f0 f1 f2 f3 f4:Field} {fuel:Nat} {cs:List Value} {x:DataW H × List MemPlace} (ht:P.underlying t=some (.struct #[f0,f1,f2,f3,f4])) (h:DataW.trod enc P w base spare held fuel t cs=some x) :
  ∃
   y0 y1 y2 y3 y4 n,cs.length=P.cellsOf t∧DataW.trod enc P w base spare held n f0.type ((cs.drop f0.offset).take (P.cellsOf f0.type))=some y0 ∧
   DataW.trod enc P w base spare held n f1.type ((cs.drop f1.offset).take (P.cellsOf f1.type))=some y1∧DataW.trod enc P w base spare held n f2.type ((cs.drop f2.offset).take (P.cellsOf f2.type))=some y2 ∧
   DataW.trod enc P w base spare held n f3.type ((cs.drop f3.offset).take (P.cellsOf f3.type))=some y3∧DataW.trod enc P w base spare held n f4.type ((cs.drop f4.offset).take (P.cellsOf f4.type))=some y4:=by
 obtain ⟨xs,n,_,rfl,hl,hlen,hf⟩:=DataW.trod_struct ht h
 match xs,hlen with
 | [y0,y1,y2,y3,y4],_=>exact ⟨y0,y1,y2,y3,y4,n,hl,by simpa using hf 0 f0 rfl,by simpa using hf 1 f1 rfl,by simpa using hf 2 f2 rfl,by simpa using hf 3 f3 rfl,by simpa using hf 4 f4 rfl⟩
open Go.Deep in
theorem
    slice_bytes {fuel:Nat} {cs:List Value} {x:DataW H × List MemPlace} (h:DataW.trod enc Tryz.prog w base spare held fuel 26 cs=some x):∃ a len cap Z,cs=[.slice a len cap]∧Bt w a len Z:=by
 rcases open_slice1 Tryz.underlying26 (by kernel_rfl) h with ⟨h0,_⟩ | ⟨ad,l,c,m,n,V,D,Pl,h0,hba,hl,hcm,hmm,_,hel⟩
 · exact ⟨none,0,0,fun _=>0,h0,.inl rfl⟩
 ·
  have hlm:l≤m:=by rw [hmm];split <;> omega
  have hle:l≤9223372036854775807:=by unfold maxLen at hcm;omega
  have key:∀ i,i<l→∃ z,w.cell? (ad.add i)=some (.int .u8 z)∧0≤z∧z≤255:=fun i hi=>by
   obtain ⟨h1,h2⟩:=hel i (by omega)
   obtain ⟨z,hz,_,hw⟩:=DataW.trod_int Tryz.underlying5 h2
   have:V i=.int .u8 z:=List.head_eq_of_cons_eq hz
   rw [this] at h1
   exact ⟨z,h1,bounds_u8 hw⟩
  by_cases h9:l=0
  · exact ⟨some ad,l,c,fun _=>0,h0,.inl h9⟩
  ·
   obtain ⟨Z,hZ⟩:=choose_lt (α:=Int) key
   obtain ⟨b,o,sp⟩:=ad
   have hs:=World.cell?_spot (hZ 0 (by omega)).1
   obtain rfl:sp=none:=by simpa [Addr.add] using hs
   refine ⟨some ⟨b,o,none⟩,l,c,Z,h0,.inr ⟨b,o,rfl,hle,?_,fun i hi=>?_⟩⟩
   ·
    have:=World.block_lt_of_cell? w _ (hZ 0 (by omega)).1
    rwa [DD] at this
   ·
    have hk:=hZ i hi
    rw [addr_add] at hk
    exact hk
set_option maxRecDepth 100000 in
theorem Kt {fuel:Nat} {cs:List Value} {x:DataW H × List MemPlace} (h:DataW.trod enc Tryz.prog w base spare held fuel 106 cs=some x) :
  ∃ q:RR,cs=[.slice q.ai q.li q.ci,.slice q.ao q.lo q.co,.int .u8 q.f,.int .u8 q.d,.int .u8 q.c]∧Mm w q:=by
 obtain ⟨y0,y1,y2,y3,y4,n,hl,h0,h1,h2,h3,h4⟩:=Ks Tryz.underlying106 h
 have hsz:cs.length=5:=hl.trans (by kernel_rfl)
 match cs,hsz with
 | [c0,c1,c2,c3,c4],_ =>
  obtain ⟨ai,li,ci,ZI,e0,g0⟩:=slice_bytes h0
  obtain ⟨ao,lo,co,ZO,e1,g1⟩:=slice_bytes h1
  obtain ⟨f,e2,_,w2⟩:=DataW.trod_int Tryz.underlying5 h2
  obtain ⟨dd,e3,_,w3⟩:=DataW.trod_int Tryz.underlying5 h3
  obtain ⟨c,e4,_,w4⟩:=DataW.trod_int Tryz.underlying5 h4
  obtain rfl:c0=.slice ai li ci:=List.head_eq_of_cons_eq e0
  obtain rfl:c1=.slice ao lo co:=List.head_eq_of_cons_eq e1
  obtain rfl:c2=.int .u8 f:=List.head_eq_of_cons_eq e2
  obtain rfl:c3=.int .u8 dd:=List.head_eq_of_cons_eq e3
  obtain rfl:c4=.int .u8 c:=List.head_eq_of_cons_eq e4
  exact ⟨⟨ai,li,ci,ao,lo,co,f,dd,c,ZI,ZO⟩,rfl,(bounds_u8 w2).1,(bounds_u8 w2).2,(bounds_u8 w3).1,(bounds_u8 w3).2,(bounds_u8 w4).1,(bounds_u8 w4).2,g0,g1⟩
open Go.Deep in
theorem
    slice_raws {fuel:Nat} {cs:List Value} {x:DataW H × List MemPlace} (h:DataW.trod enc Tryz.prog w base spare held fuel 22 cs=some x):∃ a len cap Q,cs=[.slice a len cap]∧Dk w a len Q:=by
 rcases open_slice Tryz.underlying22 h with ⟨h0,_⟩ | ⟨ad,l,c,m,n,D,Pl,h0,hba,hl,hcm,hmm,_,hel⟩
 · exact ⟨none,0,0,fun _=>⟨none,0,0,none,0,0,0,0,0,fun _=>0,fun _=>0⟩,h0,.inl rfl⟩
 ·
  have hlm:l≤m:=by rw [hmm];split <;> omega
  have hC:Tryz.prog.cellsOf 106=5:=by kernel_rfl
  have key:∀ i,i<l→∃ q:RR,((w.cell? ⟨ad.block,ad.off+i*5+0,none⟩=some (.slice q.ai q.li q.ci)∧w.cell? ⟨ad.block,ad.off+i*5+1,none⟩=some (.slice q.ao q.lo q.co)∧w.cell? ⟨ad.block,ad.off+i*5+2,none⟩=some (.int .u8 q.f)∧w.cell? ⟨ad.block,ad.off+i*5+3,none⟩=some (.int .u8 q.d)∧w.cell? ⟨ad.block,ad.off+i*5+4,none⟩=some (.int .u8 q.c))∧Mm w q)∧(i=0→ad.spot=none)∧ad.block<w.heap.size:=by
   intro i hi
   obtain ⟨cs',hcs,htr⟩:=hel i (by omega)
   rw [hC] at hcs
   obtain ⟨q,rfl,hq⟩:=Kt htr
   obtain ⟨_,hl',hg⟩:=World.cells?_some hcs
   have hat:∀ j,j<5→∀ u,[Value.slice q.ai q.li q.ci,.slice q.ao q.lo q.co,.int .u8 q.f,.int .u8 q.d,.int .u8 q.c][j]? = some u→w.cell? ⟨ad.block,ad.off+i*5+j,none⟩=some u:=by
    intro j hj u hu
    have h1:=hg j hj
    rw [hu] at h1
    have hspot:=World.cell?_spot h1
    have e:(ad.add (i*5)).add j=⟨ad.block,ad.off+i*5+j,none⟩:=by
     rw [O3 _ _ hspot,DD,LE]
    rwa [e] at h1
   refine ⟨q,⟨⟨hat 0 (by omega) _ rfl,hat 1 (by omega) _ rfl,hat 2 (by omega) _ rfl,hat 3 (by omega) _ rfl,hat 4 (by omega) _ rfl⟩,hq⟩,fun hi0=>?_,?_⟩
   ·
    subst hi0
    have h1:=hg 0 (by omega)
    have hspot:=World.cell?_spot (v:=.slice q.ai q.li q.ci) h1
    simpa [Addr.add] using hspot
   ·
    have:=World.cells?_block hcs (by omega)
    rwa [DD] at this
  by_cases h9:l=0
  · exact ⟨some ad,l,c,fun _=>⟨none,0,0,none,0,0,0,0,0,fun _=>0,fun _=>0⟩,h0,.inl h9⟩
  ·
   obtain ⟨Q,hQ⟩:=choose_lt (α:=RR) (n:=l) (fun i hi=>key i hi)
   have hsp:=(hQ 0 (by omega)).2.1 rfl
   obtain ⟨b,o,sp⟩:=ad
   simp only at hsp
   subst hsp
   exact ⟨some ⟨b,o,none⟩,l,c,Q,h0,.inr ⟨b,o,rfl,(hQ 0 (by omega)).2.2,fun i hi=>(hQ i hi).1⟩⟩
end
end Go.Proofs.YthjmdgejnakcmaaGreatDoor.Fl
