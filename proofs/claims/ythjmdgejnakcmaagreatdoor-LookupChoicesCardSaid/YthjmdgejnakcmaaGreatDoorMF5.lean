/- Texts that the claims share: RefI, Same, Sane, Safe, Views2. -/
import Derived.Test.YthjmdgejnakcmaaGreatDoorMF4
import Derived.Test.YthjmdgejnakcmaaGreatDoorMF1
import Derived.Test.YthjmdgejnakcmaaGreatDoorMD6
namespace Go.Proofs.YthjmdgejnakcmaaGreatDoor.Fl
open Go.RowKit
set_option linter.unusedVariables false
set_option linter.unusedSimpArgs false
open Classical in
noncomputable def rsoundF (S:Sch):Int :=
 if validB S=true then (if (liveS S).testBit 0=true then (if rstuckF S=[] then (if rendF S=[] then 0 else 41) else 40) else 50) else 20
theorem len_pos {l:List Nat} (h:l≠[]):0<l.length:=by rcases l with _ | ⟨x,l⟩;exact absurd rfl h;simp
set_option maxHeartbeats 3200000 in
theorem
    rsound_any (S:Sch) (a:Option Addr) (cap:Nat) (w:World) (hR:RulS w a S.rules) (h0:0≤S.acc) (h1:S.acc≤255) (hl:S.rules.length≤9223372036854775807) (hS:validB S=true→Fit S) :
  Calls Tryz.prog 28 #[.agg #[.int .i64 S.modes,.int .u8 S.acc,.slice a S.rules.length cap]] w fun e w'=>e=.returned (.int .i64 (rsoundF S))∧Below w.heap.size w w':=by
 have HR:=Lib.hid hR;have HS:=Lib.hid hS;clear hR hS
 by_cases hv:validB S=true
 ·
  have hFit:=HS.out hv
  have HFit:=Lib.hid hFit
  have HV:=Lib.hid hv
  have m0:=hFit.m0;have m1:=hFit.m1
  obtain ⟨mm,hmm⟩:=Int.eq_ofNat_of_zero_le (show 0≤S.modes by omega)
  have HM:Hid (S.modes.toNat=mm):=by show _=_;omega
  have hmm0:0<mm:=by omega
  obtain ⟨l0,hl0⟩:∃ l0,(liveS S).testBit 0=l0:=⟨_,rfl⟩
  have HF:Hid (rfindF S=⟨deadF S S.rules.length,rstuckF S,rendF S⟩):=by show _=_;rw [rfindF,if_pos hv]
  have HE0:Hid (rsoundF S=if l0=true then (if rstuckF S=[] then (if rendF S=[] then 0 else 41) else 40) else 50):=by show _=_;rw [rsoundF,if_pos hv,hl0]
  have HL0:=Lib.hid hl0
  clear hmm hl0 hv hFit
  by_cases hst:rstuckF S=[]
  ·
   have HL2:Hid (∀ n,n=(rstuckF S).length→¬ (0:Int)<(n:Int)):=fun n h=>by rw [hst] at h;simp at h;omega
   have HST:=Lib.hid hst
   clear hst
   by_cases hen:rendF S=[]
   ·
    have HL3:Hid (∀ n,n=(rendF S).length→¬ (0:Int)<(n:Int)):=fun n h=>by rw [hen] at h;simp at h;omega
    have HEN:=Lib.hid hen
    clear hen
    cases l0 with
    | false =>
     have HE:Hid (50=rsoundF S):=by show _=_;rw [HE0.out];rfl
     go_enter Tryz.func28,Tryz.ntmps28
     go_wp2_with (first | (go_at_call 54;refine (rvalid_any S a cap _ (HR.out.later (by first | exact hB | go_grown) (Nat.le_refl _)) h0 h1 hl).mono ?_;rintro e w1 ⟨he,hb⟩;rw [HV.out] at he;subst he;obtain ⟨hz,hc,hf⟩:=bcell hb (by first | (simp only [World.size_alloc,World.size_setCell,World.size_drew];rfl) | rfl);have hB:=below_call (B:=w.heap.size) (w:=w) (by first | exact hB | go_grown) hb (Nat.le_refl _);clear hb) | (go_at_call 55;refine (rfind_any S a cap _ (HR.out.later (by first | exact hB | go_grown) (Nat.le_refl _)) h0 h1 hl HS.out).mono ?_;rintro e w2 ⟨v1,v2,v3,rfl,hd1,hd2,hd3,hb⟩;obtain ⟨a1,n1,c1,hv1⟩:=hd1.form;obtain ⟨a2,n2,c2,hv2⟩:=hd2.form;obtain ⟨a3,n3,c3,hv3⟩:=hd3.form;subst hv1 hv2 hv3;have hn2:=hd2.sls.2;have hn3:=hd3.sls.2;rw [HF.out] at hn2 hn3;have HN2:=Lib.hid hn2;have HN3:=Lib.hid hn3;have hl2:=HL2.out n2 hn2;have hl3:=HL3.out n3 hn3;clear hd1 hd2 hd3 hn2 hn3;obtain ⟨hz,hc,hf⟩:=bcell hb (by first | (simp only [World.size_alloc,World.size_setCell,World.size_drew];rfl) | rfl);have hB:=below_call (B:=w.heap.size) (w:=w) (by first | exact hB | go_grown) hb (Nat.le_refl _);clear hb) | (go_at_call 56;refine (rlive_any S a cap _ (HR.out.later (by first | exact hB.alloc (by have:=hB.size;omega) _ | exact hB | go_grown) (Nat.le_refl _)) HFit.out).mono ?_;rintro e w3 ⟨v,rfl,⟨g3,hv,hg3,hmask⟩,hb⟩;rw [HM.out] at hv hmask;subst hv;have hq3:=mask_cell hmask (i:=0) (by omega);rw [HL0.out] at hq3;clear hmask;obtain ⟨hz,hc,hf⟩:=bcell hb (by first | (simp only [World.size_alloc,World.size_setCell,World.size_drew];rfl) | rfl);have hB:=below_call (B:=w.heap.size) (w:=w) (by go_grown) hb (Nat.le_refl _);clear hb) | fail)
     go_ret
     exact ⟨ret_int HE.out,hB⟩
    | true =>
     have HE:Hid (0=rsoundF S):=by show _=_;rw [HE0.out,if_pos rfl,if_pos HST.out,if_pos HEN.out]
     go_enter Tryz.func28,Tryz.ntmps28
     go_wp2_with (first | (go_at_call 54;refine (rvalid_any S a cap _ (HR.out.later (by first | exact hB | go_grown) (Nat.le_refl _)) h0 h1 hl).mono ?_;rintro e w1 ⟨he,hb⟩;rw [HV.out] at he;subst he;obtain ⟨hz,hc,hf⟩:=bcell hb (by first | (simp only [World.size_alloc,World.size_setCell,World.size_drew];rfl) | rfl);have hB:=below_call (B:=w.heap.size) (w:=w) (by first | exact hB | go_grown) hb (Nat.le_refl _);clear hb) | (go_at_call 55;refine (rfind_any S a cap _ (HR.out.later (by first | exact hB | go_grown) (Nat.le_refl _)) h0 h1 hl HS.out).mono ?_;rintro e w2 ⟨v1,v2,v3,rfl,hd1,hd2,hd3,hb⟩;obtain ⟨a1,n1,c1,hv1⟩:=hd1.form;obtain ⟨a2,n2,c2,hv2⟩:=hd2.form;obtain ⟨a3,n3,c3,hv3⟩:=hd3.form;subst hv1 hv2 hv3;have hn2:=hd2.sls.2;have hn3:=hd3.sls.2;rw [HF.out] at hn2 hn3;have HN2:=Lib.hid hn2;have HN3:=Lib.hid hn3;have hl2:=HL2.out n2 hn2;have hl3:=HL3.out n3 hn3;clear hd1 hd2 hd3 hn2 hn3;obtain ⟨hz,hc,hf⟩:=bcell hb (by first | (simp only [World.size_alloc,World.size_setCell,World.size_drew];rfl) | rfl);have hB:=below_call (B:=w.heap.size) (w:=w) (by first | exact hB | go_grown) hb (Nat.le_refl _);clear hb) | (go_at_call 56;refine (rlive_any S a cap _ (HR.out.later (by first | exact hB.alloc (by have:=hB.size;omega) _ | exact hB | go_grown) (Nat.le_refl _)) HFit.out).mono ?_;rintro e w3 ⟨v,rfl,⟨g3,hv,hg3,hmask⟩,hb⟩;rw [HM.out] at hv hmask;subst hv;have hq3:=mask_cell hmask (i:=0) (by omega);rw [HL0.out] at hq3;clear hmask;obtain ⟨hz,hc,hf⟩:=bcell hb (by first | (simp only [World.size_alloc,World.size_setCell,World.size_drew];rfl) | rfl);have hB:=below_call (B:=w.heap.size) (w:=w) (by go_grown) hb (Nat.le_refl _);clear hb) | fail)
     go_ret
     exact ⟨ret_int HE.out,hB⟩
   ·
    have HL3:Hid (∀ n,n=(rendF S).length→(0:Int)<(n:Int)):=fun n h=>by have:=len_pos hen;omega
    have HEN:=Lib.hid hen
    clear hen
    cases l0 with
    | false =>
     have HE:Hid (50=rsoundF S):=by show _=_;rw [HE0.out];rfl
     go_enter Tryz.func28,Tryz.ntmps28
     go_wp2_with (first | (go_at_call 54;refine (rvalid_any S a cap _ (HR.out.later (by first | exact hB | go_grown) (Nat.le_refl _)) h0 h1 hl).mono ?_;rintro e w1 ⟨he,hb⟩;rw [HV.out] at he;subst he;obtain ⟨hz,hc,hf⟩:=bcell hb (by first | (simp only [World.size_alloc,World.size_setCell,World.size_drew];rfl) | rfl);have hB:=below_call (B:=w.heap.size) (w:=w) (by first | exact hB | go_grown) hb (Nat.le_refl _);clear hb) | (go_at_call 55;refine (rfind_any S a cap _ (HR.out.later (by first | exact hB | go_grown) (Nat.le_refl _)) h0 h1 hl HS.out).mono ?_;rintro e w2 ⟨v1,v2,v3,rfl,hd1,hd2,hd3,hb⟩;obtain ⟨a1,n1,c1,hv1⟩:=hd1.form;obtain ⟨a2,n2,c2,hv2⟩:=hd2.form;obtain ⟨a3,n3,c3,hv3⟩:=hd3.form;subst hv1 hv2 hv3;have hn2:=hd2.sls.2;have hn3:=hd3.sls.2;rw [HF.out] at hn2 hn3;have HN2:=Lib.hid hn2;have HN3:=Lib.hid hn3;have hl2:=HL2.out n2 hn2;have hl3:=HL3.out n3 hn3;clear hd1 hd2 hd3 hn2 hn3;obtain ⟨hz,hc,hf⟩:=bcell hb (by first | (simp only [World.size_alloc,World.size_setCell,World.size_drew];rfl) | rfl);have hB:=below_call (B:=w.heap.size) (w:=w) (by first | exact hB | go_grown) hb (Nat.le_refl _);clear hb) | (go_at_call 56;refine (rlive_any S a cap _ (HR.out.later (by first | exact hB.alloc (by have:=hB.size;omega) _ | exact hB | go_grown) (Nat.le_refl _)) HFit.out).mono ?_;rintro e w3 ⟨v,rfl,⟨g3,hv,hg3,hmask⟩,hb⟩;rw [HM.out] at hv hmask;subst hv;have hq3:=mask_cell hmask (i:=0) (by omega);rw [HL0.out] at hq3;clear hmask;obtain ⟨hz,hc,hf⟩:=bcell hb (by first | (simp only [World.size_alloc,World.size_setCell,World.size_drew];rfl) | rfl);have hB:=below_call (B:=w.heap.size) (w:=w) (by go_grown) hb (Nat.le_refl _);clear hb) | fail)
     go_ret
     exact ⟨ret_int HE.out,hB⟩
    | true =>
     have HE:Hid (41=rsoundF S):=by show _=_;rw [HE0.out,if_pos rfl,if_pos HST.out,if_neg HEN.out]
     go_enter Tryz.func28,Tryz.ntmps28
     go_wp2_with (first | (go_at_call 54;refine (rvalid_any S a cap _ (HR.out.later (by first | exact hB | go_grown) (Nat.le_refl _)) h0 h1 hl).mono ?_;rintro e w1 ⟨he,hb⟩;rw [HV.out] at he;subst he;obtain ⟨hz,hc,hf⟩:=bcell hb (by first | (simp only [World.size_alloc,World.size_setCell,World.size_drew];rfl) | rfl);have hB:=below_call (B:=w.heap.size) (w:=w) (by first | exact hB | go_grown) hb (Nat.le_refl _);clear hb) | (go_at_call 55;refine (rfind_any S a cap _ (HR.out.later (by first | exact hB | go_grown) (Nat.le_refl _)) h0 h1 hl HS.out).mono ?_;rintro e w2 ⟨v1,v2,v3,rfl,hd1,hd2,hd3,hb⟩;obtain ⟨a1,n1,c1,hv1⟩:=hd1.form;obtain ⟨a2,n2,c2,hv2⟩:=hd2.form;obtain ⟨a3,n3,c3,hv3⟩:=hd3.form;subst hv1 hv2 hv3;have hn2:=hd2.sls.2;have hn3:=hd3.sls.2;rw [HF.out] at hn2 hn3;have HN2:=Lib.hid hn2;have HN3:=Lib.hid hn3;have hl2:=HL2.out n2 hn2;have hl3:=HL3.out n3 hn3;clear hd1 hd2 hd3 hn2 hn3;obtain ⟨hz,hc,hf⟩:=bcell hb (by first | (simp only [World.size_alloc,World.size_setCell,World.size_drew];rfl) | rfl);have hB:=below_call (B:=w.heap.size) (w:=w) (by first | exact hB | go_grown) hb (Nat.le_refl _);clear hb) | (go_at_call 56;refine (rlive_any S a cap _ (HR.out.later (by first | exact hB.alloc (by have:=hB.size;omega) _ | exact hB | go_grown) (Nat.le_refl _)) HFit.out).mono ?_;rintro e w3 ⟨v,rfl,⟨g3,hv,hg3,hmask⟩,hb⟩;rw [HM.out] at hv hmask;subst hv;have hq3:=mask_cell hmask (i:=0) (by omega);rw [HL0.out] at hq3;clear hmask;obtain ⟨hz,hc,hf⟩:=bcell hb (by first | (simp only [World.size_alloc,World.size_setCell,World.size_drew];rfl) | rfl);have hB:=below_call (B:=w.heap.size) (w:=w) (by go_grown) hb (Nat.le_refl _);clear hb) | fail)
     go_ret
     exact ⟨ret_int HE.out,hB⟩
  ·
   have HL2:Hid (∀ n,n=(rstuckF S).length→(0:Int)<(n:Int)):=fun n h=>by have:=len_pos hst;omega
   have HL3:Hid (∀ n:Nat,n=(rendF S).length→True):=fun _ _=>trivial
   have HST:=Lib.hid hst
   clear hst
   cases l0 with
   | false =>
    have HE:Hid (50=rsoundF S):=by show _=_;rw [HE0.out];rfl
    go_enter Tryz.func28,Tryz.ntmps28
    go_wp2_with (first | (go_at_call 54;refine (rvalid_any S a cap _ (HR.out.later (by first | exact hB | go_grown) (Nat.le_refl _)) h0 h1 hl).mono ?_;rintro e w1 ⟨he,hb⟩;rw [HV.out] at he;subst he;obtain ⟨hz,hc,hf⟩:=bcell hb (by first | (simp only [World.size_alloc,World.size_setCell,World.size_drew];rfl) | rfl);have hB:=below_call (B:=w.heap.size) (w:=w) (by first | exact hB | go_grown) hb (Nat.le_refl _);clear hb) | (go_at_call 55;refine (rfind_any S a cap _ (HR.out.later (by first | exact hB | go_grown) (Nat.le_refl _)) h0 h1 hl HS.out).mono ?_;rintro e w2 ⟨v1,v2,v3,rfl,hd1,hd2,hd3,hb⟩;obtain ⟨a1,n1,c1,hv1⟩:=hd1.form;obtain ⟨a2,n2,c2,hv2⟩:=hd2.form;obtain ⟨a3,n3,c3,hv3⟩:=hd3.form;subst hv1 hv2 hv3;have hn2:=hd2.sls.2;have hn3:=hd3.sls.2;rw [HF.out] at hn2 hn3;have HN2:=Lib.hid hn2;have HN3:=Lib.hid hn3;have hl2:=HL2.out n2 hn2;have hl3:=HL3.out n3 hn3;clear hd1 hd2 hd3 hn2 hn3;obtain ⟨hz,hc,hf⟩:=bcell hb (by first | (simp only [World.size_alloc,World.size_setCell,World.size_drew];rfl) | rfl);have hB:=below_call (B:=w.heap.size) (w:=w) (by first | exact hB | go_grown) hb (Nat.le_refl _);clear hb) | (go_at_call 56;refine (rlive_any S a cap _ (HR.out.later (by first | exact hB.alloc (by have:=hB.size;omega) _ | exact hB | go_grown) (Nat.le_refl _)) HFit.out).mono ?_;rintro e w3 ⟨v,rfl,⟨g3,hv,hg3,hmask⟩,hb⟩;rw [HM.out] at hv hmask;subst hv;have hq3:=mask_cell hmask (i:=0) (by omega);rw [HL0.out] at hq3;clear hmask;obtain ⟨hz,hc,hf⟩:=bcell hb (by first | (simp only [World.size_alloc,World.size_setCell,World.size_drew];rfl) | rfl);have hB:=below_call (B:=w.heap.size) (w:=w) (by go_grown) hb (Nat.le_refl _);clear hb) | fail)
    go_ret
    exact ⟨ret_int HE.out,hB⟩
   | true =>
    have HE:Hid (40=rsoundF S):=by show _=_;rw [HE0.out,if_pos rfl,if_neg HST.out]
    go_enter Tryz.func28,Tryz.ntmps28
    go_wp2_with (first | (go_at_call 54;refine (rvalid_any S a cap _ (HR.out.later (by first | exact hB | go_grown) (Nat.le_refl _)) h0 h1 hl).mono ?_;rintro e w1 ⟨he,hb⟩;rw [HV.out] at he;subst he;obtain ⟨hz,hc,hf⟩:=bcell hb (by first | (simp only [World.size_alloc,World.size_setCell,World.size_drew];rfl) | rfl);have hB:=below_call (B:=w.heap.size) (w:=w) (by first | exact hB | go_grown) hb (Nat.le_refl _);clear hb) | (go_at_call 55;refine (rfind_any S a cap _ (HR.out.later (by first | exact hB | go_grown) (Nat.le_refl _)) h0 h1 hl HS.out).mono ?_;rintro e w2 ⟨v1,v2,v3,rfl,hd1,hd2,hd3,hb⟩;obtain ⟨a1,n1,c1,hv1⟩:=hd1.form;obtain ⟨a2,n2,c2,hv2⟩:=hd2.form;obtain ⟨a3,n3,c3,hv3⟩:=hd3.form;subst hv1 hv2 hv3;have hn2:=hd2.sls.2;have hn3:=hd3.sls.2;rw [HF.out] at hn2 hn3;have HN2:=Lib.hid hn2;have HN3:=Lib.hid hn3;have hl2:=HL2.out n2 hn2;have hl3:=HL3.out n3 hn3;clear hd1 hd2 hd3 hn2 hn3;obtain ⟨hz,hc,hf⟩:=bcell hb (by first | (simp only [World.size_alloc,World.size_setCell,World.size_drew];rfl) | rfl);have hB:=below_call (B:=w.heap.size) (w:=w) (by first | exact hB | go_grown) hb (Nat.le_refl _);clear hb) | (go_at_call 56;refine (rlive_any S a cap _ (HR.out.later (by first | exact hB.alloc (by have:=hB.size;omega) _ | exact hB | go_grown) (Nat.le_refl _)) HFit.out).mono ?_;rintro e w3 ⟨v,rfl,⟨g3,hv,hg3,hmask⟩,hb⟩;rw [HM.out] at hv hmask;subst hv;have hq3:=mask_cell hmask (i:=0) (by omega);rw [HL0.out] at hq3;clear hmask;obtain ⟨hz,hc,hf⟩:=bcell hb (by first | (simp only [World.size_alloc,World.size_setCell,World.size_drew];rfl) | rfl);have hB:=below_call (B:=w.heap.size) (w:=w) (by go_grown) hb (Nat.le_refl _);clear hb) | fail)
    go_ret
    exact ⟨ret_int HE.out,hB⟩
 ·
  have hv':validB S=false:=by simpa using hv
  have HV:=Lib.hid hv'
  have HE:Hid (20=rsoundF S):=by show _=_;rw [rsoundF,if_neg hv]
  clear hv hv'
  go_enter Tryz.func28,Tryz.ntmps28
  go_wp2_with (first | (go_at_call 54;refine (rvalid_any S a cap _ (HR.out.later (by first | exact hB | go_grown) (Nat.le_refl _)) h0 h1 hl).mono ?_;rintro e w1 ⟨he,hb⟩;rw [HV.out] at he;subst he;obtain ⟨hz,hc,hf⟩:=bcell hb (by first | (simp only [World.size_alloc,World.size_setCell,World.size_drew];rfl) | rfl);have hB:=below_call (B:=w.heap.size) (w:=w) (by first | exact hB | go_grown) hb (Nat.le_refl _);clear hb) | fail)
  go_ret
  exact ⟨ret_int HE.out,hB⟩
end Go.Proofs.YthjmdgejnakcmaaGreatDoor.Fl
namespace Go.Proofs.YthjmdgejnakcmaaGreatDoor.Fl
set_option linter.unusedVariables false
set_option linter.unusedSimpArgs false
theorem useS_false:useS false=fun _=>true:=funext fun _=>rfl
theorem useS_true:useS true=emptyR:=funext fun _=>rfl
theorem
    bestTo_spec {use:Rl→Bool} {R:List Rl} {start n:Nat} {K:Wk} (hK:LevelOK use R start (n+1) K) (ok:Nat→Bool):∀ M,
  (bestTo K ok M=[]∧∀ t,t<M→K.is t=true→ok t=false) ∨
  (∃ t,t<M∧K.is t=true∧ok t=true∧bestTo K ok M=K.ch t∧∀ t',t'<M→K.is t'=true→ok t'=true→sle (K.ch t) (K.ch t')):=by
 intro M
 induction M with
 | zero=>exact .inl ⟨rfl,fun t h=>absurd h (by omega)⟩
 | succ M ih =>
  rw [bestTo,bestStep]
  by_cases h1:K.is M=true∧ok M=true
  ·
   rcases ih with ⟨h2,h3⟩ | ⟨t,ht,his,hok,hb,hle⟩
   ·
    rw [h2,h1.1,h1.2]
    refine .inr ⟨M,by omega,h1.1,h1.2,rfl,fun t' ht' hi' ho'=>?_⟩
    by_cases e:t'=M
    · subst e;exact sle_refl _
    · rw [h3 t' (by omega) hi'] at ho';cases ho'
   ·
    have hl1:=(hK.ch _ h1.1).1
    have hl2:=(hK.ch _ his).1
    have hne:(K.ch t).isEmpty=false:=by
     rcases hq:K.ch t with _ | ⟨x,l⟩
     · rw [hq] at hl2;simp at hl2
     · rfl
    rw [hb,h1.1,h1.2,hne]
    simp only [Bool.true_and,Bool.false_or]
    by_cases hbf:beforeB (ints (K.ch M)) (ints (K.ch t))=true
    ·
     rw [if_pos hbf]
     have hsl:=(beforeB_sl (hl1.trans hl2.symm)).1 hbf
     refine .inr ⟨M,by omega,h1.1,h1.2,rfl,fun t' ht' hi' ho'=>?_⟩
     by_cases e:t'=M
     · subst e;exact sle_refl _
     · exact sle_trans (.inr hsl) (hle t' (by omega) hi' ho')
    ·
     rw [if_neg hbf]
     refine .inr ⟨t,by omega,his,hok,rfl,fun t' ht' hi' ho'=>?_⟩
     by_cases e:t'=M
     ·
      subst e
      rcases sl_or_sle (K.ch t') (K.ch t) with h | h
      · exact absurd ((beforeB_sl (hl1.trans hl2.symm)).2 h) hbf
      · exact h
     · exact hle t' (by omega) hi' ho'
  ·
   have h2:(K.is M && (ok M && ((bestTo K ok M).isEmpty || beforeB (ints (K.ch M)) (ints (bestTo K ok M)))))=false:=by
    cases ha:K.is M <;> cases hb:ok M <;> simp [ha,hb] at h1 ⊢
   rw [if_neg (by rw [h2];simp)]
   rcases ih with ⟨h2,h3⟩ | ⟨t,ht,his,hok,hb,hle⟩
   ·
    refine .inl ⟨h2,fun t ht hi=>?_⟩
    by_cases e:t=M
    ·
     subst e
     cases ho:ok t with
     | false=>rfl
     | true=>exact absurd ⟨hi,ho⟩ h1
    · exact h3 t (by omega) hi
   ·
    refine .inr ⟨t,by omega,his,hok,hb,fun t' ht' hi' ho'=>?_⟩
    by_cases e:t'=M
    · subst e;exact absurd ⟨hi',ho'⟩ h1
    · exact hle t' (by omega) hi' ho'
theorem
    rsF_spec {S:Sch} (hS:Fit S):∀ f k,
  (rsF S f k=[]∧∀ d t,k<d.length→d.length≤k+f→leads (fun _=>true) S.rules 0 d=some t→deadM S t=false) ∨
  (k<(rsF S f k).length∧(∃ t,leads (fun _=>true) S.rules 0 (rsF S f k)=some t∧deadM S t=true) ∧
   ∀ d t,k<d.length→leads (fun _=>true) S.rules 0 d=some t→deadM S t=true→sle (rsF S f k) d):=by
 have hm0:0<S.modes.toNat:=by have:=hS.m0;omega
 intro f
 induction f with
 | zero=>intro k;exact .inl ⟨rfl,fun d t h1 h2=>absurd h1 (by omega)⟩
 | succ f ih =>
  intro k
  have hK:LevelOK (fun _=>true) S.rules 0 (k+1) (levelK (useS false) S.rules 0 true (k+1)):=by rw [useS_false];exact level_all (k+1)
  rw [rsF]
  rcases bestTo_spec hK (deadM S) S.modes.toNat with ⟨h1,h2⟩ | ⟨t,ht,his,hok,hb,hle⟩
  ·
   rw [if_pos h1]
   have hno:∀ d t,d.length=k+1→leads (fun _=>true) S.rules 0 d=some t→deadM S t=false:=fun d t hd hl =>
    h2 t (leads_lt hS hm0 hl) ((hK.is t).2 ⟨d,hd,hl⟩)
   rcases ih (k+1) with ⟨h3,h4⟩ | ⟨h3,h4,h5⟩
   ·
    refine .inl ⟨h3,fun d t h6 h7 h8=>?_⟩
    by_cases e:d.length=k+1
    · exact hno d t e h8
    · exact h4 d t (by omega) (by omega) h8
   ·
    refine .inr ⟨by omega,h4,fun d t h6 h7 h8=>?_⟩
    by_cases e:d.length=k+1
    · rw [hno d t e h7] at h8;cases h8
    · exact h5 d t (by omega) h7 h8
  ·
   have hl:=hK.ch t his
   have hne:bestTo (levelK (useS false) S.rules 0 true (k+1)) (deadM S) S.modes.toNat≠[]:=by
    rw [hb];intro h;rw [h] at hl;simp at hl
   rw [if_neg hne,hb]
   refine .inr ⟨by omega,⟨t,hl.2,hok⟩,fun d t' h6 h7 h8=>?_⟩
   by_cases e:d.length=k+1
   · exact sle_trans (hle t' (leads_lt hS hm0 h7) ((hK.is t').2 ⟨d,e,h7⟩) h8) (hK.least t' d e h7)
   · exact .inr (.inl (by omega))
theorem goal_bit {S:Sch} (hS:Fit S) {t:Nat} (ht:t<S.modes.toNat):(255 - liveS S).testBit t=deadM S t:=by
 have hl:liveS S<256:=liveM_lt hS
 have:=hS.m1
 rw [show 255 - liveS S=2 ^ 8 - (liveS S+1) by omega,Nat.testBit_two_pow_sub_succ (by omega),decide_eq_true (by omega)]
 rfl
theorem
    rstuck_eq {S:Sch} (hS:Fit S):rstuckF S=stuckF S:=by
 have hm0:0<S.modes.toNat:=by have:=hS.m0;omega
 have hm8:S.modes.toNat≤8:=by have:=hS.m1;omega
 unfold rstuckF stuckF
 by_cases h0:(liveS S).testBit 0=true
 ·
  rw [if_pos h0,if_pos h0]
  rcases bfs_spec (use:=fun _=>true) (goal:=255 - liveS S) hS.small hm8 hm0 with ⟨h1,h2⟩ | ⟨h1,h2⟩
  ·
   rw [h1]
   rcases rsF_spec hS S.modes.toNat 0 with ⟨h3,_⟩ | ⟨h3,⟨t,h4,h5⟩,_⟩
   · exact h3
   ·
    have h6:=h2 _ t (fun h=>by rw [h] at h3;simp at h3) h4
    rw [goal_bit hS (leads_lt hS hm0 h4),h5] at h6;cases h6
  ·
   obtain ⟨g,hg,hgb⟩:=h1.is
   have hgd:deadM S g=true:=by rw [← goal_bit hS (leads_lt hS hm0 hg)];exact hgb
   have hpos:0<(bfs (fun _=>true) (255 - liveS S) S.rules 0).length:=len_pos h1.ne
   rcases rsF_spec hS S.modes.toNat 0 with ⟨_,h4⟩ | ⟨h3,⟨t,h4,h5⟩,h6⟩
   · rw [h4 _ g hpos (by omega) hg] at hgd;cases hgd
   ·
    refine best_unique (use:=fun _=>true) (R:=S.rules) (start:=0) (goal:=255 - liveS S) ⟨fun h=>by rw [h] at h3;simp at h3,⟨t,h4,by rw [goal_bit hS (leads_lt hS hm0 h4)];exact h5⟩,fun d g' hd hl hb=>?_⟩ h1
    exact h6 d g' (len_pos hd) hl (by rw [← goal_bit hS (leads_lt hS hm0 hl)];exact hb)
 · rw [if_neg h0,if_neg h0]
def Circ (S:Sch) (m:Nat) (d:List Nat):Prop:=cbit S m=true∧d≠[]∧leads emptyR S.rules m d=some m
def Least (P:List Nat→Prop) (b:List Nat):Prop:=(b=[]∧∀ d,¬ P d)∨(b≠[]∧P b∧∀ d,P d→sle b d)
theorem least_unique {P:List Nat→Prop} {a b:List Nat} (ha:Least P a) (hb:Least P b):a=b:=by
 rcases ha with ⟨rfl,h1⟩ | ⟨_,h1,h2⟩ <;> rcases hb with ⟨rfl,h3⟩ | ⟨_,h3,h4⟩
 · rfl
 · exact absurd h3 (h1 _)
 · exact absurd h1 (h3 _)
 · exact sle_antisymm (h2 _ h3) (h4 _ h1)
theorem least_congr {P Q:List Nat→Prop} {a:List Nat} (h:∀ d,P d↔Q d) (ha:Least P a):Least Q a:=by
 have:P=Q:=funext fun d=>propext (h d)
 rw [← this];exact ha
open Classical in
theorem
    least_or {P Q:List Nat→Prop} {a b c:List Nat} (ha:Least P a) (hb:Least Q b) (hc:c=if b=[] then a else if a=[] then b else if sl b a then b else a):Least (fun d=>P d∨Q d) c:=by
 rcases hb with ⟨rfl,h3⟩ | ⟨hbn,h3,h4⟩
 ·
  rw [if_pos rfl] at hc;subst hc
  exact least_congr (fun d=>⟨.inl,fun h=>h.elim id fun h=>absurd h (h3 d)⟩) ha
 ·
  rw [if_neg hbn] at hc
  rcases ha with ⟨rfl,h1⟩ | ⟨han,h1,h2⟩
  ·
   rw [if_pos rfl] at hc;subst hc
   exact .inr ⟨hbn,.inr h3,fun d h=>h.elim (fun h=>absurd h (h1 d)) (h4 d)⟩
  ·
   rw [if_neg han] at hc
   by_cases h:sl b a
   ·
    rw [if_pos h] at hc;subst hc
    exact .inr ⟨hbn,.inr h3,fun d hd=>hd.elim (fun hd=>.inr (sl_of_sl_sle h (h2 d hd))) (h4 d)⟩
   ·
    rw [if_neg h] at hc;subst hc
    refine .inr ⟨han,.inl h1,fun d hd=>hd.elim (h2 d) fun hd=>sle_trans ?_ (h4 d hd)⟩
    rcases sl_or_sle b c with h5 | h5
    · exact absurd h5 h
    · exact h5
theorem
    lexC_lex:∀ {a b:List Nat},a.length=b.length→(lexC (ints a) (ints b)<0↔lexlt a b)
 | [],[],_=>by simp [ints,lexC,lexlt]
 | [],_ :: _,h=>by simp at h
 | _ :: _,[],h=>by simp at h
 | x
   :: a,y :: b,h=>by
  have ih:=lexC_lex (a:=a) (b:=b) (by simpa using h)
  show lexC ((x:Int) :: ints a) ((y:Int) :: ints b)<0↔(x<y∨(x=y∧lexlt a b))
  rw [lexC]
  by_cases h1:(x:Int)<y
  ·
   rw [if_pos h1]
   exact ⟨fun _=>.inl (by omega),fun _=>by omega⟩
  ·
   rw [if_neg h1]
   by_cases h2:(y:Int)<x
   ·
    rw [if_pos h2]
    exact ⟨fun h=>absurd h (by omega),fun h=>by rcases h with h | h <;> omega⟩
   ·
    rw [if_neg h2,ih]
    exact ⟨fun h=>.inr ⟨by omega,h⟩,fun h=>h.elim (fun h=>absurd h (by omega)) (fun h=>h.2)⟩
theorem ordC_sl (a b:List Nat):ordC (ints a) (ints b)<0↔sl a b:=by
 unfold ordC
 rw [ints_len,ints_len]
 by_cases h:a.length=b.length
 ·
  rw [if_pos h,lexC_lex h]
  exact ⟨fun h2=>.inr ⟨h,h2⟩,fun h2=>h2.elim (fun h3=>absurd h3 (by omega)) (fun h3=>h3.2)⟩
 ·
  rw [if_neg h]
  exact ⟨fun h2=>.inl (by omega),fun h2=>h2.elim (fun h3=>by omega) (fun h3=>absurd h3.1 h)⟩
theorem least_bfs {S:Sch} (hS:Fit S) {m:Nat} (hm:m<S.modes.toNat) (hc:cbit S m=true):Least (Circ S m) (bfs emptyR (2 ^ m) S.rules m):=by
 have hm8:S.modes.toNat≤8:=by have:=hS.m1;omega
 rcases bfs_spec (use:=emptyR) (goal:=2 ^ m) hS.small hm8 hm with ⟨h1,h2⟩ | ⟨h1,h2⟩
 ·
  refine .inl ⟨h1,fun d hd=>?_⟩
  have:=h2 d m hd.2.1 hd.2.2
  rw [Nat.testBit_two_pow] at this;simp at this
 ·
  obtain ⟨g,hg,hgb⟩:=h1.is
  rw [Nat.testBit_two_pow] at hgb
  obtain rfl:m=g:=by simpa using hgb
  exact .inr ⟨h1.ne,⟨hc,h1.ne,hg⟩,fun d hd=>h1.least d m hd.2.1 hd.2.2 (by rw [Nat.testBit_two_pow];simp)⟩
def CircTo (S:Sch) (M:Nat) (d:List Nat):Prop:=∃ m,m<M∧Circ S m d
theorem circTo_succ {S:Sch} {M:Nat} (d:List Nat):CircTo S (M+1) d↔(CircTo S M d∨Circ S M d):=by
 constructor
 ·
  rintro ⟨m,h1,h2⟩
  by_cases e:m=M
  · subst e;exact .inr h2
  · exact .inl ⟨m,by omega,h2⟩
 ·
  rintro (⟨m,h1,h2⟩ | h)
  · exact ⟨m,by omega,h2⟩
  · exact ⟨M,by omega,h⟩
open Classical in
theorem
    endF_least {S:Sch} (hS:Fit S):∀ M,M≤S.modes.toNat→Least (CircTo S M) ((List.range M).foldl (endStep S) [])
 | 0,_=>.inl ⟨rfl,fun d ⟨m,h,_⟩=>absurd h (by omega)⟩
 | M
   +
    1,h=>by
  have ih:=endF_least hS M (by omega)
  rw [List.range_succ,List.foldl_append]
  show Least _ (endStep S ((List.range M).foldl (endStep S) []) M)
  generalize (List.range M).foldl (endStep S) []=a at ih
  unfold endStep
  by_cases hc:cbit S M=true
  ·
   rw [if_pos hc]
   refine least_congr (fun d=>(circTo_succ d).symm) (least_or ih (least_bfs hS (by omega) hc) ?_)
   by_cases h1:bfs emptyR (2 ^ M) S.rules M=[]
   · rw [if_pos h1,if_pos h1]
   ·
    rw [if_neg h1,if_neg h1]
    by_cases h2:a=[]
    · rw [if_pos h2,if_pos h2]
    ·
     rw [if_neg h2,if_neg h2]
     by_cases h3:sl (bfs emptyR (2 ^ M) S.rules M) a
     · rw [if_pos h3,if_pos ((ordC_sl _ _).2 h3)]
     · rw [if_neg h3,if_neg (fun h=>h3 ((ordC_sl _ _).1 h))]
  ·
   rw [if_neg hc]
   exact least_congr (fun d=>⟨fun h=>(circTo_succ d).2 (.inl h),fun h=>((circTo_succ d).1 h).elim id fun h=>absurd h.1 hc⟩) ih
theorem dead_level {use:Rl→Bool} {R:List Rl} {K:Wk} (h:∀ t,K.is t=false):∀ k t,(nextTo use R K k).is t=false
 | 0,_=>rfl
 | k+1,t=>by
  rw [nextTo]
  split
  · unfold stepK;rw [h,Bool.false_and,if_neg (by simp)];exact dead_level h k t
  · exact dead_level h k t
theorem dead_levels {use:Rl→Bool} {R:List Rl} {m:Nat}:∀ n t,(levelK use R m false n).is t=false
 | 0,t=>by show (if t=m then false else false)=false;split <;> rfl
 | n+1,t=>dead_level (dead_levels n) R.length t
def CircN (S:Sch) (m n:Nat) (d:List Nat):Prop:=Circ S m d∧d.length≤n
open Classical in
theorem
    rendN_least {S:Sch} (hS:Fit S) {m:Nat} {P:List Nat→Prop} {b:List Nat} (hb:Least P b):∀ n,Least (fun d=>P d∨CircN S m n d) (rendN S m b n)
 | 0=>by
  rw [rendN]
  exact least_congr (fun d=>⟨.inl,fun h=>h.elim id fun h=>absurd h.1.2.1 (fun h2=>h2 (List.eq_nil_of_length_eq_zero (by have:=h.2;omega)))⟩) hb
 | n
   +
    1
     => by
  have ih:=rendN_least hS hb n (m:=m)
  rw [rendN]
  generalize rendN S m b n=a at ih
  by_cases hc:cbit S m=true
  ·
   rw [hc]
   have hK:LevelOK emptyR S.rules m (n+1) (levelK (useS true) S.rules m true (n+1)):=by rw [useS_true];exact level_all (n+1)
   generalize levelK (useS true) S.rules m true (n+1)=K at hK
   have hQ:Least (fun d=>Circ S m d∧d.length=n+1) (if K.is m=true then K.ch m else []):=by
    by_cases h1:K.is m=true
    ·
     rw [if_pos h1]
     have h2:=hK.ch m h1
     have h3:K.ch m≠[]:=fun h=>by rw [h] at h2;simp at h2
     exact .inr ⟨h3,⟨⟨hc,h3,h2.2⟩,h2.1⟩,fun d hd=>hK.least m d hd.2 hd.1.2.2⟩
    ·
     rw [if_neg h1]
     exact .inl ⟨rfl,fun d hd=>h1 ((hK.is m).2 ⟨d,hd.2,hd.1.2.2⟩)⟩
   have hor:=least_or ih hQ (c:=circStep K a m) ?_
   ·
    refine least_congr (fun d=>?_) hor
    constructor
    ·
     rintro ((h | ⟨h1,h2⟩) | ⟨h1,h2⟩)
     · exact .inl h
     · exact .inr ⟨h1,by omega⟩
     · exact .inr ⟨h1,by omega⟩
    ·
     rintro (h | ⟨h1,h2⟩)
     · exact .inl (.inl h)
     ·
      by_cases e:d.length=n+1
      · exact .inr ⟨h1,e⟩
      · exact .inl (.inr ⟨h1,by omega⟩)
   ·
    unfold circStep
    by_cases h1:K.is m=true
    ·
     have h2:=hK.ch m h1
     have h3:K.ch m≠[]:=fun h=>by rw [h] at h2;simp at h2
     rw [if_pos h1,if_neg h3,h1,Bool.true_and]
     by_cases h4:a=[]
     · rw [if_pos h4,h4];rfl
     ·
      have hae:a.isEmpty=false:=by rcases a with _ | ⟨x,l⟩;exact absurd rfl h4;rfl
      rw [if_neg h4,hae,Bool.false_or]
      have hiff:(decide ((K.ch m).length<a.length) || (decide ((K.ch m).length=a.length) && beforeB (ints (K.ch m)) (ints a)))=true↔sl (K.ch m) a:=by
       simp only [Bool.or_eq_true,Bool.and_eq_true,decide_eq_true_eq]
       constructor
       ·
        rintro (h | ⟨h,h'⟩)
        · exact .inl h
        · exact (beforeB_sl h).1 h'
       ·
        rintro (h | ⟨h,h'⟩)
        · exact .inl h
        · exact .inr ⟨h,(beforeB_lex h).2 h'⟩
      by_cases h5:sl (K.ch m) a
      · rw [if_pos h5,if_pos (hiff.2 h5)]
      · rw [if_neg h5,if_neg (fun h=>h5 (hiff.1 h))]
    ·
     have h1':K.is m=false:=by simpa using h1
     rw [if_neg h1,if_pos rfl,h1',Bool.false_and,if_neg (by simp)]
  ·
   have hc':cbit S m=false:=by simpa using hc
   rw [hc',circStep,dead_levels,Bool.false_and,if_neg (by simp)]
   exact least_congr (fun d=>⟨fun h=>h.elim .inl fun h=>absurd h.1.1 hc,fun h=>h.elim .inl fun h=>absurd h.1.1 hc⟩) ih
theorem
    rendM_least {S:Sch} (hS:Fit S):∀ M,M≤S.modes.toNat→Least (CircTo S M) (rendM S M)
 | 0,_=>.inl ⟨rfl,fun d ⟨m,h,_⟩=>absurd h (by omega)⟩
 | M
   +
    1,h=>by
  have ih:=rendM_least hS M (by omega)
  have hm8:S.modes.toNat≤8:=by have:=hS.m1;omega
  rw [rendM]
  have h1:=rendN_least hS ih S.modes.toNat (m:=M)
  rcases h1 with ⟨h2,h3⟩ | ⟨h2,h3,h4⟩
  ·
   refine .inl ⟨h2,fun d hd=>?_⟩
   rcases (circTo_succ d).1 hd with hd | hd
   · exact h3 d (.inl hd)
   ·
    rcases least_bfs hS (by omega) hd.1 with ⟨_,h5⟩ | ⟨h5,h6,h7⟩
    · exact h5 d hd
    · exact h3 _ (.inr ⟨h6,bfs_len hS.small hm8 (by omega)⟩)
  ·
   refine .inr ⟨h2,?_,fun d hd=>?_⟩
   ·
    rcases h3 with h3 | h3
    · exact (circTo_succ _).2 (.inl h3)
    · exact (circTo_succ _).2 (.inr h3.1)
   ·
    rcases (circTo_succ d).1 hd with hd | hd
    · exact h4 d (.inl hd)
    ·
     rcases least_bfs hS (by omega) hd.1 with ⟨_,h5⟩ | ⟨h5,h6,h7⟩
     · exact absurd hd (h5 d)
     · exact sle_trans (h4 _ (.inr ⟨h6,bfs_len hS.small hm8 (by omega)⟩)) (h7 d hd)
theorem rend_eq {S:Sch} (hS:Fit S):rendF S=endF S:=least_unique (rendM_least hS _ (Nat.le_refl _)) (endF_least hS _ (Nat.le_refl _))
theorem out_iff {S:Sch} (hS:Fit S) (h0:(liveS S).testBit 0=true):outB (reachS S) (liveS S)=true↔stuckF S≠[]:=by
 have hm0:0<S.modes.toNat:=by have:=hS.m0;omega
 have hm8:S.modes.toNat≤8:=by have:=hS.m1;omega
 unfold outB stuckF
 rw [if_pos h0,List.any_eq_true]
 constructor
 ·
  rintro ⟨m,_,hm⟩
  simp only [Bool.and_eq_true,Bool.not_eq_true'] at hm
  rw [reachS_eq] at hm
  obtain ⟨c,hc⟩:=(reach_spec hS hm0).1 hm.1
  have hcn:c≠[]:=by
   rintro rfl
   cases hc
   rw [h0] at hm;cases hm.2
  intro hb
  rcases bfs_spec (use:=fun _=>true) (goal:=255 - liveS S) hS.small hm8 hm0 with ⟨_,h2⟩ | ⟨h1,_⟩
  ·
   have:=h2 c m hcn hc
   rw [goal_bit hS (leads_lt hS hm0 hc),deadM,hm.2] at this;cases this
  · exact h1.ne hb
 ·
  intro hb
  rcases bfs_spec (use:=fun _=>true) (goal:=255 - liveS S) hS.small hm8 hm0 with ⟨h1,_⟩ | ⟨h1,_⟩
  · exact absurd h1 hb
  ·
   obtain ⟨g,hg,hgb⟩:=h1.is
   have hlt:=leads_lt hS hm0 hg
   rw [goal_bit hS hlt,deadM] at hgb
   refine ⟨g,by simp;omega,?_⟩
   rw [hgb,reachS_eq,(reach_spec hS hm0).2 ⟨_,hg⟩];rfl
theorem rsound_eq {S:Sch} (hS:validB S=true→Fit S):rsoundF S=soundF S:=by
 unfold rsoundF soundF
 by_cases h:validB S=true
 ·
  rw [if_pos h,if_pos h]
  by_cases h0:(liveS S).testBit 0=true
  ·
   rw [if_pos h0,if_pos h0,rstuck_eq (hS h),rend_eq (hS h)]
   by_cases h1:stuckF S=[]
   · rw [if_pos h1,if_neg (fun h2=>(out_iff (hS h) h0).1 h2 h1)]
   · rw [if_neg h1,if_pos ((out_iff (hS h) h0).2 h1)]
  · rw [if_neg h0,if_neg h0]
 · rw [if_neg h,if_neg h]
end Go.Proofs.YthjmdgejnakcmaaGreatDoor.Fl
namespace Go.Proofs.YthjmdgejnakcmaaGreatDoor.Fl
set_option linter.unusedVariables false
set_option linter.unusedSimpArgs false
def rl (f t:Int) (i:List UInt8):Rl:=⟨f,t,⟨i.toArray⟩,⟨#[]⟩,0⟩
def SA:Sch:=⟨2,1,[rl 0 0 [97],rl 0 1 [98]]⟩
def SE:Sch:=⟨0,0,[]⟩
def eqRl' (r q:Rl):Bool:=decide (r.frm=q.frm) && (decide (r.dst=q.dst) && (decide (r.inp.data.toList=q.inp.data.toList) && (decide (r.out.data.toList=q.out.data.toList) && decide (r.cost=q.cost))))
theorem eqRl_eq (r q:Rl):eqRl r q=eqRl' r q:=by
 unfold eqRl eqRl';simp only [ByteArray.toList_eq]
def validC (S:Sch):Bool:=headB S && (List.range S.rules.length).all fun i=>match S.rules[i]? with | some r=>rightB S.modes r && !(S.rules.take i).any (eqRl' r) | none=>true
theorem validB_iff (S:Sch):validB S=true↔Valid S:=by simp [validB]
theorem valid_of {S:Sch} (h:validC S=true):validB S=true:=by
 unfold validC at h
 rw [Bool.and_eq_true,List.all_eq_true] at h
 rw [validB_iff]
 refine ⟨h.1,fun i hi _=>?_⟩
 have:=h.2 i (by simpa using hi)
 rw [List.getElem?_eq_getElem hi] at this
 unfold goodAt
 have e:(S.rules.take i).any (eqRl S.rules[i])=(S.rules.take i).any (eqRl' S.rules[i]):=by congr 1;funext q;exact eqRl_eq _ _
 rw [e];exact this
theorem fit_of {S:Sch} (h:validB S=true) (ha:0≤S.acc) (hb:S.acc≤255):Fit S:=by
 have hv:Valid S:=(validB_iff S).1 h
 have h1:=hv.1
 unfold headB at h1
 simp only [Bool.and_eq_true,decide_eq_true_eq] at h1
 refine ⟨h1.1,h1.2.1,ha,hb,h1.2.2.1,fun i hi=>?_⟩
 have h2:=hv.2 i hi hi
 unfold goodAt rightB at h2
 simp only [Bool.and_eq_true,decide_eq_true_eq] at h2
 exact ⟨h2.1.1,h2.1.2.1,h2.1.2.2.1,h2.1.2.2.2.1⟩
theorem vA:validB SA=true:=valid_of (by decide +kernel)
theorem vE:validB SE=false:=by
 cases hb:validB SE with
 | false=>rfl
 | true=>exact absurd ((validB_iff SE).1 hb).1 (by decide +kernel)
end Go.Proofs.YthjmdgejnakcmaaGreatDoor.Fl
namespace Go.Proofs.YthjmdgejnakcmaaGreatDoor.Fl
open Go.RowKit
set_option linter.unusedVariables false
set_option linter.unusedSimpArgs false
theorem base_valid (j:Nat) (hj:j<6):validB (baseS j)=true:=by
 rcases (show j=0∨j=1∨j=2∨j=3∨j=4∨j=5 by omega) with rfl | rfl | rfl | rfl | rfl | rfl <;> exact valid_of (by decide +kernel)
theorem base_sound (j:Nat) (hj:j<6):soundF (baseS j)=0:=by
 rw [soundF,if_pos (base_valid j hj)]
 rcases (show j=0∨j=1∨j=2∨j=3∨j=4∨j=5 by omega) with rfl | rfl | rfl | rfl | rfl | rfl <;> rw [if_pos (by decide +kernel),if_neg (by decide +kernel),if_pos (by decide +kernel)]
theorem set3_ne {w:World} {g q:Nat} {x y z:Value} (h:q≠g):(((w.setCell ⟨g,0,none⟩ x).setCell ⟨g,1,none⟩ y).setCell ⟨g,2,none⟩ z).heap[q]? = w.heap[q]?:=by
 rw [Below.heap_setCell _ _ _ _ h,Below.heap_setCell _ _ _ _ h,Below.heap_setCell _ _ _ _ h]
theorem
    RulS.apart {w w1:World} {a:Option Addr} {R:List Rl} {g:Nat} {x y z:Value} {t:TypeId} {f:Nat × Nat} (h:RulS w a R) (hg:w.heap[g]? = some (.cells #[x,y,z] t f)) (hk:∀ q,q≠g→w1.heap[q]? = w.heap[q]?) (hz:w.heap.size≤w1.heap.size):RulS w1 a R:=by
 rcases h with h | ⟨b,o,ha,hb,hc⟩
 · exact .inl h
 ·
  by_cases h0:R=[]
  · exact .inl h0
  ·
   have hne:b≠g:=fun e=>by
    have h5:=hc 0 (List.length_pos_iff.2 h0)
    obtain ⟨_,_,_,_,h4⟩:=h5
    rw [e,cell_of_row w g _ _ _ f hg] at h4
    have:(#[x,y,z]:Array Value)[o+0*5+4]? = none:=Array.getElem?_eq_none (by simp)
    rw [this] at h4
    cases h4
   have hcl:∀ i,w1.cell? ⟨b,i,none⟩=w.cell? ⟨b,i,none⟩:=fun i=>World.cell?_of_block (hk b hne)
   refine .inr ⟨b,o,ha,by omega,fun i hi=>?_⟩
   obtain ⟨h1,h2,h3,h4,h5⟩:=hc i hi
   exact ⟨(hcl _).trans h1,(hcl _).trans h2,(hcl _).trans h3,(hcl _).trans h4,(hcl _).trans h5⟩
structure SafeS (w:World) (S:Sch) (b:Option Addr) (c:Nat):Prop where
 valid:validB S=true
 sound:soundF S=0
 acc:S.acc=1
 mod:1≤S.modes∧S.modes≤2
 len:S.rules.length≤9
 cap:S.rules.length≤c
 rul:RulS w b S.rules
def SafeP (w:World) (e:Ending) (w':World):Prop:=∃ (S:Sch) (b:Option Addr) (c:Nat),e=.returned (.agg #[.int .i64 S.modes,.int .u8 S.acc,.slice b S.rules.length c])∧SafeS w' S b c∧Below w.heap.size w w'
set_option maxHeartbeats 3200000 in
set_option maxRecDepth 100000 in
theorem safe_any (x0 x1:Int) (a:Option Addr) (len cap:Nat) (Q:Nat→RR) (w:World) (h00:0≤x0) (h01:x0≤255) (h10:0≤x1) (h11:x1≤255) (hQ:RawRows w a len Q) :
  Calls Tryz.prog 10 #[.agg #[.int .u8 x0,.int .u8 x1,.slice a len cap]] w (SafeP w):=by
 have HQ:=Lib.hid hQ;clear hQ
 go_enter Tryz.func10,Tryz.ntmps10
 go_wp2_with fail
 obtain ⟨w1,hw1⟩:∃ w1,(w.alloc (.cells #[.int .u8 x0,.int .u8 x1,.slice a len cap] 24)).alloc (.cells #[.int .i64 0,.int .u8 0,.slice none 0 0] 32)=w1:=⟨_,rfl⟩
 rw [hw1]
 have HX1:Hid (Ext w w1):=by show Ext _ _;rw [← hw1];exact ((Below.refl _ _).alloc (Nat.le_refl _) _).alloc (by simp only [World.size_alloc];omega) _
 have HR1:Hid (w1.heap[w.heap.size]? = some (.cells #[.int .u8 x0,.int .u8 x1,.slice a len cap] 24 (0,0))):=by
  show _=_
  rw [← hw1,Below.heap_alloc _ _ _ (by simp only [World.size_alloc];omega)]
  exact heap_alloc_new _ _
 have HS1:Hid (w1.heap[w.heap.size+1]? = some (.cells #[.int .i64 0,.int .u8 0,.slice none 0 0] 32 (0,0))):=by
  show _=_
  rw [← hw1]
  have h:=heap_alloc_new (w.alloc (.cells #[.int .u8 x0,.int .u8 x1,.slice a len cap] 24)) (.cells #[.int .i64 0,.int .u8 0,.slice none 0 0] 32)
  rw [World.size_alloc] at h
  exact h
 have HZ1:Hid (w.heap.size+1<w1.heap.size):=(Array.getElem?_eq_some_iff.1 HS1.out).1
 clear hw1
 refine (made2_any x0 x1 a len cap Q w1 h00 h01 h10 h11 (HQ.out.later HX1.out (Nat.le_refl _))).mono ?_
 rintro e w2 ⟨S,b,c,rfl,hm1,hm2,hac,hl9,hrul,hcap,hb⟩
 have HRU:=Lib.hid hrul;have HB2:=Lib.hid hb
 have HFS:Hid (validB S=true→Fit S):=fun h=>fit_of h (by rw [hac];decide) (by rw [hac];decide)
 have HAC:=Lib.hid hac
 clear hrul hb hac
 go_wp2_with (fail)
 obtain ⟨w4,hw4⟩:∃ w4,w2.alloc (.cells #[.int .i64 S.modes,.int .u8 S.acc,.slice b S.rules.length c] 32)=w4:=⟨_,rfl⟩
 have HB4:Hid (Ext w2 w4):=by show Ext _ _;rw [← hw4];exact (Below.refl _ _).alloc (Nat.le_refl _) _
 have HS4:Hid (w4.heap[w2.heap.size]? = some (.cells #[.int .i64 S.modes,.int .u8 S.acc,.slice b S.rules.length c] 32 (0,0))):=by show _=_;rw [← hw4];exact heap_alloc_new _ _
 rw [hw4]
 clear hw4
 have HW4:Hid (Below w.heap.size w w4):=(HX1.out.trans HB2.out).trans HB4.out
 refine (rsound_any S b c w4 (HRU.out.later HB4.out (Nat.le_refl _)) (by rw [HAC.out];decide) (by rw [HAC.out];decide) (by omega) HFS.out).mono ?_
 rw [rsound_eq HFS.out]
 rintro e w5 ⟨rfl,hb5⟩
 have HB5:=Lib.hid hb5
 have HS5:=Lib.hid ((hb5.block _ (Array.getElem?_eq_some_iff.1 HS4.out).1).trans HS4.out)
 have HW5:Hid (Below w.heap.size w w5):=HW4.out.trans (hb5.mono HW4.out.size)
 have H15:Hid (Below w1.heap.size w1 w5):=(HB2.out.trans (HB4.out.mono HB2.out.size)).trans (hb5.mono (Nat.le_trans HB2.out.size HB4.out.size))
 obtain ⟨c0,c1,c2⟩:=cells3 HS5.out
 have HR5:=Lib.hid ((H15.out.block _ (by have:=HZ1.out;omega)).trans HR1.out)
 have HT5:=Lib.hid ((H15.out.block _ HZ1.out).trans HS1.out)
 obtain ⟨r0,r1,r2⟩:=cells3 HR5.out
 obtain ⟨t0,t1,t2⟩:=cells3 HT5.out
 have tf:∀ i,w5.frozen? ⟨w.heap.size+1,i,none⟩=false:=fun i=>by simp [World.frozen?,HT5.out]
 clear hb5
 obtain ⟨sd,hsd⟩:∃ sd,soundF S=sd:=⟨_,rfl⟩
 have HSD:=Lib.hid hsd
 rw [hsd]
 clear hsd
 by_cases h0:sd=0
 ·
  have hne:(sd != 0)=false:=by simp [h0]
  have hva:Hid (validB S=true):=by
   show _=_
   cases hv:validB S with
   | true=>rfl
   | false=>have h:=HSD.out;rw [soundF,if_neg (by rw [hv];simp)] at h;omega
  have HSD0:Hid (soundF S=0):=HSD.out.trans h0
  clear h0
  go_wp2_with fail
  obtain ⟨q0,q1,q2⟩:=cells3 (set3 (a:=.int .i64 S.modes) (b:=.int .u8 S.acc) (c:=.slice b S.rules.length c) HT5.out)
  refine bodyPost_ret (v:=.agg #[.int .i64 S.modes,.int .u8 S.acc,.slice b S.rules.length c]) (by simp [results,Tryz.results10,go_sem,q0,q1,q2]) rfl ⟨S,b,c,rfl,⟨hva.out,HSD0.out,HAC.out,⟨hm1,hm2⟩,hl9,hcap,?_⟩,?_⟩
  · exact RulS.apart (HRU.out.later (Ext.trans HB4.out HB5.out) (Nat.le_refl _)) HT5.out (fun q hq=>set3_ne hq) (by simp only [World.size_setCell];exact Nat.le_refl _)
  · exact ((HW5.out.setCell (by show w.heap.size≤w.heap.size+1;omega) _).setCell (by show w.heap.size≤w.heap.size+1;omega) _).setCell (by show w.heap.size≤w.heap.size+1;omega) _
 ·
  have hne:(sd != 0)=true:=by simp [h0]
  clear h0
  go_wp2_with fail
  clear c0 c1 c2 r0 r1 r2 t0 t1 t2 tf
  refine (base_any x0 w5 h00 h01).mono ?_
  rintro e w6 ⟨S2,b2,n2,rfl,rfl,hm3,hm4,hac2, -,hl5,hown,hb6,j,hj, -,hS2⟩
  have HT6:=Lib.hid ((hb6.block _ (Array.getElem?_eq_some_iff.1 HT5.out).1).trans HT5.out)
  obtain ⟨t0,t1,t2⟩:=cells3 HT6.out
  have tf:∀ i,w6.frozen? ⟨w.heap.size+1,i,none⟩=false:=fun i=>by simp [World.frozen?,HT6.out]
  have HOW:=Lib.hid hown;have HB6:=Lib.hid hb6;have HE:=Lib.hid hS2;have HAC2:=Lib.hid hac2
  clear hown hb6 hS2 hac2
  go_wp2_with fail
  obtain ⟨q0,q1,q2⟩:=cells3 (set3 (a:=.int .i64 S2.modes) (b:=.int .u8 S2.acc) (c:=.slice b2 S2.rules.length S2.rules.length) HT6.out)
  refine bodyPost_ret (v:=.agg #[.int .i64 S2.modes,.int .u8 S2.acc,.slice b2 S2.rules.length S2.rules.length]) (by simp [results,Tryz.results10,go_sem,q0,q1,q2]) rfl ⟨S2,b2,_,rfl,⟨by rw [HE.out];exact base_valid j hj,by rw [HE.out];exact base_sound j hj,HAC2.out,⟨hm3,hm4⟩,by omega,Nat.le_refl _,?_⟩,?_⟩
  · exact RulS.apart HOW.out.ruls.1 HT6.out (fun q hq=>set3_ne hq) (by simp only [World.size_setCell];exact Nat.le_refl _)
  · exact (((HW5.out.trans (HB6.out.mono HW5.out.size)).setCell (by show w.heap.size≤w.heap.size+1;omega) _).setCell (by show w.heap.size≤w.heap.size+1;omega) _).setCell (by show w.heap.size≤w.heap.size+1;omega) _
end Go.Proofs.YthjmdgejnakcmaaGreatDoor.Fl
namespace Go.Proofs.YthjmdgejnakcmaaGreatDoor.Fl
set_option linter.unusedVariables false
set_option linter.unusedSimpArgs false
open Go.ChangeShapes Go.WideShapes Go.ChangeAt Go.RowKit
structure Raw2A where
 M:Int
 A:Int
 a:Option Addr
 len:Nat
 cap:Nat
 Q:Nat→RR
structure Raw2Ok (w:World) (x:Raw2A):Prop where
 m0:0≤x.M
 m1:x.M≤255
 a0:0≤x.A
 a1:x.A≤255
 rows:RawRows w x.a x.len x.Q
instance:Inhabited RR:=⟨⟨none,0,0,none,0,0,0,0,0,fun _=>0,fun _=>0⟩⟩
section
variable {H:Type} {enc:TypeId × Value→H} {w:World} {base:Nat} {spare:Nat→Bool} {held:Bool} {d:DataW H} {p:List MemPlace} {r:Reach} {b0:Nat} {v:Value}
end
end Go.Proofs.YthjmdgejnakcmaaGreatDoor.Fl
