/- Contracts of package flaw: dead, stuck, follow. -/
import Derived.Test.YtogjcfcfgnbmkaaFirst
namespace Go.Proofs.Ytogjcfcfgnbmkaa
open Go.RowKit
set_option linter.unusedVariables false
set_option linter.unusedSimpArgs false

def deadB (A B : Nat) (r : Rl) : Bool := !A.testBit r.frm.toNat || !B.testBit r.dst.toNat
theorem dead_any (r : Rl) (A B : Nat) (w : World) (hA : A < 256) (hB : B < 256) (f0 : 0 ≤ r.frm) (f1 : r.frm < 8) (t0 : 0 ≤ r.dst) (t1 : r.dst < 8) :
    Calls Try.prog 41 #[.agg #[.int .i64 r.frm, .int .i64 r.dst, .string r.inp, .string r.out, .int .i64 r.cost], .int .u8 (A : Int), .int .u8 (B : Int)] w fun e w' => e = .returned (.bool (deadB A B r)) ∧ Below w.heap.size w w' := by
  have hs := has_any A r.frm
  have hs2 := has_any B r.dst
  by_cases h : A.testBit r.frm.toNat = true
  · have HH := Lib.hid h
    obtain ⟨o, ho⟩ : ∃ o, B.testBit r.dst.toNat = o := ⟨_, rfl⟩
    have HE : Hid (deadB A B r = !o) := by show _ = _; unfold deadB; rw [h, ho]; rfl
    have HO := Lib.hid ho; clear h ho
    go_enter Try.func41, Try.ntmps41
    go_wp2_with (first
      | (go_at_call 44; refine (hs _ hA f0 f1).mono ?_; rintro e w' ⟨he, rfl⟩; rw [HH.out] at he; subst he; clear hs)
      | (go_at_call 44; refine (hs2 _ hB t0 t1).mono ?_; rintro e w' ⟨he, rfl⟩; rw [HO.out] at he; subst he))
    go_ret
    exact ⟨ret_bool HE.out.symm, by go_grown⟩
  · have h' : A.testBit r.frm.toNat = false := by simpa using h
    have HH := Lib.hid h'
    have HE : Hid (deadB A B r = true) := by show _ = _; unfold deadB; rw [h']; rfl
    clear h h'
    go_enter Try.func41, Try.ntmps41
    go_wp2_with (first
      | (go_at_call 44; refine (hs _ hA f0 f1).mono ?_; rintro e w' ⟨he, rfl⟩; rw [HH.out] at he; subst he; clear hs))
    go_ret
    exact ⟨ret_bool HE.out.symm, by go_grown⟩

theorem liveM_lt {S : Sch} (hS : Fit S) : liveM S.eds S.modes.toNat S.acc.toNat < 256 := by
  have : ∀ n, iterN (fun L => S.eds.foldl stepL L) n S.acc.toNat < 256 := by
    intro n
    induction n with
    | zero => show S.acc.toNat < 256; have := hS.a0; have := hS.a1; omega
    | succ n ih => exact foldL_lt _ _ hS.within ih
  exact this _
theorem reachedM_lt {S : Sch} (hS : Fit S) : reachedM S.eds S.modes.toNat < 256 := by
  have : ∀ n, iterN (fun L => S.eds.foldl stepR L) n 1 < 256 := by
    intro n
    induction n with
    | zero => show 1 < 256; omega
    | succ n ih => exact foldR_lt _ _ hS.within ih
  exact this _

theorem xor_mask {L : Nat} (h : L < 256) : bits BinOp.xor IntKind.u8 IntKind.u8.max (L : Int) = ((255 - L : Nat) : Int) := by
  have : ∀ L : Nat, L < 256 → bits BinOp.xor IntKind.u8 IntKind.u8.max (L : Int) = ((255 - L : Nat) : Int) := by decide +kernel
  exact this L h
theorem first_at (fid : Nat) (use : Rl → Bool) (huse : ∀ (r : Rl) (w : World), Calls Try.prog fid #[.agg #[.int .i64 r.frm, .int .i64 r.dst, .string r.inp, .string r.out, .int .i64 r.cost]] w fun e w' => e = .returned (.bool (use r)) ∧ Below w.heap.size w w')
    (hcf : ∀ (args : Array Value) (w : World), (callFunc fid args).run Try.prog w = .ok (.enter fid args) w)
    (S : Sch) (a : Option Addr) (cap start goal : Nat) (st gl : Int) (hst : st = (start : Int)) (hgl : gl = (goal : Int)) (w : World) (hR : RulS w a S.rules) (hS : Fit S) (hs : start < 8) (hgoal : goal < 256) :
    Calls Try.prog 55 #[.agg #[.int .i64 S.modes, .int .u8 S.acc, .slice a S.rules.length cap], .int .i64 st, .int .u8 gl, .func (.func fid) #[] #[]] w fun e w' => ∃ v, e = .returned v ∧ ChN w' w.heap.size v (bfs use goal S.rules start) ∧ Below w.heap.size w w' := by
  subst hst hgl; exact first_any fid use huse hcf S a cap start goal w hR hS hs hgoal
def liveS (S : Sch) : Nat := liveM S.eds S.modes.toNat S.acc.toNat
def reachS (S : Sch) : Nat := reachedM S.eds S.modes.toNat
def stuckF (S : Sch) : List Nat := if (liveS S).testBit 0 then bfs (fun _ => true) (255 - liveS S) S.rules 0 else []
def emptyR (r : Rl) : Bool := decide (r.inp.size = 0)

set_option maxHeartbeats 800000 in
theorem stuck_any (S : Sch) (a : Option Addr) (cap : Nat) (w : World) (hR : RulS w a S.rules) (hS : Fit S) :
    Calls Try.prog 37 #[.agg #[.int .i64 S.modes, .int .u8 S.acc, .slice a S.rules.length cap]] w fun e w' => ∃ v, e = .returned v ∧ ChN w' w.heap.size v (stuckF S) ∧ Below w.heap.size w w' := by
  have hl : liveS S < 256 := liveM_lt hS
  obtain ⟨L, hL⟩ : ∃ L, liveS S = L := ⟨_, rfl⟩
  rw [hL] at hl
  have HL := Lib.hid hL; have HR := Lib.hid hR; have HS := Lib.hid hS; clear hL hR hS
  have h0 := has_any L 0
  by_cases ht : L.testBit 0 = true
  · have HT := Lib.hid ht
    have HX := Lib.hid (xor_mask hl)
    have HE : Hid (bfs (fun _ => true) (255 - L) S.rules 0 = stuckF S) := by show _ = _; unfold stuckF; rw [HL.out, ht]; rfl
    clear ht
    go_enter Try.func37, Try.ntmps37
    go_wp2_with (first
      | (go_at_call 40; refine (live_any S a cap _ (HR.out.later (by go_grown) (Nat.le_refl _)) HS.out).mono ?_; rintro e w1 ⟨he, hb⟩; rw [show liveM S.eds S.modes.toNat S.acc.toNat = L from HL.out] at he; subst he; obtain ⟨hz, hc, hf⟩ := bcell hb (by first | (simp only [World.size_alloc, World.size_setCell, World.size_drew]; rfl) | rfl); have hB := below_call (B := w.heap.size) (w := w) (by go_grown) hb (Nat.le_refl _); clear hb)
      | (go_at_call 44; refine (h0 _ hl (by omega) (by omega)).mono ?_; rintro e w' ⟨he, rfl⟩; rw [show L.testBit (0 : Int).toNat = true from HT.out] at he; subst he)
      | (go_at_call 55; refine (first_at 46 (fun _ => true) any_any (fun _ _ => rfl) S a cap 0 (255 - L) _ _ rfl HX.out _ (HR.out.later hB (Nat.le_refl _)) HS.out (by omega) (by omega)).mono ?_; rintro e w2 ⟨v, rfl, hch, hb⟩; have hch2 := hch.1.mono hB.size; have HN2 := Lib.hid hch.2; have hB2 := below_call (B := w.heap.size) (w := w) hB hb (Nat.le_refl _); clear hb))
    go_ret
    exact ⟨_, rfl, by rw [← HE.out]; exact ⟨hch2, HN2.out⟩, hB2⟩
  · have ht' : L.testBit 0 = false := by simpa using ht
    have HT := Lib.hid ht'
    have HE : Hid ([] = stuckF S) := by show _ = _; unfold stuckF; rw [HL.out, ht']; rfl
    clear ht ht'
    go_enter Try.func37, Try.ntmps37
    go_wp2_with (first
      | (go_at_call 40; refine (live_any S a cap _ (HR.out.later (by go_grown) (Nat.le_refl _)) HS.out).mono ?_; rintro e w1 ⟨he, hb⟩; rw [show liveM S.eds S.modes.toNat S.acc.toNat = L from HL.out] at he; subst he; obtain ⟨hz, hc, hf⟩ := bcell hb (by first | (simp only [World.size_alloc, World.size_setCell, World.size_drew]; rfl) | rfl); have hB := below_call (B := w.heap.size) (w := w) (by go_grown) hb (Nat.le_refl _); clear hb)
      | (go_at_call 44; refine (h0 _ hl (by omega) (by omega)).mono ?_; rintro e w' ⟨he, rfl⟩; rw [show L.testBit (0 : Int).toNat = false from HT.out] at he; subst he))
    go_ret
    exact ⟨_, rfl, by rw [← HE.out]; exact ⟨Ch.nil _ _, fun _ => rfl⟩, hB⟩

/-! ### follow -/
def followF (use : Rl → Bool) (R : List Rl) : Int → List Int → Option Int
  | m, [] => some m
  | m, i :: c => if h : 0 ≤ i ∧ i.toNat < R.length then (if R[i.toNat].frm = m ∧ use R[i.toNat] = true then followF use R R[i.toNat].dst c else none) else none
def optV (o : Option Int) : Value := match o with | some m => .tuple #[.int .i64 m, .bool true] | none => .tuple #[.int .i64 0, .bool false]
theorem follow_bad1 {use : Rl → Bool} {R : List Rl} {m : Int} {C : List Int} {k : Nat} (hk : k < C.length) (h : ¬ (0 ≤ C[k] ∧ C[k].toNat < R.length)) : followF use R m (C.drop k) = none := by
  rw [List.drop_eq_getElem_cons hk, followF, dif_neg h]
theorem follow_bad2 {use : Rl → Bool} {R : List Rl} {m : Int} {C : List Int} {k : Nat} (hk : k < C.length) (h : 0 ≤ C[k] ∧ C[k].toNat < R.length) (h2 : ¬ ((R[C[k].toNat]'h.2).frm = m ∧ use (R[C[k].toNat]'h.2) = true)) : followF use R m (C.drop k) = none := by
  rw [List.drop_eq_getElem_cons hk, followF, dif_pos h, if_neg h2]
theorem follow_good {use : Rl → Bool} {R : List Rl} {m : Int} {C : List Int} {k : Nat} (hk : k < C.length) (h : 0 ≤ C[k] ∧ C[k].toNat < R.length) (h2 : (R[C[k].toNat]'h.2).frm = m ∧ use (R[C[k].toNat]'h.2) = true) : followF use R m (C.drop k) = followF use R (R[C[k].toNat]'h.2).dst (C.drop (k + 1)) := by
  rw [List.drop_eq_getElem_cons hk, followF, dif_pos h, if_pos h2]
set_option maxHeartbeats 1600000 in
theorem follow_any (fid : Nat) (use : Rl → Bool) (huse : ∀ (r : Rl) (w : World), Calls Try.prog fid #[.agg #[.int .i64 r.frm, .int .i64 r.dst, .string r.inp, .string r.out, .int .i64 r.cost]] w fun e w' => e = .returned (.bool (use r)) ∧ Below w.heap.size w w')
    (hcf : ∀ (args : Array Value) (w : World), (callFunc fid args).run Try.prog w = .ok (.enter fid args) w)
    (S : Sch) (a : Option Addr) (cap : Nat) (m : Int) (b : Option Addr) (C : List Int) (cc : Nat) (w : World) (hR : RulS w a S.rules) (hl : S.rules.length ≤ 64) (hC : SlS w b C) (hCl : C.length ≤ 100000) :
    Calls Try.prog 45 #[.agg #[.int .i64 S.modes, .int .u8 S.acc, .slice a S.rules.length cap], .int .i64 m, .slice b C.length cc, .func (.func fid) #[] #[]] w fun e w' => e = .returned (optV (followF use S.rules m C)) ∧ Below w.heap.size w w' := by
  have HU := Lib.hid huse; have HR := Lib.hid hR; have HC := Lib.hid hC; clear huse hR hC
  go_enter Try.func45, Try.ntmps45
  go_wp2
  go_loopw [1, 14] (fun mv i wr => ∃ (k : Nat) (t : Int), k ≤ C.length ∧ i = .int .i64 k ∧ mv = .int .i64 t ∧ followF use S.rules t (C.drop k) = followF use S.rules m C ∧ Below (w.heap.size + 1) (w.alloc (.cells #[.int .i64 S.modes, .int .u8 S.acc, .slice a S.rules.length cap] 33)) wr) (fun _ i _ => C.length - (intOf i).toNat)
  case atStart => exact ⟨0, m, by omega, rfl, rfl, rfl, Below.refl _ _⟩
  case round =>
    obtain ⟨k, t, hk, rfl, rfl, hfo, hal⟩ := hrel
    have HF := Lib.hid hfo; clear hfo
    have hB : Below w.heap.size w wr := ((Below.refl _ _).alloc (Nat.le_refl _) _).trans (hal.mono (by omega))
    obtain ⟨hz, hc, hf⟩ := bcellB hal rfl
    simp only [World.size_alloc] at hz
    by_cases hlt : k < C.length
    · obtain ⟨b', o', ha', hb', q'⟩ := (HC.out.later hB (Nat.le_refl _)).at hlt
      have hidx' := idx_ints b b' o' C.length cc k ha' hlt
      have HA' := Lib.hid ha'; clear ha'
      by_cases h1 : C[k] < 0
      · have HN := Lib.hid (follow_bad1 (use := use) (R := S.rules) (m := t) hlt (by omega))
        have HN2 : Hid (followF use S.rules m C = none) := HF.out.symm.trans HN.out
        go_wp2
        go_ret2
        exact ⟨by rw [HN2.out]; rfl, hB⟩
      by_cases h2 : (S.rules.length : Int) ≤ C[k]
      · have HN := Lib.hid (follow_bad1 (use := use) (R := S.rules) (m := t) hlt (by omega))
        have HN2 : Hid (followF use S.rules m C = none) := HF.out.symm.trans HN.out
        go_wp2
        go_ret2
        exact ⟨by rw [HN2.out]; rfl, hB⟩
      obtain ⟨n, hn⟩ := Int.eq_ofNat_of_zero_le (show 0 ≤ C[k] by omega)
      have hnl : n < S.rules.length := by omega
      obtain ⟨b2, o2, ha2, hb2, q0, q1, q2, q3, q4⟩ := (HR.out.later hB (Nat.le_refl _)).at hnl
      have hidx := idx_rules a b2 o2 S.rules.length cap n ha2 hnl
      have HA := Lib.hid ha2; clear ha2
      have hok : Hid (0 ≤ C[k] ∧ C[k].toNat < S.rules.length) := ⟨by omega, by omega⟩
      have hnn : Hid (C[k].toNat = n) := by show _ = _; omega
      rw [hn] at q' h1 h2
      have HCN := Lib.hid hn; clear hn
      have hgr : Hid (S.rules[C[k].toNat]'hok.out.2 = S.rules[n]) := by show _ = _; congr 1
      by_cases h3 : S.rules[n].frm = t
      · have h3b : (S.rules[n].frm != t) = false := by simp [h3]
        have H3 := Lib.hid h3; clear h3
        by_cases h4 : use S.rules[n] = true
        · have H4 := Lib.hid h4; clear h4
          have HN2 : Hid (followF use S.rules S.rules[n].dst (C.drop (k + 1)) = followF use S.rules m C) := by
            show _ = _
            have := follow_good (use := use) (m := t) hlt hok.out (by rw [hgr.out]; exact ⟨H3.out, H4.out⟩)
            rw [hgr.out, HF.out] at this; exact this.symm
          go_wp2_with (refine (HU.out S.rules[n] _).mono ?_; rintro e w1 ⟨he, hb⟩; rw [H4.out] at he; subst he; obtain ⟨hz, hc, hf⟩ := bcell hb (by first | (simp only [World.size_alloc, World.size_setCell, World.size_drew]; rfl) | rfl); have hB := below_call (B := w.heap.size) (w := w) (by go_grown) hb (Nat.le_refl _); have hal := below_call (B := w.heap.size + 1) (w := w.alloc (.cells #[.int .i64 S.modes, .int .u8 S.acc, .slice a S.rules.length cap] 33)) (by go_grown) hb (by simp); clear hb)
          go_roundw
          case rel => exact ⟨k + 1, _, by omega, by go_num, rfl, HN2.out, hal⟩
          case measure => first | (simp [intOf]; done) | (simp [intOf]; omega)
        · have h4' : use S.rules[n] = false := by simpa using h4
          have H4 := Lib.hid h4'; clear h4 h4'
          have HN2 : Hid (followF use S.rules m C = none) := by
            show _ = _
            have := follow_bad2 (use := use) (m := t) hlt hok.out (by rw [hgr.out]; intro h; rw [H4.out] at h; exact absurd h.2 (by simp))
            rw [HF.out] at this; exact this
          go_wp2_with (refine (HU.out S.rules[n] _).mono ?_; rintro e w1 ⟨he, hb⟩; rw [H4.out] at he; subst he; obtain ⟨hz, hc, hf⟩ := bcell hb (by first | (simp only [World.size_alloc, World.size_setCell, World.size_drew]; rfl) | rfl); have hB := below_call (B := w.heap.size) (w := w) (by go_grown) hb (Nat.le_refl _); have hal := below_call (B := w.heap.size + 1) (w := w.alloc (.cells #[.int .i64 S.modes, .int .u8 S.acc, .slice a S.rules.length cap] 33)) (by go_grown) hb (by simp); clear hb)
          go_ret2
          exact ⟨by rw [HN2.out]; rfl, hB⟩
      · have h3b : (S.rules[n].frm != t) = true := by simp [h3]
        have HN2 : Hid (followF use S.rules m C = none) := by
          show _ = _
          have := follow_bad2 (use := use) (m := t) hlt hok.out (by rw [hgr.out]; intro h; exact h3 h.1)
          rw [HF.out] at this; exact this
        clear h3
        go_wp2
        go_ret2
        exact ⟨by rw [HN2.out]; rfl, hB⟩
    · obtain rfl : k = C.length := by omega
      have HN2 : Hid (followF use S.rules m C = some t) := by
        show _ = _
        have := HF.out
        rw [List.drop_length, followF] at this; exact this.symm
      go_wp2
      go_ret2
      exact ⟨by rw [HN2.out]; rfl, hB⟩
end Go.Proofs.Ytogjcfcfgnbmkaa
