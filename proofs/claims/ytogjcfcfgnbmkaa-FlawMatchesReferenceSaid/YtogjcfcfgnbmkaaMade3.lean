/- Contract of reference 02: Made. -/
import Derived.Test.YtogjcfcfgnbmkaaMade1
import Derived.Test.YtogjcfcfgnbmkaaMade2
namespace Go.Proofs.Ytogjcfcfgnbmkaa
open Go.RowKit
set_option linter.unusedVariables false
set_option linter.unusedSimpArgs false

/-- a raw rule that came in -/
structure RR where
  ai : Option Addr
  li : Nat
  ci : Nat
  ao : Option Addr
  lo : Nat
  co : Nat
  f : Int
  d : Int
  c : Int
  ZI : Nat → Int
  ZO : Nat → Int
structure RROk (w : World) (q : RR) : Prop where
  f0 : 0 ≤ q.f
  f1 : q.f ≤ 255
  d0 : 0 ≤ q.d
  d1 : q.d ≤ 255
  c0 : 0 ≤ q.c
  c1 : q.c ≤ 255
  i : IsBytes w q.ai q.li q.ZI
  o : IsBytes w q.ao q.lo q.ZO
def RawRows (w : World) (a : Option Addr) (len : Nat) (Q : Nat → RR) : Prop :=
  len = 0 ∨ ∃ b o, a = some ⟨b, o, none⟩ ∧ b < w.heap.size ∧ ∀ i, i < len → (w.cell? ⟨b, o + i * 5 + 0, none⟩ = some (.slice (Q i).ai (Q i).li (Q i).ci) ∧ w.cell? ⟨b, o + i * 5 + 1, none⟩ = some (.slice (Q i).ao (Q i).lo (Q i).co) ∧ w.cell? ⟨b, o + i * 5 + 2, none⟩ = some (.int .u8 (Q i).f) ∧ w.cell? ⟨b, o + i * 5 + 3, none⟩ = some (.int .u8 (Q i).d) ∧ w.cell? ⟨b, o + i * 5 + 4, none⟩ = some (.int .u8 (Q i).c)) ∧ RROk w (Q i)
theorem RROk.later {w w1 : World} {q : RR} {B : Nat} (h : RROk w q) (hb : Below B w w1) (hB : w.heap.size ≤ B) : RROk w1 q :=
  ⟨h.f0, h.f1, h.d0, h.d1, h.c0, h.c1, h.i.later hb hB, h.o.later hb hB⟩
theorem RawRows.later {w w1 : World} {a : Option Addr} {len : Nat} {Q : Nat → RR} {B : Nat} (h : RawRows w a len Q) (hb : Below B w w1) (hB : w.heap.size ≤ B) : RawRows w1 a len Q := by
  rcases h with h | ⟨b, o, ha, hlt, hr⟩
  · exact .inl h
  · have hc : ∀ k, w1.cell? ⟨b, k, none⟩ = w.cell? ⟨b, k, none⟩ := fun k => hb.cell (p := ⟨b, k, none⟩) (Nat.lt_of_lt_of_le hlt hB)
    refine .inr ⟨b, o, ha, Nat.lt_of_lt_of_le hlt hb.size, fun i hi => ⟨?_, (hr i hi).2.later hb hB⟩⟩
    rw [hc, hc, hc, hc, hc]
    exact (hr i hi).1
theorem RawRows.at {w : World} {a : Option Addr} {len : Nat} {Q : Nat → RR} (h : RawRows w a len Q) {k : Nat} (hk : k < len) : ∃ b o, a = some ⟨b, o, none⟩ ∧ b < w.heap.size ∧ w.cell? ⟨b, o + k * 5, none⟩ = some (.slice (Q k).ai (Q k).li (Q k).ci) ∧ w.cell? ⟨b, o + k * 5 + 1, none⟩ = some (.slice (Q k).ao (Q k).lo (Q k).co) ∧ w.cell? ⟨b, o + k * 5 + 2, none⟩ = some (.int .u8 (Q k).f) ∧ w.cell? ⟨b, o + k * 5 + 3, none⟩ = some (.int .u8 (Q k).d) ∧ w.cell? ⟨b, o + k * 5 + 4, none⟩ = some (.int .u8 (Q k).c) ∧ RROk w (Q k) := by
  rcases h with h | ⟨b, o, ha, hlt, hr⟩
  · omega
  · obtain ⟨⟨h0, h1, h2, h3, h4⟩, h5⟩ := hr k hk
    exact ⟨b, o, ha, hlt, h0, h1, h2, h3, h4, h5⟩
theorem idx_raws (a : Option Addr) (b o len cap k : Nat) (ha : a = some ⟨b, o, none⟩) (hk : k < len) (w : World) :
    (Instr.indexAt 25 (.slice a len cap) (.int .i64 (k : Int))).run Try.prog w = .ok (.pointer (some ⟨b, o + k * 5, none⟩)) w := by
  subst ha
  have h0 : (0 : Int) ≤ (k : Int) := by omega
  have h1 : (k : Int) < (len : Int) := by omega
  simp [go_sem, h0, h1]
/-- a rule as a value -/
def RlV (v : Value) (_ : World) : Prop := ∃ r : Rl, v = .agg #[.int .i64 r.frm, .int .i64 r.dst, .string r.inp, .string r.out, .int .i64 r.cost]
theorem rlV_stays : Stays RlV := fun _ _ _ h _ => h
/-- a row of one rule -/
def RowOneE (v0 : Value) (v : Value) (W : World) : Prop := ∃ r : Rl, RowOne v0 r v W
theorem rowOneE_stays (v0 : Value) : Stays (RowOneE v0) := by
  rintro v w w' ⟨r, h⟩ hx
  exact ⟨r, rowOne_stays v0 r v w w' h hx⟩
theorem rowOneE_grown (v0 : Value) : ∀ v w w', RowOneE v0 v w → World.grownBy w w' v0.ownBlock → RowOneE v0 v w' := by
  rintro v w w' ⟨r, h⟩ hx
  exact ⟨r, rowOne_grown v0 r v w w' h hx⟩
/-- the row behind the append -/
def OwnSn (B : Nat) (R : List Rl) (v : Value) (W : World) : Prop := ∃ r : Rl, OwnR W B v (R ++ [r])
theorem ownSn_stays (B : Nat) (R : List Rl) : Stays (OwnSn B R) := by
  rintro v w w' ⟨r, h⟩ hx
  exact ⟨r, h.below hx h.lt⟩
/-- the scheme that is being built -/
structure MX (wl : World) (B0 gt : Nat) (mo ac : Int) (v : Value) (R : List Rl) (wr : World) : Prop extends TX0 wl B0 gt mo ac v wr where
  row : RowP wr B0 v R
theorem RowP.ne_of {wr : World} {gt B : Nat} {v : Value} {T : List Rl} {cs : Array Value} (h : RowP wr B v T) (hr : wr.heap[gt]? = some (.cells cs 33 (0, 0))) : ∀ q, v.ownBlock = some q → q ≠ gt := by
  rcases h with h | ⟨g, r0, rfl, h1, h2⟩
  · exact h.ne_of hr
  · intro q hq e
    cases hq
    subst e
    rw [hr] at h2
    injection h2 with h2
    injection h2 with _ h2 _
    exact absurd h2 (by decide)
theorem ownR_full {w : World} {B : Nat} {a : Option Addr} {R : List Rl} (h : OwnR w B (.slice a R.length R.length) R) (hl : 1 ≤ R.length) : ∃ g, a = some ⟨g, 0, none⟩ ∧ B ≤ g ∧ w.heap[g]? = some (.cells (rcells R).toArray 29 (0, 0)) := by
  rcases h.2 with ⟨he, h0⟩ | ⟨g, cap', cur, he, p1, p2, p3, p4, p5, p6⟩
  · exfalso; have : R.length = 0 := h0; omega
  · injection he with e1 e2 e3
    refine ⟨g, e1, p1, ?_⟩
    have : cur = (rcells R).toArray := by
      apply Array.ext'
      rw [← p6, List.take_of_length_le (by rw [Array.length_toList, p5, ← e3]; exact Nat.le_refl _)]
    rw [p2, this]
theorem slice_low_rules (a : Option Addr) (n cap k : Nat) (hk : k ≤ cap) (w : World) :
    (Instr.slice 31 (.slice a n cap) none (some (.int .i64 (k : Int))) none).run Try.prog w = .ok (.slice a k cap) w := by
  have h0 : (0 : Int) ≤ (k : Int) := by omega
  have h1 : (k : Int) ≤ (cap : Int) := by omega
  cases a with
  | none => simp [go_sem, Instr.slice, Instr.sliceBounds, Instr.sliceBound, asIntOf, h0, h1]; intro h; omega
  | some a => simp [go_sem, Instr.slice, Instr.sliceBounds, Instr.sliceBound, asIntOf, h0, h1]; intro h; omega
/-- what Made is good for -/
def Made2Post (w : World) (e : Ending) (w' : World) : Prop :=
  ∃ (S : Sch) (b : Option Addr) (c : Nat), e = .returned (.agg #[.int .i64 S.modes, .int .u8 S.acc, .slice b S.rules.length c]) ∧ 1 ≤ S.modes ∧ S.modes ≤ 2 ∧ S.acc = 1 ∧ S.rules.length ≤ 9 ∧ RulS w' b S.rules ∧ S.rules.length ≤ c ∧ Below w.heap.size w w'
theorem made2_end {w w' : World} {mo : Int} {g : Nat} {b : Option Addr} {c B0 : Nat} {R : List Rl} {x y z : Value} (hr : RowP w' B0 (.slice b R.length c) R) (hg : g < B0) (hgw : w.heap.size ≤ g) (h1 : 1 ≤ mo) (h2 : mo ≤ 2) (hl : R.length ≤ 9) (hb : Below w.heap.size w w') :
    Made2Post w (.returned (.agg #[.int .i64 mo, .int .u8 1, .slice b R.length c])) (((w'.setCell ⟨g, 0, none⟩ x).setCell ⟨g, 1, none⟩ y).setCell ⟨g, 2, none⟩ z) := by
  have h := ((hr.set (i := 0) (u := x) hg).set (i := 1) (u := y) hg).set (i := 2) (u := z) hg
  obtain ⟨a', c', he, hrs, hcp⟩ := h.rules
  injection he with e1 e2 e3
  subst e1 e3
  exact ⟨⟨mo, 1, R⟩, b, c, rfl, h1, h2, rfl, hl, hrs, hcp, ((hb.setCell hgw _).setCell hgw _).setCell hgw _⟩
set_option maxHeartbeats 6400000 in
set_option maxRecDepth 100000 in
theorem made2_any (x0 x1 : Int) (a : Option Addr) (len cap : Nat) (Q : Nat → RR) (w : World) (h00 : 0 ≤ x0) (h01 : x0 ≤ 255) (h10 : 0 ≤ x1) (h11 : x1 ≤ 255) (hQ : RawRows w a len Q) :
    Calls Try.prog 12 #[.agg #[.int .u8 x0, .int .u8 x1, .slice a len cap]] w (Made2Post w) := by
  have HQ := Lib.hid hQ; clear hQ
  go_enter Try.func12, Try.ntmps12
  go_wp2_with fail
  refine (base_any x0 _ h00 h01).mono ?_
  rintro e w1 ⟨⟨mo, ac, R0⟩, b, n, rfl, rfl, hm1, hm2, hac, hl1, hl5, hown, hb⟩
  obtain rfl : ac = 1 := hac
  simp only at hm1 hm2 hl1 hl5 hown ⊢
  obtain ⟨g, e1, hgB, hg⟩ := ownR_full hown (by omega)
  simp only [World.size_alloc] at hgB
  subst e1
  have HB0 : Hid (Below (w.heap.size + 2) ((w.alloc (.cells #[.int .u8 x0, .int .u8 x1, .slice a len cap] 27)).alloc (.cells #[.int .i64 0, .int .u8 0, .slice none 0 0] 33)) w1) := hb.mono (by simp only [World.size_alloc]; omega)
  clear hb
  obtain ⟨hz, hc, hf⟩ := bcellB HB0.out rfl
  simp only [World.size_alloc] at hz
  have hgl : g < w1.heap.size := (Array.getElem?_eq_some_iff.1 hg).1
  go_upto_region 2 with fail
  have HG := Lib.hid hg
  clear hg hown
  go_cut [] (fun wx => ∃ wz : World, wz = wx ∧ ∃ (R : List Rl) (b : Option Addr) (n c : Nat), MX ((w.alloc (.cells #[.int .u8 x0, .int .u8 x1, .slice a len cap] 27)).alloc (.cells #[.int .i64 0, .int .u8 0, .slice none 0 0] 33)) (w.heap.size + 2) w1.heap.size mo 1 (.slice b n c) R wz ∧ n = R.length ∧ R.length ≤ 5)
  case first =>
    rcases (show x1 % 2 = 0 ∨ x1 % 2 = 1 by omega) with h2 | h2
    · go_wp2_with fail
      go_meet
      refine ⟨_, rfl, R0, some ⟨g, 0, none⟩, R0.length, R0.length, ⟨⟨HB0.out.alloc (by omega) _, heap_alloc_new _ _, hz⟩, .inl (rowN_own ((Below.heap_alloc _ _ _ hgl).trans HG.out) hgB (by omega))⟩, rfl, hl5⟩
    · have hlI : (1 : Int) ≤ (R0.length : Int) := by omega
      have hlN : (1 : Int) < (R0.length : Int) := by omega
      go_wp2_with fail
      go_meet
      obtain ⟨r0, R, rfl⟩ : ∃ r0 R, R0 = r0 :: R := by
        cases R0 with
        | nil => simp at hl1
        | cons r0 R => exact ⟨r0, R, rfl⟩
      refine ⟨_, rfl, R, some ⟨g, 5, none⟩, R.length, R.length, ⟨⟨HB0.out.alloc (by omega) _, heap_alloc_new _ _, hz⟩, .inr ⟨g, r0, rfl, hgB, (Below.heap_alloc _ _ _ hgl).trans HG.out⟩⟩, rfl, by simp at hl5; omega⟩
  case rest =>
    obtain ⟨wc, rfl, R1, b1, n1, c1, hmx1, hn1, hR1⟩ := hcut
    obtain ⟨gt, hgt⟩ : ∃ gt, gt = w1.heap.size := ⟨_, rfl⟩
    rw [← hgt] at hmx1 ⊢
    have hgt2 : w.heap.size + 2 ≤ gt := by omega
    have HMX1 := Lib.hid hmx1
    clear hmx1 hc hf hgt
    have HZR : Hid (((w.alloc (.cells #[.int .u8 x0, .int .u8 x1, .slice a len cap] 27)).alloc (.cells #[.int .i64 0, .int .u8 0, .slice none 0 0] 33)).heap[w.heap.size + 1]? = some (.cells #[.int .i64 0, .int .u8 0, .slice none 0 0] 33 (0, 0))) := by
      have := heap_alloc_new (w.alloc (.cells #[.int .u8 x0, .int .u8 x1, .slice a len cap] 27)) (.cells #[.int .i64 0, .int .u8 0, .slice none 0 0] 33)
      simp only [World.size_alloc] at this
      exact this
    go_wp2_with fail
    go_loopw [4] (fun i wr => ∃ (j : Nat) (R : List Rl) (b : Option Addr) (n c : Nat), j ≤ 4 ∧ i = .int .i64 j ∧ n = R.length ∧ R.length ≤ 5 + j ∧ MX ((w.alloc (.cells #[.int .u8 x0, .int .u8 x1, .slice a len cap] 27)).alloc (.cells #[.int .i64 0, .int .u8 0, .slice none 0 0] 33)) (w.heap.size + 2) gt mo 1 (.slice b n c) R wr) (fun i _ => 4 - (intOf i).toNat)
    case atStart => exact ⟨0, R1, b1, n1, c1, by omega, rfl, hn1, by omega, HMX1.out⟩
    case round =>
      obtain ⟨j, R, b, n, c, hj, rfl, rfl, hl, hmx⟩ := hrel
      have HMX := Lib.hid hmx
      have hB : Below w.heap.size w wr := (((Below.refl _ _).alloc (Nat.le_refl _) _).alloc (by simp) _).trans (hmx.bl.mono (by omega))
      have HB := Lib.hid hB
      obtain ⟨hzz, hc, hf⟩ := bcellB hmx.bl rfl
      simp only [World.size_alloc] at hzz
      obtain ⟨d0, d1, d2⟩ := hmx.toTX0.cells
      have df := hmx.toTX0.free
      have HZ1 := Lib.hid ((hmx.bl.block (w.heap.size + 1) (by omega)).trans HZR.out)
      clear hmx hB
      by_cases hjl : j < len
      · by_cases hj4 : j < 4
        · have hj4I : (j : Int) < 4 := by omega
          obtain ⟨bq, oq, haq, hbq, q0, q1, q2, q3, q4, hrr⟩ := (HQ.out.later HB.out (Nat.le_refl _)).at hjl
          have hidq := idx_raws a bq oq len cap j haq hjl
          have HAQ := Lib.hid haq; have HRR := Lib.hid hrr; clear haq hrr
          go_upto_region 6 with fail
          refine wp_region_mid (by kernel_rfl) (Vs [fun v _ => v = .pointer (some ⟨gt, 2, none⟩), fun v _ => v = Value.slice b R.length c, fun v _ => v = .pointer (some ⟨w.heap.size, 2, none⟩), fun v _ => v = .slice a len cap, fun v _ => v = .int .i64 (j : Int), fun v _ => v = .pointer (some ⟨bq, oq + j * 5, none⟩), fun v _ => v = .agg #[.slice (Q j).ai (Q j).li (Q j).ci, .slice (Q j).ao (Q j).lo (Q j).co, .int .u8 (Q j).f, .int .u8 (Q j).d, .int .u8 (Q j).c], fun v _ => v = .pointer (some ⟨gt, 0, none⟩), fun v _ => v = .int .i64 mo, RlV, RowOneE (Value.slice b R.length c), OwnSn (w.heap.size + 2) R, fun v _ => v = .pointer (some ⟨gt, 2, none⟩)]) (fun bo W => TX0 ((w.alloc (.cells #[.int .u8 x0, .int .u8 x1, .slice a len cap] 27)).alloc (.cells #[.int .i64 0, .int .u8 0, .slice none 0 0] 33)) (w.heap.size + 2) gt mo 1 (Value.slice b R.length c) W ∧ (bo = false → Below wr.heap.size wr W ∧ RowP W (w.heap.size + 2) (Value.slice b R.length c) R) ∧ (w.heap.size + 2 ≤ W.heap.size) ∧ ∀ q, (Value.slice b R.length c).ownBlock = some q → q < W.heap.size) (fun W W' => W.grownBy W' (Value.slice b R.length c).ownBlock) 56 11 13 (by kernel_rfl) rfl (by omega) ?hVx ?hVm ?hSx ?hS ?hop ?hlast
          case hVx => exact vs_stays (by simp only [List.mem_cons, List.not_mem_nil, or_false, forall_eq_or_imp, forall_eq]; exact ⟨stays_const _, stays_const _, stays_const _, stays_const _, stays_const _, stays_const _, stays_const _, stays_const _, stays_const _, rlV_stays, rowOneE_stays _, ownSn_stays _ _, stays_const _⟩)
          case hVm => exact staysL_all ⟨fun _ => fun _ _ _ h _ => h, fun _ => fun _ _ _ h _ => h, fun _ => fun _ _ _ h _ => h, fun _ => fun _ _ _ h _ => h, fun _ => fun _ _ _ h _ => h, fun _ => fun _ _ _ h _ => h, fun _ => fun _ _ _ h _ => h, fun _ => fun _ _ _ h _ => h, fun _ => fun _ _ _ h _ => h, fun _ => fun _ _ _ h _ => h, fun _ => rowOneE_grown _, fun h => absurd rfl h, fun _ => fun _ _ _ h _ => h, trivial⟩
          case hSx => exact fun bo W W' h hx => ⟨h.1.below hx, fun e => ⟨(h.2.1 e).1.trans (Below.mono hx (h.2.1 e).1.size), (h.2.1 e).2.below hx (h.2.1 e).2.lt⟩, Nat.le_trans h.2.2.1 hx.size, fun q hq => Nat.lt_of_lt_of_le (h.2.2.2 q hq) hx.size⟩
          case hS => exact ⟨HMX.out.toTX0, fun _ => ⟨Below.refl _ _, HMX.out.row⟩, hzz, HMX.out.row.lt⟩
          case hop =>
            refine ⟨?_, ?_, ?_, ?_, ?_, ?_, ?_, ?_, ?_, ?_, ?_, ?_, ?_, ?_, trivial⟩
            all_goals first | rw [if_neg (by decide), if_neg (by decide)] | rw [if_neg (by decide), if_pos (by decide)] | rw [if_pos (by decide)]
            · intro A W bo hsz hS hdep hbase
              obtain ⟨d0', d1', d2'⟩ := hS.1.cells
              obtain ⟨hzz', hc', hf'⟩ := bcellB hS.1.bl rfl
              have h1 : A.tmps.getD 1 undef = .pointer (some ⟨w.heap.size, 0, none⟩) := hbase 1 (by kernel_rfl)
              have h3 : A.tmps.getD 3 undef = .pointer (some ⟨gt, 0, none⟩) := hbase 3 (by kernel_rfl)
              have h4 : A.tmps.getD 4 undef = .int .i64 (j : Int) := hbase 4 (by kernel_rfl)
              have hbw : Below w.heap.size w W := (((Below.refl _ _).alloc (Nat.le_refl _) _).alloc (by simp) _).trans (hS.1.bl.mono (by omega))
              clear hbase
              simp [slotOf, Region.binds, Vs] at hdep
              refine opOk_run rfl (.inl ⟨_, W, ?_, rfl, Ext.refl _⟩); clear hsz hS hbw; simp [go_sem, Act.eval, *]
            · intro A W bo hsz hS hdep hbase
              obtain ⟨d0', d1', d2'⟩ := hS.1.cells
              obtain ⟨hzz', hc', hf'⟩ := bcellB hS.1.bl rfl
              have h1 : A.tmps.getD 1 undef = .pointer (some ⟨w.heap.size, 0, none⟩) := hbase 1 (by kernel_rfl)
              have h3 : A.tmps.getD 3 undef = .pointer (some ⟨gt, 0, none⟩) := hbase 3 (by kernel_rfl)
              have h4 : A.tmps.getD 4 undef = .int .i64 (j : Int) := hbase 4 (by kernel_rfl)
              have hbw : Below w.heap.size w W := (((Below.refl _ _).alloc (Nat.le_refl _) _).alloc (by simp) _).trans (hS.1.bl.mono (by omega))
              clear hbase
              simp [slotOf, Region.binds, Vs] at hdep
              refine opOk_run rfl (.inl ⟨_, W, ?_, rfl, Ext.refl _⟩); clear hsz hS hbw; simp [go_sem, Act.eval, *]
            · intro A W bo hsz hS hdep hbase
              obtain ⟨d0', d1', d2'⟩ := hS.1.cells
              obtain ⟨hzz', hc', hf'⟩ := bcellB hS.1.bl rfl
              have h1 : A.tmps.getD 1 undef = .pointer (some ⟨w.heap.size, 0, none⟩) := hbase 1 (by kernel_rfl)
              have h3 : A.tmps.getD 3 undef = .pointer (some ⟨gt, 0, none⟩) := hbase 3 (by kernel_rfl)
              have h4 : A.tmps.getD 4 undef = .int .i64 (j : Int) := hbase 4 (by kernel_rfl)
              have hbw : Below w.heap.size w W := (((Below.refl _ _).alloc (Nat.le_refl _) _).alloc (by simp) _).trans (hS.1.bl.mono (by omega))
              clear hbase
              simp [slotOf, Region.binds, Vs] at hdep
              refine opOk_run rfl (.inl ⟨_, W, ?_, rfl, Ext.refl _⟩); clear hsz hS hbw; simp [go_sem, Act.eval, *]
            · intro A W bo hsz hS hdep hbase
              obtain ⟨d0', d1', d2'⟩ := hS.1.cells
              obtain ⟨hzz', hc', hf'⟩ := bcellB hS.1.bl rfl
              have h1 : A.tmps.getD 1 undef = .pointer (some ⟨w.heap.size, 0, none⟩) := hbase 1 (by kernel_rfl)
              have h3 : A.tmps.getD 3 undef = .pointer (some ⟨gt, 0, none⟩) := hbase 3 (by kernel_rfl)
              have h4 : A.tmps.getD 4 undef = .int .i64 (j : Int) := hbase 4 (by kernel_rfl)
              have hbw : Below w.heap.size w W := (((Below.refl _ _).alloc (Nat.le_refl _) _).alloc (by simp) _).trans (hS.1.bl.mono (by omega))
              clear hbase
              simp [slotOf, Region.binds, Vs] at hdep
              refine opOk_run rfl (.inl ⟨_, W, ?_, rfl, Ext.refl _⟩); clear hsz hS hbw; simp [go_sem, Act.eval, *]
            · intro A W bo hsz hS hdep hbase
              obtain ⟨d0', d1', d2'⟩ := hS.1.cells
              obtain ⟨hzz', hc', hf'⟩ := bcellB hS.1.bl rfl
              have h1 : A.tmps.getD 1 undef = .pointer (some ⟨w.heap.size, 0, none⟩) := hbase 1 (by kernel_rfl)
              have h3 : A.tmps.getD 3 undef = .pointer (some ⟨gt, 0, none⟩) := hbase 3 (by kernel_rfl)
              have h4 : A.tmps.getD 4 undef = .int .i64 (j : Int) := hbase 4 (by kernel_rfl)
              have hbw : Below w.heap.size w W := (((Below.refl _ _).alloc (Nat.le_refl _) _).alloc (by simp) _).trans (hS.1.bl.mono (by omega))
              clear hbase
              simp [slotOf, Region.binds, Vs] at hdep
              refine opOk_run rfl (.inl ⟨_, W, ?_, rfl, Ext.refl _⟩); clear hsz hS hbw; simp [go_sem, Act.eval, *]
            · intro A W bo hsz hS hdep hbase
              obtain ⟨d0', d1', d2'⟩ := hS.1.cells
              obtain ⟨hzz', hc', hf'⟩ := bcellB hS.1.bl rfl
              have h1 : A.tmps.getD 1 undef = .pointer (some ⟨w.heap.size, 0, none⟩) := hbase 1 (by kernel_rfl)
              have h3 : A.tmps.getD 3 undef = .pointer (some ⟨gt, 0, none⟩) := hbase 3 (by kernel_rfl)
              have h4 : A.tmps.getD 4 undef = .int .i64 (j : Int) := hbase 4 (by kernel_rfl)
              have hbw : Below w.heap.size w W := (((Below.refl _ _).alloc (Nat.le_refl _) _).alloc (by simp) _).trans (hS.1.bl.mono (by omega))
              clear hbase
              simp [slotOf, Region.binds, Vs] at hdep
              refine opOk_run rfl (.inl ⟨_, W, ?_, rfl, Ext.refl _⟩); clear hsz hS hbw; simp [go_sem, Act.eval, *]
            · intro A W bo hsz hS hdep hbase
              obtain ⟨d0', d1', d2'⟩ := hS.1.cells
              obtain ⟨hzz', hc', hf'⟩ := bcellB hS.1.bl rfl
              have h1 : A.tmps.getD 1 undef = .pointer (some ⟨w.heap.size, 0, none⟩) := hbase 1 (by kernel_rfl)
              have h3 : A.tmps.getD 3 undef = .pointer (some ⟨gt, 0, none⟩) := hbase 3 (by kernel_rfl)
              have h4 : A.tmps.getD 4 undef = .int .i64 (j : Int) := hbase 4 (by kernel_rfl)
              have hbw : Below w.heap.size w W := (((Below.refl _ _).alloc (Nat.le_refl _) _).alloc (by simp) _).trans (hS.1.bl.mono (by omega))
              clear hbase
              simp [slotOf, Region.binds, Vs] at hdep
              obtain ⟨b', o', ha', hbq', q0', q1', q2', q3', q4', hrr'⟩ := (HQ.out.later hbw (Nat.le_refl _)).at hjl
              obtain ⟨rfl, rfl⟩ : b' = bq ∧ o' = oq := by have := HAQ.out.symm.trans ha'; simp at this; exact ⟨this.1.symm, this.2.symm⟩
              clear ha'
              refine opOk_run rfl (.inl ⟨_, W, ?_, rfl, Ext.refl _⟩); clear hsz hS hbw; simp [go_sem, Act.eval, *]
            · intro A W bo hsz hS hdep hbase
              obtain ⟨d0', d1', d2'⟩ := hS.1.cells
              obtain ⟨hzz', hc', hf'⟩ := bcellB hS.1.bl rfl
              have h1 : A.tmps.getD 1 undef = .pointer (some ⟨w.heap.size, 0, none⟩) := hbase 1 (by kernel_rfl)
              have h3 : A.tmps.getD 3 undef = .pointer (some ⟨gt, 0, none⟩) := hbase 3 (by kernel_rfl)
              have h4 : A.tmps.getD 4 undef = .int .i64 (j : Int) := hbase 4 (by kernel_rfl)
              have hbw : Below w.heap.size w W := (((Below.refl _ _).alloc (Nat.le_refl _) _).alloc (by simp) _).trans (hS.1.bl.mono (by omega))
              clear hbase
              simp [slotOf, Region.binds, Vs] at hdep
              refine opOk_run rfl (.inl ⟨_, W, ?_, rfl, Ext.refl _⟩); clear hsz hS hbw; simp [go_sem, Act.eval, *]
            · intro A W bo hsz hS hdep hbase
              obtain ⟨d0', d1', d2'⟩ := hS.1.cells
              obtain ⟨hzz', hc', hf'⟩ := bcellB hS.1.bl rfl
              have h1 : A.tmps.getD 1 undef = .pointer (some ⟨w.heap.size, 0, none⟩) := hbase 1 (by kernel_rfl)
              have h3 : A.tmps.getD 3 undef = .pointer (some ⟨gt, 0, none⟩) := hbase 3 (by kernel_rfl)
              have h4 : A.tmps.getD 4 undef = .int .i64 (j : Int) := hbase 4 (by kernel_rfl)
              have hbw : Below w.heap.size w W := (((Below.refl _ _).alloc (Nat.le_refl _) _).alloc (by simp) _).trans (hS.1.bl.mono (by omega))
              clear hbase
              simp [slotOf, Region.binds, Vs] at hdep
              refine opOk_run rfl (.inl ⟨_, W, ?_, rfl, Ext.refl _⟩); clear hsz hS hbw; simp [go_sem, Act.eval, *]
            · intro A W bo hsz hS hdep hbase
              obtain ⟨d0', d1', d2'⟩ := hS.1.cells
              obtain ⟨hzz', hc', hf'⟩ := bcellB hS.1.bl rfl
              have h1 : A.tmps.getD 1 undef = .pointer (some ⟨w.heap.size, 0, none⟩) := hbase 1 (by kernel_rfl)
              have h3 : A.tmps.getD 3 undef = .pointer (some ⟨gt, 0, none⟩) := hbase 3 (by kernel_rfl)
              have h4 : A.tmps.getD 4 undef = .int .i64 (j : Int) := hbase 4 (by kernel_rfl)
              have hbw : Below w.heap.size w W := (((Below.refl _ _).alloc (Nat.le_refl _) _).alloc (by simp) _).trans (hS.1.bl.mono (by omega))
              clear hbase
              have hrr' := HRR.out
              simp [slotOf, Region.binds, Vs] at hdep
              refine opOk_run rfl (.inr ⟨34, #[.agg #[.slice (Q j).ai (Q j).li (Q j).ci, .slice (Q j).ao (Q j).lo (Q j).co, .int .u8 (Q j).f, .int .u8 (Q j).d, .int .u8 (Q j).c], .int .i64 mo], W, by (clear hsz hS hbw hrr'; simp [go_sem, Act.eval, *]), ?_⟩)
              obtain ⟨b', o', ha', hbq', q0', q1', q2', q3', q4', hr⟩ := (HQ.out.later hbw (Nat.le_refl _)).at hjl
              refine (made1_any _ _ _ _ _ _ _ _ _ _ (Q j).ZI (Q j).ZO W hr.f0 hr.f1 hr.d0 hr.d1 hr.c0 hr.c1 hm1 hm2 hr.i hr.o).mono ?_
              rintro e w' ⟨r, rfl, -, -, hb⟩
              exact ⟨_, rfl, ⟨r, rfl⟩, hb⟩
            · intro A W bo hsz hS hdep hbase
              obtain ⟨d0', d1', d2'⟩ := hS.1.cells
              obtain ⟨hzz', hc', hf'⟩ := bcellB hS.1.bl rfl
              have h1 : A.tmps.getD 1 undef = .pointer (some ⟨w.heap.size, 0, none⟩) := hbase 1 (by kernel_rfl)
              have h3 : A.tmps.getD 3 undef = .pointer (some ⟨gt, 0, none⟩) := hbase 3 (by kernel_rfl)
              have h4 : A.tmps.getD 4 undef = .int .i64 (j : Int) := hbase 4 (by kernel_rfl)
              have hbw : Below w.heap.size w W := (((Below.refl _ _).alloc (Nat.le_refl _) _).alloc (by simp) _).trans (hS.1.bl.mono (by omega))
              clear hbase
              have hb36 : RlV (A.tmps.getD 36 undef) W := hdep ⟨9, .data⟩ (by simp) rfl
              obtain ⟨r, e36⟩ := hb36
              have hne := hS.2.2.2
              refine opOk_run rfl (.inl ⟨.slice (some ⟨W.heap.size, 0, none⟩) 1 1, W.alloc (.cells #[.int .i64 r.frm, .int .i64 r.dst, .string r.inp, .string r.out, .int .i64 r.cost] 29), ?_, ⟨r, W.heap.size, rfl, heap_alloc_new _ _, fun e => absurd (hne _ e) (Nat.lt_irrefl _)⟩, (Below.refl _ _).alloc (Nat.le_refl _) _⟩)
              rw [Array.getD_eq_getD_getElem?] at e36
              clear hsz hS hdep hne; simp [go_sem, Act.eval, *]
            · intro A W hsz hS hdep hbase
              have hs1 : A.tmps.getD 28 undef = Value.slice b R.length c := hdep ⟨1, .data⟩ (by simp) rfl
              have hs2 : RowOneE (Value.slice b R.length c) (A.tmps.getD 37 undef) W := hdep ⟨10, .data⟩ (by simp) rfl
              obtain ⟨r, hs2⟩ := hs2
              refine ⟨rfl, (opres_rowp rfl (eval_tmp hs1) (hS.2.1 rfl).2 rfl (by rw [eval_tmp rfl]; exact hs2) (by omega) hS.2.2.1).mono fun v w' h => ⟨⟨r, h.1⟩, h.2, hS.1.grown h.2 (hS.2.1 rfl).2.ge ((hS.2.1 rfl).2.ne_of hS.1.rep), fun e => absurd e (by decide), Nat.le_trans hS.2.2.1 h.2.size, fun q hq => Nat.lt_of_lt_of_le (hS.2.2.2 q hq) h.2.size⟩⟩
            · intro A W bo hsz hS hdep hbase
              obtain ⟨d0', d1', d2'⟩ := hS.1.cells
              obtain ⟨hzz', hc', hf'⟩ := bcellB hS.1.bl rfl
              have h1 : A.tmps.getD 1 undef = .pointer (some ⟨w.heap.size, 0, none⟩) := hbase 1 (by kernel_rfl)
              have h3 : A.tmps.getD 3 undef = .pointer (some ⟨gt, 0, none⟩) := hbase 3 (by kernel_rfl)
              have h4 : A.tmps.getD 4 undef = .int .i64 (j : Int) := hbase 4 (by kernel_rfl)
              have hbw : Below w.heap.size w W := (((Below.refl _ _).alloc (Nat.le_refl _) _).alloc (by simp) _).trans (hS.1.bl.mono (by omega))
              clear hbase
              simp [slotOf, Region.binds, Vs] at hdep
              refine opOk_run rfl (.inl ⟨_, W, ?_, rfl, Ext.refl _⟩); clear hsz hS hbw; simp [go_sem, Act.eval, *]
            · trivial
          case hlast =>
            intro A1 W hsz hdf hS hv hbase
            have hst : A1.tmps.getD 39 undef = .pointer (some ⟨gt, 2, none⟩) := hv 12 (by decide)
            have hown : OwnSn (w.heap.size + 2) R (A1.tmps.getD 38 undef) W := hv 11 (by decide)
            obtain ⟨r, hown⟩ := hown
            have hlen : (R ++ [r]).length = R.length + 1 := by simp
            obtain ⟨b', c', hap, hrs, hcp⟩ := hown.rules
            rw [hlen] at hap hcp
            rw [hap] at hown
            obtain ⟨e0, e1, e2⟩ := hS.1.cells
            refine wpOp_store rfl rfl rfl rfl (eval_tmp hst) (eval_tmp hap) (hS.1.free 2) e2 (by kernel_rfl) ?_
            have HTX := Lib.hid (hS.1.put hown)
            obtain ⟨x, hx, hA⟩ := act_puts [27, 28, 29, 30, 31, 32, 33, 34, 35, 36, 37, 38, 39] (by kernel_rfl) hsz hdf hbase
            obtain ⟨wz, hwz⟩ : ∃ wz, wz = W.setCell ⟨gt, 2, none⟩ (.slice b' (R.length + 1) c') := ⟨_, rfl⟩
            rw [← hwz] at HTX ⊢
            rw [hA]
            simp only [List.foldl]
            simp only [Act.put, List.setIfInBounds_toArray, List.set_cons_succ, List.set_cons_zero]
            clear hA hx hv hbase hsz hdf hwz e0 e1 e2 hap hown hrs hst hS d0 d1 d2 df hc hf q0 q1 q2 q3 q4 hidq
            have HLEN := Lib.hid hlen
            have HCP := Lib.hid hcp
            clear hlen hcp
            obtain ⟨hzy, hc, hf⟩ := bcellB HTX.out.bl rfl
            obtain ⟨d0, d1, d2⟩ := HTX.out.toTX0.cells
            have df := HTX.out.toTX0.free
            have HRS : Hid (RulS wz b' (R ++ [r])) := (HTX.out.own.ruls).1
            have hri := rright_any ⟨mo, 1, R ++ [r]⟩ b' c' R.length wz HRS.out (by show (R ++ [r]).length ≤ _; rw [HLEN.out]; omega) (by show R.length < (R ++ [r]).length; rw [HLEN.out]; omega) hm1 (by show mo ≤ 8; omega)
            obtain ⟨ok, hok⟩ : ∃ ok, goodAt ⟨mo, 1, R ++ [r]⟩ ((R ++ [r])[R.length]'(by rw [HLEN.out]; omega)) ((R ++ [r]).take R.length) = ok := ⟨_, rfl⟩
            simp only [hok] at hri
            rw [show (Sch.rules ⟨mo, 1, R ++ [r]⟩).length = R.length + 1 from HLEN.out] at hri
            have HRI := Lib.hid hri
            clear hri hok
            go_wp2_with fail
            refine HRI.out.mono ?_
            rintro e w3 ⟨rfl, hb⟩
            have HTX2 := Lib.hid (HTX.out.below hb)
            clear hc hf d0 d1 d2 df hb
            obtain ⟨hzx, hc, hf⟩ := bcellB HTX2.out.bl rfl
            obtain ⟨d0, d1, d2⟩ := HTX2.out.toTX0.cells
            have df := HTX2.out.toTX0.free
            cases ok
            · have hsl := slice_low_rules b' (R.length + 1) c' R.length (by have := HCP.out; omega)
              go_wp2_with fail
              go_roundw
              case rel =>
                have ho : OwnR w3 (w.heap.size + 2) (.slice b' R.length c') R := HTX2.out.own.drop
                have h := HTX2.out.toTX0.put ho
                exact ⟨j + 1, R, b', R.length, c', by omega, by go_num, rfl, by omega, ⟨h.toTX0, .inl h.own⟩⟩
              case measure => simp [intOf]; omega
            · go_wp2_with fail
              go_roundw
              case rel => exact ⟨j + 1, R ++ [r], b', R.length + 1, c', by omega, by go_num, HLEN.out.symm, by rw [HLEN.out]; omega, ⟨HTX2.out.toTX0, .inl HTX2.out.own⟩⟩
              case measure => simp [intOf]; omega
        · obtain rfl : j = 4 := by omega
          go_wp2_with fail
          obtain ⟨r0', r1', r2'⟩ := cells3 (set3 (a := .int .i64 mo) (b := .int .u8 1) (c := .slice b R.length c) HZ1.out)
          exact bodyPost_ret (v := .agg #[.int .i64 mo, .int .u8 1, .slice b R.length c]) (by simp [results, Try.results12, go_sem, r0', r1', r2']) rfl (made2_end HMX.out.row (by omega) (by omega) hm1 hm2 (by omega) HB.out)
      · have hjI : ¬ (j : Int) < (len : Int) := by omega
        go_wp2_with fail
        obtain ⟨r0', r1', r2'⟩ := cells3 (set3 (a := .int .i64 mo) (b := .int .u8 1) (c := .slice b R.length c) HZ1.out)
        exact bodyPost_ret (v := .agg #[.int .i64 mo, .int .u8 1, .slice b R.length c]) (by simp [results, Try.results12, go_sem, r0', r1', r2']) rfl (made2_end HMX.out.row (by omega) (by omega) hm1 hm2 (by omega) HB.out)
end Go.Proofs.Ytogjcfcfgnbmkaa
