/- Reference 09's lister. -/
import Derived.Test.YtemdlfbcnnoglaaDoorDOf
import Derived.Test.YtemdlfbcnnoglaaDoorDAll
import Derived.Laws.Concat
import Derived.Deep.CutBlock
namespace Go.Proofs.YtemdlfbcnnoglaaDoor
open Go.RowKit Go.WideShapes
set_option linter.unusedVariables false
set_option linter.unusedSimpArgs false

/-! ### plain -/
def arB (x : Ar) : UInt8 := UInt8.ofNat x.c.toNat
def armsX (rec : Int → Wd → Nat × List Wd → Nat × List Wd) (ws : Wd) : List Ar → Nat × List Wd → Nat × List Wd
  | [], s => s
  | x :: r, s => if s.1 = 0 then s else armsX rec ws r (rec x.t (ws ++ [arB x]) s)
def listF (D : List Nd) : Nat → Int → Wd → Nat × List Wd → Nat × List Wd
  | 0, _, _, s => s
  | m + 1, n, ws, s => if s.1 = 0 ∨ n < 0 ∨ (D.length : Int) ≤ n ∨ 20 < ws.length then (0, s.2) else
    armsX (listF D m) ws (D.getD n.toNat default).arcs (s.1 - 1, if (D.getD n.toNat default).fin = true then s.2 ++ [ws] else s.2)
theorem armsX_le {rec : Int → Wd → Nat × List Wd → Nat × List Wd} (hr : ∀ n ws s, (rec n ws s).2.length + (rec n ws s).1 ≤ s.2.length + s.1) (ws : Wd) : ∀ X s, (armsX rec ws X s).2.length + (armsX rec ws X s).1 ≤ s.2.length + s.1
  | [], s => Nat.le_refl _
  | x :: r, s => by
    rw [armsX]
    split
    · exact Nat.le_refl _
    · exact Nat.le_trans (armsX_le hr ws r _) (hr _ _ _)
theorem listF_le (D : List Nd) : ∀ m n ws s, (listF D m n ws s).2.length + (listF D m n ws s).1 ≤ s.2.length + s.1
  | 0, _, _, _ => Nat.le_refl _
  | m + 1, n, ws, s => by
    rw [listF]
    split
    · simp
    · rename_i h
      have h0 : s.1 ≠ 0 := fun e => h (.inl e)
      refine Nat.le_trans (armsX_le (listF_le D m) ws _ _) ?_
      simp only
      split
      · rw [List.length_append, List.length_singleton]; omega
      · omega
theorem toB_app (ws : Wd) (c : UInt8) : toB ws ++ toB [c] = toB (ws ++ [c]) := by
  refine bytes_inj ?_
  rw [ByteArray.toList_data_append]
  simp [toB]
/-! ### memory -/
/-- all but listers and strings stands -/
def FrL (w w' : World) : Prop := ∀ (q : Nat) (cs : Array Value) (t : TypeId), w.heap[q]? = some (Obj.cells cs t (0, 0)) → t ≠ 78 → t ≠ 9 → w'.heap[q]? = w.heap[q]?
theorem FrL.trans {a b c : World} (h : FrL a b) (h2 : FrL b c) : FrL a c := fun q cs t hq h3 h4 => by
  have e := h q cs t hq h3 h4
  exact (h2 q cs t (e.trans hq) h3 h4).trans e
theorem FrL.of_ext {a b : World} (h : Ext a b) : FrL a b := fun q cs t hq _ _ => Below.block h q (Array.getElem?_eq_some_iff.1 hq).1
structure LsSt (wW w0 w : World) (B gX : Nat) (a : Option Addr) (nD cD left : Nat) (v : Value) (out : List Wd) : Prop where
  rep : w.heap[gX]? = some (.cells #[.slice a nD cD, .int .i64 (left : Int), v] 78 (0, 0))
  own : OwnG rowStr w B v (rowsB out)
  gX : B ≤ gX
  bl : Below B wW w
  fr : FrL w0 w
theorem LsSt.ext {wW w0 w w' : World} {B gX : Nat} {a : Option Addr} {nD cD left : Nat} {v : Value} {out : List Wd} (h : LsSt wW w0 w B gX a nD cD left v out) (hx : Ext w w') : LsSt wW w0 w' B gX a nD cD left v out :=
  ⟨(Below.block hx gX (Array.getElem?_eq_some_iff.1 h.rep).1).trans h.rep, h.own.later hx (Nat.le_refl _), h.gX, h.bl.trans (Below.mono hx (Nat.le_trans h.gX (Nat.le_of_lt (Array.getElem?_eq_some_iff.1 h.rep).1))), h.fr.trans (FrL.of_ext hx)⟩
theorem LsSt.size {wW w0 w : World} {B gX : Nat} {a : Option Addr} {nD cD left : Nat} {v : Value} {out : List Wd} (h : LsSt wW w0 w B gX a nD cD left v out) : B ≤ w.heap.size := Nat.le_trans h.gX (Nat.le_of_lt (Array.getElem?_eq_some_iff.1 h.rep).1)
theorem cells3' {w : World} {g : Nat} {a b c : Value} {t : TypeId} {f : Nat × Nat} (h : w.heap[g]? = some (.cells #[a, b, c] t f)) : w.cell? ⟨g, 0, none⟩ = some a ∧ w.cell? ⟨g, 1, none⟩ = some b ∧ w.cell? ⟨g, 2, none⟩ = some c := by
  refine ⟨?_, ?_, ?_⟩ <;> (rw [cell_of_row _ _ _ _ _ _ h]; rfl)
theorem frz {w : World} {g i : Nat} {cs : Array Value} {t : TypeId} (h : w.heap[g]? = some (.cells cs t (0, 0))) : w.frozen? ⟨g, i, none⟩ = false := by simp [World.frozen?, h]
theorem LsSt.setLeft {wW w0 w : World} {B gX : Nat} {a : Option Addr} {nD cD left l2 : Nat} {v : Value} {out : List Wd} (h : LsSt wW w0 w B gX a nD cD left v out) : LsSt wW w0 (w.setCell ⟨gX, 1, none⟩ (.int .i64 (l2 : Int))) B gX a nD cD l2 v out :=
  ⟨set_one h.rep rfl, h.own.keep fun g hg => Below.heap_setCell _ _ _ _ (by
    obtain ⟨cs, hcs⟩ := h.own.obj hg
    exact cells_ty hcs h.rep (by decide)), h.gX, h.bl.setCell h.gX _, h.fr.trans fun q cs t hq h3 h4 => Below.heap_setCell _ _ _ _ (cells_ty hq h.rep h3)⟩
theorem LsSt.setOut {wW w0 w w' : World} {B gX : Nat} {a : Option Addr} {nD cD left : Nat} {v va : Value} {out : List Wd} {s : Wd} (h : LsSt wW w0 w B gX a nD cD left v out) (ho : OwnG rowStr w' B va (rowsB out ++ [toB s])) (hg : w.grownBy w' v.ownBlock) : LsSt wW w0 (w'.setCell ⟨gX, 2, none⟩ va) B gX a nD cD left va (out ++ [s]) := by
  have hrep : w'.heap[gX]? = _ := (hg.block gX (Array.getElem?_eq_some_iff.1 h.rep).1 fun e => by
    obtain ⟨cs2, hc2⟩ := h.own.obj e.symm
    exact cells_ty h.rep hc2 (by decide) rfl).trans h.rep
  have hrr : rowsB (out ++ [s]) = rowsB out ++ [toB s] := by simp [rowsB]
  have hoo : OwnG rowStr (w'.setCell ⟨gX, 2, none⟩ va) B va (rowsB (out ++ [s])) := by
    rw [hrr]
    exact ho.keep fun g hg => Below.heap_setCell _ _ _ _ (by
      obtain ⟨cs, hcs⟩ := ho.obj hg
      exact cells_ty hcs hrep (by decide))
  refine ⟨set_one hrep rfl, hoo, h.gX, (h.bl.grown hg h.size fun q hq => h.own.ge q hq).setCell h.gX _, h.fr.trans fun q cs t hq h3 h4 => (Below.heap_setCell _ _ _ _ (cells_ty hq h.rep h3)).trans (hg.block q (Array.getElem?_eq_some_iff.1 hq).1 fun e => ?_)⟩
  · obtain ⟨cs2, hc2⟩ := h.own.obj e.symm
    exact cells_ty hq hc2 h4 rfl
theorem LsSt.repO {wW w0 w w' : World} {B gX : Nat} {a : Option Addr} {nD cD left : Nat} {v : Value} {out : List Wd} (h : LsSt wW w0 w B gX a nD cD left v out) (hg : w.grownBy w' v.ownBlock) : w'.heap[gX]? = some (.cells #[.slice a nD cD, .int .i64 (left : Int), v] 78 (0, 0)) :=
  (hg.block gX (Array.getElem?_eq_some_iff.1 h.rep).1 fun e => by
    obtain ⟨cs2, hc2⟩ := h.own.obj e.symm
    exact cells_ty h.rep hc2 (by decide) rfl).trans h.rep
def LPost (wW w0 : World) (B gX : Nat) (a : Option Addr) (nD cD : Nat) (s : Nat × List Wd) (e : Ending) (w' : World) : Prop := e = .returned (.tuple #[]) ∧ ∃ v', LsSt wW w0 w' B gX a nD cD s.1 v' s.2
theorem LsSt.called {wW w0 w w' : World} {B gX : Nat} {a : Option Addr} {nD cD left l2 : Nat} {v v2 : Value} {out o2 : List Wd} (h : LsSt wW w0 w B gX a nD cD left v out) (h2 : LsSt wW w w' B gX a nD cD l2 v2 o2) : LsSt wW w0 w' B gX a nD cD l2 v2 o2 := ⟨h2.rep, h2.own, h2.gX, h2.bl, h.fr.trans h2.fr⟩
theorem LsSt.start {wW w0 w : World} {B gX : Nat} {a : Option Addr} {nD cD left : Nat} {v : Value} {out : List Wd} (h : LsSt wW w0 w B gX a nD cD left v out) : LsSt wW w w B gX a nD cD left v out := ⟨h.rep, h.own, h.gX, h.bl, fun _ _ _ _ _ _ => rfl⟩
theorem listF_stop {D : List Nd} {m : Nat} {n : Int} {ws : Wd} {s : Nat × List Wd} (h : s.1 = 0 ∨ n < 0 ∨ (D.length : Int) ≤ n ∨ 20 < ws.length) : listF D (m + 1) n ws s = (0, s.2) := by rw [listF, if_pos h]
def LNT (wW w0 : World) (B gX : Nat) (a : Option Addr) (nD cD left : Nat) (v : Value) (out : List Wd) (b1 : Bool) (w : World) : Prop :=
  match b1 with
  | false => LsSt wW w0 w B gX a nD cD left v out
  | true => True
theorem LNT.ext {wW w0 : World} {B gX : Nat} {a : Option Addr} {nD cD left : Nat} {v : Value} {out : List Wd} : ∀ (b1 : Bool) (w w' : World), LNT wW w0 B gX a nD cD left v out b1 w → Ext w w' → LNT wW w0 B gX a nD cD left v out b1 w' := by
  intro b1 w w' h hx
  cases b1 with
  | false => exact LsSt.ext h hx
  | true => trivial
def LPx (wW w0 : World) (B gX : Nat) (a : Option Addr) (nD cD : Nat) (s : Nat × List Wd) (v : Value) (w : World) : Prop := v = .tuple #[] ∧ ∃ v', LsSt wW w0 w B gX a nD cD s.1 v' s.2
theorem lpx_stays {wW w0 : World} {B gX : Nat} {a : Option Addr} {nD cD : Nat} {s : Nat × List Wd} : Stays (LPx wW w0 B gX a nD cD s) := by
  rintro v w w' ⟨hv, v', h⟩ hx
  exact ⟨hv, v', h.ext hx⟩
def RowU1 (x : Int) (v : Value) (w : World) : Prop := ∃ g, v = .slice (some ⟨g, 0, none⟩) 1 1 ∧ w.heap[g]? = some (.cells #[.int .u8 x] 5 (0, 0))
theorem rowU1_stays (x : Int) : Stays (RowU1 x) := by
  rintro v w w' ⟨g, rfl, h⟩ hx
  exact ⟨g, rfl, (Below.block hx g (Array.getElem?_eq_some_iff.1 h).1).trans h⟩
theorem rowU1_fr (x : Int) : ∀ v w w', RowU1 x v w → FrL w w' → RowU1 x v w' := by
  rintro v w w' ⟨g, rfl, h⟩ hx
  exact ⟨g, rfl, (hx g _ _ h (by decide) (by decide)).trans h⟩
set_option maxHeartbeats 1600000 in
set_option maxRecDepth 100000 in
theorem list_any (wW : World) (B gX : Nat) (a : Option Addr) (cD : Nat) (D : List Nd) (hWB : wW.heap.size ≤ B) (hD : DawgS wW a D) (hDl : D.length ≤ 9223372036854775807) (hC : CsOk D) : ∀ (m : Nat) (n : Int) (ws : Wd) (left : Nat) (out : List Wd) (v : Value) (w : World), -9223372036854775808 ≤ n → n ≤ 9223372036854775807 → ws.length ≤ 21 → 22 ≤ m + ws.length → out.length + left ≤ 5000 →
    LsSt wW w w B gX a D.length cD left v out → Calls Tryd.prog 41 #[.pointer (some ⟨gX, 0, none⟩), .int .i64 n, .string (toB ws)] w (LPost wW w B gX a D.length cD (listF D m n ws (left, out))) := by
  intro m
  induction m with
  | zero => intro n ws left out v w _ _ h1 h2; exfalso; omega
  | succ m ih =>
    intro n ws left out v w hn1 hn2 hw21 hmw hol hL
    have HD := Lib.hid hD; have HL := Lib.hid hL; have IH := Lib.hid ih; have HC := Lib.hid hC
    obtain ⟨rp0, rp1, rp2⟩ := cells3' hL.rep
    have fz := fun i => frz (i := i) hL.rep
    have fz1 := fz 1
    obtain ⟨oa, oc, hv, -, -⟩ := hL.own.form
    subst hv
    have hss : (toB ws).size = ws.length := by simp [toB, ByteArray.size]
    obtain ⟨s, hs⟩ : ∃ s, toB ws = s := ⟨_, rfl⟩
    have HS := Lib.hid hs
    rw [hs] at hss ⊢
    clear hD hL ih hC hs fz
    by_cases h0 : left = 0
    · have HF := Lib.hid (listF_stop (D := D) (m := m) (n := n) (ws := ws) (s := (left, out)) (.inl h0))
      have h0I : ((left : Int) == 0) = true := by simp [h0]
      clear h0 hss
      go_enter Tryd.func41, Tryd.ntmps41
      go_wp2
      go_end0
      rw [HF.out]
      exact ⟨rfl, _, HL.out.setLeft (l2 := 0)⟩
    · have h0I : ((left : Int) == 0) = false := by simp [h0]
      by_cases h1 : n < 0
      · have HF := Lib.hid (listF_stop (D := D) (m := m) (n := n) (ws := ws) (s := (left, out)) (.inr (.inl h1)))
        clear h0 hss
        go_enter Tryd.func41, Tryd.ntmps41
        go_wp2
        go_end0
        rw [HF.out]
        exact ⟨rfl, _, HL.out.setLeft (l2 := 0)⟩
      · by_cases h2 : (D.length : Int) ≤ n
        · have HF := Lib.hid (listF_stop (D := D) (m := m) (n := n) (ws := ws) (s := (left, out)) (.inr (.inr (.inl h2))))
          clear h0 hss
          go_enter Tryd.func41, Tryd.ntmps41
          go_wp2
          go_end0
          rw [HF.out]
          exact ⟨rfl, _, HL.out.setLeft (l2 := 0)⟩
        · by_cases h3 : 20 < ws.length
          · have HF := Lib.hid (listF_stop (D := D) (m := m) (n := n) (ws := ws) (s := (left, out)) (.inr (.inr (.inr h3))))
            have h3I : (20 : Int) < (s.size : Int) := by omega
            clear h0 hss h3
            go_enter Tryd.func41, Tryd.ntmps41
            go_wp2
            go_end0
            rw [HF.out]
            exact ⟨rfl, _, HL.out.setLeft (l2 := 0)⟩
          · have h3I : ¬ (20 : Int) < (s.size : Int) := by omega
            obtain ⟨k, rfl⟩ : ∃ k : Nat, n = k := ⟨n.toNat, by omega⟩
            have hk : k < D.length := by omega
            obtain ⟨b, o, ha, hb, f0, aa, cc, f1, hXl, hX⟩ := HD.out.at hk
            obtain ⟨X, hXe⟩ : ∃ X, D[k].arcs = X := ⟨_, rfl⟩
            obtain ⟨fi, hfi⟩ : ∃ fi, D[k].fin = fi := ⟨_, rfl⟩
            have hcX := HC.out k hk
            rw [hXe] at f1 hXl hX hcX
            rw [hfi] at f0
            have hgd : D.getD k default = D[k] := by rw [List.getD_eq_getElem?_getD, List.getElem?_eq_getElem hk]; rfl
            obtain ⟨FSt, hFS⟩ : ∃ FSt, armsX (listF D m) ws X (left - 1, if fi = true then out ++ [ws] else out) = FSt := ⟨_, rfl⟩
            have HF : Hid (listF D (m + 1) (k : Int) ws (left, out) = FSt) := by
              show _ = _
              rw [listF, if_neg (by simp only [not_or]; exact ⟨h0, h1, h2, h3⟩), Int.toNat_natCast, hgd, hXe, hfi]
              exact hFS
            have HFS := Lib.hid hFS; have HX := Lib.hid hX; have HCX := Lib.hid hcX; have HF0 := Lib.hid f0; have HF1 := Lib.hid f1
            have hidx := idx_nodes a b o D.length cD k ha hk
            have g0 := (HL.out.bl.cell (p := ⟨b, o + k * 2, none⟩) (by show b < B; omega)).trans f0
            have hl1 : 1 ≤ left := by omega
            have hw20 : ws.length ≤ 20 := by omega
            have HSS := Lib.hid hss
            have hs20 : s.size ≤ 20 := by omega
            have hbB : b < B := by omega
            have hgXB := HL.out.gX
            clear h0 h1 h2 h3 ha hXe hfi hX hcX hgd hFS f0 f1 hb hss
            have hl1I : (left : Int) - 1 = ((left - 1 : Nat) : Int) := by omega
            have hneb : b ≠ gX := by omega
            go_enter Tryd.func41, Tryd.ntmps41
            go_upto_region 3 with fail
            obtain ⟨w2, hw2⟩ : ∃ w2, w2 = w.setCell ⟨gX, 1, none⟩ (.int .i64 ((left - 1 : Nat) : Int)) := ⟨_, rfl⟩
            have HL2 : Hid (LsSt wW w w2 B gX a D.length cD (left - 1) (.slice oa (rowsB out).length oc) out) := by
              have := HL.out.setLeft (l2 := left - 1)
              rw [← hw2] at this; exact this
            rw [← hw2]
            clear hw2 rp0 rp1 rp2 fz1 g0
            have g2 := (HL2.out.bl.cell (p := ⟨b, o + k * 2, none⟩) (by show b < B; omega)).trans HF0.out
            obtain ⟨rp0, rp1, rp2⟩ := cells3' HL2.out.rep
            go_cut [47] (fun s47 wx => ∃ wz, wz = wx ∧ wz = w2 ∧ s47 = .bool fi)
            case first =>
              go_wp2
              go_meet
              exact ⟨_, rfl, rfl, rfl⟩
            case rest =>
              obtain ⟨wz, rfl, rfl, rfl⟩ := hcut
              apply_assumption
              obtain ⟨o2, ho2⟩ : ∃ o2, (if fi = true then out ++ [ws] else out) = o2 := ⟨_, rfl⟩
              have HO2 := Lib.hid ho2
              have hol2 : o2.length + (left - 1) ≤ 5000 := by
                rw [← ho2]; split
                · rw [List.length_append, List.length_singleton]; omega
                · omega
              clear ho2
              go_cut [0] (fun s0 wx => ∃ wz v2, wz = wx ∧ s0 = .pointer (some ⟨gX, 0, none⟩) ∧ LsSt wW w wz B gX a D.length cD (left - 1) v2 o2)
              case first =>
                cases fi with
                | true =>
                  have HO3 : Hid (o2 = out ++ [ws]) := by show _ = _; rw [← HO2.out, if_pos rfl]
                  have hxa7 : Ext wz (wz.alloc (.cells #[.string s] 9)) := (Below.refl _ _).alloc (Nat.le_refl _) _
                  have HL7 := Lib.hid (HL2.out.ext hxa7)
                  have hrl : (rowsB out).length + 1 ≤ 1000000 := by rw [rowsB_len]; omega
                  clear hxa7
                  go_wp2_with (first
                    | (at_builtin; go_loud (refine wpList_append_g rowStr_ok rfl _ _ rfl rfl HL7.out.own ⟨wz.heap.size, 0, none⟩ 1 [s] rfl (cells_built (heap_alloc_new _ _)) hrl HL7.out.size ?_; intro va w7 ho7 hg7 hat7; have hl8 := HL7.out.setOut (s := ws) (va := va) (by rw [HS.out]; exact ho7) hg7; have hr8 := HL7.out.repO hg7; obtain ⟨xa, xc, hxa, -, -⟩ := ho7.form; rw [List.length_append, List.length_singleton] at hxa; subst hxa; have c7 := (cells3' hr8).2.2; have f7 : w7.frozen? ⟨gX, 2, none⟩ = false := frz hr8; have HL8 := Lib.hid hl8; clear hl8 hr8 ho7 hg7 hat7)))
                  go_meet
                  rw [HO3.out]
                  exact ⟨_, _, rfl, rfl, HL8.out⟩
                | false =>
                  have HO3 : Hid (o2 = out) := by show _ = _; rw [← HO2.out, if_neg (by simp)]
                  go_wp2
                  go_meet
                  rw [HO3.out]
                  exact ⟨_, _, rfl, rfl, HL2.out⟩
              case rest =>
                obtain ⟨wq, v2, rfl, rfl, hl3⟩ := hcut
                have HL3 := Lib.hid hl3
                have hfs := HFS.out
                rw [HO2.out] at hfs
                have HFS3 := Lib.hid hfs
                clear hl3 hfs rp0 rp1 rp2 g2
                go_wp2_with fail
                go_loopw [6] (fun s6 wr => ∃ (i l' : Nat) (out' : List Wd) (v' : Value), s6 = .int .i64 (i : Int) ∧ i ≤ X.length ∧ armsX (listF D m) ws (X.drop i) (l', out') = FSt ∧ LsSt wW w wr B gX a D.length cD l' v' out' ∧ out'.length + l' ≤ 5000) (fun s6 _ => X.length - (intOf s6).toNat)
                case atStart => exact ⟨0, left - 1, o2, v2, rfl, Nat.zero_le _, HFS3.out, HL3.out, hol2⟩
                case round =>
                  obtain ⟨i, l', out', v', rfl, hi, harm, hls, hol3⟩ := hrel
                  have HARM := Lib.hid harm; have HLS := Lib.hid hls
                  obtain ⟨rp0, rp1, rp2⟩ := cells3' hls.rep
                  have g1 := (hls.bl.cell (p := ⟨b, o + k * 2 + 1, none⟩) (by show b < B; omega)).trans HF1.out
                  clear harm hls
                  by_cases hiX : i < X.length
                  · have hiI : (i : Int) < (X.length : Int) := by omega
                    by_cases hl0 : l' = 0
                    · have hlI : ¬ (0 : Int) < (l' : Int) := by omega
                      have HR : Hid ((l', out') = FSt) := by
                        show _ = _
                        have := HARM.out
                        rw [List.drop_eq_getElem_cons hiX, armsX, if_pos hl0] at this
                        exact this
                      clear hl0
                      go_wp2
                      go_end0
                      rw [HF.out, ← HR.out]
                      exact ⟨rfl, _, HLS.out⟩
                    · have hlI : (0 : Int) < (l' : Int) := by omega
                      obtain ⟨b3, o3, ha3, hb3, q0, q1⟩ := HX.out.at hiX
                      have hidx3 := idx_arcs aa b3 o3 X.length cc i ha3 hiX
                      have hxr := HCX.out X[i] (List.getElem_mem hiX)
                      obtain ⟨x, hx⟩ : ∃ x, X[i] = x := ⟨_, rfl⟩
                      have harm := HARM.out
                      rw [List.drop_eq_getElem_cons hiX, armsX, if_neg hl0, hx] at harm
                      rw [hx] at q0 q1 hxr
                      obtain ⟨xc, xt⟩ := x
                      simp only at q0 q1 hxr harm
                      obtain ⟨cb, hcb⟩ : ∃ cb, arB ⟨xc, xt⟩ = cb := ⟨_, rfl⟩
                      rw [hcb] at harm
                      have hcbI : (cb.toNat : Int) = xc := by
                        rw [← hcb]
                        show ((UInt8.ofNat xc.toNat).toNat : Int) = xc
                        rw [UInt8.toNat_ofNat']; omega
                      have HCB := Lib.hid hcbI; have HQ0 := Lib.hid q0; have HQ1 := Lib.hid q1; have HARM2 := Lib.hid harm
                      obtain ⟨t1, ht1⟩ : ∃ t1, toB [cb] = t1 := ⟨_, rfl⟩
                      have HT1 := Lib.hid ht1
                      have hsz2 : ¬ 9223372036854775807 < s.size + t1.size := by
                        have : t1.size = 1 := by rw [← ht1]; rfl
                        omega
                      obtain ⟨hx1, hx2, hx3, hx4⟩ := hxr
                      have hbB3 : b3 < B := by omega
                      clear ha3 hx harm hcb hcbI q0 q1 ht1 HARM hb3
                      go_upto_region 8 with fail
                      clear rp0 rp1 rp2 g1
                      refine wp_region_st (by kernel_rfl) (Vs [fun v _ => v = .pointer (some ⟨gX, 0, none⟩), fun v _ => v = .pointer (some ⟨gX, 0, none⟩), fun v _ => v = .pointer (some ⟨gX, 0, none⟩), fun v _ => v = .pointer (some ⟨gX, 0, none⟩), fun v _ => v = .slice a D.length cD, fun v _ => v = .int .i64 (k : Int), fun v _ => v = .pointer (some ⟨b, o + k * 2, none⟩), fun v _ => v = .pointer (some ⟨b, o + k * 2 + 1, none⟩), fun v _ => v = .slice aa X.length cc, fun v _ => v = .int .i64 (i : Int), fun v _ => v = .pointer (some ⟨b3, o3 + i * 2, none⟩), fun v _ => v = .pointer (some ⟨b3, o3 + i * 2 + 1, none⟩), fun v _ => v = .int .i64 xt, fun v _ => v = .string s, fun v _ => v = .pointer (some ⟨gX, 0, none⟩), fun v _ => v = .pointer (some ⟨gX, 0, none⟩), fun v _ => v = .pointer (some ⟨gX, 0, none⟩), fun v _ => v = .slice a D.length cD, fun v _ => v = .int .i64 (k : Int), fun v _ => v = .pointer (some ⟨b, o + k * 2, none⟩), fun v _ => v = .pointer (some ⟨b, o + k * 2 + 1, none⟩), fun v _ => v = .slice aa X.length cc, fun v _ => v = .int .i64 (i : Int), fun v _ => v = .pointer (some ⟨b3, o3 + i * 2, none⟩), fun v _ => v = .pointer (some ⟨b3, o3 + i * 2, none⟩), fun v _ => v = .int .u8 xc, RowU1 xc, fun v _ => v = .string t1, fun v _ => v = .string (s ++ t1), LPx wW w B gX a D.length cD (listF D m xt (ws ++ [cb]) (l', out'))]) (Xs [Ext, Ext, Ext, Ext, Ext, Ext, Ext, Ext, Ext, Ext, Ext, Ext, Ext, Ext, Ext, Ext, Ext, Ext, Ext, Ext, Ext, Ext, Ext, Ext, Ext, Ext, Ext, Ext, Ext, (fun w w' => FrL w w')]) (fun fL => (fun b1 W => LNT wW w B gX a D.length cD l' v' out' b1 W) (fL 29)) [0, 0, 2, 6, 14, 0, 62, 126, 254, 0, 1022, 2046, 4094, 0, 0, 16384, 49152, 114688, 0, 507904, 1032192, 2080768, 0, 8372224, 16760832, 33538048, 67092480, 134201344, 268427264, 536870911] 108 30 (by kernel_rfl) rfl ?hV ?hS ?hop ?hfin ?hlast
                      case hV =>
                        refine xs_stays (vs_stays (by simp only [List.mem_cons, List.not_mem_nil, or_false, forall_eq_or_imp, forall_eq]; exact ⟨stays_const _, stays_const _, stays_const _, stays_const _, stays_const _, stays_const _, stays_const _, stays_const _, stays_const _, stays_const _, stays_const _, stays_const _, stays_const _, stays_const _, stays_const _, stays_const _, stays_const _, stays_const _, stays_const _, stays_const _, stays_const _, stays_const _, stays_const _, stays_const _, stays_const _, stays_const _, rowU1_stays _, stays_const _, stays_const _, lpx_stays⟩)) ?_
                        exact ⟨.inl rfl, .inl rfl, .inl rfl, .inl rfl, .inl rfl, .inl rfl, .inl rfl, .inl rfl, .inl rfl, .inl rfl, .inl rfl, .inl rfl, .inl rfl, .inl rfl, .inl rfl, .inl rfl, .inl rfl, .inl rfl, .inl rfl, .inl rfl, .inl rfl, .inl rfl, .inl rfl, .inl rfl, .inl rfl, .inl rfl, .inl rfl, .inl rfl, .inl rfl, .inr (staysM_all ⟨fun _ _ => fun _ _ _ h _ => h, fun _ _ => fun _ _ _ h _ => h, fun _ _ => fun _ _ _ h _ => h, fun _ _ => fun _ _ _ h _ => h, fun _ _ => fun _ _ _ h _ => h, fun _ _ => fun _ _ _ h _ => h, fun _ _ => fun _ _ _ h _ => h, fun _ _ => fun _ _ _ h _ => h, fun _ _ => fun _ _ _ h _ => h, fun _ _ => fun _ _ _ h _ => h, fun _ _ => fun _ _ _ h _ => h, fun _ _ => fun _ _ _ h _ => h, fun _ _ => fun _ _ _ h _ => h, fun _ _ => fun _ _ _ h _ => h, fun _ _ => fun _ _ _ h _ => h, fun _ _ => fun _ _ _ h _ => h, fun _ _ => fun _ _ _ h _ => h, fun _ _ => fun _ _ _ h _ => h, fun _ _ => fun _ _ _ h _ => h, fun _ _ => fun _ _ _ h _ => h, fun _ _ => fun _ _ _ h _ => h, fun _ _ => fun _ _ _ h _ => h, fun _ _ => fun _ _ _ h _ => h, fun _ _ => fun _ _ _ h _ => h, fun _ _ => fun _ _ _ h _ => h, fun _ _ => fun _ _ _ h _ => h, fun _ _ => rowU1_fr _, fun _ _ => fun _ _ _ h _ => h, fun _ _ => fun _ _ _ h _ => h, fun h => absurd rfl h, trivial⟩), trivial⟩
                      case hS =>
                        intro fL hf
                        show (fun b1 W => LNT wW w B gX a D.length cD l' v' out' b1 W) (fL 29) _
                        rw [hf 29 (by decide)]
                        exact LNT.ext false _ _ HLS.out ⟨rfl, rfl, rfl, Nat.le_refl _, fun _ _ => rfl⟩
                      case hop =>
                        refine ⟨?_, ?_, ?_, ?_, ?_, ?_, ?_, ?_, ?_, ?_, ?_, ?_, ?_, ?_, ?_, ?_, ?_, ?_, ?_, ?_, ?_, ?_, ?_, ?_, ?_, ?_, ?_, ?_, ?_, ?_, trivial⟩
                        all_goals first | rw [if_neg (by decide)] | rw [if_pos (by decide)]
                        · intro ac W fL hsz hfi hms hdn hS0 hdep hbase hund
                          have hS : (fun b1 W => LNT wW w B gX a D.length cD l' v' out' b1 W) (fL 29) W := hS0
                          have hfl29 : fL 29 = false := hdn 29 (by decide) (by decide)
                          rw [hfl29] at hS
                          have hS1 : (fun b1 W => LNT wW w B gX a D.length cD l' v' out' b1 W) ((upd fL 0) 29) W := by
                            rw [show upd fL 0 29 = fL 29 from if_neg (by decide)]
                            exact hS0
                          have hSL : LsSt wW w W B gX a D.length cD l' v' out' := hS
                          obtain ⟨rp0, rp1, rp2⟩ := cells3' hSL.rep
                          have g1 := (hSL.bl.cell (p := ⟨b, o + k * 2 + 1, none⟩) (by show b < B; omega)).trans HF1.out
                          have q0 := (hSL.bl.cell (p := ⟨b3, o3 + i * 2, none⟩) (by show b3 < B; omega)).trans HQ0.out
                          have q1 := (hSL.bl.cell (p := ⟨b3, o3 + i * 2 + 1, none⟩) (by show b3 < B; omega)).trans HQ1.out
                          clear hSL
                          have h0 : ac.tmps.getD 0 undef = .pointer (some ⟨gX, 0, none⟩) := hbase 0 (by kernel_rfl)
                          have hh0 := h0; rw [Array.getD_eq_getD_getElem?] at hh0
                          have h1 : ac.tmps.getD 1 undef = .int .i64 (k : Int) := hbase 1 (by kernel_rfl)
                          have hh1 := h1; rw [Array.getD_eq_getD_getElem?] at hh1
                          have h2 : ac.tmps.getD 2 undef = .string s := hbase 2 (by kernel_rfl)
                          have hh2 := h2; rw [Array.getD_eq_getD_getElem?] at hh2
                          have h6 : ac.tmps.getD 6 undef = .int .i64 (i : Int) := hbase 6 (by kernel_rfl)
                          have hh6 := h6; rw [Array.getD_eq_getD_getElem?] at hh6
                          clear hbase hdep hms hdn hund
                          refine opOk_run rfl (.inl ⟨_, W, ?_, rfl, Ext.refl _, hS1⟩)
                          clear hsz hS hS0 hS1 hfi; simp [go_sem, Act.eval, *]
                        · intro ac W fL hsz hfi hms hdn hS0 hdep hbase hund
                          have hS : (fun b1 W => LNT wW w B gX a D.length cD l' v' out' b1 W) (fL 29) W := hS0
                          have hfl29 : fL 29 = false := hdn 29 (by decide) (by decide)
                          rw [hfl29] at hS
                          have hS1 : (fun b1 W => LNT wW w B gX a D.length cD l' v' out' b1 W) ((upd fL 1) 29) W := by
                            rw [show upd fL 1 29 = fL 29 from if_neg (by decide)]
                            exact hS0
                          have hSL : LsSt wW w W B gX a D.length cD l' v' out' := hS
                          obtain ⟨rp0, rp1, rp2⟩ := cells3' hSL.rep
                          have g1 := (hSL.bl.cell (p := ⟨b, o + k * 2 + 1, none⟩) (by show b < B; omega)).trans HF1.out
                          have q0 := (hSL.bl.cell (p := ⟨b3, o3 + i * 2, none⟩) (by show b3 < B; omega)).trans HQ0.out
                          have q1 := (hSL.bl.cell (p := ⟨b3, o3 + i * 2 + 1, none⟩) (by show b3 < B; omega)).trans HQ1.out
                          clear hSL
                          have h0 : ac.tmps.getD 0 undef = .pointer (some ⟨gX, 0, none⟩) := hbase 0 (by kernel_rfl)
                          have hh0 := h0; rw [Array.getD_eq_getD_getElem?] at hh0
                          have h1 : ac.tmps.getD 1 undef = .int .i64 (k : Int) := hbase 1 (by kernel_rfl)
                          have hh1 := h1; rw [Array.getD_eq_getD_getElem?] at hh1
                          have h2 : ac.tmps.getD 2 undef = .string s := hbase 2 (by kernel_rfl)
                          have hh2 := h2; rw [Array.getD_eq_getD_getElem?] at hh2
                          have h6 : ac.tmps.getD 6 undef = .int .i64 (i : Int) := hbase 6 (by kernel_rfl)
                          have hh6 := h6; rw [Array.getD_eq_getD_getElem?] at hh6
                          clear hbase hdep hms hdn hund
                          refine opOk_run rfl (.inl ⟨_, W, ?_, rfl, Ext.refl _, hS1⟩)
                          clear hsz hS hS0 hS1 hfi; simp [go_sem, Act.eval, *]
                        · intro ac W fL hsz hfi hms hdn hS0 hdep hbase hund
                          have hS : (fun b1 W => LNT wW w B gX a D.length cD l' v' out' b1 W) (fL 29) W := hS0
                          have hfl29 : fL 29 = false := hdn 29 (by decide) (by decide)
                          rw [hfl29] at hS
                          have hS1 : (fun b1 W => LNT wW w B gX a D.length cD l' v' out' b1 W) ((upd fL 2) 29) W := by
                            rw [show upd fL 2 29 = fL 29 from if_neg (by decide)]
                            exact hS0
                          have hSL : LsSt wW w W B gX a D.length cD l' v' out' := hS
                          obtain ⟨rp0, rp1, rp2⟩ := cells3' hSL.rep
                          have g1 := (hSL.bl.cell (p := ⟨b, o + k * 2 + 1, none⟩) (by show b < B; omega)).trans HF1.out
                          have q0 := (hSL.bl.cell (p := ⟨b3, o3 + i * 2, none⟩) (by show b3 < B; omega)).trans HQ0.out
                          have q1 := (hSL.bl.cell (p := ⟨b3, o3 + i * 2 + 1, none⟩) (by show b3 < B; omega)).trans HQ1.out
                          clear hSL
                          have h0 : ac.tmps.getD 0 undef = .pointer (some ⟨gX, 0, none⟩) := hbase 0 (by kernel_rfl)
                          have hh0 := h0; rw [Array.getD_eq_getD_getElem?] at hh0
                          have h1 : ac.tmps.getD 1 undef = .int .i64 (k : Int) := hbase 1 (by kernel_rfl)
                          have hh1 := h1; rw [Array.getD_eq_getD_getElem?] at hh1
                          have h2 : ac.tmps.getD 2 undef = .string s := hbase 2 (by kernel_rfl)
                          have hh2 := h2; rw [Array.getD_eq_getD_getElem?] at hh2
                          have h6 : ac.tmps.getD 6 undef = .int .i64 (i : Int) := hbase 6 (by kernel_rfl)
                          have hh6 := h6; rw [Array.getD_eq_getD_getElem?] at hh6
                          have d79 : ac.tmps.getD 79 undef = .pointer (some ⟨gX, 0, none⟩) := hdep 1 (by decide)
                          have dd79 := d79; rw [Array.getD_eq_getD_getElem?] at dd79
                          clear hbase hdep hms hdn hund
                          refine opOk_run rfl (.inl ⟨_, W, ?_, rfl, Ext.refl _, hS1⟩)
                          clear hsz hS hS0 hS1 hfi; simp [go_sem, Act.eval, *]
                        · intro ac W fL hsz hfi hms hdn hS0 hdep hbase hund
                          have hS : (fun b1 W => LNT wW w B gX a D.length cD l' v' out' b1 W) (fL 29) W := hS0
                          have hfl29 : fL 29 = false := hdn 29 (by decide) (by decide)
                          rw [hfl29] at hS
                          have hS1 : (fun b1 W => LNT wW w B gX a D.length cD l' v' out' b1 W) ((upd fL 3) 29) W := by
                            rw [show upd fL 3 29 = fL 29 from if_neg (by decide)]
                            exact hS0
                          have hSL : LsSt wW w W B gX a D.length cD l' v' out' := hS
                          obtain ⟨rp0, rp1, rp2⟩ := cells3' hSL.rep
                          have g1 := (hSL.bl.cell (p := ⟨b, o + k * 2 + 1, none⟩) (by show b < B; omega)).trans HF1.out
                          have q0 := (hSL.bl.cell (p := ⟨b3, o3 + i * 2, none⟩) (by show b3 < B; omega)).trans HQ0.out
                          have q1 := (hSL.bl.cell (p := ⟨b3, o3 + i * 2 + 1, none⟩) (by show b3 < B; omega)).trans HQ1.out
                          clear hSL
                          have h0 : ac.tmps.getD 0 undef = .pointer (some ⟨gX, 0, none⟩) := hbase 0 (by kernel_rfl)
                          have hh0 := h0; rw [Array.getD_eq_getD_getElem?] at hh0
                          have h1 : ac.tmps.getD 1 undef = .int .i64 (k : Int) := hbase 1 (by kernel_rfl)
                          have hh1 := h1; rw [Array.getD_eq_getD_getElem?] at hh1
                          have h2 : ac.tmps.getD 2 undef = .string s := hbase 2 (by kernel_rfl)
                          have hh2 := h2; rw [Array.getD_eq_getD_getElem?] at hh2
                          have h6 : ac.tmps.getD 6 undef = .int .i64 (i : Int) := hbase 6 (by kernel_rfl)
                          have hh6 := h6; rw [Array.getD_eq_getD_getElem?] at hh6
                          have d80 : ac.tmps.getD 80 undef = .pointer (some ⟨gX, 0, none⟩) := hdep 2 (by decide)
                          have dd80 := d80; rw [Array.getD_eq_getD_getElem?] at dd80
                          clear hbase hdep hms hdn hund
                          refine opOk_run rfl (.inl ⟨_, W, ?_, rfl, Ext.refl _, hS1⟩)
                          clear hsz hS hS0 hS1 hfi; simp [go_sem, Act.eval, *]
                        · intro ac W fL hsz hfi hms hdn hS0 hdep hbase hund
                          have hS : (fun b1 W => LNT wW w B gX a D.length cD l' v' out' b1 W) (fL 29) W := hS0
                          have hfl29 : fL 29 = false := hdn 29 (by decide) (by decide)
                          rw [hfl29] at hS
                          have hS1 : (fun b1 W => LNT wW w B gX a D.length cD l' v' out' b1 W) ((upd fL 4) 29) W := by
                            rw [show upd fL 4 29 = fL 29 from if_neg (by decide)]
                            exact hS0
                          have hSL : LsSt wW w W B gX a D.length cD l' v' out' := hS
                          obtain ⟨rp0, rp1, rp2⟩ := cells3' hSL.rep
                          have g1 := (hSL.bl.cell (p := ⟨b, o + k * 2 + 1, none⟩) (by show b < B; omega)).trans HF1.out
                          have q0 := (hSL.bl.cell (p := ⟨b3, o3 + i * 2, none⟩) (by show b3 < B; omega)).trans HQ0.out
                          have q1 := (hSL.bl.cell (p := ⟨b3, o3 + i * 2 + 1, none⟩) (by show b3 < B; omega)).trans HQ1.out
                          clear hSL
                          have h0 : ac.tmps.getD 0 undef = .pointer (some ⟨gX, 0, none⟩) := hbase 0 (by kernel_rfl)
                          have hh0 := h0; rw [Array.getD_eq_getD_getElem?] at hh0
                          have h1 : ac.tmps.getD 1 undef = .int .i64 (k : Int) := hbase 1 (by kernel_rfl)
                          have hh1 := h1; rw [Array.getD_eq_getD_getElem?] at hh1
                          have h2 : ac.tmps.getD 2 undef = .string s := hbase 2 (by kernel_rfl)
                          have hh2 := h2; rw [Array.getD_eq_getD_getElem?] at hh2
                          have h6 : ac.tmps.getD 6 undef = .int .i64 (i : Int) := hbase 6 (by kernel_rfl)
                          have hh6 := h6; rw [Array.getD_eq_getD_getElem?] at hh6
                          have d81 : ac.tmps.getD 81 undef = .pointer (some ⟨gX, 0, none⟩) := hdep 3 (by decide)
                          have dd81 := d81; rw [Array.getD_eq_getD_getElem?] at dd81
                          clear hbase hdep hms hdn hund
                          refine opOk_run rfl (.inl ⟨_, W, ?_, rfl, Ext.refl _, hS1⟩)
                          clear hsz hS hS0 hS1 hfi; simp [go_sem, Act.eval, *]
                        · intro ac W fL hsz hfi hms hdn hS0 hdep hbase hund
                          have hS : (fun b1 W => LNT wW w B gX a D.length cD l' v' out' b1 W) (fL 29) W := hS0
                          have hfl29 : fL 29 = false := hdn 29 (by decide) (by decide)
                          rw [hfl29] at hS
                          have hS1 : (fun b1 W => LNT wW w B gX a D.length cD l' v' out' b1 W) ((upd fL 5) 29) W := by
                            rw [show upd fL 5 29 = fL 29 from if_neg (by decide)]
                            exact hS0
                          have hSL : LsSt wW w W B gX a D.length cD l' v' out' := hS
                          obtain ⟨rp0, rp1, rp2⟩ := cells3' hSL.rep
                          have g1 := (hSL.bl.cell (p := ⟨b, o + k * 2 + 1, none⟩) (by show b < B; omega)).trans HF1.out
                          have q0 := (hSL.bl.cell (p := ⟨b3, o3 + i * 2, none⟩) (by show b3 < B; omega)).trans HQ0.out
                          have q1 := (hSL.bl.cell (p := ⟨b3, o3 + i * 2 + 1, none⟩) (by show b3 < B; omega)).trans HQ1.out
                          clear hSL
                          have h0 : ac.tmps.getD 0 undef = .pointer (some ⟨gX, 0, none⟩) := hbase 0 (by kernel_rfl)
                          have hh0 := h0; rw [Array.getD_eq_getD_getElem?] at hh0
                          have h1 : ac.tmps.getD 1 undef = .int .i64 (k : Int) := hbase 1 (by kernel_rfl)
                          have hh1 := h1; rw [Array.getD_eq_getD_getElem?] at hh1
                          have h2 : ac.tmps.getD 2 undef = .string s := hbase 2 (by kernel_rfl)
                          have hh2 := h2; rw [Array.getD_eq_getD_getElem?] at hh2
                          have h6 : ac.tmps.getD 6 undef = .int .i64 (i : Int) := hbase 6 (by kernel_rfl)
                          have hh6 := h6; rw [Array.getD_eq_getD_getElem?] at hh6
                          clear hbase hdep hms hdn hund
                          refine opOk_run rfl (.inl ⟨_, W, ?_, rfl, Ext.refl _, hS1⟩)
                          clear hsz hS hS0 hS1 hfi; simp [go_sem, Act.eval, *]
                        · intro ac W fL hsz hfi hms hdn hS0 hdep hbase hund
                          have hS : (fun b1 W => LNT wW w B gX a D.length cD l' v' out' b1 W) (fL 29) W := hS0
                          have hfl29 : fL 29 = false := hdn 29 (by decide) (by decide)
                          rw [hfl29] at hS
                          have hS1 : (fun b1 W => LNT wW w B gX a D.length cD l' v' out' b1 W) ((upd fL 6) 29) W := by
                            rw [show upd fL 6 29 = fL 29 from if_neg (by decide)]
                            exact hS0
                          have hSL : LsSt wW w W B gX a D.length cD l' v' out' := hS
                          obtain ⟨rp0, rp1, rp2⟩ := cells3' hSL.rep
                          have g1 := (hSL.bl.cell (p := ⟨b, o + k * 2 + 1, none⟩) (by show b < B; omega)).trans HF1.out
                          have q0 := (hSL.bl.cell (p := ⟨b3, o3 + i * 2, none⟩) (by show b3 < B; omega)).trans HQ0.out
                          have q1 := (hSL.bl.cell (p := ⟨b3, o3 + i * 2 + 1, none⟩) (by show b3 < B; omega)).trans HQ1.out
                          clear hSL
                          have h0 : ac.tmps.getD 0 undef = .pointer (some ⟨gX, 0, none⟩) := hbase 0 (by kernel_rfl)
                          have hh0 := h0; rw [Array.getD_eq_getD_getElem?] at hh0
                          have h1 : ac.tmps.getD 1 undef = .int .i64 (k : Int) := hbase 1 (by kernel_rfl)
                          have hh1 := h1; rw [Array.getD_eq_getD_getElem?] at hh1
                          have h2 : ac.tmps.getD 2 undef = .string s := hbase 2 (by kernel_rfl)
                          have hh2 := h2; rw [Array.getD_eq_getD_getElem?] at hh2
                          have h6 : ac.tmps.getD 6 undef = .int .i64 (i : Int) := hbase 6 (by kernel_rfl)
                          have hh6 := h6; rw [Array.getD_eq_getD_getElem?] at hh6
                          have d82 : ac.tmps.getD 82 undef = .slice a D.length cD := hdep 4 (by decide)
                          have dd82 := d82; rw [Array.getD_eq_getD_getElem?] at dd82
                          have d83 : ac.tmps.getD 83 undef = .int .i64 (k : Int) := hdep 5 (by decide)
                          have dd83 := d83; rw [Array.getD_eq_getD_getElem?] at dd83
                          clear hbase hdep hms hdn hund
                          refine opOk_run rfl (.inl ⟨_, W, ?_, rfl, Ext.refl _, hS1⟩)
                          clear hsz hS hS0 hS1 hfi; simp [go_sem, Act.eval, *]
                        · intro ac W fL hsz hfi hms hdn hS0 hdep hbase hund
                          have hS : (fun b1 W => LNT wW w B gX a D.length cD l' v' out' b1 W) (fL 29) W := hS0
                          have hfl29 : fL 29 = false := hdn 29 (by decide) (by decide)
                          rw [hfl29] at hS
                          have hS1 : (fun b1 W => LNT wW w B gX a D.length cD l' v' out' b1 W) ((upd fL 7) 29) W := by
                            rw [show upd fL 7 29 = fL 29 from if_neg (by decide)]
                            exact hS0
                          have hSL : LsSt wW w W B gX a D.length cD l' v' out' := hS
                          obtain ⟨rp0, rp1, rp2⟩ := cells3' hSL.rep
                          have g1 := (hSL.bl.cell (p := ⟨b, o + k * 2 + 1, none⟩) (by show b < B; omega)).trans HF1.out
                          have q0 := (hSL.bl.cell (p := ⟨b3, o3 + i * 2, none⟩) (by show b3 < B; omega)).trans HQ0.out
                          have q1 := (hSL.bl.cell (p := ⟨b3, o3 + i * 2 + 1, none⟩) (by show b3 < B; omega)).trans HQ1.out
                          clear hSL
                          have h0 : ac.tmps.getD 0 undef = .pointer (some ⟨gX, 0, none⟩) := hbase 0 (by kernel_rfl)
                          have hh0 := h0; rw [Array.getD_eq_getD_getElem?] at hh0
                          have h1 : ac.tmps.getD 1 undef = .int .i64 (k : Int) := hbase 1 (by kernel_rfl)
                          have hh1 := h1; rw [Array.getD_eq_getD_getElem?] at hh1
                          have h2 : ac.tmps.getD 2 undef = .string s := hbase 2 (by kernel_rfl)
                          have hh2 := h2; rw [Array.getD_eq_getD_getElem?] at hh2
                          have h6 : ac.tmps.getD 6 undef = .int .i64 (i : Int) := hbase 6 (by kernel_rfl)
                          have hh6 := h6; rw [Array.getD_eq_getD_getElem?] at hh6
                          have d84 : ac.tmps.getD 84 undef = .pointer (some ⟨b, o + k * 2, none⟩) := hdep 6 (by decide)
                          have dd84 := d84; rw [Array.getD_eq_getD_getElem?] at dd84
                          clear hbase hdep hms hdn hund
                          refine opOk_run rfl (.inl ⟨_, W, ?_, rfl, Ext.refl _, hS1⟩)
                          clear hsz hS hS0 hS1 hfi; simp [go_sem, Act.eval, *]
                        · intro ac W fL hsz hfi hms hdn hS0 hdep hbase hund
                          have hS : (fun b1 W => LNT wW w B gX a D.length cD l' v' out' b1 W) (fL 29) W := hS0
                          have hfl29 : fL 29 = false := hdn 29 (by decide) (by decide)
                          rw [hfl29] at hS
                          have hS1 : (fun b1 W => LNT wW w B gX a D.length cD l' v' out' b1 W) ((upd fL 8) 29) W := by
                            rw [show upd fL 8 29 = fL 29 from if_neg (by decide)]
                            exact hS0
                          have hSL : LsSt wW w W B gX a D.length cD l' v' out' := hS
                          obtain ⟨rp0, rp1, rp2⟩ := cells3' hSL.rep
                          have g1 := (hSL.bl.cell (p := ⟨b, o + k * 2 + 1, none⟩) (by show b < B; omega)).trans HF1.out
                          have q0 := (hSL.bl.cell (p := ⟨b3, o3 + i * 2, none⟩) (by show b3 < B; omega)).trans HQ0.out
                          have q1 := (hSL.bl.cell (p := ⟨b3, o3 + i * 2 + 1, none⟩) (by show b3 < B; omega)).trans HQ1.out
                          clear hSL
                          have h0 : ac.tmps.getD 0 undef = .pointer (some ⟨gX, 0, none⟩) := hbase 0 (by kernel_rfl)
                          have hh0 := h0; rw [Array.getD_eq_getD_getElem?] at hh0
                          have h1 : ac.tmps.getD 1 undef = .int .i64 (k : Int) := hbase 1 (by kernel_rfl)
                          have hh1 := h1; rw [Array.getD_eq_getD_getElem?] at hh1
                          have h2 : ac.tmps.getD 2 undef = .string s := hbase 2 (by kernel_rfl)
                          have hh2 := h2; rw [Array.getD_eq_getD_getElem?] at hh2
                          have h6 : ac.tmps.getD 6 undef = .int .i64 (i : Int) := hbase 6 (by kernel_rfl)
                          have hh6 := h6; rw [Array.getD_eq_getD_getElem?] at hh6
                          have d85 : ac.tmps.getD 85 undef = .pointer (some ⟨b, o + k * 2 + 1, none⟩) := hdep 7 (by decide)
                          have dd85 := d85; rw [Array.getD_eq_getD_getElem?] at dd85
                          clear hbase hdep hms hdn hund
                          refine opOk_run rfl (.inl ⟨_, W, ?_, rfl, Ext.refl _, hS1⟩)
                          clear hsz hS hS0 hS1 hfi; simp [go_sem, Act.eval, *]
                        · intro ac W fL hsz hfi hms hdn hS0 hdep hbase hund
                          have hS : (fun b1 W => LNT wW w B gX a D.length cD l' v' out' b1 W) (fL 29) W := hS0
                          have hfl29 : fL 29 = false := hdn 29 (by decide) (by decide)
                          rw [hfl29] at hS
                          have hS1 : (fun b1 W => LNT wW w B gX a D.length cD l' v' out' b1 W) ((upd fL 9) 29) W := by
                            rw [show upd fL 9 29 = fL 29 from if_neg (by decide)]
                            exact hS0
                          have hSL : LsSt wW w W B gX a D.length cD l' v' out' := hS
                          obtain ⟨rp0, rp1, rp2⟩ := cells3' hSL.rep
                          have g1 := (hSL.bl.cell (p := ⟨b, o + k * 2 + 1, none⟩) (by show b < B; omega)).trans HF1.out
                          have q0 := (hSL.bl.cell (p := ⟨b3, o3 + i * 2, none⟩) (by show b3 < B; omega)).trans HQ0.out
                          have q1 := (hSL.bl.cell (p := ⟨b3, o3 + i * 2 + 1, none⟩) (by show b3 < B; omega)).trans HQ1.out
                          clear hSL
                          have h0 : ac.tmps.getD 0 undef = .pointer (some ⟨gX, 0, none⟩) := hbase 0 (by kernel_rfl)
                          have hh0 := h0; rw [Array.getD_eq_getD_getElem?] at hh0
                          have h1 : ac.tmps.getD 1 undef = .int .i64 (k : Int) := hbase 1 (by kernel_rfl)
                          have hh1 := h1; rw [Array.getD_eq_getD_getElem?] at hh1
                          have h2 : ac.tmps.getD 2 undef = .string s := hbase 2 (by kernel_rfl)
                          have hh2 := h2; rw [Array.getD_eq_getD_getElem?] at hh2
                          have h6 : ac.tmps.getD 6 undef = .int .i64 (i : Int) := hbase 6 (by kernel_rfl)
                          have hh6 := h6; rw [Array.getD_eq_getD_getElem?] at hh6
                          clear hbase hdep hms hdn hund
                          refine opOk_run rfl (.inl ⟨_, W, ?_, rfl, Ext.refl _, hS1⟩)
                          clear hsz hS hS0 hS1 hfi; simp [go_sem, Act.eval, *]
                        · intro ac W fL hsz hfi hms hdn hS0 hdep hbase hund
                          have hS : (fun b1 W => LNT wW w B gX a D.length cD l' v' out' b1 W) (fL 29) W := hS0
                          have hfl29 : fL 29 = false := hdn 29 (by decide) (by decide)
                          rw [hfl29] at hS
                          have hS1 : (fun b1 W => LNT wW w B gX a D.length cD l' v' out' b1 W) ((upd fL 10) 29) W := by
                            rw [show upd fL 10 29 = fL 29 from if_neg (by decide)]
                            exact hS0
                          have hSL : LsSt wW w W B gX a D.length cD l' v' out' := hS
                          obtain ⟨rp0, rp1, rp2⟩ := cells3' hSL.rep
                          have g1 := (hSL.bl.cell (p := ⟨b, o + k * 2 + 1, none⟩) (by show b < B; omega)).trans HF1.out
                          have q0 := (hSL.bl.cell (p := ⟨b3, o3 + i * 2, none⟩) (by show b3 < B; omega)).trans HQ0.out
                          have q1 := (hSL.bl.cell (p := ⟨b3, o3 + i * 2 + 1, none⟩) (by show b3 < B; omega)).trans HQ1.out
                          clear hSL
                          have h0 : ac.tmps.getD 0 undef = .pointer (some ⟨gX, 0, none⟩) := hbase 0 (by kernel_rfl)
                          have hh0 := h0; rw [Array.getD_eq_getD_getElem?] at hh0
                          have h1 : ac.tmps.getD 1 undef = .int .i64 (k : Int) := hbase 1 (by kernel_rfl)
                          have hh1 := h1; rw [Array.getD_eq_getD_getElem?] at hh1
                          have h2 : ac.tmps.getD 2 undef = .string s := hbase 2 (by kernel_rfl)
                          have hh2 := h2; rw [Array.getD_eq_getD_getElem?] at hh2
                          have h6 : ac.tmps.getD 6 undef = .int .i64 (i : Int) := hbase 6 (by kernel_rfl)
                          have hh6 := h6; rw [Array.getD_eq_getD_getElem?] at hh6
                          have d86 : ac.tmps.getD 86 undef = .slice aa X.length cc := hdep 8 (by decide)
                          have dd86 := d86; rw [Array.getD_eq_getD_getElem?] at dd86
                          have d87 : ac.tmps.getD 87 undef = .int .i64 (i : Int) := hdep 9 (by decide)
                          have dd87 := d87; rw [Array.getD_eq_getD_getElem?] at dd87
                          clear hbase hdep hms hdn hund
                          refine opOk_run rfl (.inl ⟨_, W, ?_, rfl, Ext.refl _, hS1⟩)
                          clear hsz hS hS0 hS1 hfi; simp [go_sem, Act.eval, *]
                        · intro ac W fL hsz hfi hms hdn hS0 hdep hbase hund
                          have hS : (fun b1 W => LNT wW w B gX a D.length cD l' v' out' b1 W) (fL 29) W := hS0
                          have hfl29 : fL 29 = false := hdn 29 (by decide) (by decide)
                          rw [hfl29] at hS
                          have hS1 : (fun b1 W => LNT wW w B gX a D.length cD l' v' out' b1 W) ((upd fL 11) 29) W := by
                            rw [show upd fL 11 29 = fL 29 from if_neg (by decide)]
                            exact hS0
                          have hSL : LsSt wW w W B gX a D.length cD l' v' out' := hS
                          obtain ⟨rp0, rp1, rp2⟩ := cells3' hSL.rep
                          have g1 := (hSL.bl.cell (p := ⟨b, o + k * 2 + 1, none⟩) (by show b < B; omega)).trans HF1.out
                          have q0 := (hSL.bl.cell (p := ⟨b3, o3 + i * 2, none⟩) (by show b3 < B; omega)).trans HQ0.out
                          have q1 := (hSL.bl.cell (p := ⟨b3, o3 + i * 2 + 1, none⟩) (by show b3 < B; omega)).trans HQ1.out
                          clear hSL
                          have h0 : ac.tmps.getD 0 undef = .pointer (some ⟨gX, 0, none⟩) := hbase 0 (by kernel_rfl)
                          have hh0 := h0; rw [Array.getD_eq_getD_getElem?] at hh0
                          have h1 : ac.tmps.getD 1 undef = .int .i64 (k : Int) := hbase 1 (by kernel_rfl)
                          have hh1 := h1; rw [Array.getD_eq_getD_getElem?] at hh1
                          have h2 : ac.tmps.getD 2 undef = .string s := hbase 2 (by kernel_rfl)
                          have hh2 := h2; rw [Array.getD_eq_getD_getElem?] at hh2
                          have h6 : ac.tmps.getD 6 undef = .int .i64 (i : Int) := hbase 6 (by kernel_rfl)
                          have hh6 := h6; rw [Array.getD_eq_getD_getElem?] at hh6
                          have d88 : ac.tmps.getD 88 undef = .pointer (some ⟨b3, o3 + i * 2, none⟩) := hdep 10 (by decide)
                          have dd88 := d88; rw [Array.getD_eq_getD_getElem?] at dd88
                          clear hbase hdep hms hdn hund
                          refine opOk_run rfl (.inl ⟨_, W, ?_, rfl, Ext.refl _, hS1⟩)
                          clear hsz hS hS0 hS1 hfi; simp [go_sem, Act.eval, *]
                        · intro ac W fL hsz hfi hms hdn hS0 hdep hbase hund
                          have hS : (fun b1 W => LNT wW w B gX a D.length cD l' v' out' b1 W) (fL 29) W := hS0
                          have hfl29 : fL 29 = false := hdn 29 (by decide) (by decide)
                          rw [hfl29] at hS
                          have hS1 : (fun b1 W => LNT wW w B gX a D.length cD l' v' out' b1 W) ((upd fL 12) 29) W := by
                            rw [show upd fL 12 29 = fL 29 from if_neg (by decide)]
                            exact hS0
                          have hSL : LsSt wW w W B gX a D.length cD l' v' out' := hS
                          obtain ⟨rp0, rp1, rp2⟩ := cells3' hSL.rep
                          have g1 := (hSL.bl.cell (p := ⟨b, o + k * 2 + 1, none⟩) (by show b < B; omega)).trans HF1.out
                          have q0 := (hSL.bl.cell (p := ⟨b3, o3 + i * 2, none⟩) (by show b3 < B; omega)).trans HQ0.out
                          have q1 := (hSL.bl.cell (p := ⟨b3, o3 + i * 2 + 1, none⟩) (by show b3 < B; omega)).trans HQ1.out
                          clear hSL
                          have h0 : ac.tmps.getD 0 undef = .pointer (some ⟨gX, 0, none⟩) := hbase 0 (by kernel_rfl)
                          have hh0 := h0; rw [Array.getD_eq_getD_getElem?] at hh0
                          have h1 : ac.tmps.getD 1 undef = .int .i64 (k : Int) := hbase 1 (by kernel_rfl)
                          have hh1 := h1; rw [Array.getD_eq_getD_getElem?] at hh1
                          have h2 : ac.tmps.getD 2 undef = .string s := hbase 2 (by kernel_rfl)
                          have hh2 := h2; rw [Array.getD_eq_getD_getElem?] at hh2
                          have h6 : ac.tmps.getD 6 undef = .int .i64 (i : Int) := hbase 6 (by kernel_rfl)
                          have hh6 := h6; rw [Array.getD_eq_getD_getElem?] at hh6
                          have d89 : ac.tmps.getD 89 undef = .pointer (some ⟨b3, o3 + i * 2 + 1, none⟩) := hdep 11 (by decide)
                          have dd89 := d89; rw [Array.getD_eq_getD_getElem?] at dd89
                          clear hbase hdep hms hdn hund
                          refine opOk_run rfl (.inl ⟨_, W, ?_, rfl, Ext.refl _, hS1⟩)
                          clear hsz hS hS0 hS1 hfi; simp [go_sem, Act.eval, *]
                        · intro ac W fL hsz hfi hms hdn hS0 hdep hbase hund
                          have hS : (fun b1 W => LNT wW w B gX a D.length cD l' v' out' b1 W) (fL 29) W := hS0
                          have hfl29 : fL 29 = false := hdn 29 (by decide) (by decide)
                          rw [hfl29] at hS
                          have hS1 : (fun b1 W => LNT wW w B gX a D.length cD l' v' out' b1 W) ((upd fL 13) 29) W := by
                            rw [show upd fL 13 29 = fL 29 from if_neg (by decide)]
                            exact hS0
                          have hSL : LsSt wW w W B gX a D.length cD l' v' out' := hS
                          obtain ⟨rp0, rp1, rp2⟩ := cells3' hSL.rep
                          have g1 := (hSL.bl.cell (p := ⟨b, o + k * 2 + 1, none⟩) (by show b < B; omega)).trans HF1.out
                          have q0 := (hSL.bl.cell (p := ⟨b3, o3 + i * 2, none⟩) (by show b3 < B; omega)).trans HQ0.out
                          have q1 := (hSL.bl.cell (p := ⟨b3, o3 + i * 2 + 1, none⟩) (by show b3 < B; omega)).trans HQ1.out
                          clear hSL
                          have h0 : ac.tmps.getD 0 undef = .pointer (some ⟨gX, 0, none⟩) := hbase 0 (by kernel_rfl)
                          have hh0 := h0; rw [Array.getD_eq_getD_getElem?] at hh0
                          have h1 : ac.tmps.getD 1 undef = .int .i64 (k : Int) := hbase 1 (by kernel_rfl)
                          have hh1 := h1; rw [Array.getD_eq_getD_getElem?] at hh1
                          have h2 : ac.tmps.getD 2 undef = .string s := hbase 2 (by kernel_rfl)
                          have hh2 := h2; rw [Array.getD_eq_getD_getElem?] at hh2
                          have h6 : ac.tmps.getD 6 undef = .int .i64 (i : Int) := hbase 6 (by kernel_rfl)
                          have hh6 := h6; rw [Array.getD_eq_getD_getElem?] at hh6
                          clear hbase hdep hms hdn hund
                          refine opOk_run rfl (.inl ⟨_, W, ?_, rfl, Ext.refl _, hS1⟩)
                          clear hsz hS hS0 hS1 hfi; simp [go_sem, Act.eval, *]
                        · intro ac W fL hsz hfi hms hdn hS0 hdep hbase hund
                          have hS : (fun b1 W => LNT wW w B gX a D.length cD l' v' out' b1 W) (fL 29) W := hS0
                          have hfl29 : fL 29 = false := hdn 29 (by decide) (by decide)
                          rw [hfl29] at hS
                          have hS1 : (fun b1 W => LNT wW w B gX a D.length cD l' v' out' b1 W) ((upd fL 14) 29) W := by
                            rw [show upd fL 14 29 = fL 29 from if_neg (by decide)]
                            exact hS0
                          have hSL : LsSt wW w W B gX a D.length cD l' v' out' := hS
                          obtain ⟨rp0, rp1, rp2⟩ := cells3' hSL.rep
                          have g1 := (hSL.bl.cell (p := ⟨b, o + k * 2 + 1, none⟩) (by show b < B; omega)).trans HF1.out
                          have q0 := (hSL.bl.cell (p := ⟨b3, o3 + i * 2, none⟩) (by show b3 < B; omega)).trans HQ0.out
                          have q1 := (hSL.bl.cell (p := ⟨b3, o3 + i * 2 + 1, none⟩) (by show b3 < B; omega)).trans HQ1.out
                          clear hSL
                          have h0 : ac.tmps.getD 0 undef = .pointer (some ⟨gX, 0, none⟩) := hbase 0 (by kernel_rfl)
                          have hh0 := h0; rw [Array.getD_eq_getD_getElem?] at hh0
                          have h1 : ac.tmps.getD 1 undef = .int .i64 (k : Int) := hbase 1 (by kernel_rfl)
                          have hh1 := h1; rw [Array.getD_eq_getD_getElem?] at hh1
                          have h2 : ac.tmps.getD 2 undef = .string s := hbase 2 (by kernel_rfl)
                          have hh2 := h2; rw [Array.getD_eq_getD_getElem?] at hh2
                          have h6 : ac.tmps.getD 6 undef = .int .i64 (i : Int) := hbase 6 (by kernel_rfl)
                          have hh6 := h6; rw [Array.getD_eq_getD_getElem?] at hh6
                          clear hbase hdep hms hdn hund
                          refine opOk_run rfl (.inl ⟨_, W, ?_, rfl, Ext.refl _, hS1⟩)
                          clear hsz hS hS0 hS1 hfi; simp [go_sem, Act.eval, *]
                        · intro ac W fL hsz hfi hms hdn hS0 hdep hbase hund
                          have hS : (fun b1 W => LNT wW w B gX a D.length cD l' v' out' b1 W) (fL 29) W := hS0
                          have hfl29 : fL 29 = false := hdn 29 (by decide) (by decide)
                          rw [hfl29] at hS
                          have hS1 : (fun b1 W => LNT wW w B gX a D.length cD l' v' out' b1 W) ((upd fL 15) 29) W := by
                            rw [show upd fL 15 29 = fL 29 from if_neg (by decide)]
                            exact hS0
                          have hSL : LsSt wW w W B gX a D.length cD l' v' out' := hS
                          obtain ⟨rp0, rp1, rp2⟩ := cells3' hSL.rep
                          have g1 := (hSL.bl.cell (p := ⟨b, o + k * 2 + 1, none⟩) (by show b < B; omega)).trans HF1.out
                          have q0 := (hSL.bl.cell (p := ⟨b3, o3 + i * 2, none⟩) (by show b3 < B; omega)).trans HQ0.out
                          have q1 := (hSL.bl.cell (p := ⟨b3, o3 + i * 2 + 1, none⟩) (by show b3 < B; omega)).trans HQ1.out
                          clear hSL
                          have h0 : ac.tmps.getD 0 undef = .pointer (some ⟨gX, 0, none⟩) := hbase 0 (by kernel_rfl)
                          have hh0 := h0; rw [Array.getD_eq_getD_getElem?] at hh0
                          have h1 : ac.tmps.getD 1 undef = .int .i64 (k : Int) := hbase 1 (by kernel_rfl)
                          have hh1 := h1; rw [Array.getD_eq_getD_getElem?] at hh1
                          have h2 : ac.tmps.getD 2 undef = .string s := hbase 2 (by kernel_rfl)
                          have hh2 := h2; rw [Array.getD_eq_getD_getElem?] at hh2
                          have h6 : ac.tmps.getD 6 undef = .int .i64 (i : Int) := hbase 6 (by kernel_rfl)
                          have hh6 := h6; rw [Array.getD_eq_getD_getElem?] at hh6
                          have d92 : ac.tmps.getD 92 undef = .pointer (some ⟨gX, 0, none⟩) := hdep 14 (by decide)
                          have dd92 := d92; rw [Array.getD_eq_getD_getElem?] at dd92
                          clear hbase hdep hms hdn hund
                          refine opOk_run rfl (.inl ⟨_, W, ?_, rfl, Ext.refl _, hS1⟩)
                          clear hsz hS hS0 hS1 hfi; simp [go_sem, Act.eval, *]
                        · intro ac W fL hsz hfi hms hdn hS0 hdep hbase hund
                          have hS : (fun b1 W => LNT wW w B gX a D.length cD l' v' out' b1 W) (fL 29) W := hS0
                          have hfl29 : fL 29 = false := hdn 29 (by decide) (by decide)
                          rw [hfl29] at hS
                          have hS1 : (fun b1 W => LNT wW w B gX a D.length cD l' v' out' b1 W) ((upd fL 16) 29) W := by
                            rw [show upd fL 16 29 = fL 29 from if_neg (by decide)]
                            exact hS0
                          have hSL : LsSt wW w W B gX a D.length cD l' v' out' := hS
                          obtain ⟨rp0, rp1, rp2⟩ := cells3' hSL.rep
                          have g1 := (hSL.bl.cell (p := ⟨b, o + k * 2 + 1, none⟩) (by show b < B; omega)).trans HF1.out
                          have q0 := (hSL.bl.cell (p := ⟨b3, o3 + i * 2, none⟩) (by show b3 < B; omega)).trans HQ0.out
                          have q1 := (hSL.bl.cell (p := ⟨b3, o3 + i * 2 + 1, none⟩) (by show b3 < B; omega)).trans HQ1.out
                          clear hSL
                          have h0 : ac.tmps.getD 0 undef = .pointer (some ⟨gX, 0, none⟩) := hbase 0 (by kernel_rfl)
                          have hh0 := h0; rw [Array.getD_eq_getD_getElem?] at hh0
                          have h1 : ac.tmps.getD 1 undef = .int .i64 (k : Int) := hbase 1 (by kernel_rfl)
                          have hh1 := h1; rw [Array.getD_eq_getD_getElem?] at hh1
                          have h2 : ac.tmps.getD 2 undef = .string s := hbase 2 (by kernel_rfl)
                          have hh2 := h2; rw [Array.getD_eq_getD_getElem?] at hh2
                          have h6 : ac.tmps.getD 6 undef = .int .i64 (i : Int) := hbase 6 (by kernel_rfl)
                          have hh6 := h6; rw [Array.getD_eq_getD_getElem?] at hh6
                          have d93 : ac.tmps.getD 93 undef = .pointer (some ⟨gX, 0, none⟩) := hdep 15 (by decide)
                          have dd93 := d93; rw [Array.getD_eq_getD_getElem?] at dd93
                          clear hbase hdep hms hdn hund
                          refine opOk_run rfl (.inl ⟨_, W, ?_, rfl, Ext.refl _, hS1⟩)
                          clear hsz hS hS0 hS1 hfi; simp [go_sem, Act.eval, *]
                        · intro ac W fL hsz hfi hms hdn hS0 hdep hbase hund
                          have hS : (fun b1 W => LNT wW w B gX a D.length cD l' v' out' b1 W) (fL 29) W := hS0
                          have hfl29 : fL 29 = false := hdn 29 (by decide) (by decide)
                          rw [hfl29] at hS
                          have hS1 : (fun b1 W => LNT wW w B gX a D.length cD l' v' out' b1 W) ((upd fL 17) 29) W := by
                            rw [show upd fL 17 29 = fL 29 from if_neg (by decide)]
                            exact hS0
                          have hSL : LsSt wW w W B gX a D.length cD l' v' out' := hS
                          obtain ⟨rp0, rp1, rp2⟩ := cells3' hSL.rep
                          have g1 := (hSL.bl.cell (p := ⟨b, o + k * 2 + 1, none⟩) (by show b < B; omega)).trans HF1.out
                          have q0 := (hSL.bl.cell (p := ⟨b3, o3 + i * 2, none⟩) (by show b3 < B; omega)).trans HQ0.out
                          have q1 := (hSL.bl.cell (p := ⟨b3, o3 + i * 2 + 1, none⟩) (by show b3 < B; omega)).trans HQ1.out
                          clear hSL
                          have h0 : ac.tmps.getD 0 undef = .pointer (some ⟨gX, 0, none⟩) := hbase 0 (by kernel_rfl)
                          have hh0 := h0; rw [Array.getD_eq_getD_getElem?] at hh0
                          have h1 : ac.tmps.getD 1 undef = .int .i64 (k : Int) := hbase 1 (by kernel_rfl)
                          have hh1 := h1; rw [Array.getD_eq_getD_getElem?] at hh1
                          have h2 : ac.tmps.getD 2 undef = .string s := hbase 2 (by kernel_rfl)
                          have hh2 := h2; rw [Array.getD_eq_getD_getElem?] at hh2
                          have h6 : ac.tmps.getD 6 undef = .int .i64 (i : Int) := hbase 6 (by kernel_rfl)
                          have hh6 := h6; rw [Array.getD_eq_getD_getElem?] at hh6
                          have d94 : ac.tmps.getD 94 undef = .pointer (some ⟨gX, 0, none⟩) := hdep 16 (by decide)
                          have dd94 := d94; rw [Array.getD_eq_getD_getElem?] at dd94
                          clear hbase hdep hms hdn hund
                          refine opOk_run rfl (.inl ⟨_, W, ?_, rfl, Ext.refl _, hS1⟩)
                          clear hsz hS hS0 hS1 hfi; simp [go_sem, Act.eval, *]
                        · intro ac W fL hsz hfi hms hdn hS0 hdep hbase hund
                          have hS : (fun b1 W => LNT wW w B gX a D.length cD l' v' out' b1 W) (fL 29) W := hS0
                          have hfl29 : fL 29 = false := hdn 29 (by decide) (by decide)
                          rw [hfl29] at hS
                          have hS1 : (fun b1 W => LNT wW w B gX a D.length cD l' v' out' b1 W) ((upd fL 18) 29) W := by
                            rw [show upd fL 18 29 = fL 29 from if_neg (by decide)]
                            exact hS0
                          have hSL : LsSt wW w W B gX a D.length cD l' v' out' := hS
                          obtain ⟨rp0, rp1, rp2⟩ := cells3' hSL.rep
                          have g1 := (hSL.bl.cell (p := ⟨b, o + k * 2 + 1, none⟩) (by show b < B; omega)).trans HF1.out
                          have q0 := (hSL.bl.cell (p := ⟨b3, o3 + i * 2, none⟩) (by show b3 < B; omega)).trans HQ0.out
                          have q1 := (hSL.bl.cell (p := ⟨b3, o3 + i * 2 + 1, none⟩) (by show b3 < B; omega)).trans HQ1.out
                          clear hSL
                          have h0 : ac.tmps.getD 0 undef = .pointer (some ⟨gX, 0, none⟩) := hbase 0 (by kernel_rfl)
                          have hh0 := h0; rw [Array.getD_eq_getD_getElem?] at hh0
                          have h1 : ac.tmps.getD 1 undef = .int .i64 (k : Int) := hbase 1 (by kernel_rfl)
                          have hh1 := h1; rw [Array.getD_eq_getD_getElem?] at hh1
                          have h2 : ac.tmps.getD 2 undef = .string s := hbase 2 (by kernel_rfl)
                          have hh2 := h2; rw [Array.getD_eq_getD_getElem?] at hh2
                          have h6 : ac.tmps.getD 6 undef = .int .i64 (i : Int) := hbase 6 (by kernel_rfl)
                          have hh6 := h6; rw [Array.getD_eq_getD_getElem?] at hh6
                          clear hbase hdep hms hdn hund
                          refine opOk_run rfl (.inl ⟨_, W, ?_, rfl, Ext.refl _, hS1⟩)
                          clear hsz hS hS0 hS1 hfi; simp [go_sem, Act.eval, *]
                        · intro ac W fL hsz hfi hms hdn hS0 hdep hbase hund
                          have hS : (fun b1 W => LNT wW w B gX a D.length cD l' v' out' b1 W) (fL 29) W := hS0
                          have hfl29 : fL 29 = false := hdn 29 (by decide) (by decide)
                          rw [hfl29] at hS
                          have hS1 : (fun b1 W => LNT wW w B gX a D.length cD l' v' out' b1 W) ((upd fL 19) 29) W := by
                            rw [show upd fL 19 29 = fL 29 from if_neg (by decide)]
                            exact hS0
                          have hSL : LsSt wW w W B gX a D.length cD l' v' out' := hS
                          obtain ⟨rp0, rp1, rp2⟩ := cells3' hSL.rep
                          have g1 := (hSL.bl.cell (p := ⟨b, o + k * 2 + 1, none⟩) (by show b < B; omega)).trans HF1.out
                          have q0 := (hSL.bl.cell (p := ⟨b3, o3 + i * 2, none⟩) (by show b3 < B; omega)).trans HQ0.out
                          have q1 := (hSL.bl.cell (p := ⟨b3, o3 + i * 2 + 1, none⟩) (by show b3 < B; omega)).trans HQ1.out
                          clear hSL
                          have h0 : ac.tmps.getD 0 undef = .pointer (some ⟨gX, 0, none⟩) := hbase 0 (by kernel_rfl)
                          have hh0 := h0; rw [Array.getD_eq_getD_getElem?] at hh0
                          have h1 : ac.tmps.getD 1 undef = .int .i64 (k : Int) := hbase 1 (by kernel_rfl)
                          have hh1 := h1; rw [Array.getD_eq_getD_getElem?] at hh1
                          have h2 : ac.tmps.getD 2 undef = .string s := hbase 2 (by kernel_rfl)
                          have hh2 := h2; rw [Array.getD_eq_getD_getElem?] at hh2
                          have h6 : ac.tmps.getD 6 undef = .int .i64 (i : Int) := hbase 6 (by kernel_rfl)
                          have hh6 := h6; rw [Array.getD_eq_getD_getElem?] at hh6
                          have d95 : ac.tmps.getD 95 undef = .slice a D.length cD := hdep 17 (by decide)
                          have dd95 := d95; rw [Array.getD_eq_getD_getElem?] at dd95
                          have d96 : ac.tmps.getD 96 undef = .int .i64 (k : Int) := hdep 18 (by decide)
                          have dd96 := d96; rw [Array.getD_eq_getD_getElem?] at dd96
                          clear hbase hdep hms hdn hund
                          refine opOk_run rfl (.inl ⟨_, W, ?_, rfl, Ext.refl _, hS1⟩)
                          clear hsz hS hS0 hS1 hfi; simp [go_sem, Act.eval, *]
                        · intro ac W fL hsz hfi hms hdn hS0 hdep hbase hund
                          have hS : (fun b1 W => LNT wW w B gX a D.length cD l' v' out' b1 W) (fL 29) W := hS0
                          have hfl29 : fL 29 = false := hdn 29 (by decide) (by decide)
                          rw [hfl29] at hS
                          have hS1 : (fun b1 W => LNT wW w B gX a D.length cD l' v' out' b1 W) ((upd fL 20) 29) W := by
                            rw [show upd fL 20 29 = fL 29 from if_neg (by decide)]
                            exact hS0
                          have hSL : LsSt wW w W B gX a D.length cD l' v' out' := hS
                          obtain ⟨rp0, rp1, rp2⟩ := cells3' hSL.rep
                          have g1 := (hSL.bl.cell (p := ⟨b, o + k * 2 + 1, none⟩) (by show b < B; omega)).trans HF1.out
                          have q0 := (hSL.bl.cell (p := ⟨b3, o3 + i * 2, none⟩) (by show b3 < B; omega)).trans HQ0.out
                          have q1 := (hSL.bl.cell (p := ⟨b3, o3 + i * 2 + 1, none⟩) (by show b3 < B; omega)).trans HQ1.out
                          clear hSL
                          have h0 : ac.tmps.getD 0 undef = .pointer (some ⟨gX, 0, none⟩) := hbase 0 (by kernel_rfl)
                          have hh0 := h0; rw [Array.getD_eq_getD_getElem?] at hh0
                          have h1 : ac.tmps.getD 1 undef = .int .i64 (k : Int) := hbase 1 (by kernel_rfl)
                          have hh1 := h1; rw [Array.getD_eq_getD_getElem?] at hh1
                          have h2 : ac.tmps.getD 2 undef = .string s := hbase 2 (by kernel_rfl)
                          have hh2 := h2; rw [Array.getD_eq_getD_getElem?] at hh2
                          have h6 : ac.tmps.getD 6 undef = .int .i64 (i : Int) := hbase 6 (by kernel_rfl)
                          have hh6 := h6; rw [Array.getD_eq_getD_getElem?] at hh6
                          have d97 : ac.tmps.getD 97 undef = .pointer (some ⟨b, o + k * 2, none⟩) := hdep 19 (by decide)
                          have dd97 := d97; rw [Array.getD_eq_getD_getElem?] at dd97
                          clear hbase hdep hms hdn hund
                          refine opOk_run rfl (.inl ⟨_, W, ?_, rfl, Ext.refl _, hS1⟩)
                          clear hsz hS hS0 hS1 hfi; simp [go_sem, Act.eval, *]
                        · intro ac W fL hsz hfi hms hdn hS0 hdep hbase hund
                          have hS : (fun b1 W => LNT wW w B gX a D.length cD l' v' out' b1 W) (fL 29) W := hS0
                          have hfl29 : fL 29 = false := hdn 29 (by decide) (by decide)
                          rw [hfl29] at hS
                          have hS1 : (fun b1 W => LNT wW w B gX a D.length cD l' v' out' b1 W) ((upd fL 21) 29) W := by
                            rw [show upd fL 21 29 = fL 29 from if_neg (by decide)]
                            exact hS0
                          have hSL : LsSt wW w W B gX a D.length cD l' v' out' := hS
                          obtain ⟨rp0, rp1, rp2⟩ := cells3' hSL.rep
                          have g1 := (hSL.bl.cell (p := ⟨b, o + k * 2 + 1, none⟩) (by show b < B; omega)).trans HF1.out
                          have q0 := (hSL.bl.cell (p := ⟨b3, o3 + i * 2, none⟩) (by show b3 < B; omega)).trans HQ0.out
                          have q1 := (hSL.bl.cell (p := ⟨b3, o3 + i * 2 + 1, none⟩) (by show b3 < B; omega)).trans HQ1.out
                          clear hSL
                          have h0 : ac.tmps.getD 0 undef = .pointer (some ⟨gX, 0, none⟩) := hbase 0 (by kernel_rfl)
                          have hh0 := h0; rw [Array.getD_eq_getD_getElem?] at hh0
                          have h1 : ac.tmps.getD 1 undef = .int .i64 (k : Int) := hbase 1 (by kernel_rfl)
                          have hh1 := h1; rw [Array.getD_eq_getD_getElem?] at hh1
                          have h2 : ac.tmps.getD 2 undef = .string s := hbase 2 (by kernel_rfl)
                          have hh2 := h2; rw [Array.getD_eq_getD_getElem?] at hh2
                          have h6 : ac.tmps.getD 6 undef = .int .i64 (i : Int) := hbase 6 (by kernel_rfl)
                          have hh6 := h6; rw [Array.getD_eq_getD_getElem?] at hh6
                          have d98 : ac.tmps.getD 98 undef = .pointer (some ⟨b, o + k * 2 + 1, none⟩) := hdep 20 (by decide)
                          have dd98 := d98; rw [Array.getD_eq_getD_getElem?] at dd98
                          clear hbase hdep hms hdn hund
                          refine opOk_run rfl (.inl ⟨_, W, ?_, rfl, Ext.refl _, hS1⟩)
                          clear hsz hS hS0 hS1 hfi; simp [go_sem, Act.eval, *]
                        · intro ac W fL hsz hfi hms hdn hS0 hdep hbase hund
                          have hS : (fun b1 W => LNT wW w B gX a D.length cD l' v' out' b1 W) (fL 29) W := hS0
                          have hfl29 : fL 29 = false := hdn 29 (by decide) (by decide)
                          rw [hfl29] at hS
                          have hS1 : (fun b1 W => LNT wW w B gX a D.length cD l' v' out' b1 W) ((upd fL 22) 29) W := by
                            rw [show upd fL 22 29 = fL 29 from if_neg (by decide)]
                            exact hS0
                          have hSL : LsSt wW w W B gX a D.length cD l' v' out' := hS
                          obtain ⟨rp0, rp1, rp2⟩ := cells3' hSL.rep
                          have g1 := (hSL.bl.cell (p := ⟨b, o + k * 2 + 1, none⟩) (by show b < B; omega)).trans HF1.out
                          have q0 := (hSL.bl.cell (p := ⟨b3, o3 + i * 2, none⟩) (by show b3 < B; omega)).trans HQ0.out
                          have q1 := (hSL.bl.cell (p := ⟨b3, o3 + i * 2 + 1, none⟩) (by show b3 < B; omega)).trans HQ1.out
                          clear hSL
                          have h0 : ac.tmps.getD 0 undef = .pointer (some ⟨gX, 0, none⟩) := hbase 0 (by kernel_rfl)
                          have hh0 := h0; rw [Array.getD_eq_getD_getElem?] at hh0
                          have h1 : ac.tmps.getD 1 undef = .int .i64 (k : Int) := hbase 1 (by kernel_rfl)
                          have hh1 := h1; rw [Array.getD_eq_getD_getElem?] at hh1
                          have h2 : ac.tmps.getD 2 undef = .string s := hbase 2 (by kernel_rfl)
                          have hh2 := h2; rw [Array.getD_eq_getD_getElem?] at hh2
                          have h6 : ac.tmps.getD 6 undef = .int .i64 (i : Int) := hbase 6 (by kernel_rfl)
                          have hh6 := h6; rw [Array.getD_eq_getD_getElem?] at hh6
                          clear hbase hdep hms hdn hund
                          refine opOk_run rfl (.inl ⟨_, W, ?_, rfl, Ext.refl _, hS1⟩)
                          clear hsz hS hS0 hS1 hfi; simp [go_sem, Act.eval, *]
                        · intro ac W fL hsz hfi hms hdn hS0 hdep hbase hund
                          have hS : (fun b1 W => LNT wW w B gX a D.length cD l' v' out' b1 W) (fL 29) W := hS0
                          have hfl29 : fL 29 = false := hdn 29 (by decide) (by decide)
                          rw [hfl29] at hS
                          have hS1 : (fun b1 W => LNT wW w B gX a D.length cD l' v' out' b1 W) ((upd fL 23) 29) W := by
                            rw [show upd fL 23 29 = fL 29 from if_neg (by decide)]
                            exact hS0
                          have hSL : LsSt wW w W B gX a D.length cD l' v' out' := hS
                          obtain ⟨rp0, rp1, rp2⟩ := cells3' hSL.rep
                          have g1 := (hSL.bl.cell (p := ⟨b, o + k * 2 + 1, none⟩) (by show b < B; omega)).trans HF1.out
                          have q0 := (hSL.bl.cell (p := ⟨b3, o3 + i * 2, none⟩) (by show b3 < B; omega)).trans HQ0.out
                          have q1 := (hSL.bl.cell (p := ⟨b3, o3 + i * 2 + 1, none⟩) (by show b3 < B; omega)).trans HQ1.out
                          clear hSL
                          have h0 : ac.tmps.getD 0 undef = .pointer (some ⟨gX, 0, none⟩) := hbase 0 (by kernel_rfl)
                          have hh0 := h0; rw [Array.getD_eq_getD_getElem?] at hh0
                          have h1 : ac.tmps.getD 1 undef = .int .i64 (k : Int) := hbase 1 (by kernel_rfl)
                          have hh1 := h1; rw [Array.getD_eq_getD_getElem?] at hh1
                          have h2 : ac.tmps.getD 2 undef = .string s := hbase 2 (by kernel_rfl)
                          have hh2 := h2; rw [Array.getD_eq_getD_getElem?] at hh2
                          have h6 : ac.tmps.getD 6 undef = .int .i64 (i : Int) := hbase 6 (by kernel_rfl)
                          have hh6 := h6; rw [Array.getD_eq_getD_getElem?] at hh6
                          have d99 : ac.tmps.getD 99 undef = .slice aa X.length cc := hdep 21 (by decide)
                          have dd99 := d99; rw [Array.getD_eq_getD_getElem?] at dd99
                          have d100 : ac.tmps.getD 100 undef = .int .i64 (i : Int) := hdep 22 (by decide)
                          have dd100 := d100; rw [Array.getD_eq_getD_getElem?] at dd100
                          clear hbase hdep hms hdn hund
                          refine opOk_run rfl (.inl ⟨_, W, ?_, rfl, Ext.refl _, hS1⟩)
                          clear hsz hS hS0 hS1 hfi; simp [go_sem, Act.eval, *]
                        · intro ac W fL hsz hfi hms hdn hS0 hdep hbase hund
                          have hS : (fun b1 W => LNT wW w B gX a D.length cD l' v' out' b1 W) (fL 29) W := hS0
                          have hfl29 : fL 29 = false := hdn 29 (by decide) (by decide)
                          rw [hfl29] at hS
                          have hS1 : (fun b1 W => LNT wW w B gX a D.length cD l' v' out' b1 W) ((upd fL 24) 29) W := by
                            rw [show upd fL 24 29 = fL 29 from if_neg (by decide)]
                            exact hS0
                          have hSL : LsSt wW w W B gX a D.length cD l' v' out' := hS
                          obtain ⟨rp0, rp1, rp2⟩ := cells3' hSL.rep
                          have g1 := (hSL.bl.cell (p := ⟨b, o + k * 2 + 1, none⟩) (by show b < B; omega)).trans HF1.out
                          have q0 := (hSL.bl.cell (p := ⟨b3, o3 + i * 2, none⟩) (by show b3 < B; omega)).trans HQ0.out
                          have q1 := (hSL.bl.cell (p := ⟨b3, o3 + i * 2 + 1, none⟩) (by show b3 < B; omega)).trans HQ1.out
                          clear hSL
                          have h0 : ac.tmps.getD 0 undef = .pointer (some ⟨gX, 0, none⟩) := hbase 0 (by kernel_rfl)
                          have hh0 := h0; rw [Array.getD_eq_getD_getElem?] at hh0
                          have h1 : ac.tmps.getD 1 undef = .int .i64 (k : Int) := hbase 1 (by kernel_rfl)
                          have hh1 := h1; rw [Array.getD_eq_getD_getElem?] at hh1
                          have h2 : ac.tmps.getD 2 undef = .string s := hbase 2 (by kernel_rfl)
                          have hh2 := h2; rw [Array.getD_eq_getD_getElem?] at hh2
                          have h6 : ac.tmps.getD 6 undef = .int .i64 (i : Int) := hbase 6 (by kernel_rfl)
                          have hh6 := h6; rw [Array.getD_eq_getD_getElem?] at hh6
                          have d101 : ac.tmps.getD 101 undef = .pointer (some ⟨b3, o3 + i * 2, none⟩) := hdep 23 (by decide)
                          have dd101 := d101; rw [Array.getD_eq_getD_getElem?] at dd101
                          clear hbase hdep hms hdn hund
                          refine opOk_run rfl (.inl ⟨_, W, ?_, rfl, Ext.refl _, hS1⟩)
                          clear hsz hS hS0 hS1 hfi; simp [go_sem, Act.eval, *]
                        · intro ac W fL hsz hfi hms hdn hS0 hdep hbase hund
                          have hS : (fun b1 W => LNT wW w B gX a D.length cD l' v' out' b1 W) (fL 29) W := hS0
                          have hfl29 : fL 29 = false := hdn 29 (by decide) (by decide)
                          rw [hfl29] at hS
                          have hS1 : (fun b1 W => LNT wW w B gX a D.length cD l' v' out' b1 W) ((upd fL 25) 29) W := by
                            rw [show upd fL 25 29 = fL 29 from if_neg (by decide)]
                            exact hS0
                          have hSL : LsSt wW w W B gX a D.length cD l' v' out' := hS
                          obtain ⟨rp0, rp1, rp2⟩ := cells3' hSL.rep
                          have g1 := (hSL.bl.cell (p := ⟨b, o + k * 2 + 1, none⟩) (by show b < B; omega)).trans HF1.out
                          have q0 := (hSL.bl.cell (p := ⟨b3, o3 + i * 2, none⟩) (by show b3 < B; omega)).trans HQ0.out
                          have q1 := (hSL.bl.cell (p := ⟨b3, o3 + i * 2 + 1, none⟩) (by show b3 < B; omega)).trans HQ1.out
                          clear hSL
                          have h0 : ac.tmps.getD 0 undef = .pointer (some ⟨gX, 0, none⟩) := hbase 0 (by kernel_rfl)
                          have hh0 := h0; rw [Array.getD_eq_getD_getElem?] at hh0
                          have h1 : ac.tmps.getD 1 undef = .int .i64 (k : Int) := hbase 1 (by kernel_rfl)
                          have hh1 := h1; rw [Array.getD_eq_getD_getElem?] at hh1
                          have h2 : ac.tmps.getD 2 undef = .string s := hbase 2 (by kernel_rfl)
                          have hh2 := h2; rw [Array.getD_eq_getD_getElem?] at hh2
                          have h6 : ac.tmps.getD 6 undef = .int .i64 (i : Int) := hbase 6 (by kernel_rfl)
                          have hh6 := h6; rw [Array.getD_eq_getD_getElem?] at hh6
                          have d102 : ac.tmps.getD 102 undef = .pointer (some ⟨b3, o3 + i * 2, none⟩) := hdep 24 (by decide)
                          have dd102 := d102; rw [Array.getD_eq_getD_getElem?] at dd102
                          clear hbase hdep hms hdn hund
                          refine opOk_run rfl (.inl ⟨_, W, ?_, rfl, Ext.refl _, hS1⟩)
                          clear hsz hS hS0 hS1 hfi; simp [go_sem, Act.eval, *]
                        · intro ac W fL hsz hfi hms hdn hS0 hdep hbase hund
                          have hS : (fun b1 W => LNT wW w B gX a D.length cD l' v' out' b1 W) (fL 29) W := hS0
                          have hfl29 : fL 29 = false := hdn 29 (by decide) (by decide)
                          rw [hfl29] at hS
                          have hS1 : (fun b1 W => LNT wW w B gX a D.length cD l' v' out' b1 W) ((upd fL 26) 29) W := by
                            rw [show upd fL 26 29 = fL 29 from if_neg (by decide)]
                            exact hS0
                          have hSL : LsSt wW w W B gX a D.length cD l' v' out' := hS
                          obtain ⟨rp0, rp1, rp2⟩ := cells3' hSL.rep
                          have g1 := (hSL.bl.cell (p := ⟨b, o + k * 2 + 1, none⟩) (by show b < B; omega)).trans HF1.out
                          have q0 := (hSL.bl.cell (p := ⟨b3, o3 + i * 2, none⟩) (by show b3 < B; omega)).trans HQ0.out
                          have q1 := (hSL.bl.cell (p := ⟨b3, o3 + i * 2 + 1, none⟩) (by show b3 < B; omega)).trans HQ1.out
                          clear hSL
                          have h0 : ac.tmps.getD 0 undef = .pointer (some ⟨gX, 0, none⟩) := hbase 0 (by kernel_rfl)
                          have hh0 := h0; rw [Array.getD_eq_getD_getElem?] at hh0
                          have h1 : ac.tmps.getD 1 undef = .int .i64 (k : Int) := hbase 1 (by kernel_rfl)
                          have hh1 := h1; rw [Array.getD_eq_getD_getElem?] at hh1
                          have h2 : ac.tmps.getD 2 undef = .string s := hbase 2 (by kernel_rfl)
                          have hh2 := h2; rw [Array.getD_eq_getD_getElem?] at hh2
                          have h6 : ac.tmps.getD 6 undef = .int .i64 (i : Int) := hbase 6 (by kernel_rfl)
                          have hh6 := h6; rw [Array.getD_eq_getD_getElem?] at hh6
                          have d103 : ac.tmps.getD 103 undef = .int .u8 xc := hdep 25 (by decide)
                          have dd103 := d103; rw [Array.getD_eq_getD_getElem?] at dd103
                          clear hbase hdep hms hdn hund
                          refine opOk_run rfl (.inl ⟨.slice (some ⟨W.heap.size, 0, none⟩) 1 1, W.alloc (.cells #[.int .u8 xc] 5), ?_, ⟨_, rfl, heap_alloc_new _ _⟩, (Below.refl _ _).alloc (Nat.le_refl _) _, (show (fun b1 W => LNT wW w B gX a D.length cD l' v' out' b1 W) ((upd fL 26) 29) _ by
                            rw [show upd fL 26 29 = fL 29 from if_neg (by decide)]
                            exact LNT.ext _ _ _ hS0 ((Below.refl _ _).alloc (Nat.le_refl _) _))⟩)
                          clear hsz hS hS0 hS1 hfi; simp [go_sem, Act.eval, *]
                        · intro ac W fL hsz hfi hms hdn hS0 hdep hbase hund
                          have hS : (fun b1 W => LNT wW w B gX a D.length cD l' v' out' b1 W) (fL 29) W := hS0
                          have hfl29 : fL 29 = false := hdn 29 (by decide) (by decide)
                          rw [hfl29] at hS
                          have hS1 : (fun b1 W => LNT wW w B gX a D.length cD l' v' out' b1 W) ((upd fL 27) 29) W := by
                            rw [show upd fL 27 29 = fL 29 from if_neg (by decide)]
                            exact hS0
                          have hSL : LsSt wW w W B gX a D.length cD l' v' out' := hS
                          obtain ⟨rp0, rp1, rp2⟩ := cells3' hSL.rep
                          have g1 := (hSL.bl.cell (p := ⟨b, o + k * 2 + 1, none⟩) (by show b < B; omega)).trans HF1.out
                          have q0 := (hSL.bl.cell (p := ⟨b3, o3 + i * 2, none⟩) (by show b3 < B; omega)).trans HQ0.out
                          have q1 := (hSL.bl.cell (p := ⟨b3, o3 + i * 2 + 1, none⟩) (by show b3 < B; omega)).trans HQ1.out
                          clear hSL
                          have h0 : ac.tmps.getD 0 undef = .pointer (some ⟨gX, 0, none⟩) := hbase 0 (by kernel_rfl)
                          have hh0 := h0; rw [Array.getD_eq_getD_getElem?] at hh0
                          have h1 : ac.tmps.getD 1 undef = .int .i64 (k : Int) := hbase 1 (by kernel_rfl)
                          have hh1 := h1; rw [Array.getD_eq_getD_getElem?] at hh1
                          have h2 : ac.tmps.getD 2 undef = .string s := hbase 2 (by kernel_rfl)
                          have hh2 := h2; rw [Array.getD_eq_getD_getElem?] at hh2
                          have h6 : ac.tmps.getD 6 undef = .int .i64 (i : Int) := hbase 6 (by kernel_rfl)
                          have hh6 := h6; rw [Array.getD_eq_getD_getElem?] at hh6
                          have d104 : (RowU1 xc) (ac.tmps.getD 104 undef) W := hdep 26 (by decide)
                          clear hbase hdep hms hdn hund
                          obtain ⟨g62, e62, hg62⟩ := d104
                          have hbr : ByteR W (some ⟨g62, 0, none⟩) [cb] := .inr ⟨g62, _, rfl, hg62, by simp [HCB.out]⟩
                          have hcv : (convert 23 9 (.slice (some ⟨g62, 0, none⟩) 1 1)).run Tryd.prog W = .ok (.string t1) W := by
                            have := conv_bytes hbr 1
                            rw [← HT1.out]; exact this
                          rw [Array.getD_eq_getD_getElem?] at e62
                          refine opOk_run rfl (.inl ⟨_, W, ?_, rfl, Ext.refl _, hS1⟩)
                          clear hsz hS hS0 hS1 hfi hbr hg62 rp0 rp1 rp2 g1 q0 q1; simp [go_sem, Act.eval, *]
                        · intro ac W fL hsz hfi hms hdn hS0 hdep hbase hund
                          have hS : (fun b1 W => LNT wW w B gX a D.length cD l' v' out' b1 W) (fL 29) W := hS0
                          have hfl29 : fL 29 = false := hdn 29 (by decide) (by decide)
                          rw [hfl29] at hS
                          have hS1 : (fun b1 W => LNT wW w B gX a D.length cD l' v' out' b1 W) ((upd fL 28) 29) W := by
                            rw [show upd fL 28 29 = fL 29 from if_neg (by decide)]
                            exact hS0
                          have hSL : LsSt wW w W B gX a D.length cD l' v' out' := hS
                          obtain ⟨rp0, rp1, rp2⟩ := cells3' hSL.rep
                          have g1 := (hSL.bl.cell (p := ⟨b, o + k * 2 + 1, none⟩) (by show b < B; omega)).trans HF1.out
                          have q0 := (hSL.bl.cell (p := ⟨b3, o3 + i * 2, none⟩) (by show b3 < B; omega)).trans HQ0.out
                          have q1 := (hSL.bl.cell (p := ⟨b3, o3 + i * 2 + 1, none⟩) (by show b3 < B; omega)).trans HQ1.out
                          clear hSL
                          have h0 : ac.tmps.getD 0 undef = .pointer (some ⟨gX, 0, none⟩) := hbase 0 (by kernel_rfl)
                          have hh0 := h0; rw [Array.getD_eq_getD_getElem?] at hh0
                          have h1 : ac.tmps.getD 1 undef = .int .i64 (k : Int) := hbase 1 (by kernel_rfl)
                          have hh1 := h1; rw [Array.getD_eq_getD_getElem?] at hh1
                          have h2 : ac.tmps.getD 2 undef = .string s := hbase 2 (by kernel_rfl)
                          have hh2 := h2; rw [Array.getD_eq_getD_getElem?] at hh2
                          have h6 : ac.tmps.getD 6 undef = .int .i64 (i : Int) := hbase 6 (by kernel_rfl)
                          have hh6 := h6; rw [Array.getD_eq_getD_getElem?] at hh6
                          have d91 : ac.tmps.getD 91 undef = .string s := hdep 13 (by decide)
                          have dd91 := d91; rw [Array.getD_eq_getD_getElem?] at dd91
                          have d105 : ac.tmps.getD 105 undef = .string t1 := hdep 27 (by decide)
                          have dd105 := d105; rw [Array.getD_eq_getD_getElem?] at dd105
                          clear hbase hdep hms hdn hund
                          refine opOk_run rfl (.inl ⟨_, W, ?_, rfl, Ext.refl _, hS1⟩)
                          clear hsz hS hS0 hS1 hfi; simp [go_sem, Act.eval, *]
                        · intro ac W fL hsz hfi hms hdn hS0 hdep hbase hund
                          have hS : (fun b1 W => LNT wW w B gX a D.length cD l' v' out' b1 W) (fL 29) W := hS0
                          rw [show fL 29 = false from hfi] at hS
                          have hSL : LsSt wW w W B gX a D.length cD l' v' out' := hS
                          obtain ⟨rp0, rp1, rp2⟩ := cells3' hSL.rep
                          have g1 := (hSL.bl.cell (p := ⟨b, o + k * 2 + 1, none⟩) (by show b < B; omega)).trans HF1.out
                          have q0 := (hSL.bl.cell (p := ⟨b3, o3 + i * 2, none⟩) (by show b3 < B; omega)).trans HQ0.out
                          have q1 := (hSL.bl.cell (p := ⟨b3, o3 + i * 2 + 1, none⟩) (by show b3 < B; omega)).trans HQ1.out
                          clear hSL
                          have h0 : ac.tmps.getD 0 undef = .pointer (some ⟨gX, 0, none⟩) := hbase 0 (by kernel_rfl)
                          have hh0 := h0; rw [Array.getD_eq_getD_getElem?] at hh0
                          have h1 : ac.tmps.getD 1 undef = .int .i64 (k : Int) := hbase 1 (by kernel_rfl)
                          have hh1 := h1; rw [Array.getD_eq_getD_getElem?] at hh1
                          have h2 : ac.tmps.getD 2 undef = .string s := hbase 2 (by kernel_rfl)
                          have hh2 := h2; rw [Array.getD_eq_getD_getElem?] at hh2
                          have h6 : ac.tmps.getD 6 undef = .int .i64 (i : Int) := hbase 6 (by kernel_rfl)
                          have hh6 := h6; rw [Array.getD_eq_getD_getElem?] at hh6
                          have d78 : ac.tmps.getD 78 undef = .pointer (some ⟨gX, 0, none⟩) := hdep 0 (by decide)
                          have dd78 := d78; rw [Array.getD_eq_getD_getElem?] at dd78
                          have d90 : ac.tmps.getD 90 undef = .int .i64 xt := hdep 12 (by decide)
                          have dd90 := d90; rw [Array.getD_eq_getD_getElem?] at dd90
                          have d106 : ac.tmps.getD 106 undef = .string (s ++ t1) := hdep 28 (by decide)
                          have dd106 := d106; rw [Array.getD_eq_getD_getElem?] at dd106
                          clear hbase hdep hms hdn hund
                          have hc60 := IH.out xt (ws ++ [cb]) l' out' v' W hx3 hx4 (by rw [List.length_append, List.length_singleton]; omega) (by rw [List.length_append, List.length_singleton]; omega) hol3 (LsSt.start hS)
                          rw [← toB_app, HS.out, HT1.out] at hc60
                          refine opOk_run rfl (.inr ⟨41, #[.pointer (some ⟨gX, 0, none⟩), .int .i64 xt, .string (s ++ t1)], W, by (clear hsz hS hS0 hfi hc60; simp [go_sem, Act.eval, *]), ?_⟩)
                          refine hc60.mono ?_
                          clear hc60
                          rintro e w' ⟨he, v2, hl2⟩
                          refine ⟨_, he, ⟨rfl, v2, LsSt.called hS hl2⟩, hl2.fr, ?_⟩
                          show LNT wW w B gX a D.length cD l' v' out' (upd fL 29 29) w'
                          rw [show upd fL 29 29 = true from if_pos rfl]
                          trivial
                      case hfin =>
                        intro _ ac W hsz hdf fL hf hS0 hv hbase
                        have hS : (fun b1 W => LNT wW w B gX a D.length cD l' v' out' b1 W) (fL 29) W := hS0
                        clear hS0
                        rw [hf 29 (by decide)] at hS
                        obtain ⟨sx, hsx, hsA⟩ := act_puts [78, 79, 80, 81, 82, 83, 84, 85, 86, 87, 88, 89, 90, 91, 92, 93, 94, 95, 96, 97, 98, 99, 100, 101, 102, 103, 104, 105, 106, 107] (by kernel_rfl) hsz hdf hbase
                        have hr107 : LPx wW w B gX a D.length cD (listF D m xt (ws ++ [cb]) (l', out')) (sx 107) W := by rw [hsx 107]; exact hv 29 (by decide)
                        obtain ⟨-, v9, hl9⟩ := hr107
                        have HL9 := Lib.hid hl9
                        clear hl9 hS
                        rw [hsA]
                        simp only [List.foldl]
                        simp only [Act.put, List.setIfInBounds_toArray, List.set_cons_succ, List.set_cons_zero]
                        clear hsA hsx hv hbase hsz hdf hf
                        clear hsz2
                        go_wp2_with fail
                        go_roundw
                        case rel => exact ⟨i + 1, _, _, v9, by go_num, by omega, HARM2.out, HL9.out, Nat.le_trans (by have := listF_le D m xt (ws ++ [cb]) (l', out'); omega) hol3⟩
                        case measure => simp [intOf]; omega
                      case hlast =>
                        intro h; exact absurd rfl h
                  · have HR : Hid ((l', out') = FSt) := by
                      show _ = _
                      have := HARM.out
                      rw [List.drop_eq_nil_of_le (by omega), armsX] at this
                      exact this
                    have hiI : ¬ (i : Int) < (X.length : Int) := by omega
                    go_wp2
                    go_end0
                    rw [HF.out, ← HR.out]
                    exact ⟨rfl, _, HLS.out⟩
end Go.Proofs.YtemdlfbcnnoglaaDoor
