
/- PackMatchesReference: the walk. -/
import Derived.Test.YtocdljmdmiphnaaDoorPR
import Derived.Deep.CutBlock
import Derived.Deep.DeepCutAuto
namespace Go.Proofs.YtocdljmdmiphnaaDoor
open Go.RowKit Go.WideShapes
set_option linter.unusedVariables false
set_option linter.unusedSimpArgs false

/-- bytes that came in, as a list -/
theorem byts_of {w : World} {a : Option Addr} {len : Nat} {Z : Nat → Int} (h : IsBytes w a len Z) : ∃ l : Wd, l.length = len ∧ BytS w a l := by
  refine ⟨(List.range len).map fun i => UInt8.ofNat (Z i).toNat, by simp, ?_⟩
  rcases h with rfl | ⟨b, o, ha, hl, hb, hr⟩
  · exact BytS.nil _ _
  · intro k hk
    have hk2 : k < len := by simpa using hk
    obtain ⟨h1, h2, h3⟩ := hr k hk2
    refine ⟨b, o, ha, hb, ?_⟩
    have e : (((List.range len).map fun i => UInt8.ofNat (Z i).toNat)[k]'hk).toNat = (Z k).toNat := by
      simp
      omega
    rw [e, h1]
    congr 2
    omega
theorem wpOp_store_u8 {P : Program} {ops : Array Oper} {Q : Exit → Act → World → Prop} {L : Nat} {K : Act → World → Prop} {o : Oper} {A : Act} {W : World} {ty : TypeId} {p v : Operand} {ad : Addr} {k : IntKind} {s : Int} {y : Value}
    (ho : ops[L]? = some o) (hg : o.guard = none) (hop : o.op = .store ty p v) (hd : o.dst = none) (hp : A.eval p = .pointer (some ad)) (hv : A.eval v = .int k s) (hf : W.frozen? ad = false) (hc : W.cell? ad = some y) (hsz : (sizeOf ty).run P W = .ok 1 W) (hK : K A (W.setCell ad (.int k s))) : wpOp P ops Q L K A W := by
  unfold wpOp
  rw [ho]
  have hw : Region.wanted o (yielded ops A.tmps) = true := by unfold Region.wanted; rw [hg]
  simp only [hw, if_pos]
  refine .inl ?_
  unfold Oper.wp execOp
  simp only [hop, hp, hv]
  simp [go_sem, hf, hc, hsz]
  rw [hd]
  exact hK
structure BoxQ (w : World) (g : Nat) (cs : Array Value) (t : TypeId) : Prop where
  lt : g < w.heap.size
  at' : w.heap[g]? = some (.cells cs t (0, 0))
theorem BoxQ.go {w w1 : World} {g : Nat} {cs : Array Value} {t : TypeId} (h : BoxQ w g cs t) (hb : Below w.heap.size w w1) : BoxQ w1 g cs t := ⟨Nat.lt_of_lt_of_le h.lt hb.size, (hb.block g h.lt).trans h.at'⟩
theorem BoxQ.new (w : World) (cs : Array Value) (t : TypeId) : BoxQ (w.alloc (.cells cs t (0, 0))) w.heap.size cs t := ⟨by simp only [World.size_alloc]; omega, heap_alloc_new _ _⟩
/-- the counts of a law, less five -/
def fewC (Z : Nat → Int) (k : Nat) : List Int := (List.range k).map fun i => Z i - 5
theorem fewC_succ (Z : Nat → Int) (k : Nat) : fewC Z (k + 1) = fewC Z k ++ [Z k - 5] := by simp [fewC, List.range_succ]
theorem fewC_len (Z : Nat → Int) (k : Nat) : (fewC Z k).length = k := by simp [fewC]
structure BytC (w : World) (x : BytA) : Prop where
  ok : BytOk w x
  cap : x.len ≤ x.cap
section
open Go.ChangeShapes Go.WideShapes Go.ChangeAt
variable {H : Type} {enc : TypeId × Value → H} {w : World} {base : Nat} {spare : Nat → Bool} {held : Bool} {d : DataW H} {p : List MemPlace} {r : Reach} {b0 : Nat} {v : Value}
open Go.Deep in
set_option maxRecDepth 100000 in
theorem open_bytesC (hv : Value.okWide Tryd.prog w r b0 24 v) (h : DataW.Trod enc Tryd.prog w base spare held 24 v d p) : ∃ x : BytA, v = x.val ∧ BytC w x := by
  obtain ⟨a, len, cap, rfl⟩ := okWide_slice Tryd.underlying24 hv
  obtain ⟨f, hf⟩ := h
  have hf2 : DataW.trod enc Tryd.prog w base spare held f 24 [.slice a len cap] = some (d, p) := by simpa [Value.cells] using hf
  obtain ⟨a1, l1, c1, Z, h0, h1, h2⟩ := slice_bytes hf2
  cases h0
  refine ⟨⟨a, len, cap, Z⟩, rfl, ⟨h1, h2⟩, ?_⟩
  rcases open_slice1 Tryd.underlying24 (by kernel_rfl) hf2 with ⟨h0, _⟩ | ⟨ad, l, c, m, n, V, D, Pl, h0, hba, hl, hcm, hmm, _, hel⟩
  · cases h0; exact Nat.le_refl _
  · cases h0; exact hl
end
theorem box_cell {w : World} {g : Nat} {cs : Array Value} {t : TypeId} {v : Value} (h : BoxQ w g cs t) (k : Nat) (hk : cs[k]? = some v) : w.cell? ⟨g, k, none⟩ = some v := by
  simp [World.cell?, h.at', hk]
def UnpW (bl : Wd) (v : Value) (W : World) : Prop := UnpV W (unpF bl) v
theorem unpW_stays (bl : Wd) : Stays (UnpW bl) := fun _ _ _ h hx => UnpV.go h hx
set_option maxHeartbeats 6400000 in
set_option maxRecDepth 100000 in
theorem packMatchesReference_view (xl : BytsA) (y : UintA) (x2 : BytA) (w : World) (hx : BytsOk w xl) (hy : UintOk w y) (hx2 : BytC w x2) (hT : Tab w) :
    Calls Tryd.prog 3 #[xl.val, y.val, x2.val] w fun e w' => e = .returned (.bool true) ∧ Below w.heap.size w w' := by
  obtain ⟨a, len, cap, Q⟩ := xl
  obtain ⟨a2, len2, cap2, Z⟩ := y
  obtain ⟨ar, nr, cr, Zr⟩ := x2
  obtain ⟨hQ, hl⟩ := hx
  obtain ⟨hZ, hl2⟩ := hy
  obtain ⟨⟨hR0, hlr⟩, hcr⟩ := hx2
  simp only at hQ hl hZ hl2 hR0 hlr hcr
  obtain ⟨rw, hrl, hrb⟩ := byts_of hR0
  have hs0 := Since.refl w
  have HQ := Lib.hid hQ; have HZ := Lib.hid hZ; have HT := Lib.hid hT; have HS := Lib.hid hs0; have HRB := Lib.hid hrb; have HRL := Lib.hid hrl; have HCR := Lib.hid hcr
  clear hQ hZ hT hs0 hR0 hrb hrl hcr
  show Calls Tryd.prog 3 #[.slice a len cap, .slice a2 len2 cap2, .slice ar nr cr] w _
  go_enter Tryd.func3, Tryd.ntmps3
  go_wp2_with fail
  refine (psanity_any w HT.out).mono ?_
  rintro e w1 ⟨rfl, hb⟩
  replace HQ := Lib.hid (HQ.out.go hb); replace HZ := Lib.hid (HZ.out.go hb); replace HT := Lib.hid (HT.out.go hb); replace HS := Lib.hid (HS.out.go hb); replace HRB := Lib.hid (HRB.out.go hb)
  clear hb
  by_cases h40 : 40 < nr
  · have h40I : (40 : Int) < (nr : Int) := by omega
    go_wp2
    go_ret
    exact ⟨rfl, HS.out.out⟩
  have h40I : ¬ (40 : Int) < (nr : Int) := by omega
  go_wp2_with fail
  refine (made_d 10 10 rfl (by decide) (by decide) HQ.out hl).mono ?_
  rintro e w2 ⟨L, b, o, c, -, rfl, hd, hm, hs4, hc, hR, hb⟩
  replace HZ := Lib.hid (HZ.out.go hb); replace HT := Lib.hid (HT.out.go hb); replace HS := Lib.hid (HS.out.go hb); replace HRB := Lib.hid (HRB.out.go hb)
  clear hb
  have HR := Lib.hid hR; have HD := Lib.hid hd; obtain ⟨hn70, hzA, hfl⟩ := small_dict hd (by omega) hs4; have HZA := Lib.hid hzA; have HFL := Lib.hid hfl; clear hR hd HQ hs4 hzA hfl hn70
  go_wp2_with fail
  refine (of_d HD.out HR.out rfl hc).mono ?_
  rintro e w3 ⟨a3, n3, c3, rfl, hA, hb⟩
  replace HZ := Lib.hid (HZ.out.go hb); replace HT := Lib.hid (HT.out.go hb); replace HS := Lib.hid (HS.out.go hb); replace HRB := Lib.hid (HRB.out.go hb)
  clear hb
  have HA := Lib.hid hA; clear hA HR
  have hX3 := below_new w3 (.cells #[] 3)
  have H3 := Lib.hid (heap_alloc_new w3 (.cells #[] 3))
  have HX3 := Lib.hid hX3
  clear hX3
  go_upto_block 0 with fail
  go_cut [10] (fun s10 wx => ∃ wz, wz = wx ∧ ∃ k : Nat, k ≤ 12 ∧ OwnG rowInt wz w3.heap.size s10 (fewC Z k) ∧ Since w3 wz)
  case first =>
   go_wp2_with fail
   go_loopw [11, 10] (fun q v wr => ∃ k : Nat, k ≤ len2 ∧ k ≤ 12 ∧ q = .int .i64 (k : Int) ∧ OwnG rowInt wr w3.heap.size v (fewC Z k) ∧ Since w3 wr) (fun q _ _ => 13 - (intOf q).toNat)
   case atStart => exact ⟨0, Nat.zero_le _, by omega, rfl, OwnG.empty rowInt H3.out (Nat.le_refl _), ⟨HX3.out⟩⟩
   case round =>
     obtain ⟨k, hk, hk12, rfl, ho, hS⟩ := hrel
     have HO := Lib.hid ho; have HSr := Lib.hid hS
     obtain ⟨va, vc, hv, -, -⟩ := ho.form
     rw [fewC_len] at hv
     subst hv
     clear ho hS H3 HX3
     by_cases hlt : k < len2 ∧ k < 12
     · obtain ⟨hlt1, hlt2⟩ := hlt
       obtain ⟨b2, o2, ha2, hb2, q0, z0, z1⟩ := (HZ.out.go HSr.out.out) k hlt1
       have hidx := idx_u32 a2 b2 o2 len2 cap2 k ha2 hlt1
       have HFS := Lib.hid (fewC_succ Z k)
       obtain ⟨z, hz⟩ : ∃ z, Z k = z := ⟨_, rfl⟩
       rw [hz] at q0 z0 z1 HFS
       have hw1 : IntKind.i64.wrap z = z := IntWalk.i64_in _ (by omega)
       have hw2 : IntKind.i64.wrap (z - 5) = z - 5 := IntWalk.i64_in _ (by omega)
       have hxA : Below wr.heap.size wr (wr.alloc (.cells #[.int .i64 (z - 5)] 3)) := (Below.refl _ wr).alloc (Nat.le_refl _) _
       have HXA := Lib.hid hxA
       have HSX := Lib.hid (HSr.out.go hxA)
       have HKL : Hid ((fewC Z k).length ≤ 12) := by show _ ≤ _; rw [fewC_len]; exact hk12
       have hI1 : (k : Int) < (len2 : Int) := by omega
       have hI2 : (k : Int) < 12 := by omega
       have hzr := HSr.out.out.size
       clear ha2 hz hxA
       go_wp2_with (first | (at_builtin; go_loud (refine wpList_app rowInt_ok rfl _ _ rfl rfl (HO.out.later HXA.out (Nat.le_refl _)) ⟨wr.heap.size, 0, none⟩ 1 [z - 5] rfl (cells_built (heap_alloc_new wr (.cells #[.int .i64 (z - 5)] 3))) (by have := HKL.out; simp only [List.length_singleton]; omega) (by simp only [World.size_alloc]; omega) ?_); intro v5 w5 hown5 hg5; have HO5 := Lib.hid hown5; have HG5 := Lib.hid hg5; clear hown5 hg5))
       go_roundw
       case rel => exact ⟨k + 1, by omega, by omega, by go_num, by rw [HFS.out]; exact HO5.out, ⟨HSX.out.out.trans (HG5.out.below HSX.out.out.size HO.out.ge)⟩⟩
       case measure => simp [intOf]; omega
     · by_cases hlt1 : k < len2
       · have hI1 : (k : Int) < (len2 : Int) := by omega
         have hI2 : ¬ (k : Int) < 12 := by omega
         clear hlt
         go_wp2_with fail
         go_meet
         exact ⟨wr, rfl, k, hk12, HO.out, HSr.out⟩
       · have hI1 : ¬ (k : Int) < (len2 : Int) := by omega
         clear hlt
         go_wp2_with fail
         go_meet
         exact ⟨wr, rfl, k, hk12, HO.out, HSr.out⟩
  case rest =>
    obtain ⟨w4, hw4, k, hk12, ho, hS⟩ := hcut
    subst hw4
    obtain ⟨va, vc, hv, hcc⟩ := ho.cntS
    subst hv
    obtain ⟨fc, hfc⟩ : ∃ fc, fewC Z k = fc := ⟨_, rfl⟩
    have hfl : fc.length ≤ 12 := by rw [← hfc, fewC_len]; exact hk12
    rw [hfc] at hcc ⊢
    obtain ⟨nf, hnf⟩ : ∃ nf, fc.length = nf := ⟨_, rfl⟩
    rw [hnf] at hcc hfl ⊢
    have HC := Lib.hid hcc
    replace HZ := Lib.hid (HZ.out.go hS.out); replace HT := Lib.hid (HT.out.go hS.out); replace HS := Lib.hid (HS.out.go hS.out); replace HRB := Lib.hid (HRB.out.go hS.out)
    have hrows := HA.out.rows.go hS.out
    have hn3l := HA.out.len
    have hcs := csOk_of HD.out
    have hvf := valid_of HD.out
    have hwf := words_of HD.out
    have hz9 := HZA.out
    obtain ⟨hn3a, hn3⟩ := HA.out.small
    obtain ⟨D, hDe⟩ : ∃ D, ofF (restAt 0 L) = D := ⟨_, rfl⟩
    have HDE := Lib.hid hDe
    rw [hDe] at hrows hn3l hcs hvf hwf hz9
    have HRW := Lib.hid hrows; have HLN := Lib.hid hn3l; have HCS := Lib.hid hcs; have HVF := Lib.hid hvf; have HWF := Lib.hid hwf; have HZD := Lib.hid hz9
    clear hcc ho hS hfc hnf hrows hn3l hcs hvf hwf hz9 hDe HA H3 HX3
    go_wp2_with fail
    refine (pack_any D n3 c3 a3 fc nf vc va _ HRW.out HLN.out HZD.out HCS.out HC.out.ints HC.out.len (by omega) HT.out).mono ?_
    rintro e w5 ⟨hr, hb⟩
    obtain ⟨a5, n5, k5, rfl, hB5⟩ := pkRes_form hr
    replace HZ := Lib.hid (HZ.out.go hb); replace HT := Lib.hid (HT.out.go hb); replace HS := Lib.hid (HS.out.go hb); replace HRB := Lib.hid (HRB.out.go hb); replace HRW := Lib.hid (HRW.out.go hb); replace HC := Lib.hid (HC.out.go hb)
    clear hb
    have HB5 := Lib.hid hB5; clear hr hB5
    go_wp2_with fail
    refine (rpack_any D n3 c3 a3 fc nf vc va w5 HRW.out HLN.out HZD.out HCS.out HC.out.ints HC.out.len (by omega)).mono ?_
    rintro e w6 ⟨hr, hb⟩
    obtain ⟨a6, n6, k6, rfl, hB6⟩ := pkRes_form hr
    replace HZ := Lib.hid (HZ.out.go hb); replace HT := Lib.hid (HT.out.go hb); replace HS := Lib.hid (HS.out.go hb); replace HRB := Lib.hid (HRB.out.go hb); replace HRW := Lib.hid (HRW.out.go hb); replace HB5 := Lib.hid (HB5.out.go hb)
    clear hb
    have HB6 := Lib.hid hB6; clear hr hB6 HC
    obtain ⟨pf, hpf⟩ : ∃ p, pkF D fc = p := ⟨_, rfl⟩
    rw [hpf] at HB5 HB6 ⊢
    obtain ⟨l1, e1⟩ := pf
    simp only at HB5 HB6 ⊢
    clear hpf
    go_wp2_with fail
    refine (rmade_any Z a2 len2 cap2 L.length w6 HZ.out hl2 (by omega)).mono ?_
    rintro e w7 ⟨a7, c7, rfl, hC, hb⟩
    replace HZ := Lib.hid (HZ.out.go hb); replace HT := Lib.hid (HT.out.go hb); replace HS := Lib.hid (HS.out.go hb); replace HRB := Lib.hid (HRB.out.go hb); replace HRW := Lib.hid (HRW.out.go hb); replace HB5 := Lib.hid (HB5.out.go hb); replace HB6 := Lib.hid (HB6.out.go hb)
    clear hb
    have HCO := Lib.hid (mkC_ok HZ.out L.length)
    obtain ⟨cn, hcn⟩ : ∃ cn, mkC Z len2 L.length = cn := ⟨_, rfl⟩
    rw [hcn] at HCO hC
    have HCN := Lib.hid hcn
    have HC := Lib.hid hC
    have hpk : pkF D cn = (packB D cn, 0) := pkF_yes HVF.out (by rw [HWF.out]; exact cntD_iff.2 HCO.out)
    have HPK := Lib.hid hpk
    clear hcn hC hpk
    go_wp2_with fail
    refine (pack_any D n3 c3 a3 cn L.length c7 a7 w7 HRW.out HLN.out HZD.out HCS.out HC.out.ints HC.out.len (by omega) HT.out).mono ?_
    rintro e w8 ⟨hr, hb⟩
    obtain ⟨a8, n8, k8, rfl, hB8⟩ := pkRes_form hr
    replace HZ := Lib.hid (HZ.out.go hb); replace HT := Lib.hid (HT.out.go hb); replace HS := Lib.hid (HS.out.go hb); replace HRB := Lib.hid (HRB.out.go hb); replace HRW := Lib.hid (HRW.out.go hb); replace HB5 := Lib.hid (HB5.out.go hb); replace HB6 := Lib.hid (HB6.out.go hb)
    clear hb
    rw [HPK.out] at hB8 ⊢
    have HB8 := Lib.hid hB8; clear hr hB8 HC
    go_wp2_with fail
    refine (rmade_any Z a2 len2 cap2 L.length w8 HZ.out hl2 (by omega)).mono ?_
    rintro e w9 ⟨a9, c9, rfl, hC, hb⟩
    replace HT := Lib.hid (HT.out.go hb); replace HS := Lib.hid (HS.out.go hb); replace HRB := Lib.hid (HRB.out.go hb); replace HRW := Lib.hid (HRW.out.go hb); replace HB5 := Lib.hid (HB5.out.go hb); replace HB6 := Lib.hid (HB6.out.go hb); replace HB8 := Lib.hid (HB8.out.go hb)
    clear hb
    rw [HCN.out] at hC
    have HC := Lib.hid hC
    clear hC HZ
    go_wp2_with fail
    refine (rpack_any D n3 c3 a3 cn L.length c9 a9 w9 HRW.out HLN.out HZD.out HCS.out HC.out.ints HC.out.len (by omega)).mono ?_
    rintro e w10 ⟨hr, hb⟩
    obtain ⟨a10, n10, k10, rfl, hB10⟩ := pkRes_form hr
    replace HT := Lib.hid (HT.out.go hb); replace HS := Lib.hid (HS.out.go hb); replace HRB := Lib.hid (HRB.out.go hb); replace HB5 := Lib.hid (HB5.out.go hb); replace HB6 := Lib.hid (HB6.out.go hb); replace HB8 := Lib.hid (HB8.out.go hb)
    clear hb
    rw [HPK.out] at hB10 ⊢
    have HB10 := Lib.hid hB10; clear hr hB10 HC HRW
    obtain ⟨l, hl9⟩ : ∃ l, packB D cn = l := ⟨_, rfl⟩
    rw [hl9] at HB8 HB10
    have hps : l.length ≤ 19900 := by
      have h := pack_small HFL.out (by omega) HCO.out
      rw [HDE.out, hl9] at h
      exact h
    have hlp : 4 ≤ l.length := by rw [← hl9, packB_len]; omega
    have hv1 := conv_byts w10 a5 n5 k5 l1 HB5.out.byts HB5.out.len
    have hv2 := conv_byts w10 a6 n6 k6 l1 HB6.out.byts HB6.out.len
    have hv3 := conv_byts w10 a8 n8 k8 l HB8.out.byts HB8.out.len
    have hv4 := conv_byts w10 a10 n10 k10 l HB10.out.byts HB10.out.len
    have hee : (e1 == e1) = true := by simp
    clear hl9
    go_upto_region 17 with fail
    clear hv1 hv2 hv3 hv4 hee HB5 HB6 HB8
    obtain rfl : n10 = l.length := HB10.out.len
    have hcap10 := HB10.out.cap
    have hlne : ¬ l = [] := fun e => by rw [e] at hlp; simp at hlp
    obtain ⟨b10, o10, ha10, -, -⟩ := HB10.out.byts.at (k := 0) (by omega)
    subst ha10
    have hX11 := below_new w10 (.cells #[] 5)
    have HX11 := Lib.hid hX11
    have HOE : Hid (OwnG rowU8 (w10.alloc (.cells #[] 5)) w10.heap.size (.slice (some ⟨w10.heap.size, 0, none⟩) 0 0) []) := OwnG.empty rowU8 (heap_alloc_new w10 (.cells #[] 5)) (Nat.le_refl _)
    have HCE := Lib.hid (cells_byts (HB10.out.byts.go hX11))
    clear hX11
    go_upto_block 2 with (first | (at_builtin; go_loud (refine wpList_app rowU8_ok rfl _ _ rfl rfl HOE.out ⟨b10, o10, none⟩ k10 l rfl HCE.out (by simp only [List.length_nil]; omega) (by simp only [World.size_alloc]; omega) ?_); intro v11 w11 hown11 hg11; have HO11 := Lib.hid hown11; have HB11 := Lib.hid (HX11.out.trans (hg11.below HX11.out.size HOE.out.ge)); clear hown11 hg11))
    obtain ⟨g11, c11, rfl, hg11, -, hc11⟩ : ∃ g c, v11 = .slice (some ⟨g, 0, none⟩) l.length c ∧ w10.heap.size ≤ g ∧ g < w11.heap.size ∧ l.length ≤ c := by
      rcases (show OwnG rowU8 w11 w10.heap.size v11 l from HO11.out).blk with ⟨_, h⟩ | h
      · exact absurd h hlne
      · exact h
    have hoc : OwnG rowU8 w11 w10.heap.size (.slice (some ⟨g11, 0, none⟩) l.length c11) l := HO11.out
    have HOC := Lib.hid hoc
    have hnr : nr = rw.length := HRL.out.symm
    have HNR := Lib.hid hnr
    clear hoc HO11 HOE HCE HX11 hnr
    go_cut [] (fun wx => ∃ wz, wz = wx ∧ ∃ m : Wd, m.length = l.length ∧ OwnG rowU8 wz w10.heap.size (.slice (some ⟨g11, 0, none⟩) l.length c11) m ∧ Below w10.heap.size w10 wz)
    case first =>
      go_wp2_with fail
      go_loopw [21] (fun q wr => ∃ (j : Nat) (m : Wd), j ≤ 4 ∧ (j = 0 ∨ j = 2 ∨ j = 4) ∧ q = .int .i64 (j : Int) ∧ m.length = l.length ∧ OwnG rowU8 wr w10.heap.size (.slice (some ⟨g11, 0, none⟩) l.length c11) m ∧ Below w10.heap.size w10 wr) (fun q _ => 6 - (intOf q).toNat)
      case atStart => exact ⟨0, l, by omega, .inl rfl, rfl, rfl, HOC.out, HB11.out⟩
      case round =>
        obtain ⟨j, m, hj4, hj0, rfl, hml, ho, hb⟩ := hrel
        have HO := Lib.hid ho; have HBR := Lib.hid hb; have HML := Lib.hid hml
        clear ho hb hml HOC HB11
        have hwj1 : IntKind.i64.wrap ((j : Int) + 1) = (j : Int) + 1 := IntWalk.i64_in _ (by omega)
        have hwj2 : IntKind.i64.wrap ((j : Int) + 2) = (j : Int) + 2 := IntWalk.i64_in _ (by omega)
        by_cases hlt1 : j + 1 < nr
        · have hI1 : (j : Int) + 1 < (nr : Int) := by omega
          by_cases hlt2 : j < 4
          · have hI2 : (j : Int) < 4 := by omega
            obtain ⟨bR, oR, haR, hbR, q0⟩ := (HRB.out.go HBR.out).at (k := j) (by have := HNR.out; omega)
            obtain ⟨bR2, oR2, haR2, hbR2, q1⟩ := (HRB.out.go HBR.out).at (k := j + 1) (by have := HNR.out; omega)
            rw [haR] at haR2
            injection haR2 with haR2
            injection haR2 with h1 h2
            subst h1 h2
            have hidxa := idx_u8 ar bR oR nr cr j haR (by omega)
            have hidxb := idx_u8 ar bR oR nr cr (j + 1) haR hlt1
            rw [show ((j + 1 : Nat) : Int) = (j : Int) + 1 by omega] at hidxb
            obtain ⟨x, hx⟩ : ∃ x, rw[j]'(by have := HNR.out; omega) = x := ⟨_, rfl⟩
            obtain ⟨y, hy⟩ : ∃ y, rw[j + 1]'(by have := HNR.out; omega) = y := ⟨_, rfl⟩
            rw [hx] at q0
            rw [hy] at q1
            have hxl := UInt8.toNat_lt x
            have hwx : IntKind.i64.wrap (x.toNat : Int) = (x.toNat : Int) := IntWalk.i64_in _ (by omega)
            obtain ⟨i, hi⟩ : ∃ i : Nat, (x.toNat : Int).tmod (l.length : Int) = (i : Int) := ⟨x.toNat % l.length, Int.ofNat_tmod _ _⟩
            have hil : i < l.length := by have := Int.tmod_lt_of_pos (x.toNat : Int) (show (0 : Int) < (l.length : Int) by omega); omega
            have hidx : ∀ W, (Instr.indexAt 24 (.slice (some ⟨g11, 0, none⟩) l.length c11) (.int .i64 (i : Int))).run Tryd.prog W = .ok (.pointer (some ⟨g11, i, none⟩)) W := fun W => by
              have h := idx_u8 (some ⟨g11, 0, none⟩) g11 0 l.length c11 i rfl hil W
              rwa [Nat.zero_add] at h
            have him : i < m.length := by rw [HML.out]; exact hil
            have hci := HO.out.cell rowU8_ok (i := i) (j := 0) him (by decide)
            rw [show i * rowU8.k + 0 = i from Nat.mul_one i] at hci
            obtain ⟨cs6, hcs6⟩ := HO.out.obj (g := g11) rfl
            have HCI := Lib.hid hci; have HCS := Lib.hid hcs6; have HQ0 := Lib.hid q0; have HQ1 := Lib.hid q1
            have hgl := HO.out.lt g11 rfl
            clear hci hcs6 q0 q1 hx hy haR
            go_upto_region 21 with fail
            refine wp_region_st (by kernel_rfl) (Vs [fun v _ => v = .slice (some ⟨g11, 0, none⟩) l.length c11, fun v _ => v = .slice ar nr cr, fun v _ => v = .int .i64 (j : Int), fun v _ => v = .pointer (some ⟨bR, oR + j, none⟩), fun v _ => v = .int .u8 (x.toNat : Int), fun v _ => v = .int .i64 (x.toNat : Int), fun v _ => v = .slice (some ⟨g11, 0, none⟩) l.length c11, fun v _ => v = .int .i64 (l.length : Int), fun v _ => v = .int .i64 (i : Int), fun v _ => v = .slice ar nr cr, fun v _ => v = .int .i64 (j : Int), fun v _ => v = .int .i64 ((j : Int) + 1), fun v _ => v = .pointer (some ⟨bR, oR + (j + 1), none⟩), fun v _ => v = .int .u8 (y.toNat : Int), fun v _ => v = .pointer (some ⟨g11, i, none⟩)]) (Xs [Ext, Ext, Ext, Ext, Ext, Ext, Ext, Ext, Ext, Ext, Ext, Ext, Ext, Ext, Ext]) (fun fL => (fun W => Below wr.heap.size wr W) ) [0, 0, 0, 6, 14, 30, 0, 64, 254, 0, 0, 1024, 3584, 7680, 511] 176 15 (by kernel_rfl) rfl ?hV ?hS ?hop ?hfin ?hlast
            case hV =>
              refine xs_stays (vs_stays (by simp only [List.mem_cons, List.not_mem_nil, or_false, forall_eq_or_imp, forall_eq]; exact ⟨stays_const _, stays_const _, stays_const _, stays_const _, stays_const _, stays_const _, stays_const _, stays_const _, stays_const _, stays_const _, stays_const _, stays_const _, stays_const _, stays_const _, stays_const _⟩)) ?_
              exact ⟨.inl rfl, .inl rfl, .inl rfl, .inl rfl, .inl rfl, .inl rfl, .inl rfl, .inl rfl, .inl rfl, .inl rfl, .inl rfl, .inl rfl, .inl rfl, .inl rfl, .inl rfl, trivial⟩
            case hS =>
              intro fL hf
              show (fun W => Below wr.heap.size wr W)  _
              exact (Below.refl _ wr).drew
            case hop =>
              refine ⟨?_, ?_, ?_, ?_, ?_, ?_, ?_, ?_, ?_, ?_, ?_, ?_, ?_, ?_, ?_, ?_, trivial⟩
              all_goals first | rw [if_neg (by decide)] | rw [if_pos (by decide)]
              all_goals try exact True.intro
              all_goals try intro ac W fL hsz hfi hms hdn hS0 hdep hbase hund
              all_goals try have hS : (fun W => Below wr.heap.size wr W)  W := hS0
              all_goals try (
                have x0 := (hS.cell (p := ⟨bR, oR + j, none⟩) hbR).trans HQ0.out
                have x1 := (hS.cell (p := ⟨bR, oR + (j + 1), none⟩) hbR).trans HQ1.out
                have hlI : ¬ (l.length : Int) = 0 := by omega)
              all_goals try (have h20 : ac.tmps.getD 20 undef = .slice (some ⟨g11, 0, none⟩) l.length c11 := hbase 20 (by kernel_rfl); have hh20 := h20; rw [Array.getD_eq_getD_getElem?] at hh20)
              all_goals try (have h2 : ac.tmps.getD 2 undef = .slice ar nr cr := hbase 2 (by kernel_rfl); have hh2 := h2; rw [Array.getD_eq_getD_getElem?] at hh2)
              all_goals try (have h21 : ac.tmps.getD 21 undef = .int .i64 (j : Int) := hbase 21 (by kernel_rfl); have hh21 := h21; rw [Array.getD_eq_getD_getElem?] at hh21)
              all_goals try (have d121 : ac.tmps.getD 121 undef = .slice (some ⟨g11, 0, none⟩) l.length c11 := hdep 0 (by decide); have dd121 := d121; rw [Array.getD_eq_getD_getElem?] at dd121)
              all_goals try (have d122 : ac.tmps.getD 122 undef = .slice ar nr cr := hdep 1 (by decide); have dd122 := d122; rw [Array.getD_eq_getD_getElem?] at dd122)
              all_goals try (have d123 : ac.tmps.getD 123 undef = .int .i64 (j : Int) := hdep 2 (by decide); have dd123 := d123; rw [Array.getD_eq_getD_getElem?] at dd123)
              all_goals try (have d124 : ac.tmps.getD 124 undef = .pointer (some ⟨bR, oR + j, none⟩) := hdep 3 (by decide); have dd124 := d124; rw [Array.getD_eq_getD_getElem?] at dd124)
              all_goals try (have d125 : ac.tmps.getD 125 undef = .int .u8 (x.toNat : Int) := hdep 4 (by decide); have dd125 := d125; rw [Array.getD_eq_getD_getElem?] at dd125)
              all_goals try (have d126 : ac.tmps.getD 126 undef = .int .i64 (x.toNat : Int) := hdep 5 (by decide); have dd126 := d126; rw [Array.getD_eq_getD_getElem?] at dd126)
              all_goals try (have d127 : ac.tmps.getD 127 undef = .slice (some ⟨g11, 0, none⟩) l.length c11 := hdep 6 (by decide); have dd127 := d127; rw [Array.getD_eq_getD_getElem?] at dd127)
              all_goals try (have d128 : ac.tmps.getD 128 undef = .int .i64 (l.length : Int) := hdep 7 (by decide); have dd128 := d128; rw [Array.getD_eq_getD_getElem?] at dd128)
              all_goals try (have d129 : ac.tmps.getD 129 undef = .int .i64 (i : Int) := hdep 8 (by decide); have dd129 := d129; rw [Array.getD_eq_getD_getElem?] at dd129)
              all_goals try (have d130 : ac.tmps.getD 130 undef = .slice ar nr cr := hdep 9 (by decide); have dd130 := d130; rw [Array.getD_eq_getD_getElem?] at dd130)
              all_goals try (have d131 : ac.tmps.getD 131 undef = .int .i64 (j : Int) := hdep 10 (by decide); have dd131 := d131; rw [Array.getD_eq_getD_getElem?] at dd131)
              all_goals try (have d132 : ac.tmps.getD 132 undef = .int .i64 ((j : Int) + 1) := hdep 11 (by decide); have dd132 := d132; rw [Array.getD_eq_getD_getElem?] at dd132)
              all_goals try (have d133 : ac.tmps.getD 133 undef = .pointer (some ⟨bR, oR + (j + 1), none⟩) := hdep 12 (by decide); have dd133 := d133; rw [Array.getD_eq_getD_getElem?] at dd133)
              all_goals try clear hbase hdep hms hdn hund
              all_goals (refine opOk_run rfl (.inl ⟨_, W, ?_, rfl, Ext.refl _, hS0⟩); clear hsz hS hS0 hfi; simp [go_sem, Act.eval, *]; done)
            case hfin =>
              intro h; exact absurd h (by decide)
            case hlast =>
              intro _ ac W hsz hdf fL hf hS0 hv hbase
              have hS : (fun W => Below wr.heap.size wr W)  W := hS0
              clear hS0
              have hst : ac.tmps.getD 135 undef = .pointer (some ⟨g11, i, none⟩) := hv 14 (by decide)
              have hnv : ac.tmps.getD 134 undef = .int .u8 (y.toNat : Int) := hv 13 (by decide)
              have q2 := (hS.cell (p := ⟨g11, i, none⟩) hgl).trans HCI.out
              have q4 := (hS.block g11 hgl).trans HCS.out
              refine wpOp_store_u8 rfl rfl rfl rfl (eval_tmp hst) (eval_tmp hnv) (by simp [World.frozen?, q4]) q2 (by kernel_rfl) ?_
              have hB7 : Below w10.heap.size w10 (W.setCell ⟨g11, i, none⟩ (.int .u8 (y.toNat : Int))) := (HBR.out.trans (hS.mono HBR.out.size)).setCell (p := ⟨g11, i, none⟩) (by show w10.heap.size ≤ g11; omega) _
              have hO7 := (HO.out.later hS (Nat.le_refl _)).put rowU8_ok (i := i) (j := 0) (x := y) (u := .int .u8 (y.toNat : Int)) him (by decide) rfl
              rw [show i * rowU8.k + 0 = i from Nat.mul_one i] at hO7
              obtain ⟨w7', hw7'⟩ : ∃ w7', W.setCell ⟨g11, i, none⟩ (.int .u8 (y.toNat : Int)) = w7' := ⟨_, rfl⟩
              rw [hw7'] at hB7 hO7 ⊢
              have HB7 := Lib.hid hB7; have HO7 := Lib.hid hO7
              clear hS q2 q4 hw7' hst hnv hB7 hO7
              obtain ⟨sx, hsx, hsA⟩ := act_puts [121, 122, 123, 124, 125, 126, 127, 128, 129, 130, 131, 132, 133, 134, 135] (by kernel_rfl) hsz hdf hbase
              rw [hsA]
              simp only [List.foldl]
              simp only [Act.put, List.setIfInBounds_toArray, List.set_cons_succ, List.set_cons_zero]
              clear hsA hsx hv hbase hsz hdf hf
              go_wp2_with fail
              go_roundw
              case rel => exact ⟨j + 2, m.set i y, by omega, by omega, by go_num, by rw [List.length_set]; exact HML.out, HO7.out, HB7.out⟩
              case measure => simp [intOf]; omega
          · have hI2 : ¬ (j : Int) < 4 := by omega
            go_wp2_with fail
            go_meet
            exact ⟨wr, rfl, m, HML.out, HO.out, HBR.out⟩
        · have hI1 : ¬ (j : Int) + 1 < (nr : Int) := by omega
          go_wp2_with fail
          go_meet
          exact ⟨wr, rfl, m, HML.out, HO.out, HBR.out⟩
    case rest =>
      obtain ⟨w12, hw12, m, hml, ho, hb⟩ := hcut
      subst hw12
      have hx12 : Since w10 w12 := ⟨hb⟩
      replace HT := Lib.hid (HT.out.go hb); replace HS := Lib.hid (HS.out.go hb); replace HRB := Lib.hid (HRB.out.go hb)
      have hRM : ByS w12 (some ⟨g11, 0, none⟩) l.length c11 m := ⟨ho.byts.1, hml.symm, hc11⟩
      have HRM := Lib.hid hRM
      have hw4 : IntKind.i64.wrap ((l.length : Int) - 4) = ((l.length - 4 : Nat) : Int) := by rw [IntWalk.i64_in _ (by omega)]; omega
      have hlow := slice_low_u8 (some ⟨g11, 0, none⟩) l.length c11 (l.length - 4) (by omega)
      have HTL : Hid ((m.take (l.length - 4)).length = l.length - 4) := by show _ = _; rw [List.length_take]; omega
      have hX13 := below_new w12 (.cells #[] 5)
      have HX13 := Lib.hid hX13
      have HOE : Hid (OwnG rowU8 (w12.alloc (.cells #[] 5)) w12.heap.size (.slice (some ⟨w12.heap.size, 0, none⟩) 0 0) []) := OwnG.empty rowU8 (heap_alloc_new w12 (.cells #[] 5)) (Nat.le_refl _)
      have HCE := Lib.hid (cells_byts ((HRM.out.byts.take (l.length - 4)).go hX13))
      clear hX13 ho hb hx12 hRM HOC HB11
      go_upto_region 23 with (first | (at_builtin; go_loud (refine wpList_app rowU8_ok rfl _ _ rfl rfl HOE.out ⟨g11, 0, none⟩ c11 (m.take (l.length - 4)) (by rw [HTL.out]; rfl) HCE.out (by simp only [List.length_nil, List.length_take]; omega) (by simp only [World.size_alloc]; omega) ?_); intro v13 w13 hown13 hg13; have HO13 := Lib.hid hown13; have HB13 := Lib.hid (HX13.out.trans (hg13.below HX13.out.size HOE.out.ge)); clear hown13 hg13))
      clear hw4 hlow HCE HOE HX13
      obtain ⟨s1, hs1⟩ : ∃ s, [] ++ m.take (l.length - 4) = s := ⟨_, rfl⟩
      have hsl1 : s1.length ≤ 19900 := by rw [← hs1, List.nil_append, HTL.out]; omega
      rw [hs1] at HO13
      obtain ⟨a13, c13, rfl, hR13⟩ := HO13.out.byS
      clear hs1 HTL
      go_wp2_with fail
      refine (rsum_any s1 s1.length a13 c13 w13 hR13.byts rfl (by omega)).mono ?_
      rintro e w14 ⟨gs, rfl, hos, hbs⟩
      have HB14 := Lib.hid (HB13.out.trans (hbs.mono HB13.out.size))
      have HO14 := Lib.hid (HO13.out.later hbs (Nat.le_refl _))
      have HZ14 := Lib.hid (Nat.le_trans HB13.out.size hbs.size)
      have HCE := Lib.hid (cells_byts hos.byts.1)
      clear hR13 hos hbs HO13 HB13
      go_upto_region 24 with (first | (at_builtin; go_loud (refine wpList_app rowU8_ok rfl _ _ rfl rfl HO14.out ⟨gs, 0, none⟩ 4 (sumB s1) rfl HCE.out (by rw [sumB_len]; omega) HZ14.out ?_); intro v15 w15 hown15 hg15; have HO15 := Lib.hid hown15; have HG15 := Lib.hid hg15; clear hown15 hg15))
      have HB15 := Lib.hid (HB14.out.trans (HG15.out.below HZ14.out HO14.out.ge))
      replace HT := Lib.hid (HT.out.go HB15.out); replace HS := Lib.hid (HS.out.go HB15.out); replace HRB := Lib.hid (HRB.out.go HB15.out); replace HRM := Lib.hid (HRM.out.go HB15.out)
      obtain ⟨s2, hs2⟩ : ∃ s, s1 ++ sumB s1 = s := ⟨_, rfl⟩
      have hsl2 : s2.length ≤ 19910 := by rw [← hs2, List.length_append, sumB_len]; omega
      rw [hs2] at HO15
      obtain ⟨a15, c15, rfl, hR15⟩ := HO15.out.byS
      have HR15 := Lib.hid hR15
      clear hs2 hR15 HO15 HG15 HO14 HB14 HZ14 HB15 HCE hsl1
      have H16 := Lib.hid (heap_alloc_new w15 (.cells #[] 5))
      have HX16 := Lib.hid (below_new w15 (.cells #[] 5))
      have HRBX : Hid (rw ≠ [] → ∃ ad, ar = some ad ∧ ∀ j u, (rw.flatMap rowU8.enc)[j]? = some u → (w15.alloc (.cells #[] 5)).cell? (ad.add j) = some u) := fun hne => by
        have hb := HRB.out.go HX16.out
        obtain ⟨b, o, e, _⟩ := hb.at (k := 0) (List.length_pos_iff.2 hne)
        subst e
        exact ⟨_, rfl, cells_byts hb⟩
      go_upto_region 25 with (first | (at_builtin; go_loud (refine wpList_copy_g rowU8_ok H16.out rfl _ _ rfl rfl ar nr cr rw HNR.out rfl HRBX.out (by have := HNR.out; omega) ?_); intro v16 w16 hown16 _ hx16; have HO16 := Lib.hid (hown16.mono (Nat.le_refl _)); have HB16 := Lib.hid (HX16.out.trans (hx16.mono HX16.out.size)); clear hown16 hx16))
      have hr40 : rw.length ≤ 40 := by have := HNR.out; omega
      obtain ⟨a16, c16, rfl, hR16⟩ := HO16.out.byS
      clear HRBX H16 HX16
      go_wp2_with fail
      refine (rsum_any rw rw.length a16 c16 w16 hR16.byts rfl (by omega)).mono ?_
      rintro e w17 ⟨gs2, rfl, hos, hbs⟩
      have HB17 := Lib.hid (HB16.out.trans (hbs.mono HB16.out.size))
      have HO17 := Lib.hid (HO16.out.later hbs (Nat.le_refl _))
      have HZ17 := Lib.hid (Nat.le_trans HB16.out.size hbs.size)
      have HCE := Lib.hid (cells_byts hos.byts.1)
      clear hR16 hos hbs HO16 HB16
      go_upto_region 26 with (first | (at_builtin; go_loud (refine wpList_app rowU8_ok rfl _ _ rfl rfl HO17.out ⟨gs2, 0, none⟩ 4 (sumB rw) rfl HCE.out (by rw [sumB_len]; omega) HZ17.out ?_); intro v18 w18 hown18 hg18; have HO18 := Lib.hid hown18; have HG18 := Lib.hid hg18; clear hown18 hg18))
      have HB18 := Lib.hid (HB17.out.trans (HG18.out.below HZ17.out HO17.out.ge))
      replace HT := Lib.hid (HT.out.go HB18.out); replace HS := Lib.hid (HS.out.go HB18.out); replace HRB := Lib.hid (HRB.out.go HB18.out); replace HRM := Lib.hid (HRM.out.go HB18.out); replace HR15 := Lib.hid (HR15.out.go HB18.out)
      obtain ⟨s3, hs3⟩ : ∃ s, rw ++ sumB rw = s := ⟨_, rfl⟩
      have hsl3 : s3.length ≤ 100 := by rw [← hs3, List.length_append, sumB_len]; omega
      rw [hs3] at HO18
      obtain ⟨a18, c18, rfl, hR18⟩ := HO18.out.byS
      have HR18 := Lib.hid hR18
      clear hs3 hR18 HO18 HG18 HO17 HB17 HZ17 HB18 HCE
      have HL := Lib.hid (BoxQ.new w18 #[.slice (some ⟨g11, 0, none⟩) l.length c11, .slice a15 s2.length c15, .slice ar nr cr, .slice a18 s3.length c18] 24)
      have hX19 := below_new w18 (.cells #[.slice (some ⟨g11, 0, none⟩) l.length c11, .slice a15 s2.length c15, .slice ar nr cr, .slice a18 s3.length c18] 24)
      replace HT := Lib.hid (HT.out.go hX19); replace HS := Lib.hid (HS.out.go hX19); replace HRB := Lib.hid (HRB.out.go hX19); replace HRM := Lib.hid (HRM.out.go hX19); replace HR15 := Lib.hid (HR15.out.go hX19); replace HR18 := Lib.hid (HR18.out.go hX19)
      clear hX19
      have HRR : Hid (ByS _ ar nr cr rw) := ⟨HRB.out, HNR.out, HCR.out⟩
      obtain ⟨w19, hw19⟩ : ∃ w19, w18.alloc (.cells #[.slice (some ⟨g11, 0, none⟩) l.length c11, .slice a15 s2.length c15, .slice ar nr cr, .slice a18 s3.length c18] 24) = w19 := ⟨_, rfl⟩
      obtain ⟨gL, hgL⟩ : ∃ gL, w18.heap.size = gL := ⟨_, rfl⟩
      rw [hw19] at HL HT HS HRM HR15 HR18 HRR
      rw [hgL] at HL
      have HLST : Hid (∀ k : Nat, k < 4 → ∃ ak nk ck bl, w19.cell? ⟨gL, k, none⟩ = some (.slice ak nk ck) ∧ ByS w19 ak nk ck bl ∧ bl.length ≤ 20000) := fun k hk => by
        match k, hk with
        | 0, _ => exact ⟨_, _, _, _, box_cell HL.out 0 rfl, HRM.out, by have := HRM.out.len; omega⟩
        | 1, _ => exact ⟨_, _, _, _, box_cell HL.out 1 rfl, HR15.out, by omega⟩
        | 2, _ => exact ⟨_, _, _, _, box_cell HL.out 2 rfl, HRR.out, by omega⟩
        | 3, _ => exact ⟨_, _, _, _, box_cell HL.out 3 rfl, HR18.out, by omega⟩
      have hgL2 : gL < w19.heap.size := HL.out.lt
      go_upto_region 27 with fail
      go_wp2_with fail
      go_loopw [25] (fun q wr => ∃ k : Nat, k ≤ 4 ∧ q = .int .i64 (k : Int) ∧ Below w19.heap.size w19 wr) (fun q _ => 5 - (intOf q).toNat)
      case atStart => exact ⟨0, by omega, rfl, Below.refl _ _⟩
      case round =>
        obtain ⟨k, hk4, rfl, hb⟩ := hrel
        have HBR := Lib.hid hb
        clear hb
        have hwk : IntKind.i64.wrap ((k : Int) + 1) = (k : Int) + 1 := IntWalk.i64_in _ (by omega)
        by_cases hlt : k < 4
        · have hI : (k : Int) < 4 := by omega
          obtain ⟨ak, nk, ck, bl, hck, hbk, hbl⟩ := HLST.out k hlt
          have HCK := Lib.hid ((HBR.out.cell (p := ⟨gL, k, none⟩) hgL2).trans hck)
          have hgr : gL < wr.heap.size := Nat.lt_of_lt_of_le hgL2 HBR.out.size
          have HBK := Lib.hid (hbk.go HBR.out)
          replace HT := Lib.hid (HT.out.go HBR.out)
          replace HS := Lib.hid (HS.out.go HBR.out)
          have hidx : ∀ W, (Instr.indexAt 22 (.slice (some ⟨gL, 0, none⟩) 4 4) (.int .i64 (k : Int))).run Tryd.prog W = .ok (.pointer (some ⟨gL, k, none⟩)) W := fun W => by
            have h0 : (0 : Int) ≤ (k : Int) := by omega
            simp [go_sem, h0, hI]
          have HDE := Lib.hid (decide_eq_true (rfl : unpF bl = unpF bl))
          clear hck hbk
          go_upto_region 30 with fail
          refine wp_region_st (by kernel_rfl) (Vs [fun v _ => v = .slice (some ⟨gL, 0, none⟩) 4 4, fun v _ => v = .int .i64 (k : Int), fun v _ => v = .pointer (some ⟨gL, k, none⟩), fun v _ => v = .slice ak nk ck, UnpW bl, fun v _ => v = .slice (some ⟨gL, 0, none⟩) 4 4, fun v _ => v = .int .i64 (k : Int), fun v _ => v = .pointer (some ⟨gL, k, none⟩), fun v _ => v = .slice ak nk ck, UnpW bl, fun v _ => v = .bool true, fun v _ => v = .bool false]) (Xs [Ext, Ext, Ext, Ext, Ext, Ext, Ext, Ext, Ext, Ext, Ext, Ext]) (fun fL => (fun W => Below wr.heap.size wr W) ) [0, 0, 3, 7, 15, 0, 0, 96, 224, 480, 1023, 2047] 176 12 (by kernel_rfl) rfl ?hV ?hS ?hop ?hfin ?hlast
          case hV =>
            refine xs_stays (vs_stays (by simp only [List.mem_cons, List.not_mem_nil, or_false, forall_eq_or_imp, forall_eq]; exact ⟨stays_const _, stays_const _, stays_const _, stays_const _, unpW_stays bl, stays_const _, stays_const _, stays_const _, stays_const _, unpW_stays bl, stays_const _, stays_const _⟩)) ?_
            exact ⟨.inl rfl, .inl rfl, .inl rfl, .inl rfl, .inl rfl, .inl rfl, .inl rfl, .inl rfl, .inl rfl, .inl rfl, .inl rfl, .inl rfl, trivial⟩
          case hS =>
            intro fL hf
            show (fun W => Below wr.heap.size wr W)  _
            exact (Below.refl _ wr).drew
          case hop =>
            refine ⟨?_, ?_, ?_, ?_, ?c4, ?_, ?_, ?_, ?_, ?c9, ?c10, ?_, trivial⟩
            all_goals first | rw [if_neg (by decide)] | rw [if_pos (by decide)]
            all_goals try intro ac W fL hsz hfi hms hdn hS0 hdep hbase hund
            all_goals try have hS : (fun W => Below wr.heap.size wr W)  W := hS0
            all_goals try (
              have x0 := (hS.cell (p := ⟨gL, k, none⟩) hgr).trans HCK.out)
            all_goals try (have h24 : ac.tmps.getD 24 undef = .slice (some ⟨gL, 0, none⟩) 4 4 := hbase 24 (by kernel_rfl); have hh24 := h24; rw [Array.getD_eq_getD_getElem?] at hh24)
            all_goals try (have h25 : ac.tmps.getD 25 undef = .int .i64 (k : Int) := hbase 25 (by kernel_rfl); have hh25 := h25; rw [Array.getD_eq_getD_getElem?] at hh25)
            all_goals try (have d163 : ac.tmps.getD 163 undef = .slice (some ⟨gL, 0, none⟩) 4 4 := hdep 0 (by decide); have dd163 := d163; rw [Array.getD_eq_getD_getElem?] at dd163)
            all_goals try (have d164 : ac.tmps.getD 164 undef = .int .i64 (k : Int) := hdep 1 (by decide); have dd164 := d164; rw [Array.getD_eq_getD_getElem?] at dd164)
            all_goals try (have d165 : ac.tmps.getD 165 undef = .pointer (some ⟨gL, k, none⟩) := hdep 2 (by decide); have dd165 := d165; rw [Array.getD_eq_getD_getElem?] at dd165)
            all_goals try (have d166 : ac.tmps.getD 166 undef = .slice ak nk ck := hdep 3 (by decide); have dd166 := d166; rw [Array.getD_eq_getD_getElem?] at dd166)
            all_goals try have d167 : (UnpW bl) (ac.tmps.getD 167 undef) W := hdep 4 (by decide)
            all_goals try (have d168 : ac.tmps.getD 168 undef = .slice (some ⟨gL, 0, none⟩) 4 4 := hdep 5 (by decide); have dd168 := d168; rw [Array.getD_eq_getD_getElem?] at dd168)
            all_goals try (have d169 : ac.tmps.getD 169 undef = .int .i64 (k : Int) := hdep 6 (by decide); have dd169 := d169; rw [Array.getD_eq_getD_getElem?] at dd169)
            all_goals try (have d170 : ac.tmps.getD 170 undef = .pointer (some ⟨gL, k, none⟩) := hdep 7 (by decide); have dd170 := d170; rw [Array.getD_eq_getD_getElem?] at dd170)
            all_goals try (have d171 : ac.tmps.getD 171 undef = .slice ak nk ck := hdep 8 (by decide); have dd171 := d171; rw [Array.getD_eq_getD_getElem?] at dd171)
            all_goals try have d172 : (UnpW bl) (ac.tmps.getD 172 undef) W := hdep 9 (by decide)
            all_goals try (have d173 : ac.tmps.getD 173 undef = .bool true := hdep 10 (by decide); have dd173 := d173; rw [Array.getD_eq_getD_getElem?] at dd173)
            all_goals try clear hbase hdep hms hdn hund
            case c4 =>
              refine opOk_run rfl (.inr ⟨18, #[.slice ak nk ck], W, by (clear hsz hS hS0 hfi; simp [go_sem, Act.eval, *]), ?_⟩)
              refine (unpackL_d (HBK.out.go hS) hbl (HT.out.go hS)).mono ?_
              rintro e w9 ⟨v, rfl, hv9, hb9⟩
              exact ⟨_, rfl, hv9, hb9, Below.trans hS (Below.mono hb9 hS.size)⟩
            case c9 =>
              refine opOk_run rfl (.inr ⟨19, #[.slice ak nk ck], W, by (clear hsz hS hS0 hfi; simp [go_sem, Act.eval, *]), ?_⟩)
              refine (runpack_any bl nk ak ck W (HBK.out.go hS).byts HBK.out.len HBK.out.cap (by have := HBK.out.len; omega)).mono ?_
              rintro e w9 ⟨v, rfl, hv9, hb9⟩
              exact ⟨_, rfl, hv9, hb9, Below.trans hS (Below.mono hb9 hS.size)⟩
            case c10 =>
              obtain ⟨z1, hz1⟩ : ∃ u, ac.tmps.getD 167 undef = u := ⟨_, rfl⟩
              obtain ⟨z2, hz2⟩ : ∃ u, ac.tmps.getD 172 undef = u := ⟨_, rfl⟩
              rw [hz1] at d167
              rw [hz2] at d172
              have hu1 : UnpV W (unpF bl) z1 := d167
              have hu2 : UnpV W (unpF bl) z2 := d172
              clear d167 d172
              have zz1 := hz1
              rw [Array.getD_eq_getD_getElem?] at zz1
              have zz2 := hz2
              rw [Array.getD_eq_getD_getElem?] at zz2
              refine opOk_run rfl (.inr ⟨17, #[z1, z2], W, by (clear hu1 hu2 hsz hS hS0 hfi; simp [go_sem, Act.eval, *]), ?_⟩)
              refine (same_u (unpF bl) (unpF bl) _ _ W hu1 hu2).mono ?_
              rintro e w9 ⟨he, hb9⟩
              rw [HDE.out] at he
              exact ⟨_, he, rfl, hb9, Below.trans hS (Below.mono hb9 hS.size)⟩
            all_goals (refine opOk_run rfl (.inl ⟨_, W, ?_, rfl, Ext.refl _, hS0⟩); clear hsz hS hS0 hfi; simp [go_sem, Act.eval, *]; done)
          case hlast =>
            intro h; exact absurd rfl h
          case hfin =>
            intro _ ac W hsz hdf fL hf hS0 hv hbase
            have hS : (fun W => Below wr.heap.size wr W)  W := hS0
            clear hS0
            obtain ⟨sx, hsx, hsA⟩ := act_puts [163, 164, 165, 166, 167, 168, 169, 170, 171, 172, 173, 174] (by kernel_rfl) hsz hdf hbase
            have e174 : sx 174 = .bool false := (hsx 174).trans (hv 11 (by decide))
            rw [hsA]
            simp only [List.foldl]
            rw [e174]
            clear e174
            simp only [Act.put, List.setIfInBounds_toArray, List.set_cons_succ, List.set_cons_zero]
            clear hsA hsx hv hbase hsz hdf hf
            have HBZ := Lib.hid (HBR.out.trans (Below.mono hS HBR.out.size))
            clear hS
            go_wp2_with fail
            go_roundw
            case rel => exact ⟨k + 1, by omega, by go_num, HBZ.out⟩
            case measure => simp [intOf]; omega
        · have hI : ¬ (k : Int) < 4 := by omega
          replace HS := Lib.hid (HS.out.go HBR.out)
          go_wp2_with fail
          go_ret
          exact ⟨rfl, HS.out.out⟩
end Go.Proofs.YtocdljmdmiphnaaDoor
