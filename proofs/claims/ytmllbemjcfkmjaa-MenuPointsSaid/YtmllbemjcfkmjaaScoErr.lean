/- The errors of a machine, a length and points: what both sides return. -/
import Derived.Test.YtmllbemjcfkmjaaCheapLaw
import Derived.BigQuiet
namespace Go.Proofs.Ytmllbemjcfkmjaa
open Go.RowKit Go.Maps
set_option linter.unusedSimpArgs false
set_option linter.unusedVariables false

theorem box_new0 (w : World) (x y z : Value) (t : TypeId) : BoxAt w.heap.size (w.alloc (.cells #[x, y, z] t)) x y z := box_at (B := w.heap.size + 1) (Below.refl _ _) rfl
theorem BoxAt.belowB {H : Nat} {w w' : World} {x y z : Value} (h : BoxAt H w x y z) (hb : Below w.heap.size w w') : BoxAt H w' x y z :=
  ⟨(hb.cell (p := ⟨H, 0, none⟩) h.lt).trans h.c0, (hb.cell (p := ⟨H, 1, none⟩) h.lt).trans h.c1, (hb.cell (p := ⟨H, 2, none⟩) h.lt).trans h.c2, Nat.lt_of_lt_of_le h.lt hb.size⟩
def outP (x : Int) : Bool := decide (x < 0) || decide (20 < x)
theorem outP_no {x : Int} : outP x = false ↔ 0 ≤ x ∧ x ≤ 20 := by
  unfold outP
  rw [Bool.or_eq_false_iff, decide_eq_false_iff_not, decide_eq_false_iff_not]
  omega
theorem pts_any {L : Int} {xs : List Int} (hl : (xs.length : Int) = L) : anyI outP xs = false ↔ PtsOK L xs := by
  rw [anyI_no]
  constructor
  · intro h
    exact ⟨hl, fun i hi => outP_no.1 (h i hi)⟩
  · intro h j hj
    exact outP_no.2 (h.el j hj)
theorem clos116 (x : Int) (w : World) :
    Calls Try.prog 116 #[.int .i64 x] w fun e w' => e = .returned (.bool (outP x)) ∧ w = w' := by
  unfold outP
  by_cases h : x < 0
  · go_enter Try.func116, Try.ntmps116
    go_wp2_with fail
    go_ret
    exact ⟨by simp [h], rfl⟩
  · go_enter Try.func116, Try.ntmps116
    go_wp2_with fail
    go_ret
    exact ⟨by simp [h]; omega, rfl⟩
theorem fn116 (w : World) : Hid (FnP 116 #[] #[] outP w) :=
  hid ⟨run_enter Try.func116 (by kernel_rfl) rfl, fun x => clos116 x w⟩

set_option maxRecDepth 100000 in
theorem pointed_any (m : Mac) (a a2 : Option Addr) (cap cap2 : Nat) (n : Int) (xs : List Int) (ax : Option Addr) (cx : Nat) (W : World) (hM : MacAt W a cap a2 cap2 m) (hI : IntsAt W ax xs) (hl : xs.length ≤ maxLen) :
    Calls Try.prog 93 #[.agg #[.int .i64 m.L, .slice a m.nx.length cap, .slice a2 m.ac.length cap2], .int .i64 n, .slice ax xs.length cx] W fun e w' => e = .returned (.int .i64 (scoE m n xs)) ∧ Below W.heap.size W w' := by
  have hb0 := below_alloc W (.cells #[.int .i64 m.L, .slice a m.nx.length cap, .slice a2 m.ac.length cap2] 25)
  have Hv := hid (sized_any m a a2 cap cap2 n (W.alloc (.cells #[.int .i64 m.L, .slice a m.nx.length cap, .slice a2 m.ac.length cap2] 25)) (hM.below hb0))
  have HB := hid hb0
  have HI := hid (hI.below hb0)
  have HX := hid (box_new0 W (.int .i64 m.L) (.slice a m.nx.length cap) (.slice a2 m.ac.length cap2) 25)
  clear hM hb0 hI
  by_cases hv : sizE m n = 0
  · rw [hv] at Hv
    have hS := scoE_ok hv xs
    rw [hS]
    clear hS hv
    by_cases hL : (xs.length : Int) = m.L
    · have HA := hid (pts_any hL)
      have e1 : ((xs.length : Int) == m.L) = true := beq_iff_eq.2 hL
      have e2 : ((xs.length : Int) != m.L) = false := by rw [bne, e1]; rfl
      have HL := hid hL
      clear hL
      cases hA : anyI outP xs
      · have R := hid (ptsE_ok (HA.out.1 hA))
        go_enter Try.func93, Try.ntmps93
        go_wp2_with fail
        refine Hv.out.mono ?_; rintro e w1 ⟨rfl, hb1⟩
        have hX := HX.out.belowB hb1
        have x0 := hX.c0
        have xl := hX.lt
        have hz := HB.out.trans (hb1.mono HB.out.size)
        have Hc := hid (containsFunc_any 116 #[] #[] outP xs ax cx w1 (HI.out.below hb1) hl (fn116 w1))
        rw [hA] at Hc
        clear hb1 hX hA HA hl
        go_wp2_with fail
        refine Hc.out.mono ?_; rintro e w' ⟨rfl, rfl⟩
        go_wp2_with fail
        go_ret
        exact ⟨by rw [R.out]; rfl, hz⟩
      · have R := hid (ptsE_bad (L := m.L) (xs := xs) fun h => by rw [HA.out.2 h] at hA; cases hA)
        go_enter Try.func93, Try.ntmps93
        go_wp2_with fail
        refine Hv.out.mono ?_; rintro e w1 ⟨rfl, hb1⟩
        have hX := HX.out.belowB hb1
        have x0 := hX.c0
        have xl := hX.lt
        have hz := HB.out.trans (hb1.mono HB.out.size)
        have Hc := hid (containsFunc_any 116 #[] #[] outP xs ax cx w1 (HI.out.below hb1) hl (fn116 w1))
        rw [hA] at Hc
        clear hb1 hX hA HA hl
        go_wp2_with fail
        refine Hc.out.mono ?_; rintro e w' ⟨rfl, rfl⟩
        go_wp2_with fail
        go_ret
        exact ⟨by rw [R.out]; rfl, hz⟩
    · have R := hid (ptsE_bad (L := m.L) (xs := xs) fun h => hL h.len)
      have e1 : ((xs.length : Int) == m.L) = false := beq_eq_false_iff_ne.2 hL
      have e2 : ((xs.length : Int) != m.L) = true := by rw [bne, e1]; rfl
      clear hL
      go_enter Try.func93, Try.ntmps93
      go_wp2_with fail
      refine Hv.out.mono ?_; rintro e w1 ⟨rfl, hb1⟩
      have hX := HX.out.belowB hb1
      have x0 := hX.c0
      have xl := hX.lt
      have hz := HB.out.trans (hb1.mono HB.out.size)
      clear hb1 hX
      go_wp2_with fail
      go_ret
      exact ⟨by rw [R.out]; rfl, hz⟩
  · have R := hid (scoE_bad hv xs)
    have d1 : (sizE m n == 0) = false := beq_eq_false_iff_ne.2 hv
    have d2 : (sizE m n != 0) = true := by rw [bne, d1]; rfl
    clear hv
    go_enter Try.func93, Try.ntmps93
    go_wp2_with fail
    refine Hv.out.mono ?_; rintro e w1 ⟨rfl, hb1⟩
    have hz := HB.out.trans (hb1.mono HB.out.size)
    clear hb1
    go_wp2_with fail
    go_ret
    exact ⟨by rw [R.out]; rfl, hz⟩

set_option maxRecDepth 100000 in
theorem scored_any (m : Mac) (a a2 : Option Addr) (cap cap2 : Nat) (n : Int) (xs : List Int) (ax : Option Addr) (cx : Nat) (W : World) (hM : MacAt W a cap a2 cap2 m) (hI : IntsAt W ax xs) (hl : xs.length ≤ maxLen) :
    Calls Try.prog 94 #[.agg #[.int .i64 m.L, .slice a m.nx.length cap, .slice a2 m.ac.length cap2], .int .i64 n, .slice ax xs.length cx] W fun e w' => e = .returned (.int .i64 (scoE m n xs)) ∧ Below W.heap.size W w' := by
  have hb0 := below_alloc W (.cells #[.int .i64 m.L, .slice a m.nx.length cap, .slice a2 m.ac.length cap2] 25)
  have Hv := hid (rsized_any m a a2 cap cap2 n (W.alloc (.cells #[.int .i64 m.L, .slice a m.nx.length cap, .slice a2 m.ac.length cap2] 25)) (hM.below hb0))
  have HB := hid hb0
  have HI := hid (hI.below hb0)
  have HX := hid (box_new0 W (.int .i64 m.L) (.slice a m.nx.length cap) (.slice a2 m.ac.length cap2) 25)
  clear hM hb0 hI
  by_cases hv : sizE m n = 0
  · rw [hv] at Hv
    have hS := scoE_ok hv xs
    rw [hS]
    clear hS hv
    by_cases hL : (xs.length : Int) = m.L
    · have e1 : ((xs.length : Int) == m.L) = true := beq_iff_eq.2 hL
      have e2 : ((xs.length : Int) != m.L) = false := by rw [bne, e1]; rfl
      have HL := hid hL
      unfold maxLen at hl
      clear hL
      go_enter Try.func94, Try.ntmps94
      go_wp2_with fail
      refine Hv.out.mono ?_; rintro e w1 ⟨rfl, hb1⟩
      have hX := HX.out.belowB hb1
      have x0 := hX.c0
      have xl := hX.lt
      have hz := HB.out.trans (hb1.mono HB.out.size)
      have HI1 := hid (HI.out.below hb1)
      clear hb1 hX
      go_wp2_with fail
      clear x0 xl e1 e2
      go_loop [8] (fun v8 => ∃ k : Nat, k ≤ xs.length ∧ v8 = .int .i64 k ∧ Hid (∀ j, j < k → 0 ≤ nth xs j ∧ nth xs j ≤ 20)) (fun v8 => xs.length - (intOf v8).toNat)
      case atStart => exact ⟨0, by omega, rfl, hid fun j hj => by omega⟩
      case round =>
        obtain ⟨k, hk, rfl, HE⟩ := hrel
        by_cases hlt : k < xs.length
        · obtain ⟨b, off, rfl, hbl, c1⟩ := HI1.out k hlt
          by_cases hin : 0 ≤ nth xs k ∧ nth xs k ≤ 20
          · have Hw := hid (fun w => within_yes (nth xs k) 0 20 w hin.1 hin.2)
            go_wp2_with fail
            refine (Hw.out _).mono ?_; rintro e w' ⟨rfl, rfl⟩
            go_wp2_with fail
            go_round
            case rel => exact ⟨k + 1, by omega, by go_num, hid fun i hi => by
              by_cases e : i = k
              · subst e; exact hin
              · exact HE.out i (by omega)⟩
            case measure => simp [intOf]; omega
          · have Hw := hid (fun w => within_no (nth xs k) 0 20 w (by omega))
            have R := hid (ptsE_bad (L := m.L) (xs := xs) fun h => hin (h.el k hlt))
            clear hin
            go_wp2_with fail
            refine (Hw.out _).mono ?_; rintro e w' ⟨rfl, rfl⟩
            go_wp2_with fail
            go_ret
            exact ⟨by rw [R.out]; rfl, hz⟩
        · obtain rfl : k = xs.length := by omega
          have R := hid (ptsE_ok ⟨HL.out, HE.out⟩)
          go_wp2_with fail
          go_ret
          exact ⟨by rw [R.out]; rfl, hz⟩
    · have R := hid (ptsE_bad (L := m.L) (xs := xs) fun h => hL h.len)
      have e1 : ((xs.length : Int) == m.L) = false := beq_eq_false_iff_ne.2 hL
      have e2 : ((xs.length : Int) != m.L) = true := by rw [bne, e1]; rfl
      clear hL
      go_enter Try.func94, Try.ntmps94
      go_wp2_with fail
      refine Hv.out.mono ?_; rintro e w1 ⟨rfl, hb1⟩
      have hX := HX.out.belowB hb1
      have x0 := hX.c0
      have xl := hX.lt
      have hz := HB.out.trans (hb1.mono HB.out.size)
      clear hb1 hX
      go_wp2_with fail
      go_ret
      exact ⟨by rw [R.out]; rfl, hz⟩
  · have R := hid (scoE_bad hv xs)
    have d1 : (sizE m n == 0) = false := beq_eq_false_iff_ne.2 hv
    have d2 : (sizE m n != 0) = true := by rw [bne, d1]; rfl
    clear hv
    go_enter Try.func94, Try.ntmps94
    go_wp2_with fail
    refine Hv.out.mono ?_; rintro e w1 ⟨rfl, hb1⟩
    have hz := HB.out.trans (hb1.mono HB.out.size)
    clear hb1
    go_wp2_with fail
    go_ret
    exact ⟨by rw [R.out]; rfl, hz⟩
end Go.Proofs.Ytmllbemjcfkmjaa
