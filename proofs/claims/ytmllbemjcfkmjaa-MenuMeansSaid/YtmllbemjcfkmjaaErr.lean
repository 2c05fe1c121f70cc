/- The errors of a word, of a length, and of a machine with one: what they are. -/
import Derived.Test.YtmllbemjcfkmjaaVal
namespace Go.Proofs.Ytmllbemjcfkmjaa
open Go.RowKit
set_option linter.unusedSimpArgs false
set_option linter.unusedVariables false

structure WordOK (L : Int) (xs : List Int) : Prop where
  l20 : xs.length ≤ 20
  el : ∀ i, i < xs.length → 0 ≤ nth xs i ∧ nth xs i < L
open Classical in
noncomputable def wrdE (L : Int) (xs : List Int) : Int := if 20 < xs.length then 4 else if WordOK L xs then 0 else 1
open Classical in
noncomputable def wodE (m : Mac) (xs : List Int) : Int := if valE m = 0 then wrdE m.L xs else valE m
open Classical in
noncomputable def sizE (m : Mac) (n : Int) : Int := if valE m = 0 then (if 0 ≤ n ∧ n ≤ 20 then 0 else 1) else valE m
theorem wodE_ok {m : Mac} (h : valE m = 0) (xs : List Int) : wodE m xs = wrdE m.L xs := by unfold wodE; rw [if_pos h]
theorem wodE_bad {m : Mac} (h : valE m ≠ 0) (xs : List Int) : wodE m xs = valE m := by unfold wodE; rw [if_neg h]
theorem sizE_bad {m : Mac} (h : valE m ≠ 0) (n : Int) : sizE m n = valE m := by unfold sizE; rw [if_neg h]
theorem sizE_ok {m : Mac} {n : Int} (h : valE m = 0) (h0 : 0 ≤ n) (h2 : n ≤ 20) : sizE m n = 0 := by unfold sizE; rw [if_pos h, if_pos ⟨h0, h2⟩]
theorem sizE_out {m : Mac} {n : Int} (h : valE m = 0) (h0 : n < 0 ∨ 20 < n) : sizE m n = 1 := by unfold sizE; rw [if_pos h, if_neg (by omega)]
theorem wrdE_long {L : Int} {xs : List Int} (h : 20 < xs.length) : wrdE L xs = 4 := by unfold wrdE; rw [if_pos h]
theorem wrdE_ok {L : Int} {xs : List Int} (h : WordOK L xs) : wrdE L xs = 0 := by unfold wrdE; rw [if_neg (by have := h.l20; omega), if_pos h]
theorem wrdE_bad {L : Int} {xs : List Int} (h : xs.length ≤ 20) (h2 : ¬ WordOK L xs) : wrdE L xs = 1 := by unfold wrdE; rw [if_neg (by omega), if_neg h2]
theorem wrdE_zero {L : Int} {xs : List Int} : wrdE L xs = 0 ↔ WordOK L xs := by
  constructor
  · intro h
    unfold wrdE at h
    split at h
    · cases h
    · split at h
      · assumption
      · cases h
  · exact wrdE_ok
theorem wodE_zero {m : Mac} {xs : List Int} : wodE m xs = 0 ↔ MacOK m ∧ WordOK m.L xs := by
  by_cases h : valE m = 0
  · rw [wodE_ok h, wrdE_zero]
    exact ⟨fun h2 => ⟨valE_zero.1 h, h2⟩, fun h2 => h2.2⟩
  · rw [wodE_bad h]
    exact ⟨fun h2 => absurd h2 h, fun h2 => absurd (valE_ok h2.1) h⟩
theorem sizE_zero {m : Mac} {n : Int} : sizE m n = 0 ↔ MacOK m ∧ 0 ≤ n ∧ n ≤ 20 := by
  by_cases h : valE m = 0
  · by_cases h2 : 0 ≤ n ∧ n ≤ 20
    · exact ⟨fun _ => ⟨valE_zero.1 h, h2⟩, fun _ => sizE_ok h h2.1 h2.2⟩
    · rw [sizE_out h (by omega)]
      exact ⟨(fun h => by cases h), fun h3 => absurd h3.2 h2⟩
  · rw [sizE_bad h]
    exact ⟨fun h2 => absurd h2 h, fun h2 => absurd (valE_ok h2.1) h⟩
def outI (L : Int) (x : Int) : Bool := decide (x < 0) || decide (L ≤ x)
theorem outI_no {L x : Int} : outI L x = false ↔ 0 ≤ x ∧ x < L := by
  unfold outI
  rw [Bool.or_eq_false_iff, decide_eq_false_iff_not, decide_eq_false_iff_not]
  omega
theorem word_any {L : Int} {xs : List Int} (hl : xs.length ≤ 20) : anyI (outI L) xs = false ↔ WordOK L xs := by
  rw [anyI_no]
  exact ⟨fun h => ⟨hl, fun i hi => outI_no.1 (h i hi)⟩, fun h i hi => outI_no.2 (h.el i hi)⟩

theorem clos117 (x L : Int) (H : Nat) (w : World) (hc : w.cell? ⟨H, 0, none⟩ = some (.int .i64 L)) :
    Calls Try.prog 117 #[.int .i64 x, .pointer (some ⟨H, 0, none⟩)] w fun e w' => e = .returned (.bool (outI L x)) ∧ w = w' := by
  by_cases h1 : x < 0
  · go_enter Try.func117, Try.ntmps117
    go_wp2
    go_ret
    exact ⟨by simp [outI, h1], rfl⟩
  · go_enter Try.func117, Try.ntmps117
    go_wp2
    go_ret
    exact ⟨by simp [outI]; omega, rfl⟩
theorem fn117 (L : Int) (H : Nat) (w : World) (hc : w.cell? ⟨H, 0, none⟩ = some (.int .i64 L)) : Hid (FnP 117 #[] #[.pointer (some ⟨H, 0, none⟩)] (outI L) w) :=
  hid ⟨run_enter Try.func117 (by kernel_rfl) rfl, fun x => clos117 x L H w hc⟩

set_option maxRecDepth 100000 in
theorem isWord_any (L : Int) (xs : List Int) (a : Option Addr) (cap : Nat) (W : World) (hI : IntsAt W a xs) (hl : xs.length ≤ maxLen) :
    Calls Try.prog 99 #[.slice a xs.length cap, .int .i64 L] W fun e w' => e = .returned (.int .i64 (wrdE L xs)) ∧ Below W.heap.size W w' := by
  have hb0 := below_alloc W (.cells #[.int .i64 L] 3)
  by_cases h20 : xs.length ≤ 20
  · have Hc := hid (containsFunc_any 117 #[] #[.pointer (some ⟨W.heap.size, 0, none⟩)] (outI L) xs a cap (W.alloc (.cells #[.int .i64 L] 3)) (hI.below hb0) hl (fn117 L W.heap.size (W.alloc (.cells #[.int .i64 L] 3)) (by simp)))
    have HA := hid (word_any (L := L) h20)
    clear hl
    cases hA : anyI (outI L) xs
    · have R := hid (wrdE_ok (HA.out.1 hA))
      rw [hA] at Hc
      clear hA HA
      go_enter Try.func99, Try.ntmps99
      go_wp2_with fail
      refine Hc.out.mono ?_; rintro e w' ⟨rfl, rfl⟩
      go_wp2_with fail
      go_ret
      exact ⟨by rw [R.out]; rfl, hb0⟩
    · have R := hid (wrdE_bad h20 fun h => by rw [HA.out.2 h] at hA; cases hA)
      rw [hA] at Hc
      clear hA HA
      go_enter Try.func99, Try.ntmps99
      go_wp2_with fail
      refine Hc.out.mono ?_; rintro e w' ⟨rfl, rfl⟩
      go_wp2_with fail
      go_ret
      exact ⟨by rw [R.out]; rfl, hb0⟩
  · have R := hid (wrdE_long (L := L) (show 20 < xs.length by omega))
    have d1 : decide ((20 : Int) < (xs.length : Int)) = true := decide_eq_true (by omega)
    have d2 : decide (20 < xs.length) = true := decide_eq_true (by omega)
    go_enter Try.func99, Try.ntmps99
    go_wp2_with fail
    go_ret
    exact ⟨by rw [R.out]; rfl, hb0⟩

set_option maxRecDepth 100000 in
theorem letters_any (L : Int) (hL : 1 ≤ L) (hL6 : L ≤ 6) (xs : List Int) (a : Option Addr) (cap : Nat) (W : World) (hI : IntsAt W a xs) (hl : xs.length ≤ maxLen) :
    Calls Try.prog 103 #[.slice a xs.length cap, .int .i64 L] W fun e w' => e = .returned (.int .i64 (wrdE L xs)) ∧ Below W.heap.size W w' := by
  by_cases h20 : xs.length ≤ 20
  · go_enter Try.func103, Try.ntmps103
    go_wp2_with fail
    go_loop [5] (fun v5 => ∃ k : Nat, k ≤ xs.length ∧ v5 = .int .i64 k ∧ Hid (∀ j, j < k → 0 ≤ nth xs j ∧ nth xs j < L)) (fun v5 => xs.length - (intOf v5).toNat)
    case atStart => exact ⟨0, by omega, rfl, hid fun j hj => by omega⟩
    case round =>
      obtain ⟨k, hk, rfl, HE⟩ := hrel
      by_cases hlt : k < xs.length
      · obtain ⟨b, off, rfl, hbl, c1⟩ := hI k hlt
        by_cases hin : 0 ≤ nth xs k ∧ nth xs k ≤ L - 1
        · have Hw := hid (fun w => within_yes (nth xs k) 0 (L - 1) w hin.1 hin.2)
          go_wp2_with fail
          refine (Hw.out _).mono ?_; rintro e w' ⟨rfl, rfl⟩
          go_wp2_with fail
          go_round
          case rel => exact ⟨k + 1, by omega, by go_num, hid fun i hi => by
            by_cases e : i = k
            · subst e; exact ⟨hin.1, by omega⟩
            · exact HE.out i (by omega)⟩
          case measure => simp [intOf]; omega
        · have Hw := hid (fun w => within_no (nth xs k) 0 (L - 1) w (by omega))
          have R := hid (wrdE_bad (L := L) h20 fun h => hin (by have := h.el k hlt; omega))
          clear hin
          go_wp2_with fail
          refine (Hw.out _).mono ?_; rintro e w' ⟨rfl, rfl⟩
          go_wp2_with fail
          go_ret
          exact ⟨by rw [R.out]; rfl, Below.refl _ _⟩
      · obtain rfl : k = xs.length := by omega
        have R := hid (wrdE_ok ⟨h20, HE.out⟩)
        go_wp2_with fail
        go_ret
        exact ⟨by rw [R.out]; rfl, Below.refl _ _⟩
  · have R := hid (wrdE_long (L := L) (show 20 < xs.length by omega))
    have d1 : decide ((20 : Int) < (xs.length : Int)) = true := decide_eq_true (by omega)
    have d2 : decide (20 < xs.length) = true := decide_eq_true (by omega)
    go_enter Try.func103, Try.ntmps103
    go_wp2_with fail
    go_ret
    exact ⟨by rw [R.out]; rfl, Below.refl _ _⟩

set_option maxRecDepth 100000 in
theorem worded_any (m : Mac) (a a2 : Option Addr) (cap cap2 : Nat) (xs : List Int) (ax : Option Addr) (cx : Nat) (W : World) (hM : MacAt W a cap a2 cap2 m) (hI : IntsAt W ax xs) (hl : xs.length ≤ maxLen) :
    Calls Try.prog 67 #[.agg #[.int .i64 m.L, .slice a m.nx.length cap, .slice a2 m.ac.length cap2], .slice ax xs.length cx] W fun e w' => e = .returned (.int .i64 (wodE m xs)) ∧ Below W.heap.size W w' := by
  have hb0 := below_alloc W (.cells #[.int .i64 m.L, .slice a m.nx.length cap, .slice a2 m.ac.length cap2] 25)
  have Hv := hid (Validate_any m a a2 cap cap2 (W.alloc (.cells #[.int .i64 m.L, .slice a m.nx.length cap, .slice a2 m.ac.length cap2] 25)) (hM.below hb0))
  have HI := hid (hI.below hb0)
  have Hl := hid hl
  have HB := hid hb0
  clear hl hI hM hb0
  by_cases hv : valE m = 0
  · have R := hid (wodE_ok hv xs)
    have HO := hid (valE_zero.1 hv)
    rw [hv] at Hv
    clear hv
    go_enter Try.func67, Try.ntmps67
    go_wp2_with fail
    refine Hv.out.mono ?_; rintro e w1 ⟨rfl, hb1⟩
    have hX := box_at (B := W.heap.size + 1) (by simpa using hb1) rfl
    have x0 := hX.c0
    have xl := hX.lt
    have Hi := hid (isWord_any m.L xs ax cx w1 (HI.out.below hb1) Hl.out)
    have HB1 := hid (HB.out.trans (hb1.mono HB.out.size))
    clear hX hb1
    go_wp2_with fail
    refine Hi.out.mono ?_; rintro e w2 ⟨rfl, hb2⟩
    have hz := HB1.out.trans (hb2.mono HB1.out.size)
    clear hb2
    go_wp2_with fail
    go_ret
    exact ⟨by rw [R.out]; rfl, hz⟩
  · have R := hid (wodE_bad hv xs)
    have d1 : (valE m == 0) = false := beq_eq_false_iff_ne.2 hv
    have d2 : (valE m != 0) = true := by rw [bne, d1]; rfl
    clear hv
    go_enter Try.func67, Try.ntmps67
    go_wp2_with fail
    refine Hv.out.mono ?_; rintro e w1 ⟨rfl, hb1⟩
    have hz := HB.out.trans (hb1.mono HB.out.size)
    clear hb1
    go_wp2_with fail
    go_ret
    exact ⟨by rw [R.out]; rfl, hz⟩

set_option maxRecDepth 100000 in
theorem both_any (m : Mac) (a a2 : Option Addr) (cap cap2 : Nat) (xs : List Int) (ax : Option Addr) (cx : Nat) (W : World) (hM : MacAt W a cap a2 cap2 m) (hI : IntsAt W ax xs) (hl : xs.length ≤ maxLen) :
    Calls Try.prog 69 #[.agg #[.int .i64 m.L, .slice a m.nx.length cap, .slice a2 m.ac.length cap2], .slice ax xs.length cx] W fun e w' => e = .returned (.int .i64 (wodE m xs)) ∧ Below W.heap.size W w' := by
  have hb0 := below_alloc W (.cells #[.int .i64 m.L, .slice a m.nx.length cap, .slice a2 m.ac.length cap2] 25)
  have Hv := hid (rValidate_any m a a2 cap cap2 (W.alloc (.cells #[.int .i64 m.L, .slice a m.nx.length cap, .slice a2 m.ac.length cap2] 25)) (hM.below hb0))
  have HI := hid (hI.below hb0)
  have Hl := hid hl
  have HB := hid hb0
  clear hl hI hM hb0
  by_cases hv : valE m = 0
  · have R := hid (wodE_ok hv xs)
    have HO := hid (valE_zero.1 hv)
    rw [hv] at Hv
    clear hv
    go_enter Try.func69, Try.ntmps69
    go_wp2_with fail
    refine Hv.out.mono ?_; rintro e w1 ⟨rfl, hb1⟩
    have hX := box_at (B := W.heap.size + 1) (by simpa using hb1) rfl
    have x0 := hX.c0
    have xl := hX.lt
    have Hi := hid (letters_any m.L HO.out.l1 HO.out.l6 xs ax cx w1 (HI.out.below hb1) Hl.out)
    have HB1 := hid (HB.out.trans (hb1.mono HB.out.size))
    clear hX hb1
    go_wp2_with fail
    refine Hi.out.mono ?_; rintro e w2 ⟨rfl, hb2⟩
    have hz := HB1.out.trans (hb2.mono HB1.out.size)
    clear hb2
    go_wp2_with fail
    go_ret
    exact ⟨by rw [R.out]; rfl, hz⟩
  · have R := hid (wodE_bad hv xs)
    have d1 : (valE m == 0) = false := beq_eq_false_iff_ne.2 hv
    have d2 : (valE m != 0) = true := by rw [bne, d1]; rfl
    clear hv
    go_enter Try.func69, Try.ntmps69
    go_wp2_with fail
    refine Hv.out.mono ?_; rintro e w1 ⟨rfl, hb1⟩
    have hz := HB.out.trans (hb1.mono HB.out.size)
    clear hb1
    go_wp2_with fail
    go_ret
    exact ⟨by rw [R.out]; rfl, hz⟩

set_option maxRecDepth 100000 in
theorem sized_any (m : Mac) (a a2 : Option Addr) (cap cap2 : Nat) (n : Int) (W : World) (hM : MacAt W a cap a2 cap2 m) :
    Calls Try.prog 76 #[.agg #[.int .i64 m.L, .slice a m.nx.length cap, .slice a2 m.ac.length cap2], .int .i64 n] W fun e w' => e = .returned (.int .i64 (sizE m n)) ∧ Below W.heap.size W w' := by
  have hb0 := below_alloc W (.cells #[.int .i64 m.L, .slice a m.nx.length cap, .slice a2 m.ac.length cap2] 25)
  have Hv := hid (Validate_any m a a2 cap cap2 (W.alloc (.cells #[.int .i64 m.L, .slice a m.nx.length cap, .slice a2 m.ac.length cap2] 25)) (hM.below hb0))
  have HB := hid hb0
  clear hM hb0
  by_cases hv : valE m = 0
  · rw [hv] at Hv
    by_cases h0 : n < 0
    · have R := hid (sizE_out hv (.inl h0))
      clear hv
      go_enter Try.func76, Try.ntmps76
      go_wp2_with fail
      refine Hv.out.mono ?_; rintro e w1 ⟨rfl, hb1⟩
      have hz := HB.out.trans (hb1.mono HB.out.size)
      clear hb1
      go_wp2_with fail
      go_ret
      exact ⟨by rw [R.out]; rfl, hz⟩
    by_cases h1 : 20 < n
    · have R := hid (sizE_out hv (.inr h1))
      clear hv
      go_enter Try.func76, Try.ntmps76
      go_wp2_with fail
      refine Hv.out.mono ?_; rintro e w1 ⟨rfl, hb1⟩
      have hz := HB.out.trans (hb1.mono HB.out.size)
      clear hb1
      go_wp2_with fail
      go_ret
      exact ⟨by rw [R.out]; rfl, hz⟩
    have R := hid (sizE_ok hv (show 0 ≤ n by omega) (show n ≤ 20 by omega))
    clear hv
    go_enter Try.func76, Try.ntmps76
    go_wp2_with fail
    refine Hv.out.mono ?_; rintro e w1 ⟨rfl, hb1⟩
    have hz := HB.out.trans (hb1.mono HB.out.size)
    clear hb1
    go_wp2_with fail
    go_ret
    exact ⟨by rw [R.out]; rfl, hz⟩
  · have R := hid (sizE_bad hv n)
    have d1 : (valE m == 0) = false := beq_eq_false_iff_ne.2 hv
    have d2 : (valE m != 0) = true := by rw [bne, d1]; rfl
    clear hv
    go_enter Try.func76, Try.ntmps76
    go_wp2_with fail
    refine Hv.out.mono ?_; rintro e w1 ⟨rfl, hb1⟩
    have hz := HB.out.trans (hb1.mono HB.out.size)
    clear hb1
    go_wp2_with fail
    go_ret
    exact ⟨by rw [R.out]; rfl, hz⟩

set_option maxRecDepth 100000 in
theorem rsized_any (m : Mac) (a a2 : Option Addr) (cap cap2 : Nat) (n : Int) (W : World) (hM : MacAt W a cap a2 cap2 m) :
    Calls Try.prog 77 #[.agg #[.int .i64 m.L, .slice a m.nx.length cap, .slice a2 m.ac.length cap2], .int .i64 n] W fun e w' => e = .returned (.int .i64 (sizE m n)) ∧ Below W.heap.size W w' := by
  have hb0 := below_alloc W (.cells #[.int .i64 m.L, .slice a m.nx.length cap, .slice a2 m.ac.length cap2] 25)
  have Hv := hid (rValidate_any m a a2 cap cap2 (W.alloc (.cells #[.int .i64 m.L, .slice a m.nx.length cap, .slice a2 m.ac.length cap2] 25)) (hM.below hb0))
  have HB := hid hb0
  clear hM hb0
  by_cases hv : valE m = 0
  · rw [hv] at Hv
    by_cases h0 : 0 ≤ n ∧ n ≤ 20
    · have R := hid (sizE_ok hv h0.1 h0.2)
      have Hw := hid (fun w => within_yes n 0 20 w h0.1 h0.2)
      clear hv
      go_enter Try.func77, Try.ntmps77
      go_wp2_with fail
      refine Hv.out.mono ?_; rintro e w1 ⟨rfl, hb1⟩
      have hz := HB.out.trans (hb1.mono HB.out.size)
      clear hb1
      go_wp2_with fail
      refine (Hw.out _).mono ?_; rintro e w2 ⟨rfl, rfl⟩
      go_wp2_with fail
      go_ret
      exact ⟨by rw [R.out]; rfl, hz⟩
    · have R := hid (sizE_out hv (show n < 0 ∨ 20 < n by omega))
      have Hw := hid (fun w => within_no n 0 20 w (by omega))
      clear hv h0
      go_enter Try.func77, Try.ntmps77
      go_wp2_with fail
      refine Hv.out.mono ?_; rintro e w1 ⟨rfl, hb1⟩
      have hz := HB.out.trans (hb1.mono HB.out.size)
      clear hb1
      go_wp2_with fail
      refine (Hw.out _).mono ?_; rintro e w2 ⟨rfl, rfl⟩
      go_wp2_with fail
      go_ret
      exact ⟨by rw [R.out]; rfl, hz⟩
  · have R := hid (sizE_bad hv n)
    have d1 : (valE m == 0) = false := beq_eq_false_iff_ne.2 hv
    have d2 : (valE m != 0) = true := by rw [bne, d1]; rfl
    clear hv
    go_enter Try.func77, Try.ntmps77
    go_wp2_with fail
    refine Hv.out.mono ?_; rintro e w1 ⟨rfl, hb1⟩
    have hz := HB.out.trans (hb1.mono HB.out.size)
    clear hb1
    go_wp2_with fail
    go_ret
    exact ⟨by rw [R.out]; rfl, hz⟩
end Go.Proofs.Ytmllbemjcfkmjaa
