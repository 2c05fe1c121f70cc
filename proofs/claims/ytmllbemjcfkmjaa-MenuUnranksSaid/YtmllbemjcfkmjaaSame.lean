/- 'SameInts': what it returns, for any two lists. -/
import Derived.Test.YtmllbemjcfkmjaaVal
namespace Go.Proofs.Ytmllbemjcfkmjaa
open Go.RowKit
set_option linter.unusedSimpArgs false
set_option linter.unusedVariables false

theorem ints_ext {xs ys : List Int} (hl : xs.length = ys.length) (h : ∀ i, i < xs.length → nth xs i = nth ys i) : xs = ys := by
  refine List.ext_getElem hl fun i h1 h2 => ?_
  have := h i h1
  simpa [nth, List.getD, h1, h2] using this
set_option maxRecDepth 100000 in
set_option maxHeartbeats 1000000 in
theorem SameInts_gen (xs ys : List Int) (a a2 : Option Addr) (cap cap2 : Nat) (W : World) (h1 : IntsAt W a xs) (h2 : IntsAt W a2 ys) (hm : xs.length ≤ maxLen) :
    Calls Try.prog 32 #[.slice a xs.length cap, .slice a2 ys.length cap2] W fun e w' => e = .returned (.bool (decide (xs = ys))) ∧ Below W.heap.size W w' := by
  unfold maxLen at hm
  by_cases hl : xs.length = ys.length
  · have Hl := hid hl
    have d1 : ((xs.length : Int) == (ys.length : Int)) = true := beq_iff_eq.2 (by omega)
    have d2 : (xs.length == ys.length) = true := beq_iff_eq.2 hl
    clear hl
    go_enter Try.func32, Try.ntmps32
    go_wp2_with fail
    clear d1 d2
    go_loopw [5] (fun v5 w' => ∃ k : Nat, k ≤ xs.length ∧ v5 = .int .i64 k ∧ Hid (∀ j, j < k → nth xs j = nth ys j) ∧ Below W.heap.size W w') (fun v5 _ => xs.length - (intOf v5).toNat)
    case atStart => exact ⟨0, by omega, rfl, hid fun j hj => by omega, Below.refl _ _⟩
    case round =>
      obtain ⟨k, hk, rfl, HE, hb⟩ := hrel
      by_cases hlt : k < xs.length
      · obtain ⟨b, off, rfl, hbl, c1⟩ := (h1.below hb) k hlt
        have hlt2 : k < ys.length := by rw [← Hl.out]; exact hlt
        obtain ⟨b', off', rfl, hbl', c2⟩ := (h2.below hb) k hlt2
        have i0 : (0 : Int) ≤ (k : Int) := by omega
        have i1 : (k : Int) < (xs.length : Int) := by omega
        have i2 : (k : Int) < (ys.length : Int) := by omega
        by_cases he : nth xs k = nth ys k
        · have e1 : (nth xs k == nth ys k) = true := beq_iff_eq.2 he
          have e2 : (nth xs k != nth ys k) = false := by rw [bne, e1]; rfl
          have He := hid he
          clear he
          go_wp2_with fail
          go_quiet (fail)
          go_wp2_with fail
          go_roundw
          case rel => exact ⟨k + 1, by omega, by go_num, hid fun i hi => by
            by_cases e : i = k
            · subst e; exact He.out
            · exact HE.out i (by omega), below_quiet hb⟩
          case measure => simp [intOf]; omega
        · have e1 : (nth xs k == nth ys k) = false := beq_eq_false_iff_ne.2 he
          have e2 : (nth xs k != nth ys k) = true := by rw [bne, e1]; rfl
          have R : Hid (decide (xs = ys) = false) := hid (decide_eq_false fun h => he (by rw [h]))
          clear he
          go_wp2_with fail
          go_quiet (fail)
          go_wp2_with fail
          go_ret
          exact ⟨by rw [R.out]; rfl, below_quiet hb⟩
      · obtain rfl : k = xs.length := by omega
        have R : Hid (decide (xs = ys) = true) := hid (decide_eq_true (ints_ext Hl.out HE.out))
        go_wp2_with fail
        go_ret
        exact ⟨by rw [R.out]; rfl, hb⟩
  · have d1 : ((xs.length : Int) == (ys.length : Int)) = false := beq_eq_false_iff_ne.2 (by omega)
    have d2 : (xs.length == ys.length) = false := beq_eq_false_iff_ne.2 hl
    have R : Hid (decide (xs = ys) = false) := hid (decide_eq_false fun h => hl (by rw [h]))
    clear hl
    go_enter Try.func32, Try.ntmps32
    go_wp2_with fail
    go_ret
    exact ⟨by rw [R.out]; rfl, Below.refl _ _⟩
theorem SameInts_any (xs : List Int) (a a2 : Option Addr) (cap cap2 : Nat) (W : World) (h1 : IntsAt W a xs) (h2 : IntsAt W a2 xs) (hm : xs.length ≤ maxLen) :
    Calls Try.prog 32 #[.slice a xs.length cap, .slice a2 xs.length cap2] W fun e w' => e = .returned (.bool true) ∧ Below W.heap.size W w' :=
  (SameInts_gen xs xs a a2 cap cap2 W h1 h2 hm).mono fun e w' ⟨h, hb⟩ => ⟨by rw [h, decide_eq_true rfl], hb⟩
end Go.Proofs.Ytmllbemjcfkmjaa
