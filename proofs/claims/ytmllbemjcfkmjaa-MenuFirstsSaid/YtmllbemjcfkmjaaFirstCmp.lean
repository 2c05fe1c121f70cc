/- Which of two words of one length comes first: what the document's 'less' and the library's 'Compare' return. -/
import Derived.Test.YtmllbemjcfkmjaaFirstLaw
import Derived.BigQuiet
namespace Go.Proofs.Ytmllbemjcfkmjaa
open Go.RowKit Go.Maps
set_option linter.unusedSimpArgs false
set_option linter.unusedVariables false

set_option maxRecDepth 100000 in
theorem less_any (xs ys : List Int) (a a2 : Option Addr) (cap cap2 : Nat) (W : World) (h1 : IntsAt W a xs) (h2 : IntsAt W a2 ys) (hl : xs.length = ys.length) (hm : xs.length ≤ maxLen) :
    Calls Try.prog 104 #[.slice a xs.length cap, .slice a2 ys.length cap2] W fun e w' => e = .returned (.bool (ltW xs ys)) ∧ Below W.heap.size W w' := by
  unfold maxLen at hm
  have Hl := hid hl
  clear hl
  go_enter Try.func104, Try.ntmps104
  go_wp2_with fail
  go_loopw [5] (fun v5 w' => ∃ k : Nat, k ≤ xs.length ∧ v5 = .int .i64 k ∧ Hid (∀ j, j < k → nth xs j = nth ys j) ∧ Below W.heap.size W w') (fun v5 _ => xs.length - (intOf v5).toNat)
  case atStart => exact ⟨0, by omega, rfl, hid fun j hj => by omega, Below.refl _ _⟩
  case round =>
    obtain ⟨k, hk, rfl, HE, hb⟩ := hrel
    by_cases hlt : k < xs.length
    · obtain ⟨b, off, rfl, hbl, c1⟩ := (h1.below hb) k hlt
      have hlt2 : k < ys.length := by rw [← Hl.out]; exact hlt
      obtain ⟨b', off', rfl, hbl', c2⟩ := (h2.below hb) k hlt2
      have i0 : (0 : Int) ≤ (k : Int) := by omega
      have i1 : (k : Int) < (xs.length : Int) := by omega
      have i2 : (k : Int) < (ys.length : Int) := by omega
      by_cases he : nth xs k = nth ys k
      · have e1 : (nth xs k == nth ys k) = true := beq_iff_eq.2 he
        have e2 : (nth xs k != nth ys k) = false := by rw [bne, e1]; rfl
        have He := hid he
        clear he
        go_wp2_with fail
        go_quiet (fail)
        go_wp2_with fail
        go_roundw
        case rel => exact ⟨k + 1, by omega, by go_num, hid fun i hi => by
          by_cases e : i = k
          · subst e; exact He.out
          · exact HE.out i (by omega), below_quiet hb⟩
        case measure => simp [intOf]; omega
      · have e1 : (nth xs k == nth ys k) = false := beq_eq_false_iff_ne.2 he
        have e2 : (nth xs k != nth ys k) = true := by rw [bne, e1]; rfl
        have R := hid (ltW_at k Hl.out hlt HE.out he)
        clear he
        go_wp2_with fail
        go_quiet (fail)
        go_wp2_with fail
        go_quiet (fail)
        go_wp2_with fail
        go_ret
        exact ⟨by rw [R.out]; rfl, below_quiet (below_quiet hb)⟩
    · obtain rfl : k = xs.length := by omega
      have R : Hid (ltW xs ys = false) := hid (ltW_same (nth_ext Hl.out HE.out))
      go_wp2_with fail
      go_ret
      exact ⟨by rw [R.out]; rfl, hb⟩

theorem nan_any (x : Int) (w : World) : Calls Try.prog 121 #[.int .i64 x] w fun e w' => e = .returned (.bool false) ∧ w = w' := by
  have e1 : (x != x) = false := by simp
  go_enter Try.func121, Try.ntmps121
  go_wp2_with fail
  go_ret
  exact ⟨rfl, rfl⟩
def cmpI (x y : Int) : Int := if x < y then -1 else if y < x then 1 else 0
theorem cmp_any (x y : Int) (w : World) : Calls Try.prog 119 #[.int .i64 x, .int .i64 y] w fun e w' => e = .returned (.int .i64 (cmpI x y)) ∧ w = w' := by
  have H1 := hid (fun w => nan_any x w)
  have H2 := hid (fun w => nan_any y w)
  by_cases h1 : x < y
  · have R : Hid (cmpI x y = -1) := hid (by unfold cmpI; rw [if_pos h1])
    go_enter Try.func119, Try.ntmps119
    go_wp2_with fail
    refine (H1.out _).mono ?_; rintro e w' ⟨rfl, rfl⟩
    go_wp2_with fail
    refine (H2.out _).mono ?_; rintro e w' ⟨rfl, rfl⟩
    go_wp2_with fail
    go_ret
    exact ⟨by rw [R.out]; rfl, rfl⟩
  · by_cases h2 : y < x
    · have R : Hid (cmpI x y = 1) := hid (by unfold cmpI; rw [if_neg h1, if_pos h2])
      go_enter Try.func119, Try.ntmps119
      go_wp2_with fail
      refine (H1.out _).mono ?_; rintro e w' ⟨rfl, rfl⟩
      go_wp2_with fail
      refine (H2.out _).mono ?_; rintro e w' ⟨rfl, rfl⟩
      go_wp2_with fail
      go_ret
      exact ⟨by rw [R.out]; rfl, rfl⟩
    · have R : Hid (cmpI x y = 0) := hid (by unfold cmpI; rw [if_neg h1, if_neg h2])
      go_enter Try.func119, Try.ntmps119
      go_wp2_with fail
      refine (H1.out _).mono ?_; rintro e w' ⟨rfl, rfl⟩
      go_wp2_with fail
      refine (H2.out _).mono ?_; rintro e w' ⟨rfl, rfl⟩
      go_wp2_with fail
      go_ret
      exact ⟨by rw [R.out]; rfl, rfl⟩
theorem cmpI_lt (x y : Int) : (decide (cmpI x y < 0)) = decide (x < y) := by
  unfold cmpI
  split
  · rename_i h; simp [h]
  · rename_i h
    split
    · simp [h]
    · simp [h]
set_option maxRecDepth 100000 in
theorem compare_any (xs ys : List Int) (a a2 : Option Addr) (cap cap2 : Nat) (W : World) (h1 : IntsAt W a xs) (h2 : IntsAt W a2 ys) (hl : xs.length = ys.length) (hm : xs.length ≤ maxLen) :
    Calls Try.prog 102 #[.slice a xs.length cap, .slice a2 ys.length cap2] W fun e w' => ∃ c : Int, e = .returned (.int .i64 c) ∧ decide (c < 0) = ltW xs ys ∧ Below W.heap.size W w' := by
  unfold maxLen at hm
  have Hl := hid hl
  clear hl
  go_enter Try.func102, Try.ntmps102
  go_wp2_with fail
  go_loopw [11] (fun v11 w' => ∃ k : Nat, k ≤ xs.length ∧ v11 = .int .i64 k ∧ Hid (∀ j, j < k → nth xs j = nth ys j) ∧ Below W.heap.size W w') (fun v11 _ => xs.length - (intOf v11).toNat)
  case atStart => exact ⟨0, by omega, rfl, hid fun j hj => by omega, Below.refl _ _⟩
  case round =>
    obtain ⟨k, hk, rfl, HE, hb⟩ := hrel
    by_cases hlt : k < xs.length
    · obtain ⟨b, off, rfl, hbl, c1⟩ := (h1.below hb) k hlt
      have hlt2 : k < ys.length := by rw [← Hl.out]; exact hlt
      obtain ⟨b', off', rfl, hbl', c2⟩ := (h2.below hb) k hlt2
      have i0 : (0 : Int) ≤ (k : Int) := by omega
      have i1 : (k : Int) < (xs.length : Int) := by omega
      have i2 : (k : Int) < (ys.length : Int) := by omega
      have i3 : ¬ (ys.length : Int) ≤ (k : Int) := by omega
      have HC := hid (fun w => cmp_any (nth xs k) (nth ys k) w)
      by_cases he : nth xs k = nth ys k
      · have e0 : cmpI (nth xs k) (nth ys k) = 0 := by unfold cmpI; rw [he, if_neg (by omega), if_neg (by omega)]
        rw [e0] at HC
        have He := hid he
        clear he e0
        go_wp2_with fail
        refine (HC.out _).mono ?_; rintro e w' ⟨rfl, rfl⟩
        go_wp2_with fail
        go_roundw
        case rel => exact ⟨k + 1, by omega, by go_num, hid fun i hi => by
          by_cases e : i = k
          · subst e; exact He.out
          · exact HE.out i (by omega), hb⟩
        case measure => simp [intOf]; omega
      · have e0 : cmpI (nth xs k) (nth ys k) ≠ 0 := by unfold cmpI; split
                                                       · omega
                                                       · split
                                                         · omega
                                                         · omega
        have R := hid (cmpI_lt (nth xs k) (nth ys k))
        have R2 := hid (ltW_at k Hl.out hlt HE.out he)
        clear he
        generalize hcv : cmpI (nth xs k) (nth ys k) = cv at *
        clear hcv
        have e1 : (cv == 0) = false := beq_eq_false_iff_ne.2 e0
        have e2 : (cv != 0) = true := by rw [bne, e1]; rfl
        clear e0
        go_wp2_with fail
        refine (HC.out _).mono ?_; rintro e w' ⟨rfl, rfl⟩
        go_wp2_with fail
        go_ret
        exact ⟨cv, rfl, by rw [R.out, R2.out], hb⟩
    · obtain rfl : k = xs.length := by omega
      have R : Hid (ltW xs ys = false) := hid (ltW_same (nth_ext Hl.out HE.out))
      have i3 : ¬ (xs.length : Int) < (ys.length : Int) := by have := Hl.out; omega
      go_wp2_with fail
      go_ret
      exact ⟨0, rfl, by rw [R.out]; rfl, hb⟩
end Go.Proofs.Ytmllbemjcfkmjaa
