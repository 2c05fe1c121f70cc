/- 'within', 'guess.Bound', 'canteenref06.Bound': what they return. -/
import Derived.Test.YtedgndangamkaaaProg
import Derived.WalkKit
import Derived.WalkLawsBesides
import Derived.Handy
namespace Go.Proofs.Ytedgndangamkaaa
open Go.RowKit

theorem within_any (n lo hi : Int) (w : World) :
    Calls Try.prog 53 #[.int .i64 n, .int .i64 lo, .int .i64 hi] w fun e w' => e = .returned (.bool (decide (lo ≤ n) && decide (n ≤ hi))) ∧ w = w' := by
  by_cases h1 : lo ≤ n <;> by_cases h2 : n ≤ hi
  all_goals
    go_enter Try.func53, Try.ntmps53
    go_wp2
    go_ret
    exact ⟨by simp [h1, h2], rfl⟩

theorem within_yes (n lo hi : Int) (w : World) (h1 : lo ≤ n) (h2 : n ≤ hi) :
    Calls Try.prog 53 #[.int .i64 n, .int .i64 lo, .int .i64 hi] w fun e w' => e = .returned (.bool true) ∧ w = w' :=
  (within_any n lo hi w).mono fun _ _ ⟨he, hw⟩ => ⟨by rw [he]; simp [h1, h2], hw⟩

theorem within_no (n lo hi : Int) (w : World) (h : n < lo ∨ hi < n) :
    Calls Try.prog 53 #[.int .i64 n, .int .i64 lo, .int .i64 hi] w fun e w' => e = .returned (.bool false) ∧ w = w' :=
  (within_any n lo hi w).mono fun _ _ ⟨he, hw⟩ => ⟨by rw [he]; simp; omega, hw⟩

/-! ### plain -/
/-- 4^m is at most a * 2^q * 3^m. -/
def bq (a q m : Nat) : Bool := decide (2 * m ≤ q) || decide (2 ^ (2 * m - q) ≤ a * 3 ^ m)
def gb (a q : Nat) : Nat → Nat → Nat
  | 0, m => m
  | f + 1, m => if m < 24 ∧ bq a q (m + 1) = true then gb a q f (m + 1) else m
def gbound (a q : Nat) : Nat := gb a q 24 0
def rb (a q : Nat) : Nat → Nat
  | 0 => 0
  | m + 1 => if bq a q m = true then m else rb a q m
theorem rb_gb : ∀ a, a < 9 → ∀ q, q < 25 → rb a q 25 = gbound a q ∨ a = 0 := by decide +kernel
theorem gb_step (a q f m : Nat) (h1 : m < 24) (h2 : bq a q (m + 1) = true) : gb a q (f + 1) m = gb a q f (m + 1) := by
  rw [gb, if_pos ⟨h1, h2⟩]
theorem gb_stop (a q f m : Nat) (h : 24 ≤ m ∨ bq a q (m + 1) = false) : gb a q f m = m := by
  cases f with
  | zero => rfl
  | succ f => rw [gb, if_neg]; rintro ⟨h1, h2⟩; rcases h with h | h
              · omega
              · rw [h] at h2; cases h2

/-- 3^m * a as an Int: what the loops keep. -/
def th (a m : Nat) : Int := ((a * 3 ^ m : Nat) : Int)
theorem th_zero (a : Nat) : th a 0 = a := by simp [th]
theorem th_succ (a m : Nat) : th a m * 3 = th a (m + 1) := by simp only [th]; push_cast; rw [Int.pow_succ]; exact Int.mul_assoc _ _ _
theorem th_bd (a m : Nat) (ha : a ≤ 8) (hm : m ≤ 25) : 0 ≤ th a m ∧ th a m ≤ 6778308875544 := by
  have h : 3 ^ m ≤ 3 ^ 25 := Nat.pow_le_pow_right (by omega) hm
  have h2 : a * 3 ^ m ≤ 8 * 3 ^ 25 := Nat.mul_le_mul ha h
  have h3 : 8 * 3 ^ 25 = 6778308875544 := by decide
  simp only [th]; omega
theorem two_wrap (q m : Nat) (hm : m ≤ 24) : wrap64 (2 ^ (2 * m - q)) = ((2 ^ (2 * m - q) : Nat) : Int) := by
  have h : 2 ^ (2 * m - q) ≤ 2 ^ 48 := Nat.pow_le_pow_right (by omega) (by omega)
  have h3 : 2 ^ 48 = 281474976710656 := by decide
  have e : (2 : Int) ^ (2 * m - q) = ((2 ^ (2 * m - q) : Nat) : Int) := by simp
  rw [e]
  generalize 2 ^ (2 * m - q) = n at *
  unfold wrap64; omega
theorem bq_yes (a q m : Nat) (hm : m ≤ 24) (h : 2 * (m : Int) ≤ q ∨ wrap64 (2 ^ (2 * m - q)) ≤ th a m) : bq a q m = true := by
  rw [two_wrap q m hm] at h
  simp only [bq, th, Bool.or_eq_true, decide_eq_true_eq] at h ⊢
  generalize 2 ^ (2 * m - q) = n at *
  rcases h with h | h <;> omega
theorem bq_no (a q m : Nat) (hm : m ≤ 24) (h : (q : Int) < 2 * (m : Int) ∧ th a m < wrap64 (2 ^ (2 * m - q))) : bq a q m = false := by
  rw [two_wrap q m hm] at h
  simp only [bq, th, Bool.or_eq_false_iff, decide_eq_false_iff_not] at h ⊢
  generalize 2 ^ (2 * m - q) = n at *
  omega

theorem bq_no' (a q m : Nat) (ha : 1 ≤ a) (hm : m ≤ 24) (hq : q ≤ 2 * m) (h : th a m < wrap64 (2 ^ (2 * m - q))) : bq a q m = false := by
  by_cases e : q < 2 * m
  · exact bq_no a q m hm ⟨by omega, h⟩
  · obtain rfl : q = 2 * m := by omega
    rw [two_wrap _ m hm] at h
    simp only [Nat.sub_self, Nat.pow_zero, th] at h
    have : 0 < 3 ^ m := Nat.pow_pos (by omega)
    have := Nat.mul_le_mul ha this
    omega

/-! ### the walks -/
theorem bound_in (a q : Nat) (w : World) (h1 : 1 ≤ a) (h2 : a ≤ 8) (h4 : q ≤ 24) :
    Calls Try.prog 17 #[.int .i64 a, .int .i64 q] w fun e w' => e = .returned (.tuple #[.int .i64 (gbound a q), .int .i64 0]) ∧ w = w' := by
  go_enter Try.func17, Try.ntmps17
  go_wp2_with (go_at_call 53; refine (within_yes _ _ _ _ (by omega) (by omega)).mono ?_; rintro e w' ⟨rfl, rfl⟩)
  go_loop [6, 7] (fun v6 v7 => ∃ m : Nat, m ≤ 24 ∧ v6 = .int .i64 m ∧ v7 = .int .i64 (th a (m+1)) ∧ gb a q (24 - m) m = gbound a q) (fun v6 _ => 24 - (intOf v6).toNat)
  case atStart => exact ⟨0, by omega, rfl, by simp [th]; omega, rfl⟩
  case round =>
    obtain ⟨m, hm, rfl, rfl, hg⟩ := hrel
    have hb := th_bd a (m + 1) h2 (by omega)
    have Hg : Hid (gb a q (24 - m) m = gbound a q) := hg
    clear hg
    go_wp2
    · have hlt : (m : Int) < 24 := by assumption
      have ht : 2 * ((m : Int) + 1) ≤ q ∨ wrap64 (2 ^ (2 * (m + 1) - q)) ≤ th a (m + 1) := by assumption
      have hq := bq_yes a q (m + 1) (by omega) (by simpa using ht)
      go_round
      case rel => exact ⟨m + 1, by omega, by go_num, by rw [th_succ], by rw [← Hg.out, show 24 - m = (24 - (m + 1)) + 1 from by omega, gb_step a q _ m (by omega) hq]⟩
      case measure => simp [intOf]; omega
    · have ht : (q : Int) < 2 * ((m : Int) + 1) ∧ th a (m + 1) < wrap64 (2 ^ (2 * (m + 1) - q)) := by assumption
      have hq := bq_no a q (m + 1) (by omega) (by simpa using ht)
      have e : gbound a q = m := by rw [← Hg.out, gb_stop a q _ m (.inr hq)]
      go_ret2
      rw [e]
      exact ⟨rfl, rfl⟩
    · have hlt : (m : Int) < 24 := by assumption
      have ht : ¬ (q : Int) < 2 * ((m : Int) + 1) := by assumption
      have hq := bq_yes a q (m + 1) (by omega) (.inl (by omega))
      go_round
      case rel => exact ⟨m + 1, by omega, by go_num, by rw [th_succ], by rw [← Hg.out, show 24 - m = (24 - (m + 1)) + 1 from by omega, gb_step a q _ m (by omega) hq]⟩
      case measure => simp [intOf]; omega
    · have hge : 24 ≤ (m : Int) := by assumption
      have e : gbound a q = m := by rw [← Hg.out, gb_stop a q _ m (.inl (by omega))]
      go_ret2
      rw [e]
      exact ⟨rfl, rfl⟩
theorem bound_out (a q : Int) (w : World) (h : a < 1 ∨ 8 < a ∨ q < 0 ∨ 24 < q) :
    Calls Try.prog 17 #[.int .i64 a, .int .i64 q] w fun e w' => e = .returned (.tuple #[.int .i64 0, .int .i64 1]) ∧ w = w' := by
  by_cases h1 : 1 ≤ a ∧ a ≤ 8
  · go_enter Try.func17, Try.ntmps17
    go_wp2_with (go_at_call 53; (first | ((with_reducible refine (within_yes a 1 8 _ (by omega) (by omega)).mono ?_)) | ((with_reducible refine (within_no q 0 24 _ (by omega)).mono ?_))); rintro e w' ⟨rfl, rfl⟩)
    go_ret2
    exact ⟨rfl, rfl⟩
  · go_enter Try.func17, Try.ntmps17
    go_wp2_with (go_at_call 53; refine (within_no _ _ _ _ (by omega)).mono ?_; rintro e w' ⟨rfl, rfl⟩)
    go_ret2
    exact ⟨rfl, rfl⟩

theorem rb_step (a q m : Nat) (h : bq a q m = true) : rb a q (m + 1) = m := by rw [rb, if_pos h]
theorem rb_skip (a q m : Nat) (h : bq a q m = false) : rb a q (m + 1) = rb a q m := by rw [rb, if_neg (by rw [h]; simp)]

set_option maxHeartbeats 400000 in
theorem rbound_in (a q : Nat) (w : World) (h1 : 1 ≤ a) (h2 : a ≤ 8) (h4 : q ≤ 24) :
    Calls Try.prog 18 #[.int .i64 a, .int .i64 q] w fun e w' => e = .returned (.tuple #[.int .i64 (gbound a q), .int .i64 0]) ∧ w = w' := by
  have hfin : rb a q 25 = gbound a q := by rcases rb_gb a (by omega) q (by omega) with h | h <;> omega
  have Hfin : Hid (rb a q 25 = gbound a q) := hfin
  clear hfin
  go_enter Try.func18, Try.ntmps18
  go_wp2
  go_loop [6, 7] (fun v6 v7 => ∃ m : Nat, m ≤ 25 ∧ v6 = .int .i64 (rb a q m) ∧ v7 = .int .i64 m) (fun _ v7 => 25 - (intOf v7).toNat)
  case atStart => exact ⟨0, by omega, rfl, rfl⟩
  case round =>
    obtain ⟨m, hm, rfl, rfl⟩ := hrel
    by_cases hlt : m ≤ 24
    · by_cases hq : 2 * m < q
      · go_wp2
        go_loop [10, 11] (fun v10 v11 => ∃ i : Nat, i ≤ m ∧ v10 = .int .i64 (th a i) ∧ v11 = .int .i64 i) (fun _ v11 => m - (intOf v11).toNat)
        case atStart => exact ⟨0, by omega, by rw [th_zero], rfl⟩
        case round =>
          obtain ⟨i, hi, rfl, rfl⟩ := hrel
          have hb := th_bd a i h2 (by omega)
          by_cases hl : i < m
          · go_wp2
            go_round
            case rel => exact ⟨i + 1, by omega, by rw [th_succ], by go_num⟩
            case measure => simp [intOf]; omega
          · go_wp2
            go_round
            case rel => exact ⟨m + 1, by omega, by rw [rb_step a q m (by simp [bq]; omega)], by go_num⟩
            case measure => simp [intOf]; omega
      · go_wp2
        go_loop [10, 11] (fun v10 v11 => ∃ i : Nat, i ≤ m ∧ v10 = .int .i64 (th a i) ∧ v11 = .int .i64 i) (fun _ v11 => m - (intOf v11).toNat)
        case atStart => exact ⟨0, by omega, by rw [th_zero], rfl⟩
        case round =>
          obtain ⟨i, hi, rfl, rfl⟩ := hrel
          have hb := th_bd a i h2 (by omega)
          by_cases hl : i < m
          · go_wp2
            go_round
            case rel => exact ⟨i + 1, by omega, by rw [th_succ], by go_num⟩
            case measure => simp [intOf]; omega
          · obtain rfl : i = m := by omega
            go_wp2
            · have ht : wrap64 (2 ^ (2 * i - q)) ≤ th a i := by assumption
              have hb := bq_yes a q i hlt (.inr ht)
              go_round
              case rel => exact ⟨i + 1, by omega, by rw [rb_step a q i hb], by go_num⟩
              case measure => simp [intOf]; omega
            · have ht : th a i < wrap64 (2 ^ (2 * i - q)) := by assumption
              have hb := bq_no' a q i h1 hlt (by omega) ht
              go_round
              case rel => exact ⟨i + 1, by omega, by rw [rb_skip a q i hb], by go_num⟩
              case measure => simp [intOf]; omega
    · obtain rfl : m = 25 := by omega
      go_wp2
      go_ret2
      rw [Hfin.out]
      exact ⟨rfl, rfl⟩
theorem rbound_out (a q : Int) (w : World) (h : a < 1 ∨ 8 < a ∨ q < 0 ∨ 24 < q) :
    Calls Try.prog 18 #[.int .i64 a, .int .i64 q] w fun e w' => e = .returned (.tuple #[.int .i64 0, .int .i64 1]) ∧ w = w' := by
  by_cases h1 : a < 1 <;> by_cases h2 : 8 < a <;> by_cases h3 : q < 0
  all_goals
    go_enter Try.func18, Try.ntmps18
    go_wp2
    go_ret2
    exact ⟨rfl, rfl⟩

/-! ### both, for every input -/
def BoundOK (x q : Int) : Prop := 1 ≤ x ∧ x ≤ 8 ∧ 0 ≤ q ∧ q ≤ 24
instance (x q : Int) : Decidable (BoundOK x q) := by unfold BoundOK; infer_instance
def boundR (x q : Int) : Int := if BoundOK x q then gbound x.toNat q.toNat else 0
def boundE (x q : Int) : Int := if BoundOK x q then 0 else 1
theorem bound_any (x q : Int) (w : World) :
    Calls Try.prog 17 #[.int .i64 x, .int .i64 q] w fun e w' => e = .returned (.tuple #[.int .i64 (boundR x q), .int .i64 (boundE x q)]) ∧ w = w' := by
  by_cases h : BoundOK x q
  · have h' := h
    obtain ⟨h1, h2, h3, h4⟩ := h'
    obtain ⟨a, rfl⟩ := Int.eq_ofNat_of_zero_le (show 0 ≤ x by omega)
    obtain ⟨b, rfl⟩ := Int.eq_ofNat_of_zero_le h3
    have k := bound_in a b w (by omega) (by omega) (by omega)
    rw [boundR, boundE, if_pos h, if_pos h]
    exact k
  · rw [boundR, boundE, if_neg h, if_neg h]
    exact bound_out x q w (by unfold BoundOK at h; omega)
theorem rbound_any (x q : Int) (w : World) :
    Calls Try.prog 18 #[.int .i64 x, .int .i64 q] w fun e w' => e = .returned (.tuple #[.int .i64 (boundR x q), .int .i64 (boundE x q)]) ∧ w = w' := by
  by_cases h : BoundOK x q
  · have h' := h
    obtain ⟨h1, h2, h3, h4⟩ := h'
    obtain ⟨a, rfl⟩ := Int.eq_ofNat_of_zero_le (show 0 ≤ x by omega)
    obtain ⟨b, rfl⟩ := Int.eq_ofNat_of_zero_le h3
    have k := rbound_in a b w (by omega) (by omega) (by omega)
    rw [boundR, boundE, if_pos h, if_pos h]
    exact k
  · rw [boundR, boundE, if_neg h, if_neg h]
    exact rbound_out x q w (by unfold BoundOK at h; omega)
theorem gbound_mono : ∀ a, a < 9 → ∀ q, q < 25 → (gbound a q ≤ gbound (a + 1) q ∨ a = 8) ∧ (gbound a q ≤ gbound a (q + 1) ∨ q = 24) := by decide +kernel
theorem boundR_more (x q : Int) (h : BoundOK x q) (hx : x ≠ 8) : boundR x q ≤ boundR (x + 1) q := by
  have h' := h
  unfold BoundOK at h'
  have h2 : BoundOK (x + 1) q := by unfold BoundOK; omega
  rw [boundR, boundR, if_pos h, if_pos h2]
  have e : (x + 1).toNat = x.toNat + 1 := by omega
  rw [e]
  have := (gbound_mono x.toNat (by omega) q.toNat (by omega)).1
  omega
theorem boundR_worse (x q : Int) (h : BoundOK x q) (hq : q ≠ 24) : boundR x q ≤ boundR x (q + 1) := by
  have h' := h
  unfold BoundOK at h'
  have h2 : BoundOK x (q + 1) := by unfold BoundOK; omega
  rw [boundR, boundR, if_pos h, if_pos h2]
  have e : (q + 1).toNat = q.toNat + 1 := by omega
  rw [e]
  have := (gbound_mono x.toNat (by omega) q.toNat (by omega)).2
  omega
theorem boundE_ok (x q : Int) (h : BoundOK x q) : boundE x q = 0 := if_pos h
theorem boundE_no (x q : Int) (h : ¬ BoundOK x q) : boundE x q = 1 := if_neg h
theorem boundR_bd (x q : Int) : 0 ≤ boundR x q := by unfold boundR; split <;> omega
end Go.Proofs.Ytedgndangamkaaa
