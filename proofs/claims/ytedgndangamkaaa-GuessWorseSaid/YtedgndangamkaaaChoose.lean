/- Binomial coefficients: plain laws for 'Tail' and 'Worse'. -/
import Derived.Test.YtedgndangamkaaaBase
namespace Go.Proofs.Ytedgndangamkaaa
open Go.RowKit

def ch : Nat → Nat → Nat
  | _, 0 => 1
  | 0, _ + 1 => 0
  | n + 1, k + 1 => ch n k + ch n (k + 1)
theorem ch_zero (n : Nat) : ch n 0 = 1 := by cases n <;> rfl
theorem ch_over (n k : Nat) (h : n < k) : ch n k = 0 := by
  induction n generalizing k with
  | zero => cases k with
    | zero => omega
    | succ k => rfl
  | succ n ih => cases k with
    | zero => omega
    | succ k => simp only [ch]; rw [ih k (by omega), ih (k + 1) (by omega)]
theorem ch_self (n : Nat) : ch n n = 1 := by
  induction n with
  | zero => rfl
  | succ n ih => simp only [ch]; rw [ih, ch_over n (n + 1) (by omega)]
theorem ch_succ (n k : Nat) : ch (n + 1) (k + 1) = ch n k + ch n (k + 1) := rfl
/-- The step from one coefficient to the next. -/
theorem ch_step (n k : Nat) : ch n (k + 1) * (k + 1) = ch n k * (n - k) := by
  induction n generalizing k with
  | zero => simp [ch]
  | succ n ih =>
    cases k with
    | zero =>
      have h := ih 0
      rw [ch_succ, ch_zero, ch_zero] at *
      simp at h ⊢
      omega
    | succ k =>
      have h1 := ih k
      have h2 := ih (k + 1)
      rw [ch_succ, ch_succ, Nat.add_mul, Nat.add_mul, h2]
      by_cases hk : k ≤ n
      · have e1 : ch n (k + 1) * (k + 1 + 1) = ch n (k + 1) * (k + 1) + ch n (k + 1) := Nat.mul_succ _ _
        rw [e1, h1]
        by_cases hk2 : k + 1 ≤ n
        · have e2 : n + 1 - (k + 1) = (n - k) := by omega
          have e3 : n - k = (n - (k + 1)) + 1 := by omega
          rw [e2]
          have e4 : ch n (k + 1) * (n - k) = ch n (k + 1) * (n - (k + 1)) + ch n (k + 1) := by rw [e3, Nat.mul_succ]
          omega
        · obtain rfl : k = n := by omega
          rw [ch_over k (k + 1) (by omega)]
          simp
      · rw [ch_over n (k + 1) (by omega)]
        have h3 : ch n k = 0 := ch_over n k (by omega)
        rw [h3]; simp
theorem ch_pow (n : Nat) : ∀ k, ch n k ≤ 2 ^ n := by
  induction n with
  | zero => intro k; cases k <;> simp [ch]
  | succ n ih =>
    intro k
    cases k with
    | zero => rw [ch_zero]; exact Nat.one_le_two_pow
    | succ k => rw [ch_succ, Nat.pow_succ]; have := ih k; have := ih (k + 1); omega
theorem ch_bd (n k : Nat) (h : n ≤ 40) : ch n k ≤ 1099511627776 := by
  have h1 := ch_pow n k
  have h2 : 2 ^ n ≤ 2 ^ 40 := Nat.pow_le_pow_right (by omega) h
  have h3 : 2 ^ 40 = 1099511627776 := by decide
  omega
def chI (n k : Nat) : Int := ch n k
/-- The coefficients from wins on. -/
def tF (n w : Nat) (k : Nat) : Int := if w ≤ k then chI n k else 0
def tl (n w : Nat) : Int := sumTo (tF n w) (n + 1)
theorem tF_bd (n w k : Nat) (h : n ≤ 40) : 0 ≤ tF n w k ∧ tF n w k ≤ 1099511627776 := by
  have := ch_bd n k h
  unfold tF chI; split <;> omega
theorem tl_part_bd (n w k : Nat) (h : n ≤ 40) (hk : k ≤ 41) : 0 ≤ sumTo (tF n w) k ∧ sumTo (tF n w) k ≤ 45079976738816 := by
  have := sumTo_bd (tF n w) 1099511627776 k fun d _ => tF_bd n w d h
  omega
theorem sumTo_all (n : Nat) : sumTo (chI n) (n + 1) = 2 ^ n := by
  have key : ∀ n m, sumTo (chI (n + 1)) (m + 1) = sumTo (chI n) (m + 1) + sumTo (chI n) m := by
    intro n m
    induction m with
    | zero => simp [sumTo, chI, ch_zero]
    | succ m ih =>
      have e : sumTo (chI (n + 1)) (m + 1 + 1) = sumTo (chI (n + 1)) (m + 1) + chI (n + 1) (m + 1) := rfl
      rw [e, ih]
      simp only [sumTo, chI, ch_succ]
      omega
  induction n with
  | zero => simp [sumTo, chI, ch]
  | succ n ih =>
    rw [key]
    have e : sumTo (chI n) (n + 1 + 1) = sumTo (chI n) (n + 1) + chI n (n + 1) := rfl
    have e2 : chI n (n + 1) = 0 := by simp [chI, ch_over]
    rw [e, e2, ih, Int.pow_succ]; omega
theorem tl_zero (n : Nat) : tl n 0 = 2 ^ n := by
  rw [← sumTo_all, tl]
  exact sumTo_congr _ _ _ fun d _ => by simp [tF]
theorem tl_self (n : Nat) : tl n n = 1 := by
  have e : tl n n = sumTo (tF n n) n + tF n n n := rfl
  have e2 : sumTo (tF n n) n = sumTo (fun _ => 0) n := sumTo_congr _ _ _ fun d hd => by simp [tF]; omega
  have e3 : ∀ k, sumTo (fun _ => 0) k = 0 := by intro k; induction k with
    | zero => rfl
    | succ k ih => simp [sumTo, ih]
  rw [e, e2, e3]
  simp [tF, chI, ch_self]
/-- One more trial is a win or a loss. -/
theorem tl_succ (n w : Nat) : tl (n + 1) (w + 1) = tl n (w + 1) + tl n w := by
  have key : ∀ m, sumTo (tF (n + 1) (w + 1)) (m + 1) = sumTo (tF n (w + 1)) (m + 1) + sumTo (tF n w) m := by
    intro m
    induction m with
    | zero => simp [sumTo, tF]
    | succ m ih =>
      have e : sumTo (tF (n + 1) (w + 1)) (m + 1 + 1) = sumTo (tF (n + 1) (w + 1)) (m + 1) + tF (n + 1) (w + 1) (m + 1) := rfl
      have e2 : tF (n + 1) (w + 1) (m + 1) = tF n (w + 1) (m + 1) + tF n w m := by
        unfold tF
        by_cases h : w ≤ m
        · rw [if_pos (by omega), if_pos (by omega), if_pos h]; simp only [chI, ch_succ]; omega
        · rw [if_neg (by omega), if_neg (by omega), if_neg h]; rfl
      rw [e, ih, e2]
      simp only [sumTo]
      omega
  have k := key (n + 1)
  have e : sumTo (tF n (w + 1)) (n + 1 + 1) = sumTo (tF n (w + 1)) (n + 1) + tF n (w + 1) (n + 1) := rfl
  have e2 : tF n (w + 1) (n + 1) = 0 := by unfold tF chI; rw [ch_over n (n + 1) (by omega)]; simp
  rw [e, e2] at k
  simp only [tl]
  omega
theorem tl_mono (n w v : Nat) (h : w ≤ v) : tl n v ≤ tl n w := by
  have key : ∀ m, sumTo (tF n v) m ≤ sumTo (tF n w) m := by
    intro m
    induction m with
    | zero => simp [sumTo]
    | succ m ih =>
      have : tF n v m ≤ tF n w m := by unfold tF chI; split <;> split <;> omega
      simp only [sumTo]; omega
  exact key _
theorem tl_bd (n w : Nat) (h : n ≤ 40) : 0 ≤ tl n w ∧ tl n w ≤ 1099511627776 := by
  have h1 := tl_mono n 0 w (Nat.zero_le _)
  rw [tl_zero] at h1
  have h2 := tl_part_bd n w (n + 1) h (by omega)
  have h3 : (2 : Nat) ^ n ≤ 2 ^ 40 := Nat.pow_le_pow_right (by omega) h
  have h4 : (2 : Nat) ^ 40 = 1099511627776 := by decide
  have h5 : ((2 ^ n : Nat) : Int) = (2 : Int) ^ n := by simp
  refine ⟨h2.1, ?_⟩
  omega
end Go.Proofs.Ytedgndangamkaaa
