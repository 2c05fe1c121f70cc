/- Who divides by Down keeps the quotas from below, who divides by Up keeps them from above; plainly. -/
import Derived.Test.YthankdfjkmfokaaFair
import Derived.Test.YthankdfjkmfokaaKeeps
namespace Go.Proofs.Ythankdfjkmfokaa
open Go.RowKit
set_option linter.unusedSimpArgs false
set_option linter.unusedVariables false

theorem sumTo_le (f g : Nat → Int) (n : Nat) (h : ∀ d, d < n → f d ≤ g d) : sumTo f n ≤ sumTo g n := by
  induction n with
  | zero => exact Int.le_refl _
  | succ n ih =>
    have := ih fun d hd => h d (by omega)
    have := h n (by omega)
    simp only [sumTo]; omega
theorem sumTo_lt (f g : Nat → Int) (n c : Nat) (hc : c < n) (h : ∀ d, d < n → f d ≤ g d) (hs : f c < g c) : sumTo f n < sumTo g n := by
  induction n with
  | zero => omega
  | succ n ih =>
    have hn := h n (by omega)
    simp only [sumTo]
    by_cases e : c = n
    · subst e
      have := sumTo_le f g c fun d hd => h d (by omega)
      omega
    · have := ih (by omega) fun d hd => h d (by omega)
      omega
theorem sumTo_mul (c : Int) (f : Nat → Int) (n : Nat) : sumTo (fun i => c * f i) n = c * sumTo f n := by
  induction n with
  | zero => simp [sumTo]
  | succ n ih => simp only [sumTo, ih, Int.mul_add]
theorem sumTo_mul' (c : Int) (f : Nat → Int) (n : Nat) : sumTo (fun i => f i * c) n = sumTo f n * c := by
  rw [Int.mul_comm, ← sumTo_mul]
  exact sumTo_congr _ _ _ fun d _ => Int.mul_comm _ _
theorem sumTo_at (f : Nat → Int) (n c : Nat) (hc : c < n) (h : ∀ d, d < n → 0 ≤ f d) : f c ≤ sumTo f n := by
  induction n with
  | zero => omega
  | succ n ih =>
    have h0 := (sumTo_le (fun _ => 0) f n fun d hd => h d (by omega))
    have hz : sumTo (fun _ => (0 : Int)) n = 0 := by
      have := sumTo_mul 0 (fun _ => (0 : Int)) n
      simpa using this
    have hn := h n (by omega)
    simp only [sumTo]
    by_cases e : c = n
    · subst e; omega
    · have := ih (by omega) fun d hd => h d (by omega)
      omega
theorem down_keeps {xs ms : List Int} (ho : OrdOK xs) (hm : MealsOK xs ms) (hf : FairOK 0 xs ms) (i : Nat) (hi : i < xs.length) : tot ms * nth xs i / tot xs ≤ nth ms i := by
  have t1 := (tot_ord ho).1
  have oi := ho.el i hi
  have mi := hm.el i (by rw [hm.len]; exact hi)
  have key : sumTo (fun k => nth xs i * nth ms k) xs.length < sumTo (fun k => nth xs k * (nth ms i + 1)) xs.length := by
    refine sumTo_lt _ _ _ i hi (fun k hk => ?_) ?_
    · have mk := hm.el k (by rw [hm.len]; exact hk)
      have ok := ho.el k hk
      by_cases e : k = i
      · subst e
        exact Int.mul_le_mul_of_nonneg_left (by omega) (by omega)
      · by_cases h0 : 0 < nth ms k
        · have g := hf k hk i hi e h0
          unfold lnAt stp at g
          simp only [if_true, Int.sub_add_cancel] at g
          rw [sz_ways, if_neg (by omega), if_neg (by omega)] at g
          have := @sg_neg (nth xs k * (nth ms i + 1)) (nth xs i * nth ms k)
          omega
        · have e0 : nth ms k = 0 := by omega
          rw [e0, Int.mul_zero]
          exact Int.mul_nonneg (by omega) (by omega)
    · exact Int.mul_lt_mul_of_pos_left (by omega) (by omega)
  rw [sumTo_mul, sumTo_mul'] at key
  have e1 : sumTo (nth ms) xs.length = tot ms := by unfold tot; rw [hm.len]
  rw [e1] at key
  have e2 : sumTo (nth xs) xs.length = tot xs := rfl
  rw [e2] at key
  have h3 : tot ms * nth xs i < (nth ms i + 1) * tot xs := by
    rw [Int.mul_comm (tot ms), Int.mul_comm (nth ms i + 1)]; exact key
  have := Int.ediv_lt_of_lt_mul (by omega) h3
  omega
theorem up_keeps {xs ms : List Int} (ho : OrdOK xs) (hm : MealsOK xs ms) (hf : FairOK 2 xs ms) (i : Nat) (hi : i < xs.length) (hp : 0 < nth ms i) : (nth ms i - 1) * tot xs < tot ms * nth xs i := by
  have t1 := (tot_ord ho).1
  have oi := ho.el i hi
  have mi := hm.el i (by rw [hm.len]; exact hi)
  have e1 : sumTo (nth ms) xs.length = tot ms := by unfold tot; rw [hm.len]
  have e2 : sumTo (nth xs) xs.length = tot xs := rfl
  have hle : nth ms i ≤ tot ms := by
    rw [← e1]
    exact sumTo_at _ _ _ hi fun d hd => (hm.el d (by rw [hm.len]; exact hd)).1
  by_cases h1 : nth ms i = 1
  · rw [h1]
    have := Int.mul_pos (show 0 < tot ms by omega) (show 0 < nth xs i by omega)
    omega
  · have key : sumTo (fun k => nth xs k * (nth ms i - 1)) xs.length < sumTo (fun k => nth xs i * nth ms k) xs.length := by
      refine sumTo_lt _ _ _ i hi (fun k hk => ?_) ?_
      · have mk := hm.el k (by rw [hm.len]; exact hk)
        have ok := ho.el k hk
        by_cases e : k = i
        · subst e
          exact Int.mul_le_mul_of_nonneg_left (by omega) (by omega)
        · have g := hf i hi k hk (by omega) hp
          unfold lnAt stp at g
          rw [if_neg (by omega), if_neg (by omega), if_neg (by omega), if_neg (by omega), sz_ways, if_neg (by omega)] at g
          by_cases h0 : nth ms k = 0
          · rw [if_pos h0] at g; omega
          · rw [if_neg h0] at g
            have := @sg_neg (nth xs i * nth ms k) (nth xs k * (nth ms i - 1))
            omega
      · exact Int.mul_lt_mul_of_pos_left (by omega) (by omega)
    rw [sumTo_mul, sumTo_mul', e1, e2] at key
    rw [Int.mul_comm (nth ms i - 1), Int.mul_comm (tot ms)]
    exact key
end Go.Proofs.Ythankdfjkmfokaa
