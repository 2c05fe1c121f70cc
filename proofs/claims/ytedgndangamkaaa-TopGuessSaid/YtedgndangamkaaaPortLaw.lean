/- Plain laws on the costs of portions: what one more costs never falls; a number is best exactly if one more does not save and one less did not. -/
import Derived.Test.YtedgndangamkaaaPort
namespace Go.Proofs.Ytedgndangamkaaa
open Go.RowKit

theorem sumTo_sub (f g : Nat → Int) (k : Nat) : sumTo (fun d => f d - g d) k = sumTo f k - sumTo g k := by
  induction k with
  | zero => rfl
  | succ k ih => simp only [sumTo, ih]; omega
/-- What one portion more costs, demand by demand. -/
def mF (xs : List Int) (o u : Int) (q : Nat) (d : Nat) : Int := if d ≤ q then nth xs d * o else - (nth xs d * u)
theorem cF_margin (xs : List Int) (o u : Int) (q d : Nat) : cF xs o u ((q : Int) + 1) d - cF xs o u q d = mF xs o u q d := by
  unfold cF mF
  by_cases h1 : (d : Int) < q
  · rw [if_pos (by omega), if_pos h1, if_pos (by omega), ← Int.mul_sub, ← Int.mul_sub]
    have e : (q : Int) + 1 - d - (q - d) = 1 := by omega
    rw [e, Int.mul_one]
  · by_cases h2 : d = q
    · subst h2
      rw [if_pos (by omega), if_neg h1, if_pos (by omega)]
      have e1 : (d : Int) + 1 - d = 1 := by omega
      have e2 : (d : Int) - d = 0 := by omega
      rw [e1, e2]; simp
    · rw [if_neg (by omega), if_neg h1, if_neg (by omega), ← Int.mul_sub, ← Int.mul_sub]
      have e : (d : Int) - (q + 1) - (d - q) = -1 := by omega
      rw [e, Int.mul_neg, Int.mul_one, Int.mul_neg]
def marg (xs : List Int) (o u : Int) (q : Nat) : Int := costN xs o u (q + 1) - costN xs o u q
theorem marg_eq (xs : List Int) (o u : Int) (q : Nat) : marg xs o u q = sumTo (mF xs o u q) xs.length := by
  have e : sumTo (mF xs o u q) xs.length = sumTo (fun d => cF xs o u ((q : Int) + 1) d - cF xs o u q d) xs.length := sumTo_congr _ _ _ fun d _ => (cF_margin xs o u q d).symm
  rw [e, sumTo_sub]
  rfl
theorem marg_mono {xs : List Int} {o u : Int} (hc : CostIn xs o u) (q : Nat) : marg xs o u q ≤ marg xs o u (q + 1) := by
  rw [marg_eq, marg_eq]
  refine sumTo_le _ _ _ fun d hd => ?_
  have he := (hc.el d hd).1
  have h1 := Int.mul_nonneg he hc.o0
  have h2 := Int.mul_nonneg he hc.u0
  unfold mF
  split <;> split <;> omega
theorem marg_monos {xs : List Int} {o u : Int} (hc : CostIn xs o u) (p q : Nat) (h : p ≤ q) : marg xs o u p ≤ marg xs o u q := by
  induction q with
  | zero => obtain rfl : p = 0 := by omega
            exact Int.le_refl _
  | succ q ih =>
    by_cases e : p = q + 1
    · subst e; exact Int.le_refl _
    · exact Int.le_trans (ih (by omega)) (marg_mono hc q)
/-- Least over all numbers. -/
theorem qBest_le {xs : List Int} {o u : Int} (hc : CountsOK xs o u) (j : Nat) : costN xs o u (qBest xs o u) ≤ costN xs o u j := by
  have hone := hc.one
  have key : ∀ k, costN xs o u (qBest xs o u) ≤ costN xs o u (xs.length - 1 + k) := by
    intro k
    induction k with
    | zero => exact least_le _ _ _ (by omega)
    | succ k ih =>
      have h2 := cost_last hc.toCostIn ((xs.length - 1 + k : Nat) : Int) (by omega)
      have h3 : costN xs o u (xs.length - 1 + k) ≤ costN xs o u (xs.length - 1 + (k + 1)) := h2
      omega
  by_cases h : j < xs.length
  · exact least_le _ _ _ h
  · have := key (j - (xs.length - 1))
    rwa [show xs.length - 1 + (j - (xs.length - 1)) = j by omega] at this
theorem convex_right {xs : List Int} {o u : Int} (hc : CostIn xs o u) (q k : Nat) (h : 0 ≤ marg xs o u q) : costN xs o u q ≤ costN xs o u (q + k) := by
  induction k with
  | zero => exact Int.le_refl _
  | succ k ih =>
    have h1 := marg_monos hc q (q + k) (by omega)
    have h2 : marg xs o u (q + k) = costN xs o u (q + k + 1) - costN xs o u (q + k) := rfl
    rw [show q + (k + 1) = q + k + 1 from rfl]
    omega
theorem convex_left {xs : List Int} {o u : Int} (hc : CostIn xs o u) (q : Nat) (h : marg xs o u q ≤ 0) : ∀ k, k ≤ q + 1 → costN xs o u (q + 1) ≤ costN xs o u (q + 1 - k) := by
  intro k hk
  induction k with
  | zero => exact Int.le_refl _
  | succ k ih =>
    have h1 := marg_monos hc (q - k) q (by omega)
    have h2 : marg xs o u (q - k) = costN xs o u (q - k + 1) - costN xs o u (q - k) := rfl
    have h3 := ih (by omega)
    rw [show q + 1 - k = q - k + 1 by omega] at h3
    rw [show q + 1 - (k + 1) = q - k by omega]
    omega
theorem best_zero {xs : List Int} {o u : Int} (hc : CountsOK xs o u) : (costN xs o u 0 = costN xs o u (qBest xs o u)) ↔ 0 ≤ marg xs o u 0 := by
  constructor
  · intro h
    have := qBest_le hc 1
    have h2 : marg xs o u 0 = costN xs o u 1 - costN xs o u 0 := rfl
    omega
  · intro h
    have h1 := convex_right hc.toCostIn 0 (qBest xs o u) h
    have h2 := qBest_le hc 0
    rw [Nat.zero_add] at h1
    omega
theorem best_succ {xs : List Int} {o u : Int} (hc : CountsOK xs o u) (q : Nat) : (costN xs o u (q + 1) = costN xs o u (qBest xs o u)) ↔ 0 ≤ marg xs o u (q + 1) ∧ marg xs o u q ≤ 0 := by
  constructor
  · intro h
    have h1 := qBest_le hc (q + 2)
    have h2 := qBest_le hc q
    have e1 : marg xs o u (q + 1) = costN xs o u (q + 2) - costN xs o u (q + 1) := rfl
    have e2 : marg xs o u q = costN xs o u (q + 1) - costN xs o u q := rfl
    omega
  · intro ⟨h1, h2⟩
    have hb := qBest_le hc (q + 1)
    by_cases hq : qBest xs o u ≤ q + 1
    · have h3 := convex_left hc.toCostIn q h2 (q + 1 - qBest xs o u) (by omega)
      rw [show q + 1 - (q + 1 - qBest xs o u) = qBest xs o u by omega] at h3
      omega
    · have h3 := convex_right hc.toCostIn (q + 1) (qBest xs o u - (q + 1)) h1
      rw [show q + 1 + (qBest xs o u - (q + 1)) = qBest xs o u by omega] at h3
      omega
end Go.Proofs.Ytedgndangamkaaa
