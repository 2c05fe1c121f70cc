/- Who was never wrong, and how often the rule of the half errs: plain law. -/
import Derived.Test.YtedgndangamkaaaGameLaw
namespace Go.Proofs.Ytedgndangamkaaa
open Go.RowKit
set_option linter.unusedSimpArgs false
set_option linter.unusedVariables false

/-- The advisers who were never wrong in the first k rounds. -/
def hrd (g : List Rd) (k : Nat) : List Nat := (List.range (adv g 0).length).filter fun a => wrg g a k == 0
def yesN (g : List Rd) (k : Nat) : Nat := ((hrd g k).filter fun a => bth (adv g k) a).length
def noN (g : List Rd) (k : Nat) : Nat := ((hrd g k).filter fun a => !bth (adv g k) a).length
def hErr (g : List Rd) : Nat → Nat
  | 0 => 0
  | k + 1 => hErr g k + (if decide ((hrd g k).length < 2 * yesN g k) != came g k then 1 else 0)
theorem hErr_le (g : List Rd) (k : Nat) : hErr g k ≤ k := by
  induction k with
  | zero => exact Nat.le_refl _
  | succ k ih => simp only [hErr]; split <;> omega
theorem yes_no (g : List Rd) (k : Nat) : yesN g k + noN g k = (hrd g k).length := by
  unfold yesN noN
  generalize hrd g k = l
  induction l with
  | nil => rfl
  | cons x l ih => simp only [List.filter_cons]; cases bth (adv g k) x <;> simp <;> omega
theorem hrd_zero (g : List Rd) : hrd g 0 = List.range (adv g 0).length := by
  unfold hrd
  rw [List.filter_eq_self]
  intro a _
  simp [wrg]
theorem hrd_succ (g : List Rd) (k : Nat) : hrd g (k + 1) = (hrd g k).filter fun a => bth (adv g k) a == came g k := by
  unfold hrd
  rw [List.filter_filter]
  congr 1
  funext a
  have e : ∀ (n : Nat) (x : Bool), ((n + if (!x) = true then 1 else 0) == 0) = (x && n == 0) := by intro n x; cases x <;> simp
  exact e _ _
theorem hrd_len (g : List Rd) (k : Nat) : (hrd g k).length ≤ (adv g 0).length := by
  unfold hrd
  have := List.length_filter_le (fun a => wrg g a k == 0) (List.range (adv g 0).length)
  simpa using this
theorem hrd_lt (g : List Rd) (k a : Nat) (h : a ∈ hrd g k) : a < (adv g 0).length := by
  unfold hrd at h
  simp at h
  exact h.1
theorem hrd_half (g : List Rd) (k : Nat) (h : (decide ((hrd g k).length < 2 * yesN g k) != came g k) = true) : 2 * (hrd g (k + 1)).length ≤ (hrd g k).length := by
  have hs := yes_no g k
  rw [hrd_succ]
  cases hc : came g k
  · have e : ((hrd g k).filter fun a => bth (adv g k) a == false).length = noN g k := by
      unfold noN; congr 2; funext a; cases bth (adv g k) a <;> rfl
    rw [e]
    rw [hc] at h
    simp at h
    omega
  · have e : ((hrd g k).filter fun a => bth (adv g k) a == true).length = yesN g k := by
      unfold yesN; congr 2; funext a; cases bth (adv g k) a <;> rfl
    rw [e]
    rw [hc] at h
    simp at h
    omega
theorem halves (g : List Rd) (k : Nat) : 2 ^ hErr g k * (hrd g k).length ≤ (adv g 0).length := by
  induction k with
  | zero => simp only [hErr]; have := hrd_len g 0; omega
  | succ k ih =>
    simp only [hErr]
    split
    · rename_i h
      have h2 := hrd_half g k h
      refine Nat.le_trans ?_ ih
      rw [Nat.pow_succ, Nat.mul_assoc]
      exact Nat.mul_le_mul_left _ h2
    · refine Nat.le_trans ?_ ih
      rw [hrd_succ]
      exact Nat.mul_le_mul_left _ (List.length_filter_le _ _)
/-- If somebody was never wrong, two to the power of the errors is at most the number of advisers. -/
theorem halves_bd (g : List Rd) (k : Nat) (h : hrd g k ≠ []) : 2 ^ hErr g k ≤ (adv g 0).length := by
  have h1 := halves g k
  have h2 : 0 < (hrd g k).length := List.length_pos_iff.2 h
  refine Nat.le_trans ?_ h1
  exact Nat.le_mul_of_pos_right _ h2
end Go.Proofs.Ytedgndangamkaaa
