/- 'known' returns true. -/
import Derived.Test.YtedgndangamkaaaPort
namespace Go.Proofs.Ytedgndangamkaaa
open Go.RowKit

theorem bound_known : gbound 8 0 = 7 := by decide
theorem counts_known : CountsOK [1, 1, 1] 1 3 :=
  ⟨⟨by decide, by intro d hd; have : d = 0 ∨ d = 1 ∨ d = 2 := by simp at hd; omega
                  rcases this with rfl | rfl | rfl <;> decide, by decide, by decide, by decide, by decide⟩, by decide, by decide⟩
theorem qbest_known : qBest [1, 1, 1] 1 3 = 2 := by decide
theorem quantR_known : quantR [1, 1, 1] 1 3 = 2 := by simp [quantR, countE_ok counts_known, qbest_known]

theorem known_true (w : World) : Calls Try.prog 19 #[] w fun e w' => e = .returned (.bool true) ∧ Below w.heap.size w w' := by
  have b1 := bound_in 8 0
  rw [bound_known] at b1
  have B1 := hid b1
  clear b1
  have q1 := Quantity_any [1, 1, 1]
  have Q1 := hid q1
  clear q1
  go_enter Try.func19, Try.ntmps19
  go_wp2_with fail
  refine (B1.out _ (by omega) (by omega) (by omega)).mono ?_; rintro e w' ⟨rfl, rfl⟩
  go_wp2_with fail
  refine (Q1.out _ _ _ _ _ (intsAt_alloc w [1, 1, 1] 3)).mono ?_; rintro e w' ⟨rfl, rfl⟩
  rw [quantR_known, countE_ok counts_known]
  go_wp2
  go_ret
  exact ⟨rfl, (Below.refl _ _).alloc (Nat.le_refl _) _⟩
end Go.Proofs.Ytedgndangamkaaa
