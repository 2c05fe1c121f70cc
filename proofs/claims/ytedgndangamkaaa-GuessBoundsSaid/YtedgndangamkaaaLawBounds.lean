/- 'GuessBounds' returns true: the walk. -/
import Derived.Test.YtedgndangamkaaaKnown
namespace Go.Proofs.Ytedgndangamkaaa
open Go.RowKit

theorem lawBounds (w : World) (x : Int) (_wx : (Lit.int .i64 x).wf = true) (q : Int) (_wq : (Lit.int .i64 q).wf = true) : Calls Try.prog 3 #[.int .i64 x, .int .i64 q] w fun e w' => e = .returned (.bool true) ∧ Below w.heap.size w w' := by
  by_cases h : BoundOK x q
  · have e0 := boundE_ok x q h
    have h' := h
    unfold BoundOK at h'
    obtain ⟨h1, h2, h3, h4⟩ := h'
    by_cases hx : x = 8
    · subst hx
      go_enter Try.func3, Try.ntmps3
      go_wp2_with fail
      refine (bound_any _ _ _).mono ?_; rintro e w' ⟨rfl, rfl⟩
      go_wp2_with fail
      refine (rbound_any _ _ _).mono ?_; rintro e w' ⟨rfl, rfl⟩
      go_wp2_with fail
      refine (known_true _).mono ?_; rintro e w' ⟨rfl, hb⟩
      go_wp2
      go_ret
      exact ⟨rfl, hb⟩
    · by_cases hq : q = 24
      · subst hq
        have hx' : (x == 8) = false := by simp [hx]
        go_enter Try.func3, Try.ntmps3
        go_wp2_with fail
        refine (bound_any _ _ _).mono ?_; rintro e w' ⟨rfl, rfl⟩
        go_wp2_with fail
        refine (rbound_any _ _ _).mono ?_; rintro e w' ⟨rfl, rfl⟩
        go_wp2_with fail
        refine (known_true _).mono ?_; rintro e w' ⟨rfl, hb⟩
        go_wp2
        go_ret
        exact ⟨rfl, hb⟩
      · have hx' : (x == 8) = false := by simp [hx]
        have hq' : (q == 24) = false := by simp [hq]
        have e1 := boundE_ok (x + 1) q (by unfold BoundOK; omega)
        have e2 := boundE_ok x (q + 1) (by unfold BoundOK; omega)
        have l1 := boundR_more x q h hx
        have l2 := boundR_worse x q h hq
        go_enter Try.func3, Try.ntmps3
        go_wp2_with fail
        refine (bound_any _ _ _).mono ?_; rintro e w' ⟨rfl, rfl⟩
        go_wp2_with fail
        refine (rbound_any _ _ _).mono ?_; rintro e w' ⟨rfl, rfl⟩
        go_wp2_with fail
        refine (bound_any _ _ _).mono ?_; rintro e w' ⟨rfl, rfl⟩
        go_wp2_with fail
        refine (bound_any _ _ _).mono ?_; rintro e w' ⟨rfl, rfl⟩
        go_wp2_with fail
        refine (known_true _).mono ?_; rintro e w' ⟨rfl, hb⟩
        go_wp2
        go_ret
        exact ⟨rfl, hb⟩
  · have e0 := boundE_no x q h
    go_enter Try.func3, Try.ntmps3
    go_wp2_with fail
    refine (bound_any _ _ _).mono ?_; rintro e w' ⟨rfl, rfl⟩
    go_wp2_with fail
    refine (rbound_any _ _ _).mono ?_; rintro e w' ⟨rfl, rfl⟩
    go_wp2_with fail
    refine (known_true _).mono ?_; rintro e w' ⟨rfl, hb⟩
    go_wp2
    go_ret
    exact ⟨rfl, hb⟩
end Go.Proofs.Ytedgndangamkaaa
