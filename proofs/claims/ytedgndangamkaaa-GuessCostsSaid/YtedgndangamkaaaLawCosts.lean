/- 'GuessCosts' and 'GuessQuantities' return true: the walks. -/
import Derived.Test.YtedgndangamkaaaKnown
namespace Go.Proofs.Ytedgndangamkaaa
open Go.RowKit

theorem lawCosts (W : World) (a : Option Addr) (xs : List Int) (cap : Nat) (h : IntsAt W a xs) (hm : xs.length ≤ maxLen) (_hw : ∀ i, i < xs.length → (Lit.int .i64 (nth xs i)).wf = true) (o u : Int) (_wo : (Lit.int .i64 o).wf = true) (_wu : (Lit.int .i64 u).wf = true) (q : Int) (_wq : (Lit.int .i64 q).wf = true) :
    Calls Try.prog 6 #[.slice a xs.length cap, .agg #[.int .i64 o, .int .i64 u], .int .i64 q] W fun e w' => e = .returned (.bool true) ∧ Below W.heap.size W w' := by
  unfold maxLen at hm
  clear _hw _wo _wu _wq
  by_cases hl : xs.length ≤ 300
  · have h1 : IntsAt (W.alloc (.cells #[.int .i64 o, .int .i64 u] 29)) a xs := h.below ((Below.refl _ _).alloc (Nat.le_refl _) _)
    go_enter Try.func6, Try.ntmps6
    go_wp2_with fail
    refine (Cost_any xs _ _ o u q _ h1).mono ?_; rintro e w' ⟨rfl, rfl⟩
    go_wp2_with fail
    refine (rCost_any xs _ _ o u q _ h1).mono ?_; rintro e w' ⟨rfl, rfl⟩
    go_wp2_with fail
    refine (Marginal_any xs _ _ o u q _ h1).mono ?_; rintro e w' ⟨rfl, rfl⟩
    go_wp2_with fail
    refine (rMarginal_any xs _ _ o u q _ h1).mono ?_; rintro e w' ⟨rfl, rfl⟩
    go_wp2_with fail
    refine (known_true _).mono ?_; rintro e w' ⟨rfl, hb⟩
    go_wp2
    go_ret
    exact ⟨rfl, ((Below.refl _ _).alloc (Nat.le_refl _) _).trans (hb.mono (by simp))⟩
  · go_enter Try.func6, Try.ntmps6
    go_wp2_with fail
    refine (known_true _).mono ?_; rintro e w' ⟨rfl, hb⟩
    go_wp2
    go_ret
    exact ⟨rfl, ((Below.refl _ _).alloc (Nat.le_refl _) _).trans (hb.mono (by simp))⟩

theorem lawQuantities (W : World) (a : Option Addr) (xs : List Int) (cap : Nat) (h : IntsAt W a xs) (hm : xs.length ≤ maxLen) (_hw : ∀ i, i < xs.length → (Lit.int .i64 (nth xs i)).wf = true) (o u : Int) (_wo : (Lit.int .i64 o).wf = true) (_wu : (Lit.int .i64 u).wf = true) (q : Int) (_wq : (Lit.int .i64 q).wf = true) :
    Calls Try.prog 4 #[.slice a xs.length cap, .agg #[.int .i64 o, .int .i64 u], .int .i64 q] W fun e w' => e = .returned (.bool true) ∧ Below W.heap.size W w' := by
  unfold maxLen at hm
  clear _hw _wo _wu _wq
  by_cases hl : xs.length ≤ 300
  · have h1 : IntsAt (W.alloc (.cells #[.int .i64 o, .int .i64 u] 29)) a xs := h.below ((Below.refl _ _).alloc (Nat.le_refl _) _)
    go_enter Try.func4, Try.ntmps4
    go_wp2_with fail
    refine (Quantity_any xs _ _ o u _ h1).mono ?_; rintro e w' ⟨rfl, rfl⟩
    go_wp2_with fail
    refine (rQuantity_any xs _ _ o u _ h1).mono ?_; rintro e w' ⟨rfl, rfl⟩
    go_wp2_with fail
    refine (IsBest_any xs _ _ o u q _ h1).mono ?_; rintro e w' ⟨rfl, rfl⟩
    go_wp2_with fail
    refine (rIsBest_any xs _ _ o u q _ h1).mono ?_; rintro e w' ⟨rfl, rfl⟩
    go_wp2_with fail
    refine (known_true _).mono ?_; rintro e w' ⟨rfl, hb⟩
    go_wp2
    go_ret
    exact ⟨rfl, ((Below.refl _ _).alloc (Nat.le_refl _) _).trans (hb.mono (by simp))⟩
  · go_enter Try.func4, Try.ntmps4
    go_wp2_with fail
    refine (known_true _).mono ?_; rintro e w' ⟨rfl, hb⟩
    go_wp2
    go_ret
    exact ⟨rfl, ((Below.refl _ _).alloc (Nat.le_refl _) _).trans (hb.mono (by simp))⟩
end Go.Proofs.Ytedgndangamkaaa
