/- 'known' returns true. -/
import Derived.Test.YthankdfjkmfokaaDivide
namespace Go.Proofs.Ythankdfjkmfokaa
open Go.RowKit
set_option linter.unusedSimpArgs false
set_option linter.unusedVariables false

theorem ord721 : OrdOK [7, 2, 1] := ⟨by decide, by decide, by
  intro d hd
  have : d = 0 ∨ d = 1 ∨ d = 2 := by simp at hd; omega
  rcases this with rfl | rfl | rfl <;> decide⟩
theorem giv0 : giv 0 [7, 2, 1] 6 = [5, 1, 0] := by decide +kernel
theorem giv1 : giv 1 [7, 2, 1] 6 = [4, 1, 1] := by decide +kernel
theorem div721 (kd : Int) (hk : KindOK kd) (ys : List Int) (h : giv kd [7, 2, 1] 6 = ys) : divR [7, 2, 1] kd 6 = ys ∧ divE [7, 2, 1] kd 6 = 0 := by
  have hOK : DivOK [7, 2, 1] kd 6 := ⟨⟨ord721, hk⟩, by unfold NumOK; omega⟩
  exact ⟨by rw [divR_yes hOK]; exact h, divE_yes hOK⟩
set_option maxRecDepth 100000 in
set_option maxHeartbeats 2000000 in
theorem known_true (W : World) : Calls Try.prog 18 #[] W fun e w' => e = .returned (.bool true) ∧ Below W.heap.size W w' := by
  have H0 := hid (div721 0 (.inl rfl) _ giv0)
  have H1 := hid (div721 1 (.inr (.inl rfl)) _ giv1)
  have d0 := Divide_any [7, 2, 1] (some ⟨W.heap.size, 0, none⟩) 3 6 0 (W.alloc (.cells #[.int .i64 7, .int .i64 2, .int .i64 1] 3)) (intsAt_alloc W [7, 2, 1] 3) (by unfold maxLen; simp)
  rw [H0.out.1, H0.out.2] at d0
  have D0 := hid d0
  have D1 : Hid (∀ w : World, Calls Try.prog 19 #[.slice (some ⟨w.heap.size, 0, none⟩) 3 3, .int .i64 6, .int .i64 1] (w.alloc (.cells #[.int .i64 7, .int .i64 2, .int .i64 1] 3)) (IntsE [4, 1, 1] 0 (w.alloc (.cells #[.int .i64 7, .int .i64 2, .int .i64 1] 3)))) := by
    intro w
    have d1 := Divide_any [7, 2, 1] (some ⟨w.heap.size, 0, none⟩) 3 6 1 (w.alloc (.cells #[.int .i64 7, .int .i64 2, .int .i64 1] 3)) (intsAt_alloc w [7, 2, 1] 3) (by unfold maxLen; simp)
    rw [H1.out.1, H1.out.2] at d1
    exact d1
  clear d0
  go_enter Try.func18, Try.ntmps18
  go_wp2_with fail
  refine D0.out.mono ?_; rintro e w1 ⟨a1, c1, rfl, h1, hb1, _, _⟩
  have hw1 := (below_alloc W _).trans (hb1.mono (by simp))
  go_wp2_with fail
  refine (D1.out _).mono ?_; rintro e w2 ⟨a2, c2, rfl, h2, hb2, _, _⟩
  have hb12 : Below w1.heap.size w1 w2 := (below_alloc w1 _).trans (hb2.mono (by simp))
  have hw2 := hw1.trans (hb12.mono hw1.size)
  have h1' := h1.below hb12
  clear hb1 hb2 hb12 h1
  have S1 := hid (SameInts_any [5, 1, 0] a1 (some ⟨w2.heap.size, 0, none⟩) c1 3 (w2.alloc (.cells #[.int .i64 5, .int .i64 1, .int .i64 0] 3)) (h1'.below (below_alloc _ _)) (intsAt_alloc w2 [5, 1, 0] 3) (by unfold maxLen; simp))
  go_wp2_with fail
  refine S1.out.mono ?_; rintro e w3 ⟨rfl, hb3⟩
  have hb23 : Below w2.heap.size w2 w3 := (below_alloc w2 _).trans (hb3.mono (by simp))
  have hw3 := hw2.trans (hb23.mono hw2.size)
  have S2 := hid (SameInts_any [4, 1, 1] a2 (some ⟨w3.heap.size, 0, none⟩) c2 3 (w3.alloc (.cells #[.int .i64 4, .int .i64 1, .int .i64 1] 3)) ((h2.below hb23).below (below_alloc _ _)) (intsAt_alloc w3 [4, 1, 1] 3) (by unfold maxLen; simp))
  go_wp2_with fail
  refine S2.out.mono ?_; rintro e w4 ⟨rfl, hb4⟩
  go_wp2_with fail
  go_ret
  exact ⟨rfl, hw3.trans (((below_alloc w3 _).trans (hb4.mono (by simp))).mono hw3.size)⟩
end Go.Proofs.Ythankdfjkmfokaa
