/- Whether a test answers yes to a row. -/
import Derived.Test.YtphcgggohfbmfaaDoorIdx
namespace Go.Proofs.YtphcgggohfbmfaaDoor
open Go.RowKit Go.Maps
set_option linter.unusedSimpArgs false
set_option linter.unusedVariables false

theorem idxI_pos (f : Int → Bool) (xs : List Int) : ∀ k, k ≤ xs.length → (0 ≤ idxI f xs k ↔ ∃ i, i < xs.length ∧ xs.length - k ≤ i ∧ f (nth xs i) = true) := by
  intro k
  induction k with
  | zero => intro _; exact ⟨fun h => by unfold idxI at h; omega, fun ⟨i, h1, h2, _⟩ => by omega⟩
  | succ k ih =>
    intro hk
    unfold idxI
    by_cases h : f (nth xs (xs.length - (k + 1))) = true
    · rw [if_pos h]
      exact ⟨fun _ => ⟨xs.length - (k + 1), by omega, by omega, h⟩, fun _ => by omega⟩
    · rw [if_neg h, ih (by omega)]
      constructor
      · rintro ⟨i, h1, h2, h3⟩; exact ⟨i, h1, by omega, h3⟩
      · rintro ⟨i, h1, h2, h3⟩
        refine ⟨i, h1, ?_, h3⟩
        by_cases e : i = xs.length - (k + 1)
        · subst e; exact absurd h3 h
        · omega
def anyB (f : Int → Bool) (xs : List Int) : Bool := decide (0 ≤ idxI f xs xs.length)
theorem any_iff (f : Int → Bool) (xs : List Int) : anyB f xs = true ↔ ∃ i, i < xs.length ∧ f (nth xs i) = true := by
  unfold anyB
  rw [decide_eq_true_iff, idxI_pos f xs xs.length (Nat.le_refl _)]
  exact ⟨fun ⟨i, h1, _, h3⟩ => ⟨i, h1, h3⟩, fun ⟨i, h1, h3⟩ => ⟨i, h1, by omega, h3⟩⟩
set_option maxRecDepth 100000 in
theorem has_any (f : Int → Bool) (xs : List Int) (a : Option Addr) (cap : Nat) (W : World) (hI : IntsAt W a xs) (g : Nat) (b2 c2 : Array Value) (Hg : Hid (∀ w args, Sem.run Tryd.prog (callFunc g args) w = .ok (.enter g args) w))
    (HC : Hid (∀ w, Below W.heap.size W w → ∀ i, i < xs.length → Calls Tryd.prog g (b2.push (.int .i64 (nth xs i)) ++ c2) w fun e w' => e = .returned (.bool (f (nth xs i))) ∧ Below w.heap.size w w')) (hn : xs.length ≤ 60) :
    Calls Tryd.prog 15 #[.slice a xs.length cap, .func (.func g) b2 c2] W fun e w' => e = .returned (.bool (anyB f xs)) ∧ Below W.heap.size W w' := by
  have H := hid (index_any f xs a cap W hI g b2 c2 Hg HC hn)
  have HA : Hid (anyB f xs = decide (0 ≤ idxI f xs xs.length)) := hid rfl
  clear hI HC Hg
  generalize idxI f xs xs.length = k at *
  go_enter Tryd.func15, Tryd.ntmps15
  go_wp2_with fail
  refine H.out.mono ?_
  rintro e w1 ⟨rfl, hb⟩
  have HB := hid hb
  clear hb H
  go_wp2_with fail
  go_ret
  exact ⟨by rw [HA.out]; rfl, HB.out⟩
end Go.Proofs.YtphcgggohfbmfaaDoor
