/- What a slice of ints holds; sums; small laws that all texts of this seat use. -/
import Derived.Test.YtphcgggohfbmfaaDoorProg
import Derived.WalkKit
import Derived.WalkLawsBesides
import Derived.Handy
namespace Go.Proofs.YtphcgggohfbmfaaDoor
open Go.RowKit

theorem hid {p : Prop} (h : p) : Hid p := h
def nth (xs : List Int) (i : Nat) : Int := xs.getD i 0
/-- The slice at a (its length is the list's) holds the numbers xs. -/
def IntsAt (w : World) (a : Option Addr) (xs : List Int) : Prop :=
  ∀ i, i < xs.length → ∃ b off, a = some ⟨b, off, none⟩ ∧ b < w.heap.size ∧ w.cell? ⟨b, off + i, none⟩ = some (.int .i64 (nth xs i))
theorem IntsAt.below {w w' : World} {a : Option Addr} {xs : List Int} (h : IntsAt w a xs) (hb : Below w.heap.size w w') : IntsAt w' a xs := by
  intro i hi
  obtain ⟨b, off, e, hlt, hc⟩ := h i hi
  exact ⟨b, off, e, Nat.lt_of_lt_of_le hlt hb.size, by rw [hb.cell (p := ⟨b, off + i, none⟩) hlt]; exact hc⟩
theorem intsAt_alloc (w : World) (xs : List Int) (t : TypeId) : IntsAt (w.alloc (.cells (xs.map (Value.int .i64)).toArray t)) (some ⟨w.heap.size, 0, none⟩) xs := by
  intro i hi
  refine ⟨w.heap.size, 0, rfl, by simp, ?_⟩
  rw [cell_of_row _ w.heap.size (0 + i) _ t (0, 0) (heap_alloc_new w _)]
  simp [nth, List.getD, hi]
def sumTo (f : Nat → Int) : Nat → Int
  | 0 => 0
  | k + 1 => sumTo f k + f k
theorem sumTo_bd (f : Nat → Int) (M : Int) (k : Nat) (h : ∀ d, d < k → 0 ≤ f d ∧ f d ≤ M) : 0 ≤ sumTo f k ∧ sumTo f k ≤ k * M := by
  induction k with
  | zero => simp [sumTo]
  | succ k ih =>
    have h1 := ih fun d hd => h d (by omega)
    have h2 := h k (by omega)
    simp only [sumTo]
    have e : ((k + 1 : Nat) : Int) * M = k * M + M := by push_cast; rw [Int.add_mul]; omega
    rw [e]; omega
theorem sumTo_congr (f g : Nat → Int) (k : Nat) (h : ∀ d, d < k → f d = g d) : sumTo f k = sumTo g k := by
  induction k with
  | zero => rfl
  | succ k ih => simp only [sumTo]; rw [ih fun d hd => h d (by omega), h k (by omega)]
theorem mul_bd {a b A B : Int} (h1 : 0 ≤ a) (h2 : a ≤ A) (h3 : 0 ≤ b) (h4 : b ≤ B) : 0 ≤ a * b ∧ a * b ≤ A * B :=
  ⟨Int.mul_nonneg h1 h3, Int.le_trans (Int.mul_le_mul_of_nonneg_right h2 h3) (Int.mul_le_mul_of_nonneg_left h4 (by omega))⟩
theorem w64 {x : Int} (h1 : -4611686018427387904 ≤ x) (h2 : x ≤ 4611686018427387904) : wrap64 x = x := by unfold wrap64; omega
theorem ret_int {k : IntKind} {a b : Int} (h : a = b) : Ending.returned (.int k a) = .returned (.int k b) := by rw [h]
end Go.Proofs.YtphcgggohfbmfaaDoor
