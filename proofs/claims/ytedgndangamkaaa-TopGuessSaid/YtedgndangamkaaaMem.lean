/- Laws on memory that a call makes for itself, and that all texts of this seat use: a new row, whatever its length. -/
import Derived.Test.YtedgndangamkaaaBase
import Derived.Deep.OwnRows
import Derived.RegionTactic
import Derived.BigRegion
import Derived.BigQuiet
import Derived.Deep.QuietTactic
namespace Go.Proofs.Ytedgndangamkaaa
open Go.RowKit

theorem info3 : (Try.prog.info? 3).map (fun i => (i.zero, i.size, i.bytes)) = some (some (.int .i64 0), 1, 8) := by kernel_rfl
theorem below_alloc (w : World) (o : Obj) : Below w.heap.size w (w.alloc o) := (Below.refl _ _).alloc (Nat.le_refl _) _
/-- 'make([]T, n)', n a variable, T of one cell: what is known of the world behind it. -/
theorem wpList_make_int {P : Program} (w : World) {ops : Array Oper} {rest : List Oper} {o : Oper} {a : Act} {Q : Exit → Act → World → Prop}
    (hg : o.guard = none) (l c : Operand) (t : TypeId) (hop : o.op = Op.makeSlice t l c)
    (e : TypeId) (z : Value) (bytes : Nat) (ht : P.underlying t = some (.slice e)) (hinfo : (P.info? e).map (fun i => (i.zero, i.size, i.bytes)) = some (some z, 1, bytes)) (hz1 : z.cells = #[z])
    (kl kc : IntKind) (L C : Int) (n : Nat) (hl : a.eval l = .int kl L) (hc : a.eval c = .int kc C) (hL : L = (n : Int)) (hC : C = (n : Int)) (hbytes : bytes * n ≤ 281474976710656) (h63 : n ≤ 9223372036854775807)
    (hK : ∀ w', w'.rowIs w.heap.size e n (fun _ => z) → w'.heap.size = w.heap.size + 1 → Below w.heap.size w w' → wpList P ops Q rest (a.put o.dst (.slice (some ⟨w.heap.size, 0, none⟩) n n)) w') :
    wpList P ops Q (o :: rest) a w := by
  refine wpList_plain hg fun K hK' => ?_
  have hrun := run_make_row' (P := P) t e z bytes ht hinfo hz1 kl kc n hbytes h63 w
  subst hL
  subst hC
  unfold Oper.wp
  simp [execOp, hop, hl, hc, hrun, Result.andThen]
  exact hK' _ _ (hK _ (World.rowIs_made w z n e) (by simp) (below_alloc _ _))
theorem rowIs_below {w w' : World} {b : Nat} {t : TypeId} {n : Nat} {f : Nat → Value} (h : w.rowIs b t n f) {B : Nat} (hb : Below B w w') (hB : b < B) : w'.rowIs b t n f := h.of_block (hb.block b hB)
theorem keep2 {w w' w1 : World} {u v : Value} (h : w'.cell? ⟨w.heap.size, 0, none⟩ = some u ∧ w'.cell? ⟨w.heap.size, 1, none⟩ = some v ∧ w.heap.size < w'.heap.size ∧ Below w.heap.size w w') (hb : Below w'.heap.size w' w1) :
    w1.cell? ⟨w.heap.size, 0, none⟩ = some u ∧ w1.cell? ⟨w.heap.size, 1, none⟩ = some v ∧ w.heap.size < w1.heap.size ∧ Below w.heap.size w w1 :=
  ⟨by rw [hb.cell (p := ⟨w.heap.size, 0, none⟩) h.2.2.1]; exact h.1, by rw [hb.cell (p := ⟨w.heap.size, 1, none⟩) h.2.2.1]; exact h.2.1, Nat.lt_of_lt_of_le h.2.2.1 hb.size, h.2.2.2.trans (hb.mono (Nat.le_of_lt h.2.2.1))⟩
theorem keep2_new {W w1 : World} {u v : Value} {t : TypeId} (hb : Below (W.alloc (.cells #[u, v] t)).heap.size (W.alloc (.cells #[u, v] t)) w1) :
    w1.cell? ⟨W.heap.size, 0, none⟩ = some u ∧ w1.cell? ⟨W.heap.size, 1, none⟩ = some v ∧ W.heap.size < w1.heap.size ∧ Below W.heap.size W w1 :=
  keep2 ⟨by simp, by simp, by simp, below_alloc _ _⟩ hb
end Go.Proofs.Ytedgndangamkaaa
