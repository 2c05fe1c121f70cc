/- 'learn': what it writes. -/
import Derived.Test.YtedgndangamkaaaWeigh
namespace Go.Proofs.Ytedgndangamkaaa
open Go.RowKit
set_option linter.unusedSimpArgs false
set_option linter.unusedVariables false

theorem but_drewN {a w : World} {row : Option Nat} (h : a.grownBy w row) (n : Nat) : a.grownBy (w.drewN n) row := ⟨h.os, h.tape, h.output, h.size, h.block⟩
theorem but_drew {a w : World} {row : Option Nat} (h : a.grownBy w row) : a.grownBy w.drew row := ⟨h.os, h.tape, h.output, h.size, h.block⟩
theorem but_below {a w w' : World} {row : Option Nat} (h : a.grownBy w row) (hb : Below w.heap.size w w') : a.grownBy w' row :=
  ⟨hb.os.trans h.os, hb.tape.trans h.tape, hb.output.trans h.output, Nat.le_trans h.size hb.size, fun k hk hne => (hb.block k (Nat.lt_of_lt_of_le hk h.size)).trans (h.block k hk hne)⟩
theorem but_store {a w : World} {g : Nat} (h : a.grownBy w (some g)) (i : Nat) (u : Value) : a.grownBy (w.setCell ⟨g, i, none⟩ u) (some g) :=
  ⟨h.os, h.tape, h.output, by simpa [World.setCell] using h.size, fun k hk hne => (Below.heap_setCell w ⟨g, i, none⟩ u k (fun e => hne (by rw [e]))).trans (h.block k hk hne)⟩
theorem but_cell {a w : World} {g : Nat} (h : a.grownBy w (some g)) (p : Addr) (hlt : p.block < a.heap.size) (hne : p.block ≠ g) : w.cell? p = a.cell? p :=
  World.cell?_of_block (w := a) (h.block p.block hlt (fun e => hne (by injection e)))
/-- The weights behind the first k pieces of advice. -/
def lrn (T : Nat → Int) (bs : List Bool) (cm : Bool) (k : Nat) (a : Nat) : Int := if a < k ∧ (bth bs a == cm) = false then T a / 2 else T a
theorem lrn_zero (T : Nat → Int) (bs : List Bool) (cm : Bool) (a : Nat) : lrn T bs cm 0 a = T a := by simp [lrn]
theorem lrn_skip (T : Nat → Int) (bs : List Bool) (cm : Bool) (k : Nat) (h : (bth bs k == cm) = true) (a : Nat) : lrn T bs cm (k + 1) a = lrn T bs cm k a := by
  unfold lrn
  by_cases e : a = k
  · subst e; rw [h]; simp
  · have h3 : a < k + 1 ↔ a < k := by omega
    simp only [h3]
theorem lrn_step (T : Nat → Int) (bs : List Bool) (cm : Bool) (k : Nat) (h : (bth bs k == cm) = false) (a : Nat) : lrn T bs cm (k + 1) a = if a = k then T k / 2 else lrn T bs cm k a := by
  unfold lrn
  by_cases e : a = k
  · subst e; rw [h]; simp
  · rw [if_neg e]
    have h3 : a < k + 1 ↔ a < k := by omega
    simp only [h3]
theorem lrn_at (T : Nat → Int) (bs : List Bool) (cm : Bool) (k : Nat) : lrn T bs cm k k = T k := by simp [lrn]

set_option maxHeartbeats 1000000 in
theorem learn_any (tb : Nat) (T : Nat → Int) (a : Option Addr) (bs : List Bool) (cap : Nat) (cm : Bool) (W : World) (hB : BoolsAt W a bs) (hl : bs.length ≤ 8) (hT : ∀ i, i < 8 → 0 ≤ T i ∧ T i ≤ 16777216)
    (hrow : W.rowIs tb 79 8 (fun i => .int .i64 (T i))) (hne : ∀ b off, a = some ⟨b, off, none⟩ → b ≠ tb) :
    Calls Try.prog 80 #[.pointer (some ⟨tb, 0, none⟩), .agg #[.slice a bs.length cap, .bool cm]] W fun e w' => e = .returned (.tuple #[]) ∧ w'.rowIs tb 79 8 (fun i => .int .i64 (lrn T bs cm bs.length i)) ∧ W.grownBy w' (some tb) := by
  have HT := hid hT
  have Hne := hid hne
  have hlt := hrow.lt
  clear hT hne
  go_enter Try.func80, Try.ntmps80
  go_wp2
  go_loopw [9] (fun v9 w' => ∃ k : Nat, k ≤ bs.length ∧ v9 = .int .i64 k ∧ w'.rowIs tb 79 8 (fun i => .int .i64 (lrn T bs cm k i)) ∧ (W.alloc (.cells #[.slice a bs.length cap, .bool cm] 49)).grownBy w' (some tb)) (fun v9 _ => bs.length - (intOf v9).toNat)
  case atStart => exact ⟨0, by omega, rfl, (hrow.alloc _).congr fun i _ => by rw [lrn_zero], World.grownBy.refl _ _⟩
  case round =>
    obtain ⟨k, hk, rfl, hr, hg⟩ := hrel
    have hx1 := but_cell hg ⟨W.heap.size, 1, none⟩ (by simp) (by simp; omega)
    have c2 : wr.cell? ⟨W.heap.size, 1, none⟩ = some (.bool cm) := by rw [hx1]; simp
    clear hx1
    by_cases hltk : k < bs.length
    · obtain ⟨b, off, rfl, hbl, c1⟩ := hB k hltk
      have hbt := Hne.out b off rfl
      have c1' : wr.cell? ⟨b, off + k, none⟩ = some (.bool (bth bs k)) := by
        rw [but_cell hg ⟨b, off + k, none⟩ (by simp; omega) hbt, (below_alloc W _).cell (p := ⟨b, off + k, none⟩) hbl]
        exact c1
      clear c1
      have c3 := hr.cell (i := k) (by omega)
      rw [lrn_at] at c3
      have f3 := hr.frozen k
      have h2 := HT.out k (by omega)
      cases hx : (bth bs k == cm)
      · have S := hid (lrn_step T bs cm k hx)
        go_wp2
        go_region
        go_wp2
        go_roundw
        case rel =>
          refine ⟨k + 1, by omega, by go_num, ((hr.set k _).drew).congr fun i _ => ?_, but_drew (but_store hg k _)⟩
          rw [S.out]
          split <;> rfl
        case measure => simp [intOf]; omega
      · have S := hid (lrn_skip T bs cm k hx)
        go_wp2
        go_roundw
        case rel => exact ⟨k + 1, by omega, by go_num, hr.congr fun i _ => by rw [S.out], hg⟩
        case measure => simp [intOf]; omega
    · obtain rfl : k = bs.length := by omega
      go_wp2
      go_end0
      exact ⟨rfl, hr, ⟨hg.os, hg.tape, hg.output, Nat.le_trans (by simp) hg.size, fun k hk hne => (hg.block k (by simp; omega) hne).trans (Below.heap_alloc _ _ _ hk)⟩⟩
end Go.Proofs.Ytedgndangamkaaa
