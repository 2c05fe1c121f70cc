/- 'Best' and the document's: what they return. -/
import Derived.Test.YthankdfjkmfokaaKeeps
namespace Go.Proofs.Ythankdfjkmfokaa
open Go.RowKit
set_option linter.unusedSimpArgs false
set_option linter.unusedVariables false

noncomputable def bestF (xs : List Int) (n : Int) (A : Nat → Option Addr) (C : Nat → Nat) (k j : Nat) : Value := .slice (if j < k then A j else none) (if j < k then (divR xs j n).length else 0) (if j < k then C j else 0)
def AllBest (w : World) (xs : List Int) (n : Int) (A : Nat → Option Addr) (k : Nat) : Prop := ∀ j, j < k → IntsAt w (A j) (divR xs j n)
def BestPost (xs : List Int) (n : Int) (W : World) (e : Ending) (w' : World) : Prop :=
  ∃ (A : Nat → Option Addr) (C : Nat → Nat), e = .returned (.tuple #[.agg #[.slice (A 0) (divR xs 0 n).length (C 0), .slice (A 1) (divR xs 1 n).length (C 1), .slice (A 2) (divR xs 2 n).length (C 2)], .int .i64 (divE xs 0 n)]) ∧ AllBest w' xs n A 3 ∧ Below W.heap.size W w'
theorem best_kind {xs : List Int} {n : Int} (h : DivOK xs 0 n) {k : Nat} (hk : k < 3) : DivOK xs k n :=
  ⟨⟨h.1.1, by unfold KindOK; omega⟩, h.2⟩
theorem best_not {xs : List Int} {n : Int} (h : ¬ DivOK xs 0 n) (k : Int) : ¬ DivOK xs k n := fun h2 => h ⟨⟨h2.1.1, kind0⟩, h2.2⟩
theorem nil3 (w : World) : (w.alloc (.cells #[.slice none 0 0, .slice none 0 0, .slice none 0 0] 34)).rowIs w.heap.size 34 3 (fun _ => .slice none 0 0) := by
  refine World.rowIs_alloc w #[.slice none 0 0, .slice none 0 0, .slice none 0 0] 34 _ fun i hi => ?_
  have : i = 0 ∨ i = 1 ∨ i = 2 := by simp at hi; omega
  rcases this with rfl | rfl | rfl <;> rfl
def upd {α : Type} (f : Nat → α) (k : Nat) (v : α) (j : Nat) : α := if j = k then v else f j
theorem best_next {w1 : World} {xs : List Int} {n : Int} {A : Nat → Option Addr} {C : Nat → Nat} {k B : Nat} (hr : w1.rowIs B 34 3 (bestF xs n A C k)) (a1 : Option Addr) (c1 : Nat) :
    (w1.setCell ⟨B, k, none⟩ (.slice a1 (divR xs k n).length c1)).rowIs B 34 3 (bestF xs n (upd A k a1) (upd C k c1) (k + 1)) := by
  refine (hr.set k _).congr fun j hj => ?_
  unfold bestF upd
  by_cases e : j = k
  · subst e; simp
  · have h1 : (j < k + 1) = (j < k) := propext (by omega)
    simp only [if_neg e, h1]
theorem all_next {w w1 : World} {xs : List Int} {n : Int} {A : Nat → Option Addr} {k B : Nat} {a1 : Option Addr} {v : Value} (h : AllBest w xs n A k) (hb : Below w.heap.size w w1) (h1 : IntsAt w1 a1 (divR xs k n)) (hB : ∀ x o, IntsAt w1 x o → IntsAt (w1.setCell ⟨B, k, none⟩ v) x o) :
    AllBest (w1.setCell ⟨B, k, none⟩ v) xs n (upd A k a1) (k + 1) := by
  intro j hj
  unfold upd
  by_cases e : j = k
  · subst e; rw [if_pos rfl]; exact hB _ _ h1
  · rw [if_neg e]; exact hB _ _ ((h j (by omega)).below hb)
-- walks
theorem ints_apart {w : World} {B : Nat} {t : TypeId} {n : Nat} {f : Nat → Value} (hr : w.rowIs B t n f) (hf : ∀ j, j < n → ∀ z, f j ≠ .int .i64 z) {a : Option Addr} {xs : List Int} (h : IntsAt w a xs) (k : Nat) (v : Value) : IntsAt (w.setCell ⟨B, k, none⟩ v) a xs := by
  intro i hi
  obtain ⟨b, off, e, hlt, hc⟩ := h i hi
  have hne : B ≠ b := by
    intro e
    subst e
    by_cases hj : off + i < n
    · have := hr.cell hj
      rw [hc] at this
      exact hf _ hj (nth xs i) (by injection this with h; exact h.symm)
    · obtain ⟨c, hb, hn, _⟩ := hr
      rw [cell_of_row w B (off + i) c t (0, 0) hb] at hc
      rw [Array.getElem?_eq_none (by omega)] at hc
      cases hc
  exact ⟨b, off, e, by simpa [World.setCell] using hlt, by rw [World.cell?_of_block (w := w) (Below.heap_setCell w ⟨B, k, none⟩ v b (fun e => hne e.symm))]; exact hc⟩
theorem bestF_int (xs : List Int) (n : Int) (A : Nat → Option Addr) (C : Nat → Nat) (k j : Nat) (z : Int) : bestF xs n A C k j ≠ .int .i64 z := by unfold bestF; intro h; cases h
theorem bestF_not {xs : List Int} {n : Int} {A : Nat → Option Addr} {C : Nat → Nat} {k j : Nat} (h : ¬ j < k) : bestF xs n A C k j = .slice none 0 0 := by simp [bestF, h]
theorem bestF_in {xs : List Int} {n : Int} {A : Nat → Option Addr} {C : Nat → Nat} {k j : Nat} (h : j < k) : bestF xs n A C k j = .slice (A j) (divR xs j n).length (C j) := by simp [bestF, h]

set_option maxRecDepth 100000 in
set_option maxHeartbeats 2000000 in
theorem Best_any (xs : List Int) (a : Option Addr) (cap : Nat) (n : Int) (W : World) (hI : IntsAt W a xs) (hm : xs.length ≤ maxLen) :
    Calls Try.prog 27 #[.slice a xs.length cap, .int .i64 n] W (BestPost xs n W) := by
  have hb0 : Below W.heap.size W ((W.alloc (.cells #[.slice none 0 0, .slice none 0 0, .slice none 0 0] 34)).alloc (.cells #[.slice none 0 0, .slice none 0 0, .slice none 0 0] 34)) := (below_alloc _ _).alloc (by simp) _
  have r0 := (nil3 W).alloc (.cells #[.slice none 0 0, .slice none 0 0, .slice none 0 0] 34)
  have r1 := nil3 (W.alloc (.cells #[.slice none 0 0, .slice none 0 0, .slice none 0 0] 34))
  have hH : (W.alloc (.cells #[.slice none 0 0, .slice none 0 0, .slice none 0 0] 34)).heap.size = W.heap.size + 1 := by simp
  rw [hH] at r1
  clear hH
  by_cases hOK : DivOK xs 0 n
  · have E := hid (divE_yes hOK)
    have HD : Hid (∀ (k : Nat), k < 3 → ∀ w, IntsAt w a xs → Calls Try.prog 19 #[.slice a xs.length cap, .int .i64 n, .int .i64 k] w (IntsE (divR xs k n) 0 w)) := hid fun k hk w h => by
      have := Divide_any xs a cap n k w h hm
      rw [divE_yes (best_kind hOK hk)] at this
      exact this
    clear hOK
    go_enter Try.func27, Try.ntmps27
    go_wp2_with fail
    go_loopw [7, 8, 9, 10] (fun v7 v8 v9 v10 w' => ∃ (k : Nat) (A : Nat → Option Addr) (C : Nat → Nat), k ≤ 3 ∧ v10 = .int .i64 k ∧ w'.rowIs W.heap.size 34 3 (fun _ => .slice none 0 0) ∧ w'.rowIs (W.heap.size + 1) 34 3 (bestF xs n A C k) ∧ AllBest w' xs n A k ∧ Below W.heap.size W w') (fun _ _ _ v10 _ => 3 - (intOf v10).toNat)
    case atStart => exact ⟨0, fun _ => none, fun _ => 0, by omega, rfl, r0, r1.congr fun j hj => (bestF_not (Nat.not_lt_zero j)).symm, fun j hj => absurd hj (Nat.not_lt_zero j), hb0⟩
    case round =>
      clear r0 r1 hb0
      obtain ⟨k, A, C, hk, rfl, q0, q1, hA, hb⟩ := hrel
      have hBl := hb
      by_cases hlt : k < 3
      · have i1 : (0 : Int) ≤ (k : Int) := by omega
        have i2 : (k : Int) < 3 := by omega
        have hs0 := q0.lt
        have hs1 := q1.lt
        go_wp2_with fail
        refine (HD.out k hlt wr (hI.below hb)).mono ?_; rintro e w1 ⟨a1, c1, rfl, h1, hb1, _, _⟩
        have p0 := q0.of_block (hb1.block _ hs0)
        have p1 := q1.of_block (hb1.block _ hs1)
        have hA2 := all_next (v := .slice a1 (divR xs k n).length c1) (B := W.heap.size + 1) hA hb1 h1 (fun x o h => ints_apart p1 (fun j _ z => bestF_int _ _ _ _ _ _ z) h k _)
        have n1 := best_next p1 a1 c1
        have n0 := p0.setOther (a := ⟨W.heap.size + 1, k, none⟩) (by show W.heap.size ≠ W.heap.size + 1; omega) (.slice a1 (divR xs k n).length c1)
        have hbz := (hb.trans (hb1.mono hb.size)).setCell (p := ⟨W.heap.size + 1, k, none⟩) (by show W.heap.size ≤ W.heap.size + 1; omega) (.slice a1 (divR xs k n).length c1)
        have f1 := p1.frozen k
        have c1' := p1.cell hlt
        rw [bestF_not (Nat.lt_irrefl k)] at c1'
        clear p0 p1 hA hb1 h1 hb q0 q1
        generalize (divR xs k n).length = L at *
        go_wp2_with fail
        go_roundw
        case rel => exact ⟨k + 1, upd A k a1, upd C k c1, by omega, by go_num, n0, n1, hA2, hbz⟩
        case measure => simp [intOf]; omega
      · obtain rfl : k = 3 := by omega
        have z0 := q0.cell (i := 0) (by omega)
        have z1 := q0.cell (i := 1) (by omega)
        have z2 := q0.cell (i := 2) (by omega)
        have y0 := q0.frozen 0
        have y1 := q0.frozen 1
        have y2 := q0.frozen 2
        have x0 := q1.cell (i := 0) (by omega)
        have x1 := q1.cell (i := 1) (by omega)
        have x2 := q1.cell (i := 2) (by omega)
        rw [bestF_in (by omega)] at x0 x1 x2
        change _ = some (Value.slice (A 0) (divR xs 0 n).length (C 0)) at x0
        change _ = some (Value.slice (A 1) (divR xs 1 n).length (C 1)) at x1
        change _ = some (Value.slice (A 2) (divR xs 2 n).length (C 2)) at x2
        have s0 := ((q0.set 0 (.slice (A 0) (divR xs 0 n).length (C 0))).set 1 (.slice (A 1) (divR xs 1 n).length (C 1))).set 2 (.slice (A 2) (divR xs 2 n).length (C 2))
        have o0 := s0.cell (i := 0) (by omega)
        have o1 := s0.cell (i := 1) (by omega)
        have o2 := s0.cell (i := 2) (by omega)
        simp only [if_true, if_false, show (0 : Nat) ≠ 1 by omega, show (0 : Nat) ≠ 2 by omega, show (1 : Nat) ≠ 2 by omega, ite_true, ite_false] at o0 o1 o2
        have hA2 : AllBest (((wr.setCell ⟨W.heap.size, 0, none⟩ (.slice (A 0) (divR xs 0 n).length (C 0))).setCell ⟨W.heap.size, 1, none⟩ (.slice (A 1) (divR xs 1 n).length (C 1))).setCell ⟨W.heap.size, 2, none⟩ (.slice (A 2) (divR xs 2 n).length (C 2))) xs n A 3 := fun j hj => by
          have t1 := ints_apart q0 (fun j _ z => by intro h; cases h) (hA j hj) 0 (.slice (A 0) (divR xs 0 n).length (C 0))
          have t2 := ints_apart (q0.set 0 (.slice (A 0) (divR xs 0 n).length (C 0))) (fun j _ z => by show (if j = 0 then _ else _) ≠ _; split <;> (intro h; cases h)) t1 1 (.slice (A 1) (divR xs 1 n).length (C 1))
          exact ints_apart ((q0.set 0 (.slice (A 0) (divR xs 0 n).length (C 0))).set 1 (.slice (A 1) (divR xs 1 n).length (C 1))) (fun j _ z => by show (if j = 1 then _ else if j = 0 then _ else _) ≠ _; split <;> (try split) <;> (intro h; cases h)) t2 2 (.slice (A 2) (divR xs 2 n).length (C 2))
        have hbz := ((hb.setCell (p := ⟨W.heap.size, 0, none⟩) (Nat.le_refl _) (.slice (A 0) (divR xs 0 n).length (C 0))).setCell (p := ⟨W.heap.size, 1, none⟩) (Nat.le_refl _) (.slice (A 1) (divR xs 1 n).length (C 1))).setCell (p := ⟨W.heap.size, 2, none⟩) (Nat.le_refl _) (.slice (A 2) (divR xs 2 n).length (C 2))
        have Hz := hid (And.intro hA2 hbz)
        clear s0 hA hb q0 q1 hA2 hbz hBl HD
        go_wp2_with fail
        refine bodyPost_ret (v := .tuple #[.agg #[.slice (A 0) (divR xs 0 n).length (C 0), .slice (A 1) (divR xs 1 n).length (C 1), .slice (A 2) (divR xs 2 n).length (C 2)], .int .i64 0]) (by simp [results, Try.results27, go_sem, o0, o1, o2]) rfl ⟨A, C, by rw [E.out], Hz.out.1, Hz.out.2⟩
  · have E := hid (divE_no hOK)
    have HR := hid (fun k => divR_no (best_not hOK k))
    have HD := hid (Divide_any xs a cap n 0 _ (hI.below hb0) hm)
    rw [divE_no hOK, divR_no hOK] at HD
    clear hOK r1
    have hs0 := r0.lt
    go_enter Try.func27, Try.ntmps27
    go_wp2_with fail
    refine wp_loop_rounds 1 ?_
    rw [rounds_succ]
    go_wp2_with fail
    refine HD.out.mono ?_; rintro e w1 ⟨a1, c1, rfl, h1, hb1, _, _⟩
    have q0 := r0.of_block (hb1.block _ hs0)
    have z0 := q0.cell (i := 0) (by omega)
    have z1 := q0.cell (i := 1) (by omega)
    have z2 := q0.cell (i := 2) (by omega)
    have y0 := q0.frozen 0
    have y1 := q0.frozen 1
    have y2 := q0.frozen 2
    have s0 := ((q0.set 0 (.slice none 0 0)).set 1 (.slice none 0 0)).set 2 (.slice none 0 0)
    have o0 := s0.cell (i := 0) (by omega)
    have o1 := s0.cell (i := 1) (by omega)
    have o2 := s0.cell (i := 2) (by omega)
    simp only [if_true, if_false, show (0 : Nat) ≠ 1 by omega, show (0 : Nat) ≠ 2 by omega, show (1 : Nat) ≠ 2 by omega, ite_true, ite_false] at o0 o1 o2
    have hbz := (((hb0.trans (hb1.mono hb0.size)).setCell (p := ⟨W.heap.size, 0, none⟩) (Nat.le_refl _) (.slice none 0 0)).setCell (p := ⟨W.heap.size, 1, none⟩) (Nat.le_refl _) (.slice none 0 0)).setCell (p := ⟨W.heap.size, 2, none⟩) (Nat.le_refl _) (.slice none 0 0)
    clear s0 q0 r0 hb1 h1
    go_wp2_with fail
    refine bodyPost_ret (v := .tuple #[.agg #[.slice none 0 0, .slice none 0 0, .slice none 0 0], .int .i64 1]) (by simp [results, Try.results27, go_sem, o0, o1, o2]) rfl ⟨fun _ => none, fun _ => 0, by rw [E.out, HR.out, HR.out, HR.out]; rfl, fun j hj => by rw [HR.out]; exact fun i hi => absurd hi (Nat.not_lt_zero i), hbz⟩

set_option maxRecDepth 100000 in
set_option maxHeartbeats 2000000 in
theorem rBest_any (xs : List Int) (a : Option Addr) (cap : Nat) (n : Int) (W : World) (hI : IntsAt W a xs) (hm : xs.length ≤ maxLen) :
    Calls Try.prog 28 #[.slice a xs.length cap, .int .i64 n] W (BestPost xs n W) := by
  have hb0 : Below W.heap.size W ((W.alloc (.cells #[.slice none 0 0, .slice none 0 0, .slice none 0 0] 34)).alloc (.cells #[.slice none 0 0, .slice none 0 0, .slice none 0 0] 34)) := (below_alloc _ _).alloc (by simp) _
  have r0 := (nil3 W).alloc (.cells #[.slice none 0 0, .slice none 0 0, .slice none 0 0] 34)
  have r1 := nil3 (W.alloc (.cells #[.slice none 0 0, .slice none 0 0, .slice none 0 0] 34))
  have hH : (W.alloc (.cells #[.slice none 0 0, .slice none 0 0, .slice none 0 0] 34)).heap.size = W.heap.size + 1 := by simp
  rw [hH] at r1
  clear hH
  by_cases hOK : DivOK xs 0 n
  · have E := hid (divE_yes hOK)
    have HD : Hid (∀ (k : Nat), k < 3 → ∀ w, IntsAt w a xs → Calls Try.prog 20 #[.slice a xs.length cap, .int .i64 n, .int .i64 k] w (IntsE (divR xs k n) 0 w)) := hid fun k hk w h => by
      have := rDivide_any xs a cap n k w h hm
      rw [divE_yes (best_kind hOK hk)] at this
      exact this
    clear hOK
    go_enter Try.func28, Try.ntmps28
    go_wp2_with fail
    go_loopw [7, 8, 9] (fun v7 v8 v9 w' => ∃ (k : Nat) (A : Nat → Option Addr) (C : Nat → Nat), k ≤ 3 ∧ v7 = .int .i64 k ∧ w'.rowIs W.heap.size 34 3 (fun _ => .slice none 0 0) ∧ w'.rowIs (W.heap.size + 1) 34 3 (bestF xs n A C k) ∧ AllBest w' xs n A k ∧ Below W.heap.size W w') (fun v7 _ _ _ => 3 - (intOf v7).toNat)
    case atStart => exact ⟨0, fun _ => none, fun _ => 0, by omega, rfl, r0, r1.congr fun j hj => (bestF_not (Nat.not_lt_zero j)).symm, fun j hj => absurd hj (Nat.not_lt_zero j), hb0⟩
    case round =>
      clear r0 r1 hb0
      obtain ⟨k, A, C, hk, rfl, q0, q1, hA, hb⟩ := hrel
      have hBl := hb
      by_cases hlt : k < 3
      · have i1 : (0 : Int) ≤ (k : Int) := by omega
        have i2 : (k : Int) < 3 := by omega
        have hs0 := q0.lt
        have hs1 := q1.lt
        go_wp2_with fail
        refine (HD.out k hlt wr (hI.below hb)).mono ?_; rintro e w1 ⟨a1, c1, rfl, h1, hb1, _, _⟩
        have p0 := q0.of_block (hb1.block _ hs0)
        have p1 := q1.of_block (hb1.block _ hs1)
        have hA2 := all_next (v := .slice a1 (divR xs k n).length c1) (B := W.heap.size + 1) hA hb1 h1 (fun x o h => ints_apart p1 (fun j _ z => bestF_int _ _ _ _ _ _ z) h k _)
        have n1 := best_next p1 a1 c1
        have n0 := p0.setOther (a := ⟨W.heap.size + 1, k, none⟩) (by show W.heap.size ≠ W.heap.size + 1; omega) (.slice a1 (divR xs k n).length c1)
        have hbz := (hb.trans (hb1.mono hb.size)).setCell (p := ⟨W.heap.size + 1, k, none⟩) (by show W.heap.size ≤ W.heap.size + 1; omega) (.slice a1 (divR xs k n).length c1)
        have f1 := p1.frozen k
        have c1' := p1.cell hlt
        rw [bestF_not (Nat.lt_irrefl k)] at c1'
        clear p0 p1 hA hb1 h1 hb q0 q1
        generalize (divR xs k n).length = L at *
        go_wp2_with fail
        go_roundw
        case rel => exact ⟨k + 1, upd A k a1, upd C k c1, by omega, by go_num, n0, n1, hA2, hbz⟩
        case measure => simp [intOf]; omega
      · obtain rfl : k = 3 := by omega
        have z0 := q0.cell (i := 0) (by omega)
        have z1 := q0.cell (i := 1) (by omega)
        have z2 := q0.cell (i := 2) (by omega)
        have y0 := q0.frozen 0
        have y1 := q0.frozen 1
        have y2 := q0.frozen 2
        have x0 := q1.cell (i := 0) (by omega)
        have x1 := q1.cell (i := 1) (by omega)
        have x2 := q1.cell (i := 2) (by omega)
        rw [bestF_in (by omega)] at x0 x1 x2
        change _ = some (Value.slice (A 0) (divR xs 0 n).length (C 0)) at x0
        change _ = some (Value.slice (A 1) (divR xs 1 n).length (C 1)) at x1
        change _ = some (Value.slice (A 2) (divR xs 2 n).length (C 2)) at x2
        have s0 := ((q0.set 0 (.slice (A 0) (divR xs 0 n).length (C 0))).set 1 (.slice (A 1) (divR xs 1 n).length (C 1))).set 2 (.slice (A 2) (divR xs 2 n).length (C 2))
        have o0 := s0.cell (i := 0) (by omega)
        have o1 := s0.cell (i := 1) (by omega)
        have o2 := s0.cell (i := 2) (by omega)
        simp only [if_true, if_false, show (0 : Nat) ≠ 1 by omega, show (0 : Nat) ≠ 2 by omega, show (1 : Nat) ≠ 2 by omega, ite_true, ite_false] at o0 o1 o2
        have hA2 : AllBest (((wr.setCell ⟨W.heap.size, 0, none⟩ (.slice (A 0) (divR xs 0 n).length (C 0))).setCell ⟨W.heap.size, 1, none⟩ (.slice (A 1) (divR xs 1 n).length (C 1))).setCell ⟨W.heap.size, 2, none⟩ (.slice (A 2) (divR xs 2 n).length (C 2))) xs n A 3 := fun j hj => by
          have t1 := ints_apart q0 (fun j _ z => by intro h; cases h) (hA j hj) 0 (.slice (A 0) (divR xs 0 n).length (C 0))
          have t2 := ints_apart (q0.set 0 (.slice (A 0) (divR xs 0 n).length (C 0))) (fun j _ z => by show (if j = 0 then _ else _) ≠ _; split <;> (intro h; cases h)) t1 1 (.slice (A 1) (divR xs 1 n).length (C 1))
          exact ints_apart ((q0.set 0 (.slice (A 0) (divR xs 0 n).length (C 0))).set 1 (.slice (A 1) (divR xs 1 n).length (C 1))) (fun j _ z => by show (if j = 1 then _ else if j = 0 then _ else _) ≠ _; split <;> (try split) <;> (intro h; cases h)) t2 2 (.slice (A 2) (divR xs 2 n).length (C 2))
        have hbz := ((hb.setCell (p := ⟨W.heap.size, 0, none⟩) (Nat.le_refl _) (.slice (A 0) (divR xs 0 n).length (C 0))).setCell (p := ⟨W.heap.size, 1, none⟩) (Nat.le_refl _) (.slice (A 1) (divR xs 1 n).length (C 1))).setCell (p := ⟨W.heap.size, 2, none⟩) (Nat.le_refl _) (.slice (A 2) (divR xs 2 n).length (C 2))
        have Hz := hid (And.intro hA2 hbz)
        clear s0 hA hb q0 q1 hA2 hbz hBl HD
        go_wp2_with fail
        refine bodyPost_ret (v := .tuple #[.agg #[.slice (A 0) (divR xs 0 n).length (C 0), .slice (A 1) (divR xs 1 n).length (C 1), .slice (A 2) (divR xs 2 n).length (C 2)], .int .i64 0]) (by simp [results, Try.results28, go_sem, o0, o1, o2]) rfl ⟨A, C, by rw [E.out], Hz.out.1, Hz.out.2⟩
  · have E := hid (divE_no hOK)
    have HR := hid (fun k => divR_no (best_not hOK k))
    have HD := hid (rDivide_any xs a cap n 0 _ (hI.below hb0) hm)
    rw [divE_no hOK, divR_no hOK] at HD
    clear hOK r1
    have hs0 := r0.lt
    go_enter Try.func28, Try.ntmps28
    go_wp2_with fail
    refine wp_loop_rounds 1 ?_
    rw [rounds_succ]
    go_wp2_with fail
    refine HD.out.mono ?_; rintro e w1 ⟨a1, c1, rfl, h1, hb1, _, _⟩
    have q0 := r0.of_block (hb1.block _ hs0)
    have z0 := q0.cell (i := 0) (by omega)
    have z1 := q0.cell (i := 1) (by omega)
    have z2 := q0.cell (i := 2) (by omega)
    have y0 := q0.frozen 0
    have y1 := q0.frozen 1
    have y2 := q0.frozen 2
    have s0 := ((q0.set 0 (.slice none 0 0)).set 1 (.slice none 0 0)).set 2 (.slice none 0 0)
    have o0 := s0.cell (i := 0) (by omega)
    have o1 := s0.cell (i := 1) (by omega)
    have o2 := s0.cell (i := 2) (by omega)
    simp only [if_true, if_false, show (0 : Nat) ≠ 1 by omega, show (0 : Nat) ≠ 2 by omega, show (1 : Nat) ≠ 2 by omega, ite_true, ite_false] at o0 o1 o2
    have hbz := (((hb0.trans (hb1.mono hb0.size)).setCell (p := ⟨W.heap.size, 0, none⟩) (Nat.le_refl _) (.slice none 0 0)).setCell (p := ⟨W.heap.size, 1, none⟩) (Nat.le_refl _) (.slice none 0 0)).setCell (p := ⟨W.heap.size, 2, none⟩) (Nat.le_refl _) (.slice none 0 0)
    clear s0 q0 r0 hb1 h1
    go_wp2_with fail
    refine bodyPost_ret (v := .tuple #[.agg #[.slice none 0 0, .slice none 0 0, .slice none 0 0], .int .i64 1]) (by simp [results, Try.results28, go_sem, o0, o1, o2]) rfl ⟨fun _ => none, fun _ => 0, by rw [E.out, HR.out, HR.out, HR.out]; rfl, fun j hj => by rw [HR.out]; exact fun i hi => absurd hi (Nat.not_lt_zero i), hbz⟩
end Go.Proofs.Ythankdfjkmfokaa
