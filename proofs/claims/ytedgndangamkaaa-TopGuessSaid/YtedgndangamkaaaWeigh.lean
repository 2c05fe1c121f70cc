/- 'fresh', 'says', 'learn': what they return, and what they write. -/
import Derived.Test.YtedgndangamkaaaGameLaw
namespace Go.Proofs.Ytedgndangamkaaa
open Go.RowKit
set_option linter.unusedSimpArgs false
set_option linter.unusedVariables false

theorem row_new8 (w : World) (T : Nat → Int) (t : TypeId) : (w.alloc (.cells #[.int .i64 (T 0), .int .i64 (T 1), .int .i64 (T 2), .int .i64 (T 3), .int .i64 (T 4), .int .i64 (T 5), .int .i64 (T 6), .int .i64 (T 7)] t)).rowIs w.heap.size t 8 (fun a => .int .i64 (T a)) := by
  refine World.rowIs_alloc w #[.int .i64 (T 0), .int .i64 (T 1), .int .i64 (T 2), .int .i64 (T 3), .int .i64 (T 4), .int .i64 (T 5), .int .i64 (T 6), .int .i64 (T 7)] t _ fun i hi => ?_
  have : i = 0 ∨ i = 1 ∨ i = 2 ∨ i = 3 ∨ i = 4 ∨ i = 5 ∨ i = 6 ∨ i = 7 := by simp at hi; omega
  rcases this with rfl | rfl | rfl | rfl | rfl | rfl | rfl | rfl <;> rfl
set_option maxHeartbeats 1000000 in
theorem fresh_any (W : World) : Calls Try.prog 79 #[] W fun e w' => e = .returned (.agg #[.int .i64 16777216, .int .i64 16777216, .int .i64 16777216, .int .i64 16777216, .int .i64 16777216, .int .i64 16777216, .int .i64 16777216, .int .i64 16777216]) ∧ Below W.heap.size W w' := by
  go_enter Try.func79, Try.ntmps79
  go_wp2
  go_loopw [3] (fun v3 w' => ∃ k : Nat, k ≤ 8 ∧ v3 = .int .i64 k ∧ w'.rowIs W.heap.size 79 8 (fun _ => .int .i64 0) ∧ w'.rowIs (W.heap.size + 1) 79 8 (fun a => .int .i64 (if a < k then 16777216 else 0)) ∧ Below W.heap.size W w') (fun v3 _ => 8 - (intOf v3).toNat)
  case atStart =>
    have r : ((W.alloc (.cells #[.int .i64 0, .int .i64 0, .int .i64 0, .int .i64 0, .int .i64 0, .int .i64 0, .int .i64 0, .int .i64 0] 79)).alloc (.cells #[.int .i64 0, .int .i64 0, .int .i64 0, .int .i64 0, .int .i64 0, .int .i64 0, .int .i64 0, .int .i64 0] 79)).rowIs (W.alloc (.cells #[.int .i64 0, .int .i64 0, .int .i64 0, .int .i64 0, .int .i64 0, .int .i64 0, .int .i64 0, .int .i64 0] 79)).heap.size 79 8 (fun _ => .int .i64 0) := row_new8 _ (fun _ => 0) 79
    rw [World.size_alloc] at r
    exact ⟨0, by omega, rfl, (row_new8 W (fun _ => 0) 79).alloc _, r.congr fun i _ => by simp, ((below_alloc _ _).alloc (by simp) _)⟩
  case round =>
    obtain ⟨k, hk, rfl, hr0, hr, hb⟩ := hrel
    by_cases hlt : k < 8
    · have c := hr.cell hlt
      have f := hr.frozen k
      go_wp2
      go_roundw
      case rel =>
        refine ⟨k + 1, by omega, by go_num, hr0.setOther (by simp) _, (hr.set k _).congr fun j _ => ?_, hb.setCell (by simp) _⟩
        by_cases e : j = k
        · subst e; simp
        · rw [if_neg e]
          by_cases h1 : j < k
          · rw [if_pos h1, if_pos (by omega)]
          · rw [if_neg h1, if_neg (by omega)]
      case measure => simp [intOf]; omega
    · obtain rfl : k = 8 := by omega
      have c0 := hr.cell (i := 0) (by omega)
      have d0 := hr0.cell (i := 0) (by omega)
      have f0 := hr0.frozen 0
      have c1 := hr.cell (i := 1) (by omega)
      have d1 := hr0.cell (i := 1) (by omega)
      have f1 := hr0.frozen 1
      have c2 := hr.cell (i := 2) (by omega)
      have d2 := hr0.cell (i := 2) (by omega)
      have f2 := hr0.frozen 2
      have c3 := hr.cell (i := 3) (by omega)
      have d3 := hr0.cell (i := 3) (by omega)
      have f3 := hr0.frozen 3
      have c4 := hr.cell (i := 4) (by omega)
      have d4 := hr0.cell (i := 4) (by omega)
      have f4 := hr0.frozen 4
      have c5 := hr.cell (i := 5) (by omega)
      have d5 := hr0.cell (i := 5) (by omega)
      have f5 := hr0.frozen 5
      have c6 := hr.cell (i := 6) (by omega)
      have d6 := hr0.cell (i := 6) (by omega)
      have f6 := hr0.frozen 6
      have c7 := hr.cell (i := 7) (by omega)
      have d7 := hr0.cell (i := 7) (by omega)
      have f7 := hr0.frozen 7
      simp only [show (0 : Nat) < 8 by omega, show (1 : Nat) < 8 by omega, show (2 : Nat) < 8 by omega, show (3 : Nat) < 8 by omega, show (4 : Nat) < 8 by omega, show (5 : Nat) < 8 by omega, show (6 : Nat) < 8 by omega, show (7 : Nat) < 8 by omega, if_true] at c0 c1 c2 c3 c4 c5 c6 c7
      go_wp2
      refine bodyPost_ret (v := .agg #[.int .i64 16777216, .int .i64 16777216, .int .i64 16777216, .int .i64 16777216, .int .i64 16777216, .int .i64 16777216, .int .i64 16777216, .int .i64 16777216]) (by simp [results, Try.results79, go_sem, d0, d1, d2, d3, d4, d5, d6, d7]) rfl ⟨rfl, ?_⟩
      exact ((((((((hb.setCell (p := ⟨W.heap.size, 0, none⟩) (Nat.le_refl _) _).setCell (p := ⟨W.heap.size, 1, none⟩) (Nat.le_refl _) _).setCell (p := ⟨W.heap.size, 2, none⟩) (Nat.le_refl _) _).setCell (p := ⟨W.heap.size, 3, none⟩) (Nat.le_refl _) _).setCell (p := ⟨W.heap.size, 4, none⟩) (Nat.le_refl _) _).setCell (p := ⟨W.heap.size, 5, none⟩) (Nat.le_refl _) _).setCell (p := ⟨W.heap.size, 6, none⟩) (Nat.le_refl _) _).setCell (p := ⟨W.heap.size, 7, none⟩) (Nat.le_refl _) _)

/-! ### says -/
set_option maxHeartbeats 1000000 in
theorem says_any (T : Nat → Int) (a : Option Addr) (bs : List Bool) (cap : Nat) (W : World) (hB : BoolsAt W a bs) (hl : bs.length ≤ 8) (hT : ∀ i, i < 8 → 0 ≤ T i ∧ T i ≤ 16777216) :
    Calls Try.prog 72 #[.agg #[.int .i64 (T 0), .int .i64 (T 1), .int .i64 (T 2), .int .i64 (T 3), .int .i64 (T 4), .int .i64 (T 5), .int .i64 (T 6), .int .i64 (T 7)], .slice a bs.length cap] W fun e w' => e = .returned (.bool (decide (0 < sgn T bs bs.length))) ∧ Below W.heap.size W w' := by
  have HT := hid hT
  clear hT
  go_enter Try.func72, Try.ntmps72
  go_wp2
  go_loop [5, 10] (fun v5 v10 => ∃ k : Nat, k ≤ bs.length ∧ v5 = .int .i64 (sgn T bs k) ∧ v10 = .int .i64 k) (fun _ v10 => bs.length - (intOf v10).toNat)
  case atStart => exact ⟨0, by omega, rfl, rfl⟩
  case round =>
    obtain ⟨k, hk, rfl, rfl⟩ := hrel
    have hb := sgn_bd T bs k fun i hi => HT.out i (by omega)
    by_cases hlt : k < bs.length
    · obtain ⟨b, off, rfl, hbl, c1⟩ := hB k hlt
      have c2 := (row_new8 W T 79).cell (i := k) (by omega)
      have h2 := HT.out k (by omega)
      cases hx : bth bs k
      · go_wp2
        go_round
        case rel => exact ⟨k + 1, by omega, by simp [sgn, hx], by go_num⟩
        case measure => simp [intOf]; omega
      · go_wp2
        go_round
        case rel => exact ⟨k + 1, by omega, by simp [sgn, hx], by go_num⟩
        case measure => simp [intOf]; omega
    · obtain rfl : k = bs.length := by omega
      go_wp2
      go_ret
      exact ⟨rfl, below_alloc _ _⟩
end Go.Proofs.Ytedgndangamkaaa
