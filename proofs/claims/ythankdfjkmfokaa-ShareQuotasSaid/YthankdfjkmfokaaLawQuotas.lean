/- 'ShareQuotas' returns true: the walk. -/
import Derived.Test.YthankdfjkmfokaaKnown
import Derived.Test.YthankdfjkmfokaaQuota
namespace Go.Proofs.Ythankdfjkmfokaa
open Go.RowKit
set_option linter.unusedSimpArgs false
set_option linter.unusedVariables false
set_option maxRecDepth 100000 in
set_option maxHeartbeats 1000000 in
theorem lawQuotas (W : World) (a : Option Addr) (xs : List Int) (cap : Nat) (hI : IntsAt W a xs) (hm : xs.length ≤ maxLen) (_hw : ∀ i, i < xs.length → (Lit.int .i64 (nth xs i)).wf = true)
    (n : Int) (_wn : (Lit.int .i64 n).wf = true) (s : Int) (_ws : (Lit.int .i64 s).wf = true) :
    Calls Try.prog 8 #[.slice a xs.length cap, .int .i64 n, .int .i64 s] W fun e w' => e = .returned (.bool true) ∧ Below W.heap.size W w' := by
  clear _hw _wn _ws
  have HL := hid (fun W => Long_any xs a cap W hm)
  by_cases h60 : 60 < xs.length
  · rw [decide_eq_true h60] at HL
    go_enter Try.func8, Try.ntmps8
    go_wp2_with fail
    refine (HL.out _).mono ?_; rintro e w1 ⟨rfl, rfl⟩
    go_wp2_with fail
    refine (known_true _).mono ?_; rintro e w' ⟨rfl, hb⟩
    go_wp2_with fail
    go_ret
    exact ⟨rfl, hb⟩
  · rw [decide_eq_false h60] at HL
    have hx1 : xs.length ≤ 1000 := by omega
    go_enter Try.func8, Try.ntmps8
    go_wp2_with fail
    refine (HL.out _).mono ?_; rintro e w1 ⟨rfl, rfl⟩
    go_wp2_with fail
    refine (Quota_any xs a cap n s _ hI hx1).mono ?_; rintro e w1 ⟨rfl, hb1⟩
    have hbA := hb1.alloc hb1.size (.cells #[.int .i64 (quoN xs n s), .int .i64 (quoD xs n s)] 44)
    go_wp2_with fail
    refine (rQuota_any xs a cap n s _ (hI.below hbA) hx1).mono ?_; rintro e w2 ⟨rfl, hb2⟩
    have k0 : w2.cell? ⟨w1.heap.size, 0, none⟩ = some (.int .i64 (quoN xs n s)) := (hb2.cell (p := ⟨w1.heap.size, 0, none⟩) (by simp)).trans (by simp)
    have k1 : w2.cell? ⟨w1.heap.size, 1, none⟩ = some (.int .i64 (quoD xs n s)) := (hb2.cell (p := ⟨w1.heap.size, 1, none⟩) (by simp)).trans (by simp)
    have hbz := hbA.trans (hb2.mono hbA.size)
    have hbz2 := hbz.alloc hbz.size (.cells #[.int .i64 (quoN xs n s), .int .i64 (quoD xs n s)] 44)
    have k3 := ((below_alloc w2 (.cells #[.int .i64 (quoN xs n s), .int .i64 (quoD xs n s)] 44)).cell (p := ⟨w1.heap.size, 0, none⟩) (by have := hb2.size; simp at this; exact this)).trans k0
    have k4 := ((below_alloc w2 (.cells #[.int .i64 (quoN xs n s), .int .i64 (quoD xs n s)] 44)).cell (p := ⟨w1.heap.size, 1, none⟩) (by have := hb2.size; simp at this; exact this)).trans k1
    clear HL hb1 hb2 hbA hbz k0 k1
    generalize quoN xs n s = N at *
    generalize quoD xs n s = D at *
    generalize quoE xs n s = E at *
    go_wp2_with fail
    refine (known_true _).mono ?_; rintro e w' ⟨rfl, hb⟩
    go_wp2_with fail
    go_ret
    exact ⟨rfl, hbz2.trans (hb.mono hbz2.size)⟩
end Go.Proofs.Ythankdfjkmfokaa
