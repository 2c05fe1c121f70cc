/- 'ShareKeeps' returns true: the walk. -/
import Derived.Test.YthankdfjkmfokaaKnown
import Derived.Test.YthankdfjkmfokaaKeeps
namespace Go.Proofs.Ythankdfjkmfokaa
open Go.RowKit
set_option linter.unusedSimpArgs false
set_option linter.unusedVariables false
theorem undrewN {w w1 : World} {n : Nat} (h : Below (w.drewN n).heap.size (w.drewN n) w1) : Below w.heap.size w w1 := ⟨h.os, h.tape, h.output, h.size, h.block⟩
set_option maxRecDepth 100000 in
set_option maxHeartbeats 1000000 in
theorem lawKeeps (W : World) (a : Option Addr) (xs : List Int) (cap : Nat) (hI : IntsAt W a xs) (hm : xs.length ≤ maxLen) (_hw : ∀ i, i < xs.length → (Lit.int .i64 (nth xs i)).wf = true)
    (a2 : Option Addr) (ms : List Int) (cap2 : Nat) (h2 : IntsAt W a2 ms) (hm2 : ms.length ≤ maxLen) (_hw2 : ∀ i, i < ms.length → (Lit.int .i64 (nth ms i)).wf = true) :
    Calls Try.prog 6 #[.slice a xs.length cap, .slice a2 ms.length cap2] W fun e w' => e = .returned (.bool true) ∧ Below W.heap.size W w' := by
  clear _hw _hw2
  have HL := hid (fun W => Long_any xs a cap W hm)
  have HL2 := hid (fun W => Long_any ms a2 cap2 W hm2)
  by_cases h60 : 60 < xs.length
  · rw [decide_eq_true h60] at HL
    go_enter Try.func6, Try.ntmps6
    go_wp2_with fail
    refine (HL.out _).mono ?_; rintro e w1 ⟨rfl, rfl⟩
    go_wp2_with fail
    refine (known_true _).mono ?_; rintro e w' ⟨rfl, hb⟩
    go_wp2_with fail
    go_ret
    exact ⟨rfl, hb⟩
  · rw [decide_eq_false h60] at HL
    by_cases h61 : 60 < ms.length
    · rw [decide_eq_true h61] at HL2
      go_enter Try.func6, Try.ntmps6
      go_wp2_with fail
      refine (HL.out _).mono ?_; rintro e w1 ⟨rfl, rfl⟩
      go_wp2_with fail
      refine (HL2.out _).mono ?_; rintro e w1 ⟨rfl, rfl⟩
      go_wp2_with fail
      refine (known_true _).mono ?_; rintro e w' ⟨rfl, hb⟩
      go_wp2_with fail
      go_ret
      exact ⟨rfl, hb⟩
    · rw [decide_eq_false h61] at HL2
      have hx1 : xs.length ≤ 1000 := by omega
      go_enter Try.func6, Try.ntmps6
      go_wp2_with fail
      refine (HL.out _).mono ?_; rintro e w1 ⟨rfl, rfl⟩
      go_wp2_with fail
      refine (HL2.out _).mono ?_; rintro e w1 ⟨rfl, rfl⟩
      go_wp2_with fail
      refine (Keeps_any xs ms a a2 cap cap2 _ hI h2 hx1 hm2).mono ?_; rintro e w1 ⟨rfl, rfl⟩
      go_wp2_with fail
      refine (rKeeps_any xs ms a a2 cap cap2 _ hI h2 hx1 hm2).mono ?_; rintro e w2 ⟨rfl, n, rfl⟩
      clear HL HL2
      generalize kepB xs ms = c
      generalize havE xs ms 0 = E
      go_wp2_with fail
      refine (known_true _).mono ?_; rintro e w' ⟨rfl, hb⟩
      go_wp2_with fail
      go_ret
      exact ⟨rfl, undrewN hb⟩
end Go.Proofs.Ythankdfjkmfokaa
