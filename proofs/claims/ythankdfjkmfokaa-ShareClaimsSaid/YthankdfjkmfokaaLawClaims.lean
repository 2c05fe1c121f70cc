/- 'ShareClaims' returns true: the walk. -/
import Derived.Test.YthankdfjkmfokaaKnown
import Derived.Test.YthankdfjkmfokaaClaims
namespace Go.Proofs.Ythankdfjkmfokaa
open Go.RowKit
set_option linter.unusedSimpArgs false
set_option linter.unusedVariables false
set_option maxRecDepth 100000 in
set_option maxHeartbeats 1000000 in
theorem lawClaims (W : World) (a : Option Addr) (xs : List Int) (cap : Nat) (hI : IntsAt W a xs) (hm : xs.length ≤ maxLen) (_hw : ∀ i, i < xs.length → (Lit.int .i64 (nth xs i)).wf = true)
    (a2 : Option Addr) (ms : List Int) (cap2 : Nat) (h2 : IntsAt W a2 ms) (hm2 : ms.length ≤ maxLen) (_hw2 : ∀ i, i < ms.length → (Lit.int .i64 (nth ms i)).wf = true) (kd : Int) (_wk : (Lit.int .i64 kd).wf = true) :
    Calls Try.prog 9 #[.slice a xs.length cap, .slice a2 ms.length cap2, .int .i64 kd] W fun e w' => e = .returned (.bool true) ∧ Below W.heap.size W w' := by
  clear _hw _hw2 _wk
  have HL := hid (fun W => Long_any xs a cap W hm)
  have HL2 := hid (fun W => Long_any ms a2 cap2 W hm2)
  by_cases h60 : 60 < xs.length
  · rw [decide_eq_true h60] at HL
    go_enter Try.func9, Try.ntmps9
    go_wp2_with fail
    refine (HL.out _).mono ?_; rintro e w1 ⟨rfl, rfl⟩
    go_wp2_with fail
    refine (known_true _).mono ?_; rintro e w' ⟨rfl, hb⟩
    go_wp2_with fail
    go_ret
    exact ⟨rfl, hb⟩
  · rw [decide_eq_false h60] at HL
    by_cases h61 : 60 < ms.length
    · rw [decide_eq_true h61] at HL2
      go_enter Try.func9, Try.ntmps9
      go_wp2_with fail
      refine (HL.out _).mono ?_; rintro e w1 ⟨rfl, rfl⟩
      go_wp2_with fail
      refine (HL2.out _).mono ?_; rintro e w1 ⟨rfl, rfl⟩
      go_wp2_with fail
      refine (known_true _).mono ?_; rintro e w' ⟨rfl, hb⟩
      go_wp2_with fail
      go_ret
      exact ⟨rfl, hb⟩
    · rw [decide_eq_false h61] at HL2
      have hx1 : xs.length ≤ 1000 := by omega
      go_enter Try.func9, Try.ntmps9
      go_wp2_with fail
      refine (HL.out _).mono ?_; rintro e w1 ⟨rfl, rfl⟩
      go_wp2_with fail
      refine (HL2.out _).mono ?_; rintro e w1 ⟨rfl, rfl⟩
      go_wp2_with fail
      refine (Claimer_any xs ms a a2 cap cap2 kd _ hI h2 hx1 hm2).mono ?_; rintro e w1 ⟨rfl, hb1⟩
      go_wp2_with fail
      refine (rClaimer_any xs ms a a2 cap cap2 kd _ (hI.below hb1) (h2.below hb1) hx1 hm2).mono ?_; rintro e w2 ⟨rfl, hb2⟩
      have hbz2 := hb1.trans (hb2.mono hb1.size)
      clear hb1 hb2
      go_wp2_with fail
      refine (Giver_any xs ms a a2 cap cap2 kd _ (hI.below hbz2) (h2.below hbz2) hx1 hm2).mono ?_; rintro e w3 ⟨rfl, hb3⟩
      have hbz3 := hbz2.trans (hb3.mono hbz2.size)
      clear hbz2 hb3
      go_wp2_with fail
      refine (rGiver_any xs ms a a2 cap cap2 kd _ (hI.below hbz3) (h2.below hbz3) hx1 hm2).mono ?_; rintro e w4 ⟨rfl, hb4⟩
      have hbz4 := hbz3.trans (hb4.mono hbz3.size)
      clear hbz3 hb4 HL HL2
      generalize claR xs ms kd = c
      generalize gvrR xs ms kd = g
      generalize gvrB xs ms kd = b
      generalize havE xs ms kd = E
      go_wp2_with fail
      refine (known_true _).mono ?_; rintro e w' ⟨rfl, hb⟩
      go_wp2_with fail
      go_ret
      exact ⟨rfl, hbz4.trans (hb.mono hbz4.size)⟩
end Go.Proofs.Ythankdfjkmfokaa
