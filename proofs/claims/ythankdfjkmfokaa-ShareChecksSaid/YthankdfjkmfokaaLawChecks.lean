/- 'ShareChecks' returns true: the walk. -/
import Derived.Test.YthankdfjkmfokaaKnown
import Derived.Test.YthankdfjkmfokaaFairs
import Derived.Test.YthankdfjkmfokaaPCheck
import Derived.Test.YthankdfjkmfokaaDvFair
namespace Go.Proofs.Ythankdfjkmfokaa
open Go.RowKit
set_option linter.unusedSimpArgs false
set_option linter.unusedVariables false
theorem chk_fair {xs ms : List Int} {kd N D : Int} (h : chkE xs ms kd N D = 0) : havE xs ms kd = 0 ∧ faiB xs ms kd = true := by
  by_cases h1 : HavOK xs ms kd ∧ LowOK N D
  · by_cases h2 : DvOK kd xs ms N D
    · exact ⟨havE_yes h1.1, faiB_yes h1.1 (dv_fair h1.1.1.1 h1.1.2 h1.2.n0 h1.2.d0 h2)⟩
    · rw [chk_8 h1 h2] at h; omega
  · rw [chk_no h1] at h; omega
set_option maxRecDepth 100000 in
set_option maxHeartbeats 1000000 in
theorem lawChecks (W : World) (a : Option Addr) (xs : List Int) (cap : Nat) (hI : IntsAt W a xs) (hm : xs.length ≤ maxLen) (_hw : ∀ i, i < xs.length → (Lit.int .i64 (nth xs i)).wf = true)
    (a2 : Option Addr) (ms : List Int) (cap2 : Nat) (h2 : IntsAt W a2 ms) (hm2 : ms.length ≤ maxLen) (_hw2 : ∀ i, i < ms.length → (Lit.int .i64 (nth ms i)).wf = true) (kd N D : Int) :
    Calls Try.prog 13 #[.slice a xs.length cap, .slice a2 ms.length cap2, .agg #[.int .i64 kd, .int .i64 N, .int .i64 D]] W fun e w' => e = .returned (.bool true) ∧ Below W.heap.size W w' := by
  clear _hw _hw2
  have hbB : Below W.heap.size W (((W.alloc (.cells #[.int .i64 kd, .int .i64 N, .int .i64 D] 60)).alloc (.cells #[.int .i64 N, .int .i64 D] 44)).drew) := ((below_alloc _ _).alloc (by simp) _).drew
  have HL := hid (fun W => Long_any xs a cap W hm)
  have HL2 := hid (fun W => Long_any ms a2 cap2 W hm2)
  by_cases h60 : 60 < xs.length
  · rw [decide_eq_true h60] at HL
    go_enter Try.func13, Try.ntmps13
    go_wp2_with fail
    go_region
    go_wp2_with fail
    refine (HL.out _).mono ?_; rintro e w1 ⟨rfl, rfl⟩
    go_wp2_with fail
    refine (known_true _).mono ?_; rintro e w' ⟨rfl, hb⟩
    go_wp2_with fail
    go_ret
    exact ⟨rfl, hbB.trans (hb.mono hbB.size)⟩
  · rw [decide_eq_false h60] at HL
    by_cases h61 : 60 < ms.length
    · rw [decide_eq_true h61] at HL2
      go_enter Try.func13, Try.ntmps13
      go_wp2_with fail
      go_region
      go_wp2_with fail
      refine (HL.out _).mono ?_; rintro e w1 ⟨rfl, rfl⟩
      go_wp2_with fail
      refine (HL2.out _).mono ?_; rintro e w1 ⟨rfl, rfl⟩
      go_wp2_with fail
      refine (known_true _).mono ?_; rintro e w' ⟨rfl, hb⟩
      go_wp2_with fail
      go_ret
      exact ⟨rfl, hbB.trans (hb.mono hbB.size)⟩
    · rw [decide_eq_false h61] at HL2
      have hx1 : xs.length ≤ 1000 := by omega
      go_enter Try.func13, Try.ntmps13
      go_wp2_with fail
      go_region
      go_wp2_with fail
      refine (HL.out _).mono ?_; rintro e w1 ⟨rfl, rfl⟩
      go_wp2_with fail
      refine (HL2.out _).mono ?_; rintro e w1 ⟨rfl, rfl⟩
      go_wp2_with fail
      refine (Check_any xs ms a a2 cap cap2 kd N D _ (hI.below hbB) (h2.below hbB) hx1 hm2).mono ?_; rintro e w1 ⟨rfl, hb1⟩
      have k0 : w1.cell? ⟨W.heap.size + 1, 0, none⟩ = some (.int .i64 N) := (hb1.cell (p := ⟨W.heap.size + 1, 0, none⟩) (by simp)).trans (by simp)
      have k1 : w1.cell? ⟨W.heap.size + 1, 1, none⟩ = some (.int .i64 D) := (hb1.cell (p := ⟨W.heap.size + 1, 1, none⟩) (by simp)).trans (by simp)
      have hbz1 := hbB.trans (hb1.mono hbB.size)
      clear hb1
      go_wp2_with fail
      refine (rCheck_any xs ms a a2 cap cap2 kd N D _ (hI.below hbz1) (h2.below hbz1) hx1 hm2).mono ?_; rintro e w2 ⟨rfl, hb2⟩
      have hbz2 := hbz1.trans (hb2.mono hbz1.size)
      clear k0 k1 hb2 hbz1 HL HL2
      by_cases hc : chkE xs ms kd N D = 0
      · have G := hid (chk_fair hc)
        rw [hc]
        clear hc
        go_wp2_with fail
        refine (IsFair_any xs ms a a2 cap cap2 kd _ (hI.below hbz2) (h2.below hbz2) hx1 hm2).mono ?_; rintro e w3 ⟨rfl, hb3⟩
        have hbz3 := hbz2.trans (hb3.mono hbz2.size)
        rw [G.out.1, G.out.2]
        go_wp2_with fail
        refine (known_true _).mono ?_; rintro e w' ⟨rfl, hb⟩
        go_wp2_with fail
        go_ret
        exact ⟨rfl, hbz3.trans (hb.mono hbz3.size)⟩
      · have hcb : (chkE xs ms kd N D != 0) = true := by simp [hc]
        clear hc
        generalize chkE xs ms kd N D = E at *
        go_wp2_with fail
        refine (IsFair_any xs ms a a2 cap cap2 kd _ (hI.below hbz2) (h2.below hbz2) hx1 hm2).mono ?_; rintro e w3 ⟨rfl, hb3⟩
        have hbz3 := hbz2.trans (hb3.mono hbz2.size)
        generalize faiB xs ms kd = F1
        generalize havE xs ms kd = E1
        go_wp2_with fail
        refine (known_true _).mono ?_; rintro e w' ⟨rfl, hb⟩
        go_wp2_with fail
        go_ret
        exact ⟨rfl, hbz3.trans (hb.mono hbz3.size)⟩
end Go.Proofs.Ythankdfjkmfokaa
