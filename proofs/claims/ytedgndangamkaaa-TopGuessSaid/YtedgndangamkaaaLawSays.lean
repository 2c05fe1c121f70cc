/- 'GuessAdvisers' and 'GuessSays' return true: the walks. -/
import Derived.Test.YtedgndangamkaaaRefLists
import Derived.Test.YtedgndangamkaaaKnown
import Derived.Test.YtedgndangamkaaaLong
namespace Go.Proofs.Ytedgndangamkaaa
open Go.RowKit
set_option linter.unusedSimpArgs false
set_option linter.unusedVariables false

theorem wlR_max (g : List Rd) : (wlR g).length ≤ maxLen := by
  unfold wlR maxLen
  split
  · rename_i h
    obtain ⟨hok, h0⟩ := plE_zero h
    have := (hok.el 0 (by omega)).2.2
    rw [wl_len]; omega
  · simp
theorem sdR_max (g : List Rd) : (sdR g).length ≤ maxLen := by
  unfold sdR maxLen
  split
  · rename_i h
    have := (vE_zero h).len
    rw [sd_len]; omega
  · simp
set_option maxHeartbeats 1000000 in
theorem lawAdvisers (w : World) (a : Option Addr) (g : List Rd) (cap : Nat) (hG : GameAt w a g) (hc : g.length ≤ cap) (hcm : cap ≤ maxLen) (x : Int) (_wx : (Lit.int .i64 x).wf = true) :
    Calls Try.prog 14 #[.slice a g.length cap, .int .i64 x] w fun e w' => e = .returned (.bool true) ∧ Below w.heap.size w w' := by
  have hm : g.length ≤ maxLen := by omega
  clear _wx
  go_enter Try.func14, Try.ntmps14
  go_wp2_with fail
  refine (Long_any g _ _ _ hG hm).mono ?_; rintro e w1 ⟨lb, rfl, rfl, _⟩
  cases lb
  · go_wp2_with fail
    refine (Wrong_any g _ _ x _ hG hm).mono ?_; rintro e w1 ⟨rfl, hb1⟩
    go_wp2_with fail
    refine (rWrong_any g _ _ x _ (hG.below hb1) hm).mono ?_; rintro e w2 ⟨rfl, hb2⟩
    have hb12 := hb1.trans (hb2.mono hb1.size)
    clear hb1 hb2
    go_wp2_with fail
    refine (Weights_any g _ _ _ (hG.below hb12) hm).mono ?_; rintro e w3 ⟨a3, c3, rfl, h3, hb3, _, _⟩
    have hb13 := hb12.trans (hb3.mono hb12.size)
    clear hb12 hb3
    go_wp2_with fail
    refine (rWeights_any g _ _ _ (hG.below hb13) hm).mono ?_; rintro e w4 ⟨a4, c4, rfl, h4, hb4, _, _⟩
    have hb14 := hb13.trans (hb4.mono hb13.size)
    have h3' := h3.below hb4
    clear hb13 hb4 h3
    go_wp2_with fail
    refine (BestAdviser_any g _ _ _ (hG.below hb14) hm).mono ?_; rintro e w5 ⟨rfl, hb5⟩
    have hb15 := hb14.trans (hb5.mono hb14.size)
    have h35 := h3'.below hb5
    have h45 := h4.below hb5
    clear hb14 hb5 h3' h4
    go_wp2_with fail
    refine (rBestAdviser_any g _ _ _ (hG.below hb15) hm).mono ?_; rintro e w6 ⟨rfl, hb6⟩
    have hb16 := hb15.trans (hb6.mono hb15.size)
    have h36 := h35.below hb6
    have h46 := h45.below hb6
    clear hb15 hb6 h35 h45
    go_wp2_with fail
    refine (validate_any g _ _ _ (hG.below hb16) hm).mono ?_; rintro e w7 ⟨rfl, hb7⟩
    have hb17 := hb16.trans (hb7.mono hb16.size)
    have h37 := h36.below hb7
    have h47 := h46.below hb7
    clear hb16 hb7 h36 h46
    go_wp2_with fail
    refine (rvalidate_any g _ _ _ (hG.below hb17) hm).mono ?_; rintro e w8 ⟨rfl, rfl⟩
    go_wp2_with fail
    refine (SameInts_any (wlR g) _ _ _ _ _ h37 h47 (wlR_max g)).mono ?_; rintro e w9 ⟨rfl, hb9⟩
    have hb19 := hb17.trans (hb9.mono hb17.size)
    clear hb17 hb9 h37 h47
    go_wp2_with fail
    refine (known_true _).mono ?_; rintro e w' ⟨rfl, hb⟩
    go_wp2
    go_ret
    exact ⟨rfl, hb19.trans (hb.mono hb19.size)⟩
  · go_wp2_with fail
    refine (known_true _).mono ?_; rintro e w' ⟨rfl, hb⟩
    go_wp2
    go_ret
    exact ⟨rfl, hb⟩

set_option maxHeartbeats 1000000 in
theorem lawSays (w : World) (a : Option Addr) (g : List Rd) (cap : Nat) (hG : GameAt w a g) (hc : g.length ≤ cap) (hcm : cap ≤ maxLen) (a2 : Option Addr) (bs : List Bool) (cap2 : Nat) (hB : BoolsAt w a2 bs) (hc2 : bs.length ≤ cap2) (hcm2 : cap2 ≤ maxLen) :
    Calls Try.prog 11 #[.slice a g.length cap, .slice a2 bs.length cap2] w fun e w' => e = .returned (.bool true) ∧ Below w.heap.size w w' := by
  have hm : g.length ≤ maxLen := by omega
  have hm2 : bs.length ≤ maxLen := by omega
  have hm2' : bs.length ≤ 9223372036854775807 := by unfold maxLen at hm2; omega
  by_cases h40 : 40 < bs.length
  · go_enter Try.func11, Try.ntmps11
    go_wp2_with fail
    refine (Long_any g _ _ _ hG hm).mono ?_; rintro e w1 ⟨lb, rfl, rfl, _⟩
    cases lb
    all_goals
      go_wp2_with fail
      refine (known_true _).mono ?_; rintro e w' ⟨rfl, hb⟩
      go_wp2
      go_ret
      exact ⟨rfl, hb⟩
  · go_enter Try.func11, Try.ntmps11
    go_wp2_with fail
    refine (Long_any g _ _ _ hG hm).mono ?_; rintro e w1 ⟨lb, rfl, rfl, _⟩
    cases lb
    · go_wp2_with fail
      refine (Say_any g _ _ _ bs _ _ hG hm hB hm2).mono ?_; rintro e w1 ⟨rfl, hb1⟩
      go_wp2_with fail
      refine (rSay_any g _ _ _ bs _ _ (hG.below hb1) hm (hB.below hb1) hm2).mono ?_; rintro e w2 ⟨rfl, hb2⟩
      have hb12 := hb1.trans (hb2.mono hb1.size)
      clear hb1 hb2
      go_wp2_with fail
      refine (Said_any g _ _ _ (hG.below hb12) hm).mono ?_; rintro e w3 ⟨a3, c3, rfl, h3, hb3, _, _⟩
      have hb13 := hb12.trans (hb3.mono hb12.size)
      clear hb12 hb3
      go_wp2_with fail
      refine (rSaid_any g _ _ _ (hG.below hb13) hc hm hcm).mono ?_; rintro e w4 ⟨a4, c4, rfl, h4, hb4, _, _⟩
      have hb14 := hb13.trans (hb4.mono hb13.size)
      have h3' := h3.below hb4
      clear hb13 hb4 h3
      go_wp2_with fail
      refine (Errors_any g _ _ _ (hG.below hb14) hm).mono ?_; rintro e w5 ⟨rfl, hb5⟩
      have hb15 := hb14.trans (hb5.mono hb14.size)
      have h35 := h3'.below hb5
      have h45 := h4.below hb5
      clear hb14 hb5 h3' h4
      go_wp2_with fail
      refine (rErrors_any g _ _ _ (hG.below hb15) hc hm hcm).mono ?_; rintro e w6 ⟨rfl, hb6⟩
      have hb16 := hb15.trans (hb6.mono hb15.size)
      have h36 := h35.below hb6
      have h46 := h45.below hb6
      clear hb15 hb6 h35 h45
      go_wp2_with fail
      refine (sameBools_any (sdR g) _ _ _ _ _ h36 h46 (sdR_max g)).mono ?_; rintro e w9 ⟨rfl, hb9⟩
      have hb19 := hb16.trans (hb9.mono hb16.size)
      clear hb16 hb9 h36 h46
      go_wp2_with fail
      refine (known_true _).mono ?_; rintro e w' ⟨rfl, hb⟩
      go_wp2
      go_ret
      exact ⟨rfl, hb19.trans (hb.mono hb19.size)⟩
    · go_wp2_with fail
      refine (known_true _).mono ?_; rintro e w' ⟨rfl, hb⟩
      go_wp2
      go_ret
      exact ⟨rfl, hb⟩
end Go.Proofs.Ytedgndangamkaaa
