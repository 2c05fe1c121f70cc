/- 'GuessNeverWorse' returns true: the walk. -/
import Derived.Test.YtedgndangamkaaaOffice
import Derived.Test.YtedgndangamkaaaKnown
import Derived.Test.YtedgndangamkaaaLong
namespace Go.Proofs.Ytedgndangamkaaa
open Go.RowKit
set_option linter.unusedSimpArgs false
set_option linter.unusedVariables false

theorem never_bound {g : List Rd} (hok : GOK g) (k : Nat) (hk : k < (adv g 0).length) : boundE ((adv g 0).length : Int) (wrg g k g.length) = 0 ∧ (er g g.length : Int) ≤ boundR ((adv g 0).length : Int) (wrg g k g.length) := by
  have h8 : (adv g 0).length ≤ 8 := by
    by_cases h0 : g.length = 0
    · have : adv g 0 = [] := by simp [adv, rd, List.getD, h0]
      rw [this] at hk; simp at hk
    · exact (hok.el 0 (by omega)).2.2
  have hw := wr_le g k g.length
  have hl := hok.len
  have hB : BoundOK ((adv g 0).length : Int) (wrg g k g.length) := by unfold BoundOK; omega
  refine ⟨boundE_ok _ _ hB, ?_⟩
  rw [boundR, if_pos hB]
  have := never_worse hok k hk
  simpa using this
theorem never_least {g : List Rd} (k : Nat) (hk : k < (adv g 0).length) : wrg g (bestN g) g.length ≤ wrg g k g.length := by
  have := least_le (wrI g) (adv g 0).length k hk
  unfold wrI at this
  unfold bestN wrI
  omega

set_option maxHeartbeats 1000000 in
theorem lawNever (w : World) (a : Option Addr) (g : List Rd) (cap : Nat) (hG : GameAt w a g) (_hc : g.length ≤ cap) (hcm : cap ≤ maxLen) :
    Calls Try.prog 15 #[.slice a g.length cap] w fun e w' => e = .returned (.bool true) ∧ Below w.heap.size w w' := by
  have hm : g.length ≤ maxLen := by omega
  by_cases hp : plE g = 0
  · obtain ⟨hok, h0⟩ := plE_zero hp
    have hv := vE_ok hok
    have h8 : (adv g 0).length ≤ 8 := (hok.el 0 (by omega)).2.2
    have her : erR g = er g g.length := by rw [erR, if_pos hv]
    have hbw : bestW g = wrg g (bestN g) g.length := by rw [bestW, if_pos hp]
    have hP := hid hp
    have hO := hid hok
    have hEb : (vE g != 0) = false := by simp [hv]
    have hPb : (plE g != 0) = false := by simp [hp]
    clear hp hv hok
    go_enter Try.func15, Try.ntmps15
    go_wp2_with fail
    refine (Long_any g _ _ _ hG hm).mono ?_; rintro e w1 ⟨lb, rfl, rfl, _⟩
    cases lb
    · go_wp2_with fail
      refine (Errors_any g _ _ _ hG hm).mono ?_; rintro e w1 ⟨rfl, hb1⟩
      go_wp2_with fail
      refine (BestAdviser_any g _ _ _ (hG.below hb1) hm).mono ?_; rintro e w2 ⟨rfl, hb2⟩
      have hb12 := hb1.trans (hb2.mono hb1.size)
      clear hb1 hb2
      go_wp2
      go_loopw [8] (fun v8 w' => ∃ k : Nat, k ≤ (adv g 0).length ∧ v8 = .int .i64 k ∧ Below w.heap.size w w') (fun v8 _ => (adv g 0).length - (intOf v8).toNat)
      case atStart => exact ⟨0, by omega, rfl, hb12⟩
      case round =>
        clear hb12
        obtain ⟨k, hk, rfl, hb⟩ := hrel
        have hG' := hG.below hb
        obtain ⟨b, off, aa, c, rfl, hbl, z1, c2, _, _, hcm2⟩ := hG' 0 (by omega)
        have c1 : wr.cell? ⟨b, off, none⟩ = some (.slice aa (adv g 0).length c) := by simpa using z1
        clear z1
        unfold maxLen at hm hcm2
        by_cases hlt : k < (adv g 0).length
        · have hW : wrongE g (k : Int) = 0 := by rw [wrongE, if_pos hP.out, if_pos (by omega)]
          have hR : wrongR g (k : Int) = wrg g k g.length := by rw [wrongR, if_pos hW]; simp
          obtain ⟨hB, hle⟩ := never_bound hO.out k hlt
          have hl := never_least k hlt
          have e1 : (((wrg g k g.length : Nat) : Int) < ((wrg g (bestN g) g.length : Nat) : Int)) = False := by simp; omega
          have e2 : (boundR ((adv g 0).length : Int) (wrg g k g.length) < (er g g.length : Int)) = False := by simp; omega
          go_wp2_with fail
          refine (Wrong_any g _ _ _ _ hG' hm).mono ?_; rintro e w3 ⟨rfl, hb3⟩
          have c1' := c1
          have hbb := hb.trans (hb3.mono hb.size)
          have c3 : w3.cell? ⟨b, off, none⟩ = some (.slice aa (adv g 0).length c) := by rw [hb3.cell (p := ⟨b, off, none⟩) hbl]; exact c1
          have hsz := hb3.size
          rw [hW, hR]
          go_wp2_with fail
          refine (bound_any _ _ _).mono ?_; rintro e w4 ⟨rfl, rfl⟩
          rw [hB]
          go_wp2
          go_roundw
          case rel => exact ⟨k + 1, by omega, by go_num, hbb⟩
          case measure => simp [intOf]; omega
        · go_wp2_with fail
          refine (known_true _).mono ?_; rintro e w' ⟨rfl, hb3⟩
          go_wp2
          go_ret
          exact ⟨rfl, hb.trans (hb3.mono hb.size)⟩
    · go_wp2_with fail
      refine (known_true _).mono ?_; rintro e w' ⟨rfl, hb⟩
      go_wp2
      go_ret
      exact ⟨rfl, hb⟩
  · have hPb : (plE g != 0) = true := by simp [hp]
    clear hp
    go_enter Try.func15, Try.ntmps15
    go_wp2_with fail
    refine (Long_any g _ _ _ hG hm).mono ?_; rintro e w1 ⟨lb, rfl, rfl, _⟩
    cases lb
    · go_wp2_with fail
      refine (Errors_any g _ _ _ hG hm).mono ?_; rintro e w1 ⟨rfl, hb1⟩
      go_wp2_with fail
      refine (BestAdviser_any g _ _ _ (hG.below hb1) hm).mono ?_; rintro e w2 ⟨rfl, hb2⟩
      have hb12 := hb1.trans (hb2.mono hb1.size)
      clear hb1 hb2
      cases hv : (vE g != 0)
      all_goals
        go_wp2_with fail
        refine (known_true _).mono ?_; rintro e w' ⟨rfl, hb⟩
        go_wp2
        go_ret
        exact ⟨rfl, hb12.trans (hb.mono hb12.size)⟩
    · go_wp2_with fail
      refine (known_true _).mono ?_; rintro e w' ⟨rfl, hb⟩
      go_wp2
      go_ret
      exact ⟨rfl, hb⟩
end Go.Proofs.Ytedgndangamkaaa
