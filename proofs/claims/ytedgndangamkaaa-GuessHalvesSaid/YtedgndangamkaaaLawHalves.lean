/- 'GuessHalves' returns true. -/
import Derived.Test.YtedgndangamkaaaRefHalve
import Derived.Test.YtedgndangamkaaaStillSt
namespace Go.Proofs.Ytedgndangamkaaa
open Go.RowKit
set_option linter.unusedSimpArgs false
set_option linter.unusedVariables false

theorem hvL_max (g : List Rd) : (hvL g).length ≤ maxLen := by
  unfold hvL maxLen
  split
  · rename_i h
    obtain ⟨hok, h0⟩ := plE_zero h
    have := (hok.el 0 (by omega)).2.2
    have := hrd_len g g.length
    rw [hdl_len]; omega
  · simp
theorem hv_small (g : List Rd) (h : hvB g = true) : plE g = 0 ∧ ((hvN g = 0 ∧ 1 ≤ (adv g 0).length) ∨ (hvN g = 1 ∧ 2 ≤ (adv g 0).length) ∨ (hvN g = 2 ∧ 4 ≤ (adv g 0).length) ∨ (hvN g = 3 ∧ 8 ≤ (adv g 0).length)) := by
  have hp : plE g = 0 := Classical.byContradiction fun c => by simp [hvB, c] at h
  have hz : hrd g g.length ≠ [] := by rw [hvB, if_pos hp] at h; exact of_decide_eq_true h
  obtain ⟨hok, h0⟩ := plE_zero hp
  have h8 := (hok.el 0 (by omega)).2.2
  have hb := halves_bd g g.length hz
  refine ⟨hp, ?_⟩
  rw [hvN, if_pos h]
  generalize hErr g g.length = m at *
  have hm : m ≤ 3 := by
    by_cases h4 : m ≤ 3
    · exact h4
    · have : 2 ^ 4 ≤ 2 ^ m := Nat.pow_le_pow_right (by omega) (by omega)
      omega
  have : m = 0 ∨ m = 1 ∨ m = 2 ∨ m = 3 := by omega
  rcases this with rfl | rfl | rfl | rfl <;> simp at hb ⊢ <;> omega
set_option maxRecDepth 100000 in
set_option maxHeartbeats 4000000 in
theorem lawHalves (w : World) (a : Option Addr) (g : List Rd) (cap : Nat) (hG : GameAt w a g) (hc : g.length ≤ cap) (hcm : cap ≤ maxLen) :
    Calls Try.prog 10 #[.slice a g.length cap] w fun e w' => e = .returned (.bool true) ∧ Below w.heap.size w w' := by
  have hm : g.length ≤ maxLen := by omega
  have H1 : Hid (∀ W, GameAt W a g → Calls Try.prog 35 #[.slice a g.length cap] W (HalvePost g W)) := fun W h => Halving_any g a cap W h hm
  have H2 : Hid (∀ W, GameAt W a g → Calls Try.prog 36 #[.slice a g.length cap] W (HalvePost g W)) := fun W h => rHalving_any g a cap W h hc hm hcm
  unfold HalvePost at H1 H2
  cases hv : hvB g
  · rw [hv] at H1 H2
    have Hv := hid hv
    clear hv
    go_enter Try.func10, Try.ntmps10
    go_wp2_with fail
    refine (Long_any g _ _ _ hG hm).mono ?_; rintro e w1 ⟨lb, rfl, rfl, _⟩
    cases lb
    · go_wp2_with fail
      refine (H1.out _ hG).mono ?_; rintro e w1 ⟨a1, c1, rfl, h1, hb1⟩
      go_wp2_with fail
      refine (H2.out _ (hG.below hb1)).mono ?_; rintro e w2 ⟨a2, c2, rfl, h2, hb2⟩
      have hb12 := hb1.trans (hb2.mono hb1.size)
      have h1' := h1.below hb2
      clear hb1 hb2 h1
      go_wp2_with fail
      refine (SameInts_any (hvL g) _ _ _ _ _ h1' h2 (hvL_max g)).mono ?_; rintro e w9 ⟨rfl, hb9⟩
      have hb19 := hb12.trans (hb9.mono hb12.size)
      clear hb12 hb9 h1' h2
      go_wp2_with fail
      refine wp_region_still_tail 21 (by kernel_rfl) (by kernel_rfl) ?_
      simp only [List.take_succ_cons, List.take_zero, List.drop_succ_cons, List.drop_zero]
      refine St.out ?_
      iterate 3 (refine st_want (by kernel_rfl) (fun K hK => ?_); go_simp; refine hK _ ?_; clear hK K)
      iterate 16 (refine st_skip (by kernel_rfl) ?_)
      iterate 2 (refine st_want (by kernel_rfl) (fun K hK => ?_); go_simp; refine hK _ ?_; clear hK K)
      refine st_nil ?_
      change wpList _ _ _ _ _ w9.drew
      go_wp2_with fail
      refine (known_true _).mono ?_; rintro e w' ⟨rfl, hb⟩
      go_wp2
      go_ret
      exact ⟨rfl, hb19.trans ((undrew hb).mono hb19.size)⟩
    · go_wp2_with fail
      refine (known_true _).mono ?_; rintro e w' ⟨rfl, hb⟩
      go_wp2
      go_ret
      exact ⟨rfl, hb⟩
  · obtain ⟨hp, hs⟩ := hv_small g hv
    obtain ⟨hok, h0⟩ := plE_zero hp
    rw [hv] at H1 H2
    have Hv := hid hv
    have Hp := hid hp
    clear hv hp
    rcases hs with ⟨hs, hn⟩ | ⟨hs, hn⟩ | ⟨hs, hn⟩ | ⟨hs, hn⟩
    all_goals
      rw [hs] at H1 H2
      have Hs := hid hs
      clear hs
      go_enter Try.func10, Try.ntmps10
      go_wp2_with fail
      refine (Long_any g _ _ _ hG hm).mono ?_; rintro e w1 ⟨lb, rfl, rfl, _⟩
      cases lb
      · go_wp2_with fail
        refine (H1.out _ hG).mono ?_; rintro e w1 ⟨a1, c1, rfl, h1, hb1⟩
        go_wp2_with fail
        refine (H2.out _ (hG.below hb1)).mono ?_; rintro e w2 ⟨a2, c2, rfl, h2, hb2⟩
        have hb12 := hb1.trans (hb2.mono hb1.size)
        have h1' := h1.below hb2
        clear hb1 hb2 h1
        go_wp2_with fail
        refine (SameInts_any (hvL g) _ _ _ _ _ h1' h2 (hvL_max g)).mono ?_; rintro e w9 ⟨rfl, hb9⟩
        have hb19 := hb12.trans (hb9.mono hb12.size)
        clear hb12 hb9 h1' h2
        obtain ⟨b, off, aa, c, rfl, hbl, y1, _, y3, _, ycm⟩ := (hG.below hb19) 0 (by omega)
        have z1 : w9.cell? ⟨b, off, none⟩ = some (.slice aa (adv g 0).length c) := by simpa using y1
        have hg0 : (0 : Int) < (g.length : Int) := by omega
        have hgN : 0 < g.length := by omega
        clear y1 y3 ycm
        go_wp2_with fail
        refine wp_region_still_tail 21 (by kernel_rfl) (by kernel_rfl) ?_
        simp only [List.take_succ_cons, List.take_zero, List.drop_succ_cons, List.drop_zero]
        refine St.out ?_
        iterate 21 (refine st_want (by kernel_rfl) (fun K hK => ?_); go_simp; refine hK _ ?_; clear hK K)
        refine st_nil ?_
        change wpList _ _ _ _ _ w9.drew
        go_wp2_with fail
        refine (known_true _).mono ?_; rintro e w' ⟨rfl, hb⟩
        go_wp2
        go_ret
        exact ⟨rfl, hb19.trans ((undrew hb).mono hb19.size)⟩
      · go_wp2_with fail
        refine (known_true _).mono ?_; rintro e w' ⟨rfl, hb⟩
        go_wp2
        go_ret
        exact ⟨rfl, hb⟩
end Go.Proofs.Ytedgndangamkaaa
