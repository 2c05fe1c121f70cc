/- 'GuessPrefixes' returns true. -/
import Derived.Test.YtedgndangamkaaaFront
namespace Go.Proofs.Ytedgndangamkaaa
open Go.RowKit
set_option linter.unusedSimpArgs false
set_option linter.unusedVariables false

set_option maxRecDepth 100000 in
set_option maxHeartbeats 4000000 in
theorem lawPrefixes (w : World) (a : Option Addr) (g : List Rd) (cap : Nat) (hG : GameAt w a g) (hc : g.length ≤ cap) (hcm : cap ≤ maxLen) (x : Int) (_wx : (Lit.int .i64 x).wf = true) :
    Calls Try.prog 13 #[.slice a g.length cap, .int .i64 x] w fun e w' => e = .returned (.bool true) ∧ Below w.heap.size w w' := by
  have hm : g.length ≤ maxLen := by omega
  by_cases h0 : 0 < g.length
  · have hz : ((g.length : Int) == 0) = false := beq_eq_false_iff_ne.2 (by omega)
    by_cases hv : vE g = 0
    · have hok := vE_zero hv
      have hl := hok.len
      have Hsd := hid (Said_any g a cap)
      rw [sdR, hv, if_pos rfl] at Hsd
      obtain ⟨j, hj, he⟩ := mod_at x g.length h0 hl
      obtain ⟨i0, hi0, hz0, hz1, hz2⟩ := info_parts info49
      clear hv
      go_enter Try.func13, Try.ntmps13
      go_wp2_with fail
      refine (Long_any g _ _ _ hG hm).mono ?_; rintro e w1 ⟨lb, rfl, rfl, _⟩
      cases lb
      · go_wp2_with fail
        refine (Hsd.out _ hG hm).mono ?_; rintro e w1 ⟨a1, c1, rfl, h1, hb1, hc1, hm1⟩
        rw [sd_len]
        unfold maxLen at hcm hm1
        obtain ⟨b, off, aa, c, rfl, hbl, y1, _, y3, _, ycm⟩ := (hG.below hb1) j hj
        have hown : (w1.alloc (.cells #[] 49)).ownsRow w1.heap.size 49 2 (.slice (some ⟨w1.heap.size, 0, none⟩) 0 0) 0 [] := World.ownsRow_made w1 #[] 0 (Nat.le_refl _) (Nat.zero_le _) rfl
        have Hnews := hid (game_news (hG.below hb1) (Nat.le_of_lt hj) hbl (below_alloc w1 (.cells #[] 49)))
        have Hone := hid (game_one (hG.below hb1) (Nat.le_of_lt hj))
        have HJ := hid hj
        have hj24 : j ≤ 24 := by omega
        have hj0 : (0 : Int) ≤ (j : Int) := by omega
        have hj1 : (j : Int) < (g.length : Int) := by omega
        have hj2 : (j : Int) ≤ (cap : Int) := by omega
        go_wp2_with (
          at_builtin
          refine wpList_append_own _ rfl _ _ 42 rfl w1.heap.size 49 i0 (.agg #[.slice none 0 0, .bool false]) 2 32 Try.underlying42 hi0 hz0 hz1 hz2 rfl (by decide) _ _ _ rfl hown ⟨b, off, none⟩ j cap (rcell w1 b off (j * 2)) rfl (rcell_len _ _ _ _) Hnews.out Hone.out (by unfold maxLen; omega) (by omega) (by simp) ?_
          intro v' w2 hown2 hgrow2 _
          simp only [Nat.zero_add, List.nil_append] at hown2
          have hb2 : Below w1.heap.size w1 w2 := (below_alloc w1 _).grown hgrow2 (by simp) fun k hk => Nat.le_of_eq (Option.some.inj (show some w1.heap.size = some k from hk))
          obtain ⟨a2, c2, rfl, hf, hc2, hm2⟩ := game_front (hG.below hb1) (Nat.le_of_lt hj) hb2 hown2
          clear hgrow2 hown hown2 Hnews Hone
          have y1' : w2.cell? ⟨b, off + j * 2, none⟩ = some (.slice aa (adv g j).length c) := by rw [hb2.cell (p := ⟨b, off + j * 2, none⟩) hbl]; exact y1)
        have hs := Say_any (g.take j) a2 c2 aa (adv g j) c w2 hf (by unfold maxLen; simp; omega) (y3.below hb2) (by omega)
        rw [(say_front hok j hj).1, (say_front hok j hj).2, List.length_take, Nat.min_eq_left (by omega)] at hs
        have Hs := hid hs
        clear hs
        go_wp2_with fail
        refine Hs.out.mono ?_; rintro e w3 ⟨rfl, hb3⟩
        have hb13 := hb2.trans (hb3.mono hb2.size)
        obtain ⟨b5, off5, rfl, hb5, x5⟩ := (h1.below hb13) j (by rw [sd_len]; exact hj)
        rw [sd_at g _ j hj] at x5
        have hf3 := hf.below hb3
        have hb03 := hb1.trans (hb13.mono hb1.size)
        have hself : (saidB g j != saidB g j) = false := by simp
        have hself2 : ((g.length : Int) != (g.length : Int)) = false := by simp
        clear h1 hb1 hb2 hb3 hb13 hf y1 y1' y3 ycm he
        by_cases hjz : j = 0
        · have hjz1 : ((j : Int) == 0) = true := beq_iff_eq.2 (by omega)
          have HJZ := hid hjz
          clear hjz
          go_wp2_with fail
          refine (known_true _).mono ?_; rintro e w' ⟨rfl, hb⟩
          go_wp2
          go_ret
          exact ⟨rfl, hb03.trans (hb.mono hb03.size)⟩
        · have hjz1 : ((j : Int) == 0) = false := beq_eq_false_iff_ne.2 (by omega)
          have hjp : 0 < j := by omega
          have hwf := Weights_any (g.take j) a2 c2 w3 hf3 (by unfold maxLen; simp; omega)
          rw [wlR, pl_front hok j (by omega) hjp, if_pos rfl, List.length_take, Nat.min_eq_left (by omega)] at hwf
          have Hwf := hid hwf
          have Hwg := hid (Weights_any g (some ⟨b, off, none⟩) cap)
          rw [wlR, plE_ok hok (by omega), if_pos rfl] at Hwg
          clear hwf hjz
          go_wp2_with fail
          refine Hwf.out.mono ?_; rintro e w4 ⟨a6, c6, rfl, h6, hb4, _, _⟩
          have hb04 := hb03.trans (hb4.mono hb03.size)
          rw [wl_front_len g j hjp]
          go_wp2_with fail
          refine (Hwg.out _ (hG.below hb04) hm).mono ?_; rintro e w5 ⟨a7, c7, rfl, h7, hb5, _, _⟩
          have hb05 := hb04.trans (hb5.mono hb04.size)
          have h65 := h6.below hb5
          rw [wl_len]
          have hself3 : (((adv g 0).length : Int) != ((adv g 0).length : Int)) = false := by simp
          have hn8 := (hok.el 0 h0).2.2
          clear hb03 hb04 hb4 hb5 h6 Hwf Hwg Hs hf3
          go_wp2
          go_loopw [15] (fun v15 w' => ∃ k n : Nat, k ≤ (adv g 0).length ∧ v15 = .int .i64 k ∧ w' = w5.drewN n) (fun v15 _ => (adv g 0).length - (intOf v15).toNat)
          case atStart => exact ⟨0, 0, by omega, rfl, rfl⟩
          case round =>
            obtain ⟨k, n, hk, rfl, rfl⟩ := hrel
            by_cases hlt : k < (adv g 0).length
            · obtain ⟨b8, off8, rfl, hb8, x8⟩ := h65 k (by rw [wl_front_len g j hjp]; exact hlt)
              obtain ⟨b9, off9, rfl, hb9, x9⟩ := h7 k (by rw [wl_len]; exact hlt)
              have hle := wl_front g j k (by omega) hjp hlt
              have hk0 : (0 : Int) ≤ (k : Int) := by omega
              have hk1 : (k : Int) < ((adv g 0).length : Int) := by omega
              have hd : decide (nth (wl (g.take j)) k < nth (wl g) k) = false := decide_eq_false (by omega)
              have Hle := hid hle
              clear hle
              go_wp2
              go_quiet (fail)
              go_wp2
              go_roundw
              case rel => exact ⟨k + 1, _, by omega, by go_num, rfl⟩
              case measure => simp [intOf]; omega
            · obtain rfl : k = (adv g 0).length := by omega
              go_wp2_with fail
              refine (known_true _).mono ?_; rintro e w' ⟨rfl, hb⟩
              go_wp2
              go_ret
              exact ⟨rfl, (below_drewN hb05 _).trans (hb.mono (by simpa using hb05.size))⟩
      · go_wp2_with fail
        refine (known_true _).mono ?_; rintro e w' ⟨rfl, hb⟩
        go_wp2
        go_ret
        exact ⟨rfl, hb⟩
    · have Hsd := hid (Said_any g a cap)
      rw [sdR, if_neg hv] at Hsd
      have hne := v_ne g hv
      clear hv
      go_enter Try.func13, Try.ntmps13
      go_wp2_with fail
      refine (Long_any g _ _ _ hG hm).mono ?_; rintro e w1 ⟨lb, rfl, rfl, _⟩
      cases lb
      · go_wp2_with fail
        refine (Hsd.out _ hG hm).mono ?_; rintro e w1 ⟨a1, c1, rfl, h1, hb1, hc1, hm1⟩
        go_wp2_with fail
        refine (known_true _).mono ?_; rintro e w' ⟨rfl, hb⟩
        go_wp2
        go_ret
        exact ⟨rfl, hb1.trans (hb.mono hb1.size)⟩
      · go_wp2_with fail
        refine (known_true _).mono ?_; rintro e w' ⟨rfl, hb⟩
        go_wp2
        go_ret
        exact ⟨rfl, hb⟩
  · have hz1 : ((g.length : Int) == 0) = true := beq_iff_eq.2 (by omega)
    go_enter Try.func13, Try.ntmps13
    go_wp2_with fail
    refine (Long_any g _ _ _ hG hm).mono ?_; rintro e w1 ⟨lb, rfl, rfl, _⟩
    cases lb
    all_goals
      go_wp2_with fail
      refine (known_true _).mono ?_; rintro e w' ⟨rfl, hb⟩
      go_wp2
      go_ret
      exact ⟨rfl, hb⟩
end Go.Proofs.Ytedgndangamkaaa
