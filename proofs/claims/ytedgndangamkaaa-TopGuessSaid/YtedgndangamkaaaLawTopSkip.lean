/- 'TopGuess' returns true: the walk. -/
import Derived.Test.YtedgndangamkaaaTopLaw
namespace Go.Proofs.Ytedgndangamkaaa
open Go.RowKit
set_option linter.unusedSimpArgs false
set_option linter.unusedVariables false

set_option maxRecDepth 100000 in
set_option maxHeartbeats 4000000 in
theorem lawTop_skip (w : World) (a : Option Addr) (g : List Rd) (cap : Nat) (hG : GameAt w a g) (hc : g.length ≤ cap) (hcm : cap ≤ maxLen) (a1 : Option Addr) (xs : List Int) (c1 : Nat) (hI : IntsAt w a1 xs) (hm1 : xs.length ≤ maxLen) (o u : Int) (hg : ¬ (vE g = 0 ∧ 0 < g.length)) :
    Calls Try.prog 16 #[.slice a g.length cap, .slice a1 xs.length c1, .agg #[.int .i64 o, .int .i64 u]] w fun e w' => e = .returned (.bool true) ∧ Below w.heap.size w w' := by
  have hm : g.length ≤ maxLen := by omega
  have hbB : Below w.heap.size w (w.alloc (.cells #[.int .i64 o, .int .i64 u] 29)) := below_alloc _ _
  unfold maxLen at hm1
  have b1 := bound_in 8 0
  rw [bound_known] at b1
  have B1 := hid b1
  clear b1
  go_enter Try.func16, Try.ntmps16
  go_wp2_with fail
  refine (B1.out _ (by omega) (by omega) (by omega)).mono ?_; rintro e w' ⟨rfl, rfl⟩
  go_wp2_with fail
  refine (Long_any g _ _ _ (hG.below hbB) hm).mono ?_; rintro e w1 ⟨lb, rfl, rfl, _⟩
  cases lb
  · by_cases hv : vE g = 0
    · have hz1 : decide (0 < g.length) = false := decide_eq_false fun h => hg ⟨hv, h⟩
      have hva := validate_any g a cap _ (hG.below hbB) hm
      rw [hv] at hva
      have Hva := hid hva
      clear hva hv hg
      go_wp2_with fail
      refine Hva.out.mono ?_; rintro e w1 ⟨rfl, hbz⟩
      have k0 : w1.cell? ⟨w.heap.size, 0, none⟩ = some (.int .i64 o) := (hbz.cell (p := ⟨w.heap.size, 0, none⟩) (by simp)).trans (by simp)
      have k1 : w1.cell? ⟨w.heap.size, 1, none⟩ = some (.int .i64 u) := (hbz.cell (p := ⟨w.heap.size, 1, none⟩) (by simp)).trans (by simp)
      have hIz := hI.below (hbB.trans (hbz.mono hbB.size))
      by_cases hz : xs.length ≤ 300
      · by_cases hC : CountsOK xs o u
        · have hq := quantity_bd hC
          have HC := hid hC
          clear hC
          go_wp2_with fail
          refine (quant_at HC.out a1 c1 _ hIz).mono ?_; rintro e w' ⟨rfl, rfl⟩
          go_wp2_with fail
          refine (cost_at HC.out a1 c1 (qBest xs o u) hq _ hIz).mono ?_; rintro e w' ⟨rfl, rfl⟩
          go_wp2_with fail
          go_loop [25] (fun v25 => ∃ p : Nat, p ≤ 101 ∧ v25 = .int .i64 p) (fun v25 => 101 - (intOf v25).toNat)
          case atStart => exact ⟨0, by omega, rfl⟩
          case round =>
            obtain ⟨p, hp, rfl⟩ := hrel
            by_cases hlt : p ≤ 100
            · have hle := qBest_le HC.out p
              have hself : ((costN xs o u p == costN xs o u (qBest xs o u)) != (costN xs o u p == costN xs o u (qBest xs o u))) = false := by simp
              by_cases hpq : p < qBest xs o u
              · have hf := cost_first p hpq
                have he : (costN xs o u p == costN xs o u (qBest xs o u)) = false := beq_eq_false_iff_ne.2 (by omega)
                go_wp2_with fail
                refine (cost_at HC.out a1 c1 p hlt _ hIz).mono ?_; rintro e w' ⟨rfl, rfl⟩
                go_wp2_with fail
                refine (best_at HC.out a1 c1 p hlt _ hIz).mono ?_; rintro e w' ⟨rfl, rfl⟩
                go_wp2_with fail
                go_round
                case rel => exact ⟨p + 1, by omega, by go_num⟩
                case measure => simp [intOf]; omega
              · go_wp2_with fail
                refine (cost_at HC.out a1 c1 p hlt _ hIz).mono ?_; rintro e w' ⟨rfl, rfl⟩
                go_wp2_with fail
                refine (best_at HC.out a1 c1 p hlt _ hIz).mono ?_; rintro e w' ⟨rfl, rfl⟩
                go_wp2_with fail
                go_round
                case rel => exact ⟨p + 1, by omega, by go_num⟩
                case measure => simp [intOf]; omega
            · obtain rfl : p = 101 := by omega
              go_wp2_with fail
              go_ret
              exact ⟨rfl, hbB.trans (hbz.mono hbB.size)⟩
        · have HC := hid hC
          clear hC
          go_wp2_with fail
          refine (quant_no HC.out a1 c1 _ hIz).mono ?_; rintro e w' ⟨rfl, rfl⟩
          go_wp2_with fail
          go_ret
          exact ⟨rfl, hbB.trans (hbz.mono hbB.size)⟩
      · go_wp2_with fail
        go_ret
        exact ⟨rfl, hbB.trans (hbz.mono hbB.size)⟩
    · have hz1 : (vE g == 0) = false := beq_eq_false_iff_ne.2 hv
      clear hv hg
      go_wp2_with fail
      refine (validate_any g _ _ _ (hG.below hbB) hm).mono ?_; rintro e w1 ⟨rfl, hbz⟩
      have k0 : w1.cell? ⟨w.heap.size, 0, none⟩ = some (.int .i64 o) := (hbz.cell (p := ⟨w.heap.size, 0, none⟩) (by simp)).trans (by simp)
      have k1 : w1.cell? ⟨w.heap.size, 1, none⟩ = some (.int .i64 u) := (hbz.cell (p := ⟨w.heap.size, 1, none⟩) (by simp)).trans (by simp)
      have hIz := hI.below (hbB.trans (hbz.mono hbB.size))
      by_cases hz : xs.length ≤ 300
      · by_cases hC : CountsOK xs o u
        · have hq := quantity_bd hC
          have HC := hid hC
          clear hC
          go_wp2_with fail
          refine (quant_at HC.out a1 c1 _ hIz).mono ?_; rintro e w' ⟨rfl, rfl⟩
          go_wp2_with fail
          refine (cost_at HC.out a1 c1 (qBest xs o u) hq _ hIz).mono ?_; rintro e w' ⟨rfl, rfl⟩
          go_wp2_with fail
          go_loop [25] (fun v25 => ∃ p : Nat, p ≤ 101 ∧ v25 = .int .i64 p) (fun v25 => 101 - (intOf v25).toNat)
          case atStart => exact ⟨0, by omega, rfl⟩
          case round =>
            obtain ⟨p, hp, rfl⟩ := hrel
            by_cases hlt : p ≤ 100
            · have hle := qBest_le HC.out p
              have hself : ((costN xs o u p == costN xs o u (qBest xs o u)) != (costN xs o u p == costN xs o u (qBest xs o u))) = false := by simp
              by_cases hpq : p < qBest xs o u
              · have hf := cost_first p hpq
                have he : (costN xs o u p == costN xs o u (qBest xs o u)) = false := beq_eq_false_iff_ne.2 (by omega)
                go_wp2_with fail
                refine (cost_at HC.out a1 c1 p hlt _ hIz).mono ?_; rintro e w' ⟨rfl, rfl⟩
                go_wp2_with fail
                refine (best_at HC.out a1 c1 p hlt _ hIz).mono ?_; rintro e w' ⟨rfl, rfl⟩
                go_wp2_with fail
                go_round
                case rel => exact ⟨p + 1, by omega, by go_num⟩
                case measure => simp [intOf]; omega
              · go_wp2_with fail
                refine (cost_at HC.out a1 c1 p hlt _ hIz).mono ?_; rintro e w' ⟨rfl, rfl⟩
                go_wp2_with fail
                refine (best_at HC.out a1 c1 p hlt _ hIz).mono ?_; rintro e w' ⟨rfl, rfl⟩
                go_wp2_with fail
                go_round
                case rel => exact ⟨p + 1, by omega, by go_num⟩
                case measure => simp [intOf]; omega
            · obtain rfl : p = 101 := by omega
              go_wp2_with fail
              go_ret
              exact ⟨rfl, hbB.trans (hbz.mono hbB.size)⟩
        · have HC := hid hC
          clear hC
          go_wp2_with fail
          refine (quant_no HC.out a1 c1 _ hIz).mono ?_; rintro e w' ⟨rfl, rfl⟩
          go_wp2_with fail
          go_ret
          exact ⟨rfl, hbB.trans (hbz.mono hbB.size)⟩
      · go_wp2_with fail
        go_ret
        exact ⟨rfl, hbB.trans (hbz.mono hbB.size)⟩
  · have hbz : Below (w.alloc (.cells #[.int .i64 o, .int .i64 u] 29)).heap.size (w.alloc (.cells #[.int .i64 o, .int .i64 u] 29)) (w.alloc (.cells #[.int .i64 o, .int .i64 u] 29)) := Below.refl _ _
    clear hg
    have hIz := hI.below (hbB.trans (hbz.mono hbB.size))
    by_cases hz : xs.length ≤ 300
    · by_cases hC : CountsOK xs o u
      · have hq := quantity_bd hC
        have HC := hid hC
        clear hC
        go_wp2_with fail
        refine (quant_at HC.out a1 c1 _ hIz).mono ?_; rintro e w' ⟨rfl, rfl⟩
        go_wp2_with fail
        refine (cost_at HC.out a1 c1 (qBest xs o u) hq _ hIz).mono ?_; rintro e w' ⟨rfl, rfl⟩
        go_wp2_with fail
        go_loop [25] (fun v25 => ∃ p : Nat, p ≤ 101 ∧ v25 = .int .i64 p) (fun v25 => 101 - (intOf v25).toNat)
        case atStart => exact ⟨0, by omega, rfl⟩
        case round =>
          obtain ⟨p, hp, rfl⟩ := hrel
          by_cases hlt : p ≤ 100
          · have hle := qBest_le HC.out p
            have hself : ((costN xs o u p == costN xs o u (qBest xs o u)) != (costN xs o u p == costN xs o u (qBest xs o u))) = false := by simp
            by_cases hpq : p < qBest xs o u
            · have hf := cost_first p hpq
              have he : (costN xs o u p == costN xs o u (qBest xs o u)) = false := beq_eq_false_iff_ne.2 (by omega)
              go_wp2_with fail
              refine (cost_at HC.out a1 c1 p hlt _ hIz).mono ?_; rintro e w' ⟨rfl, rfl⟩
              go_wp2_with fail
              refine (best_at HC.out a1 c1 p hlt _ hIz).mono ?_; rintro e w' ⟨rfl, rfl⟩
              go_wp2_with fail
              go_round
              case rel => exact ⟨p + 1, by omega, by go_num⟩
              case measure => simp [intOf]; omega
            · go_wp2_with fail
              refine (cost_at HC.out a1 c1 p hlt _ hIz).mono ?_; rintro e w' ⟨rfl, rfl⟩
              go_wp2_with fail
              refine (best_at HC.out a1 c1 p hlt _ hIz).mono ?_; rintro e w' ⟨rfl, rfl⟩
              go_wp2_with fail
              go_round
              case rel => exact ⟨p + 1, by omega, by go_num⟩
              case measure => simp [intOf]; omega
          · obtain rfl : p = 101 := by omega
            go_wp2_with fail
            go_ret
            exact ⟨rfl, hbB.trans (hbz.mono hbB.size)⟩
      · have HC := hid hC
        clear hC
        go_wp2_with fail
        refine (quant_no HC.out a1 c1 _ hIz).mono ?_; rintro e w' ⟨rfl, rfl⟩
        go_wp2_with fail
        go_ret
        exact ⟨rfl, hbB.trans (hbz.mono hbB.size)⟩
    · go_wp2_with fail
      go_ret
      exact ⟨rfl, hbB.trans (hbz.mono hbB.size)⟩
end Go.Proofs.Ytedgndangamkaaa
