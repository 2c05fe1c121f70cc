/- 'TopGuess' returns true: the walk of a game that is valid and has rounds. -/
import Derived.Test.YtedgndangamkaaaLawTopSkip
namespace Go.Proofs.Ytedgndangamkaaa
open Go.RowKit
set_option linter.unusedSimpArgs false
set_option linter.unusedVariables false

theorem top_front {g : List Rd} {b off cap : Nat} {W : World} (hG : GameAt W (some ⟨b, off, none⟩) g) (k : Nat) (hk : k ≤ g.length) (hlt : b < W.heap.size) :
    ∀ v' w2, w2.ownsRow W.heap.size 49 2 v' (0 + k) ([] ++ rcell W b off (k * 2)) → (W.drew.alloc (.cells #[] 49)).grownBy w2 (Value.slice (some ⟨W.heap.size, 0, none⟩) 0 0).ownBlock → Below W.heap.size W w2 ∧ ∃ a2 c2, v' = .slice a2 k c2 ∧ GameAt w2 a2 (g.take k) := by
  intro v' w2 hown hg
  have hb : Below W.heap.size W w2 := (undrew (below_alloc W.drew _)).grown hg (by simp) fun j hj => Nat.le_of_eq (Option.some.inj (show some W.heap.size = some j from hj))
  simp only [Nat.zero_add, List.nil_append] at hown
  obtain ⟨a2, c2, e, hf, _, _⟩ := game_front hG hk hb hown
  exact ⟨hb, a2, c2, e, hf⟩

set_option maxRecDepth 100000 in
set_option maxHeartbeats 4000000 in
theorem lawTop_main (w : World) (a : Option Addr) (g : List Rd) (cap : Nat) (hG : GameAt w a g) (hc : g.length ≤ cap) (hcm : cap ≤ maxLen) (a1 : Option Addr) (xs : List Int) (c1 : Nat) (hI : IntsAt w a1 xs) (hm1 : xs.length ≤ maxLen) (o u : Int) (hv : vE g = 0) (h0 : 0 < g.length) :
    Calls Try.prog 16 #[.slice a g.length cap, .slice a1 xs.length c1, .agg #[.int .i64 o, .int .i64 u]] w fun e w' => e = .returned (.bool true) ∧ Below w.heap.size w w' := by
  have hm : g.length ≤ maxLen := by omega
  have hok := vE_zero hv
  have hl := hok.len
  have hbB : Below w.heap.size w (w.alloc (.cells #[.int .i64 o, .int .i64 u] 29)) := below_alloc _ _
  unfold maxLen at hm1
  have b1 := bound_in 8 0
  rw [bound_known] at b1
  have B1 := hid b1
  have hva := hid (validate_any g a cap)
  have hsd := hid (Said_any g a cap)
  have her := hid (Errors_any g a cap)
  rw [hv] at hva
  rw [sdR, hv, if_pos rfl] at hsd
  rw [erR, hv, if_pos rfl] at her
  obtain ⟨i0, hi0, hz0, hz1, hz2⟩ := info_parts info49
  clear b1 hv
  go_enter Try.func16, Try.ntmps16
  go_wp2_with fail
  refine (B1.out _ (by omega) (by omega) (by omega)).mono ?_; rintro e w' ⟨rfl, rfl⟩
  go_wp2_with fail
  refine (Long_any g _ _ _ (hG.below hbB) hm).mono ?_; rintro e w1 ⟨lb, rfl, rfl, _⟩
  cases lb
  · go_wp2_with fail
    refine (hva.out _ (hG.below hbB) hm).mono ?_; rintro e w1 ⟨rfl, hb1⟩
    go_wp2_with fail
    refine (hsd.out _ ((hG.below hbB).below hb1) hm).mono ?_; rintro e w2 ⟨a2, c2, rfl, h3, hb2, _, hcm2⟩
    have hb12 := hb1.trans (hb2.mono hb1.size)
    rw [sd_len]
    clear hb1 hb2
    go_wp2_with fail
    refine (her.out _ ((hG.below hbB).below hb12) hm).mono ?_; rintro e w3 ⟨rfl, hb3⟩
    have hb13 := hb12.trans (hb3.mono hb12.size)
    have h33 := h3.below hb3
    have hself2 : ((g.length : Int) != (g.length : Int)) = false := by simp
    unfold maxLen at hcm
    clear hb12 hb3 h3
    go_wp2_with fail
    go_loopw [13, 14] (fun v13 v14 w' => ∃ k : Nat, k ≤ g.length ∧ v14 = .int .i64 k ∧ v13 = .int .i64 (er g k : Nat) ∧ Below w3.heap.size w3 w') (fun _ v14 _ => g.length - (intOf v14).toNat)
    case atStart => exact ⟨0, by omega, rfl, rfl, Below.refl _ _⟩
    case round =>
      obtain ⟨k, hk, rfl, rfl, hbr⟩ := hrel
      have hbz := hb13.trans (hbr.mono hb13.size)
      have hGr := (hG.below hbB).below hbz
      by_cases hlt : k < g.length
      · obtain ⟨b, off, aa, c, rfl, hbl, y1, y2, y3, _, ycm⟩ := hGr k hlt
        have he := er_le g k
        have hk0 : (0 : Int) ≤ (k : Int) := by omega
        have hk1 : (k : Int) < (g.length : Int) := by omega
        have hk2 : (k : Int) ≤ (cap : Int) := by omega
        have Hfront := hid (top_front (cap := cap) hGr k (Nat.le_of_lt hlt) hbl)
        have Hnews := hid (game_news hGr (Nat.le_of_lt hlt) hbl (undrew (below_alloc wr.drew (.cells #[] 49))))
        have Hone := hid (game_one hGr (Nat.le_of_lt hlt))
        have Hown : Hid ((wr.drew.alloc (.cells #[] 49)).ownsRow wr.heap.size 49 2 (.slice (some ⟨wr.heap.size, 0, none⟩) 0 0) 0 []) := hid (World.ownsRow_made wr.drew #[] 0 (Nat.le_refl _) (Nat.zero_le _) rfl)
        have Hsay : Hid (∀ a2 c2 w2, GameAt w2 a2 (g.take k) → Below wr.heap.size wr w2 → Calls Try.prog 38 #[.slice a2 k c2, .slice aa (adv g k).length c] w2 fun e w' => e = .returned (.tuple #[.bool (saidB g k), .int .i64 0]) ∧ Below w2.heap.size w2 w') := by
          intro a2 c2 w2 hf hb2
          have hs := Say_any (g.take k) a2 c2 aa (adv g k) c w2 hf (by unfold maxLen; simp; omega) (y3.below hb2) (by omega)
          rw [(say_front hok k hlt).1, (say_front hok k hlt).2, List.length_take, Nat.min_eq_left (by omega)] at hs
          exact hs
        have Hne : Hid ((Value.slice (some ⟨wr.heap.size, 0, none⟩) 0 0).ownBlock ≠ some b) := hid (by simp [Value.ownBlock]; omega)
        go_wp2_with fail
        go_region_held3 (fun w' => w'.cell? ⟨b, off + k * 2, none⟩ = some (.slice aa (adv g k).length c) ∧ b < w'.heap.size) (first | exact ⟨y1, hbl⟩ | exact keepC hgrow2 Hne.out (by assumption) | exact keepC (row := none) (World.grownBy_alloc _ _ none) (fun h => by cases h) (by assumption) | exact keepC (row := none) (but_below (World.grownBy.refl _ none) hx3) (fun h => by cases h) (by assumption)) (first | (refine step_append_own (by rfl) _ _ _ (by rfl) wr.heap.size 49 i0 (.agg #[.slice none 0 0, .bool false]) 2 32 Try.underlying42 hi0 hz0 hz1 hz2 rfl (by omega) (.slice (some ⟨wr.heap.size, 0, none⟩) 0 0) 0 [] (by rfl) Hown.out ⟨b, off, none⟩ k cap (rcell wr b off (k * 2)) (by rfl) (rcell_len _ _ _ _) Hnews.out Hone.out (by unfold maxLen; omega) (by omega) (by simp) ?_; intro v' x2 hown2 hgrow2; obtain ⟨hx2, p2, q2, rfl, hf⟩ := Hfront.out v' x2 hown2 hgrow2; have Hs := Hsay.out p2 q2 x2 hf hx2) | (go_at_call 38; refine Hs.mono ?_; rintro e x3 ⟨rfl, hx3⟩))
        have hx23 : Below wr.heap.size wr x3 := hx2.trans (hx3.mono hx2.size)
        have hbr3 := hbr.trans (hx23.mono hbr.size)
        have hG3 := hGr.below hx23
        obtain ⟨b5, off5, rfl, hb5, x5⟩ := (h33.below hbr3) k (by rw [sd_len]; exact hlt)
        rw [sd_at g _ k hlt] at x5
        have y23 : x3.cell? ⟨b, off + k * 2 + 1, none⟩ = some (.bool (came g k)) := (hx23.cell (p := ⟨b, off + k * 2 + 1, none⟩) hbl).trans y2
        have hself : (saidB g k != saidB g k) = false := by simp
        have hbd := top_bound hok k hlt
        have hbl3 : b < x3.heap.size := Nat.lt_of_lt_of_le hbl hx23.size
        have Hnews2 := hid (game_news hG3 hlt hbl3 (below_alloc x3 (.cells #[] 49)))
        have Hone2 := hid (game_one hG3 hlt)
        have Hown2 : Hid ((x3.alloc (.cells #[] 49)).ownsRow x3.heap.size 49 2 (.slice (some ⟨x3.heap.size, 0, none⟩) 0 0) 0 []) := hid (World.ownsRow_made x3 #[] 0 (Nat.le_refl _) (Nat.zero_le _) rfl)
        have hk3 : (k : Int) + 1 ≤ (cap : Int) := by omega
        have hle := hbd.2.2
        have Hbd := hid hbd
        clear hbd hx2 hx3 hgrow2 hown2 hf Hs Hsay Hnews Hone Hown Hfront y1 y2 y3 ycm
        cases hx : (saidB g k == came g k)
        · have S := hid (er_step g k hx)
          rw [er_step g k hx] at hle
          have hle2 : ((er g k : Nat) : Int) + 1 ≤ boundR ((adv g 0).length : Int) (bestW (g.take (k + 1))) := by omega
          clear hle
          go_wp2_with (
            at_builtin
            refine wpList_append_own _ rfl _ _ 42 rfl x3.heap.size 49 i0 (.agg #[.slice none 0 0, .bool false]) 2 32 Try.underlying42 hi0 hz0 hz1 hz2 rfl (by decide) _ _ _ rfl Hown2.out ⟨b, off, none⟩ (k + 1) cap (rcell x3 b off ((k + 1) * 2)) rfl (rcell_len _ _ _ _) Hnews2.out Hone2.out (by unfold maxLen; omega) (by omega) (by simp) ?_
            intro v' x4 hown4 hgrow4 _
            simp only [Nat.zero_add, List.nil_append] at hown4
            have hx4 : Below x3.heap.size x3 x4 := (below_alloc x3 _).grown hgrow4 (by simp) fun k hk => Nat.le_of_eq (Option.some.inj (show some x3.heap.size = some k from hk))
            obtain ⟨p4, q4, rfl, hf4, _, _⟩ := game_front hG3 hlt hx4 hown4)
          have hba := BestAdviser_any (g.take (k + 1)) p4 q4 x4 hf4 (by unfold maxLen; simp; omega)
          rw [Hbd.out.1, List.length_take, Nat.min_eq_left (by omega)] at hba
          have Hba := hid hba
          clear hba hgrow4 hown4 hf4
          go_wp2_with fail
          refine Hba.out.mono ?_; rintro e x5 ⟨rfl, hx5⟩
          have hx35 := hx4.trans (hx5.mono hx4.size)
          have hbr5 := hbr3.trans (hx35.mono hbr3.size)
          obtain ⟨b0, off0, aa0, c0, e0, _, g1, _, _, _, _⟩ := (hG3.below hx35) 0 h0
          cases e0
          have z1 : x5.cell? ⟨b, off, none⟩ = some (.slice aa0 (adv g 0).length c0) := by simpa using g1
          clear g1 hx4 hx5 Hba Hown2 Hnews2 Hone2
          go_wp2_with fail
          refine (bound_any _ _ _).mono ?_; rintro e w' ⟨rfl, rfl⟩
          rw [Hbd.out.2.1]
          go_wp2_with fail
          go_roundw
          case rel => exact ⟨k + 1, by omega, by go_num, by rw [S.out]; go_num, hbr5⟩
          case measure => simp [intOf]; omega
        · have S := hid (er_skip g k hx)
          rw [er_skip g k hx] at hle
          go_wp2_with (
            at_builtin
            refine wpList_append_own _ rfl _ _ 42 rfl x3.heap.size 49 i0 (.agg #[.slice none 0 0, .bool false]) 2 32 Try.underlying42 hi0 hz0 hz1 hz2 rfl (by decide) _ _ _ rfl Hown2.out ⟨b, off, none⟩ (k + 1) cap (rcell x3 b off ((k + 1) * 2)) rfl (rcell_len _ _ _ _) Hnews2.out Hone2.out (by unfold maxLen; omega) (by omega) (by simp) ?_
            intro v' x4 hown4 hgrow4 _
            simp only [Nat.zero_add, List.nil_append] at hown4
            have hx4 : Below x3.heap.size x3 x4 := (below_alloc x3 _).grown hgrow4 (by simp) fun k hk => Nat.le_of_eq (Option.some.inj (show some x3.heap.size = some k from hk))
            obtain ⟨p4, q4, rfl, hf4, _, _⟩ := game_front hG3 hlt hx4 hown4)
          have hba := BestAdviser_any (g.take (k + 1)) p4 q4 x4 hf4 (by unfold maxLen; simp; omega)
          rw [Hbd.out.1, List.length_take, Nat.min_eq_left (by omega)] at hba
          have Hba := hid hba
          clear hba hgrow4 hown4 hf4
          go_wp2_with fail
          refine Hba.out.mono ?_; rintro e x5 ⟨rfl, hx5⟩
          have hx35 := hx4.trans (hx5.mono hx4.size)
          have hbr5 := hbr3.trans (hx35.mono hbr3.size)
          obtain ⟨b0, off0, aa0, c0, e0, _, g1, _, _, _, _⟩ := (hG3.below hx35) 0 h0
          cases e0
          have z1 : x5.cell? ⟨b, off, none⟩ = some (.slice aa0 (adv g 0).length c0) := by simpa using g1
          clear g1 hx4 hx5 Hba Hown2 Hnews2 Hone2
          go_wp2_with fail
          refine (bound_any _ _ _).mono ?_; rintro e w' ⟨rfl, rfl⟩
          rw [Hbd.out.2.1]
          go_wp2_with fail
          go_roundw
          case rel => exact ⟨k + 1, by omega, by go_num, by rw [S.out], hbr5⟩
          case measure => simp [intOf]; omega
      · obtain rfl : k = g.length := by omega
        have hself : (((er g g.length : Nat) : Int) != ((er g g.length : Nat) : Int)) = false := by simp
        have k0 : wr.cell? ⟨w.heap.size, 0, none⟩ = some (.int .i64 o) := (hbz.cell (p := ⟨w.heap.size, 0, none⟩) (by simp)).trans (by simp)
        have k1 : wr.cell? ⟨w.heap.size, 1, none⟩ = some (.int .i64 u) := (hbz.cell (p := ⟨w.heap.size, 1, none⟩) (by simp)).trans (by simp)
        have hIz := hI.below (hbB.trans (hbz.mono hbB.size))
        by_cases hz : xs.length ≤ 300
        · by_cases hC : CountsOK xs o u
          · have hq := quantity_bd hC
            have HC := hid hC
            clear hC
            go_wp2_with fail
            refine (quant_at HC.out a1 c1 _ hIz).mono ?_; rintro e w' ⟨rfl, rfl⟩
            go_wp2_with fail
            refine (cost_at HC.out a1 c1 (qBest xs o u) hq _ hIz).mono ?_; rintro e w' ⟨rfl, rfl⟩
            go_wp2_with fail
            go_loop [25] (fun v25 => ∃ p : Nat, p ≤ 101 ∧ v25 = .int .i64 p) (fun v25 => 101 - (intOf v25).toNat)
            case atStart => exact ⟨0, by omega, rfl⟩
            case round =>
              obtain ⟨p, hp, rfl⟩ := hrel
              by_cases hlt : p ≤ 100
              · have hle := qBest_le HC.out p
                have hself : ((costN xs o u p == costN xs o u (qBest xs o u)) != (costN xs o u p == costN xs o u (qBest xs o u))) = false := by simp
                by_cases hpq : p < qBest xs o u
                · have hf := cost_first p hpq
                  have he : (costN xs o u p == costN xs o u (qBest xs o u)) = false := beq_eq_false_iff_ne.2 (by omega)
                  go_wp2_with fail
                  refine (cost_at HC.out a1 c1 p hlt _ hIz).mono ?_; rintro e w' ⟨rfl, rfl⟩
                  go_wp2_with fail
                  refine (best_at HC.out a1 c1 p hlt _ hIz).mono ?_; rintro e w' ⟨rfl, rfl⟩
                  go_wp2_with fail
                  go_round
                  case rel => exact ⟨p + 1, by omega, by go_num⟩
                  case measure => simp [intOf]; omega
                · go_wp2_with fail
                  refine (cost_at HC.out a1 c1 p hlt _ hIz).mono ?_; rintro e w' ⟨rfl, rfl⟩
                  go_wp2_with fail
                  refine (best_at HC.out a1 c1 p hlt _ hIz).mono ?_; rintro e w' ⟨rfl, rfl⟩
                  go_wp2_with fail
                  go_round
                  case rel => exact ⟨p + 1, by omega, by go_num⟩
                  case measure => simp [intOf]; omega
              · obtain rfl : p = 101 := by omega
                go_wp2_with fail
                go_ret
                exact ⟨rfl, hbB.trans (hbz.mono hbB.size)⟩
          · have HC := hid hC
            clear hC
            go_wp2_with fail
            refine (quant_no HC.out a1 c1 _ hIz).mono ?_; rintro e w' ⟨rfl, rfl⟩
            go_wp2_with fail
            go_ret
            exact ⟨rfl, hbB.trans (hbz.mono hbB.size)⟩
        · go_wp2_with fail
          go_ret
          exact ⟨rfl, hbB.trans (hbz.mono hbB.size)⟩
  · have hbz : Below (w.alloc (.cells #[.int .i64 o, .int .i64 u] 29)).heap.size (w.alloc (.cells #[.int .i64 o, .int .i64 u] 29)) (w.alloc (.cells #[.int .i64 o, .int .i64 u] 29)) := Below.refl _ _
    have hIz := hI.below (hbB.trans (hbz.mono hbB.size))
    by_cases hz : xs.length ≤ 300
    · by_cases hC : CountsOK xs o u
      · have hq := quantity_bd hC
        have HC := hid hC
        clear hC
        go_wp2_with fail
        refine (quant_at HC.out a1 c1 _ hIz).mono ?_; rintro e w' ⟨rfl, rfl⟩
        go_wp2_with fail
        refine (cost_at HC.out a1 c1 (qBest xs o u) hq _ hIz).mono ?_; rintro e w' ⟨rfl, rfl⟩
        go_wp2_with fail
        go_loop [25] (fun v25 => ∃ p : Nat, p ≤ 101 ∧ v25 = .int .i64 p) (fun v25 => 101 - (intOf v25).toNat)
        case atStart => exact ⟨0, by omega, rfl⟩
        case round =>
          obtain ⟨p, hp, rfl⟩ := hrel
          by_cases hlt : p ≤ 100
          · have hle := qBest_le HC.out p
            have hself : ((costN xs o u p == costN xs o u (qBest xs o u)) != (costN xs o u p == costN xs o u (qBest xs o u))) = false := by simp
            by_cases hpq : p < qBest xs o u
            · have hf := cost_first p hpq
              have he : (costN xs o u p == costN xs o u (qBest xs o u)) = false := beq_eq_false_iff_ne.2 (by omega)
              go_wp2_with fail
              refine (cost_at HC.out a1 c1 p hlt _ hIz).mono ?_; rintro e w' ⟨rfl, rfl⟩
              go_wp2_with fail
              refine (best_at HC.out a1 c1 p hlt _ hIz).mono ?_; rintro e w' ⟨rfl, rfl⟩
              go_wp2_with fail
              go_round
              case rel => exact ⟨p + 1, by omega, by go_num⟩
              case measure => simp [intOf]; omega
            · go_wp2_with fail
              refine (cost_at HC.out a1 c1 p hlt _ hIz).mono ?_; rintro e w' ⟨rfl, rfl⟩
              go_wp2_with fail
              refine (best_at HC.out a1 c1 p hlt _ hIz).mono ?_; rintro e w' ⟨rfl, rfl⟩
              go_wp2_with fail
              go_round
              case rel => exact ⟨p + 1, by omega, by go_num⟩
              case measure => simp [intOf]; omega
          · obtain rfl : p = 101 := by omega
            go_wp2_with fail
            go_ret
            exact ⟨rfl, hbB.trans (hbz.mono hbB.size)⟩
      · have HC := hid hC
        clear hC
        go_wp2_with fail
        refine (quant_no HC.out a1 c1 _ hIz).mono ?_; rintro e w' ⟨rfl, rfl⟩
        go_wp2_with fail
        go_ret
        exact ⟨rfl, hbB.trans (hbz.mono hbB.size)⟩
    · go_wp2_with fail
      go_ret
      exact ⟨rfl, hbB.trans (hbz.mono hbB.size)⟩

theorem lawTop (w : World) (a : Option Addr) (g : List Rd) (cap : Nat) (hG : GameAt w a g) (hc : g.length ≤ cap) (hcm : cap ≤ maxLen) (a1 : Option Addr) (xs : List Int) (c1 : Nat) (hI : IntsAt w a1 xs) (hm1 : xs.length ≤ maxLen) (_hw : ∀ i, i < xs.length → (Lit.int .i64 (nth xs i)).wf = true) (o u : Int) (_wo : (Lit.int .i64 o).wf = true) (_wu : (Lit.int .i64 u).wf = true) :
    Calls Try.prog 16 #[.slice a g.length cap, .slice a1 xs.length c1, .agg #[.int .i64 o, .int .i64 u]] w fun e w' => e = .returned (.bool true) ∧ Below w.heap.size w w' := by
  by_cases h : vE g = 0 ∧ 0 < g.length
  · exact lawTop_main w a g cap hG hc hcm a1 xs c1 hI hm1 o u h.1 h.2
  · exact lawTop_skip w a g cap hG hc hcm a1 xs c1 hI hm1 o u h
end Go.Proofs.Ytedgndangamkaaa
