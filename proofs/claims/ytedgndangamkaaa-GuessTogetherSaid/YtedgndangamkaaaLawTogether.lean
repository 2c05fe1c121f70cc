/- 'GuessTogether' returns true: two advisers who always agreed, and what the office says if all say the same. -/
import Derived.Test.YtedgndangamkaaaLawSays
namespace Go.Proofs.Ytedgndangamkaaa
open Go.RowKit
set_option linter.unusedSimpArgs false
set_option linter.unusedVariables false

def agB (g : List Rd) (x y : Nat) : Nat → Bool
  | 0 => true
  | k + 1 => agB g x y k && (decide (x < (adv g k).length) && decide (y < (adv g k).length) && (bth (adv g k) x == bth (adv g k) y))
theorem ag_no1 (g : List Rd) (x y k : Nat) (h : ¬ x < (adv g k).length) : agB g x y (k + 1) = false := by simp [agB, h]
theorem ag_no2 (g : List Rd) (x y k : Nat) (h : ¬ y < (adv g k).length) : agB g x y (k + 1) = false := by simp [agB, h]
theorem ag_no3 (g : List Rd) (x y k : Nat) (h : (bth (adv g k) x == bth (adv g k) y) = false) : agB g x y (k + 1) = false := by simp only [agB, h, Bool.and_false]
theorem ag_yes (g : List Rd) (x y k : Nat) (h1 : x < (adv g k).length) (h2 : y < (adv g k).length) (h : (bth (adv g k) x == bth (adv g k) y) = true) : agB g x y (k + 1) = agB g x y k := by simp only [agB, h, h1, h2, decide_true, Bool.and_true]
theorem ag_wrg (g : List Rd) (x y k : Nat) (h : agB g x y k = true) : wrg g x k = wrg g y k := by
  induction k with
  | zero => rfl
  | succ k ih =>
    simp only [agB, Bool.and_eq_true, beq_iff_eq] at h
    simp only [wrg, ih h.1, h.2.2]
theorem ag_in (g : List Rd) (x y k : Nat) (hk : 0 < k) (h : agB g x y k = true) : x < (adv g 0).length ∧ y < (adv g 0).length := by
  induction k with
  | zero => omega
  | succ k ih =>
    simp only [agB, Bool.and_eq_true, decide_eq_true_eq] at h
    by_cases h0 : k = 0
    · subst h0; exact h.2.1
    · exact ih (by omega) h.1
theorem sgn_all (T : Nat → Int) (n : Nat) (all : Bool) (k : Nat) (hk : k ≤ n) : sgn T (List.replicate n all) k = if all then sumTo T k else -(sumTo T k) := by
  induction k with
  | zero => cases all <;> rfl
  | succ k ih =>
    have e : bth (List.replicate n all) k = all := by simp [bth, List.getD, show k < n by omega]
    simp only [sgn, e, ih (by omega), sumTo]
    cases all <;> simp; omega
theorem say_all {g : List Rd} (hok : GOK g) (h0 : 0 < g.length) (all : Bool) : sayR g (List.replicate (adv g 0).length all) = all ∧ sayE g (List.replicate (adv g 0).length all) = 0 := by
  have he := hok.el 0 h0
  have hs : SayOK g (List.replicate (adv g 0).length all) := ⟨hok, by simp; omega, by simp; omega, fun _ => by simp⟩
  refine ⟨?_, by simp [sayE, vE_ok hok, hs]⟩
  rw [sayR, if_pos hs, sayB, List.length_replicate, sgn_all _ _ _ _ (Nat.le_refl _)]
  have h1 := term_le (wts g g.length) (adv g 0).length 0 (fun i _ => by have := wt_bd (wrg g i g.length); unfold wts; omega) (by omega)
  have h2 := wt_bd (wrg g 0 g.length)
  unfold wts at h1
  unfold wts
  cases all <;> simp <;> omega

theorem rep_succ (all : Bool) (k : Nat) : (List.replicate k all).map Value.bool ++ [Value.bool all] = (List.replicate (k + 1) all).map Value.bool := by rw [List.replicate_succ']; simp
set_option maxRecDepth 100000 in
set_option maxHeartbeats 4000000 in
theorem lawTogether (w : World) (a : Option Addr) (g : List Rd) (cap : Nat) (hG : GameAt w a g) (hc : g.length ≤ cap) (hcm : cap ≤ maxLen) (x y : Int) (_wx : (Lit.int .i64 x).wf = true) (_wy : (Lit.int .i64 y).wf = true) (all : Bool) :
    Calls Try.prog 12 #[.slice a g.length cap, .agg #[.int .i64 x, .int .i64 y], .bool all] w fun e w' => e = .returned (.bool true) ∧ Below w.heap.size w w' := by
  have hm : g.length ≤ maxLen := by omega
  clear _wx _wy
  have hbx : Below w.heap.size w (w.alloc (.cells #[.int .i64 x, .int .i64 y] 57)) := below_alloc _ _
  by_cases hne : 0 < g.length ∧ 0 ≤ x ∧ 0 ≤ y
  · obtain ⟨h0, hx0, hy0⟩ := hne
    obtain ⟨i, rfl⟩ := Int.eq_ofNat_of_zero_le hx0
    obtain ⟨j, rfl⟩ := Int.eq_ofNat_of_zero_le hy0
    have hz : ((g.length : Int) == 0) = false := beq_eq_false_iff_ne.2 (by omega)
    by_cases hp : plE g = 0
    · obtain ⟨hok, _⟩ := plE_zero hp
      have hl := hok.len
      have Hwt := hid (Weights_any g a cap)
      rw [wlR, hp, if_pos rfl] at Hwt
      have Hsay := hid (say_all hok h0 all)
      have hn8 := (hok.el 0 h0).2
      clear hp
      obtain ⟨i0, hi0, hz0, hz1, hz2⟩ := info_parts info4
      go_enter Try.func12, Try.ntmps12
      go_wp2_with fail
      go_quiet (fail)
      go_wp2_with fail
      refine (Long_any g _ _ _ (hG.below (below_drewN hbx _)) hm).mono ?_; rintro e w1 ⟨lb, rfl, rfl, _⟩
      cases lb
      · have hb0 : Below w.heap.size w ((w.alloc (.cells #[.int .i64 i, .int .i64 j] 57)).drewN nq) := below_drewN hbx _
        go_wp2_with fail
        refine (Hwt.out _ (hG.below hb0) hm).mono ?_; rintro e w1 ⟨a1, c1, rfl, h1, hb1, hc1, hm1⟩
        rw [wl_len]
        have hb01 := hb0.trans (hb1.mono hb0.size)
        clear hb0 hb1
        have hG1 := hG.below hb01
        obtain ⟨b, off, aa, c, rfl, hbl, y1, _, y3, _, ycm⟩ := hG1 0 h0
        have z1 : w1.cell? ⟨b, off, none⟩ = some (.slice aa (adv g 0).length c) := by simpa using y1
        have hself : (((adv g 0).length : Int) != ((adv g 0).length : Int)) = false := by simp
        clear y1 y3 ycm
        go_wp2
        go_loopw [11, 12] (fun v11 v12 w' => ∃ k : Nat, k ≤ g.length ∧ v11 = .bool (agB g i j k) ∧ v12 = .int .i64 k ∧ ∃ n, w' = w1.drewN n) (fun _ v12 _ => g.length - (intOf v12).toNat)
        case atStart => exact ⟨0, by omega, rfl, rfl, 0, rfl⟩
        case round =>
          clear z1
          obtain ⟨k, hk, rfl, rfl, n, rfl⟩ := hrel
          by_cases hlt : k < g.length
          · obtain ⟨b2, off2, aa2, c2, e2, hbl2, q1, _, q3, _, qcm⟩ := hG1 k hlt
            cases e2
            unfold maxLen at qcm
            have hk0 : (0 : Int) ≤ (k : Int) := by omega
            have hk1 : (k : Int) < (g.length : Int) := by omega
            by_cases hi : i < (adv g k).length
            · have hi1 : decide ((adv g k).length ≤ i) = false := decide_eq_false (by omega)
              have hi0 : (0 : Int) ≤ (i : Int) := by omega
              have hi2 : (i : Int) < ((adv g k).length : Int) := by omega
              by_cases hj : j < (adv g k).length
              · have hj1 : decide ((adv g k).length ≤ j) = false := decide_eq_false (by omega)
                have hj0 : (0 : Int) ≤ (j : Int) := by omega
                have hj2 : (j : Int) < ((adv g k).length : Int) := by omega
                obtain ⟨b3, off3, rfl, hb3, x3⟩ := q3 i hi
                obtain ⟨b4, off4, e4, hb4, x4⟩ := q3 j hj
                cases e4
                clear q3
                cases hx : (bth (adv g k) i == bth (adv g k) j)
                · have S := hid (ag_no3 g i j k hx)
                  go_wp2
                  go_quiet (fail)
                  go_wp2
                  go_roundw
                  case rel => exact ⟨k + 1, by omega, by rw [S.out], by go_num, _, rfl⟩
                  case measure => simp [intOf]; omega
                · have S := hid (ag_yes g i j k hi hj hx)
                  go_wp2
                  go_quiet (fail)
                  go_wp2
                  go_roundw
                  case rel => exact ⟨k + 1, by omega, by rw [S.out], by go_num, _, rfl⟩
                  case measure => simp [intOf]; omega
              · have hj1 : decide ((adv g k).length ≤ j) = true := decide_eq_true (by omega)
                have S := hid (ag_no2 g i j k hj)
                clear q3 hj
                go_wp2
                go_quiet (fail)
                go_wp2
                go_roundw
                case rel => exact ⟨k + 1, by omega, by rw [S.out], by go_num, _, rfl⟩
                case measure => simp [intOf]; omega
            · have hi1 : decide ((adv g k).length ≤ i) = true := decide_eq_true (by omega)
              have S := hid (ag_no1 g i j k hi)
              clear q3 hi
              go_wp2
              go_quiet (fail)
              go_wp2
              go_roundw
              case rel => exact ⟨k + 1, by omega, by rw [S.out], by go_num, _, rfl⟩
              case measure => simp [intOf]; omega
          · obtain rfl : k = g.length := by omega
            cases hag : agB g i j g.length
            · go_wp2
              go_quiet (fail)
              go_wp2
              go_loopw [13, 14] (fun v13 v14 w' => ∃ k : Nat, k ≤ (adv g 0).length ∧ v14 = .int .i64 k ∧ w'.ownsRow w1.heap.size 4 1 v13 k ((List.replicate k all).map Value.bool) ∧ Below w1.heap.size w1 w') (fun _ v14 _ => (adv g 0).length - (intOf v14).toNat)
              case atStart => exact ⟨0, by omega, rfl, World.ownsRow_nil _ _ _ _, below_drewN (below_drewN (Below.refl _ _) _) _⟩
              case round =>
                obtain ⟨k, hk2, rfl, hown, hb⟩ := hrel
                by_cases hlt2 : k < (adv g 0).length
                · have HS := hid (rep_succ all k)
                  have hsz := hb.size
                  go_wp2_with (at_builtin; refine wpList_append_own _ rfl _ _ 47 rfl w1.heap.size 4 i0 (.bool false) 1 1 Try.underlying47 hi0 hz0 hz1 hz2 rfl (by decide) _ _ _ rfl (hown.alloc _) ⟨wr.heap.size, 0, none⟩ 1 1 [.bool all] rfl rfl (World.news_of_block (cs := #[.bool all]) (t := 4) (fr := (0, 0)) (heap_alloc_new wr _)) (by simp [Value.oneCell']) (by unfold maxLen; omega) (by omega) (by simp; omega) ?_; intro v' w4 hown4 hgrow4 _)
                  rw [HS.out] at hown4
                  have hb4 : Below w1.heap.size w1 w4 := (hb.alloc hb.size _).grown hgrow4 (by simp; omega) fun j hj => (hown.lt j hj).1
                  clear hgrow4 hb hown
                  go_wp2
                  go_roundw
                  case rel => exact ⟨k + 1, by omega, by go_num, hown4, hb4⟩
                  case measure => simp [intOf]; omega
                · obtain rfl : k = (adv g 0).length := by omega
                  have hown' : wr.ownsRow w1.heap.size 4 1 u13 (List.replicate (adv g 0).length all).length ((List.replicate (adv g 0).length all).map Value.bool) := by rw [List.length_replicate]; exact hown
                  obtain ⟨a2, c2, e2, h3, h4, h5⟩ := own_bools hown'
                  rw [List.length_replicate] at e2
                  subst e2
                  have hs := Say_any g (some ⟨b, off, none⟩) cap a2 (List.replicate (adv g 0).length all) c2 wr (hG1.below hb) hm h3 (by unfold maxLen; simp; omega)
                  rw [Hsay.out.1, Hsay.out.2, List.length_replicate] at hs
                  have Hs := hid hs
                  have hbb := hb01.trans (hb.mono hb01.size)
                  clear hs hown' hown h3 hb
                  go_wp2_with fail
                  refine Hs.out.mono ?_; rintro e w5 ⟨rfl, hb5⟩
                  have hb6 := hbb.trans (hb5.mono hbb.size)
                  clear hbb hb5
                  have hself2 : (all == all) = true := by simp
                  go_wp2_with fail
                  refine (known_true _).mono ?_; rintro e w' ⟨rfl, hb⟩
                  go_wp2
                  go_ret
                  exact ⟨rfl, hb6.trans (hb.mono hb6.size)⟩
            · obtain ⟨hi, hj⟩ := ag_in g i j g.length h0 hag
              have hwe : (nth (wl g) i != nth (wl g) j) = false := by rw [wl_at g i hi, wl_at g j hj, wts, wts, ag_wrg g i j _ hag]; simp
              obtain ⟨b3, off3, rfl, hb3, x3⟩ := h1 i (by rw [wl_len]; exact hi)
              obtain ⟨b4, off4, e4, hb4, x4⟩ := h1 j (by rw [wl_len]; exact hj)
              cases e4
              have hi0 : (0 : Int) ≤ (i : Int) := by omega
              have hi2 : (i : Int) < ((adv g 0).length : Int) := by omega
              have hj0 : (0 : Int) ≤ (j : Int) := by omega
              have hj2 : (j : Int) < ((adv g 0).length : Int) := by omega
              go_wp2
              go_quiet (fail)
              clear x3 x4 hwe hi0 hi2 hj0 hj2 hb3 hb4
              go_wp2
              go_loopw [13, 14] (fun v13 v14 w' => ∃ k : Nat, k ≤ (adv g 0).length ∧ v14 = .int .i64 k ∧ w'.ownsRow w1.heap.size 4 1 v13 k ((List.replicate k all).map Value.bool) ∧ Below w1.heap.size w1 w') (fun _ v14 _ => (adv g 0).length - (intOf v14).toNat)
              case atStart => exact ⟨0, by omega, rfl, World.ownsRow_nil _ _ _ _, below_drewN (below_drewN (Below.refl _ _) _) _⟩
              case round =>
                obtain ⟨k, hk2, rfl, hown, hb⟩ := hrel
                by_cases hlt2 : k < (adv g 0).length
                · have HS := hid (rep_succ all k)
                  have hsz := hb.size
                  go_wp2_with (at_builtin; refine wpList_append_own _ rfl _ _ 47 rfl w1.heap.size 4 i0 (.bool false) 1 1 Try.underlying47 hi0 hz0 hz1 hz2 rfl (by decide) _ _ _ rfl (hown.alloc _) ⟨wr.heap.size, 0, none⟩ 1 1 [.bool all] rfl rfl (World.news_of_block (cs := #[.bool all]) (t := 4) (fr := (0, 0)) (heap_alloc_new wr _)) (by simp [Value.oneCell']) (by unfold maxLen; omega) (by omega) (by simp; omega) ?_; intro v' w4 hown4 hgrow4 _)
                  rw [HS.out] at hown4
                  have hb4 : Below w1.heap.size w1 w4 := (hb.alloc hb.size _).grown hgrow4 (by simp; omega) fun j hj => (hown.lt j hj).1
                  clear hgrow4 hb hown
                  go_wp2
                  go_roundw
                  case rel => exact ⟨k + 1, by omega, by go_num, hown4, hb4⟩
                  case measure => simp [intOf]; omega
                · obtain rfl : k = (adv g 0).length := by omega
                  have hown' : wr.ownsRow w1.heap.size 4 1 u13 (List.replicate (adv g 0).length all).length ((List.replicate (adv g 0).length all).map Value.bool) := by rw [List.length_replicate]; exact hown
                  obtain ⟨a2, c2, e2, h3, h4, h5⟩ := own_bools hown'
                  rw [List.length_replicate] at e2
                  subst e2
                  have hs := Say_any g (some ⟨b, off, none⟩) cap a2 (List.replicate (adv g 0).length all) c2 wr (hG1.below hb) hm h3 (by unfold maxLen; simp; omega)
                  rw [Hsay.out.1, Hsay.out.2, List.length_replicate] at hs
                  have Hs := hid hs
                  have hbb := hb01.trans (hb.mono hb01.size)
                  clear hs hown' hown h3 hb
                  go_wp2_with fail
                  refine Hs.out.mono ?_; rintro e w5 ⟨rfl, hb5⟩
                  have hb6 := hbb.trans (hb5.mono hbb.size)
                  clear hbb hb5
                  have hself2 : (all == all) = true := by simp
                  go_wp2_with fail
                  refine (known_true _).mono ?_; rintro e w' ⟨rfl, hb⟩
                  go_wp2
                  go_ret
                  exact ⟨rfl, hb6.trans (hb.mono hb6.size)⟩
      · go_wp2_with fail
        refine (known_true _).mono ?_; rintro e w' ⟨rfl, hb⟩
        go_wp2
        go_ret
        exact ⟨rfl, (below_drewN hbx _).trans (hb.mono (by simp))⟩
    · have Hwt := hid (Weights_any g a cap)
      rw [wlR, if_neg hp] at Hwt
      have hne := pl_wf g hp
      clear hp
      go_enter Try.func12, Try.ntmps12
      go_wp2_with fail
      go_quiet (fail)
      have hb0 : Below w.heap.size w ((w.alloc (.cells #[.int .i64 i, .int .i64 j] 57)).drewN nq) := below_drewN hbx _
      go_wp2_with fail
      refine (Long_any g _ _ _ (hG.below hb0) hm).mono ?_; rintro e w1 ⟨lb, rfl, rfl, _⟩
      cases lb
      · go_wp2_with fail
        refine (Hwt.out _ (hG.below hb0) hm).mono ?_; rintro e w1 ⟨a1, c1, rfl, h1, hb1, hc1, hm1⟩
        have hb01 := hb0.trans (hb1.mono hb0.size)
        go_wp2_with fail
        refine (known_true _).mono ?_; rintro e w' ⟨rfl, hb⟩
        go_wp2
        go_ret
        exact ⟨rfl, hb01.trans (hb.mono hb01.size)⟩
      · go_wp2_with fail
        refine (known_true _).mono ?_; rintro e w' ⟨rfl, hb⟩
        go_wp2
        go_ret
        exact ⟨rfl, hb0.trans (hb.mono hb0.size)⟩
  · by_cases hz : g.length = 0
    · have hz1 : ((g.length : Int) == 0) = true := beq_iff_eq.2 (by omega)
      clear hne hz
      go_enter Try.func12, Try.ntmps12
      go_wp2_with fail
      go_quiet (fail)
      have hb0 : Below w.heap.size w ((w.alloc (.cells #[.int .i64 x, .int .i64 y] 57)).drewN nq) := below_drewN hbx _
      go_wp2_with fail
      refine (Long_any g _ _ _ (hG.below hb0) hm).mono ?_; rintro e w1 ⟨lb, rfl, rfl, _⟩
      cases lb
      all_goals
        go_wp2_with fail
        refine (known_true _).mono ?_; rintro e w' ⟨rfl, hb⟩
        go_wp2
        go_ret
        exact ⟨rfl, hb0.trans (hb.mono hb0.size)⟩
    · have hz1 : ((g.length : Int) == 0) = false := beq_eq_false_iff_ne.2 (by omega)
      by_cases hx : x < 0
      · clear hne hz
        go_enter Try.func12, Try.ntmps12
        go_wp2_with fail
        go_quiet (fail)
        have hb0 : Below w.heap.size w ((w.alloc (.cells #[.int .i64 x, .int .i64 y] 57)).drewN nq) := below_drewN hbx _
        go_wp2_with fail
        refine (Long_any g _ _ _ (hG.below hb0) hm).mono ?_; rintro e w1 ⟨lb, rfl, rfl, _⟩
        cases lb
        all_goals
          go_wp2_with fail
          refine (known_true _).mono ?_; rintro e w' ⟨rfl, hb⟩
          go_wp2
          go_ret
          exact ⟨rfl, hb0.trans (hb.mono hb0.size)⟩
      · have hy : y < 0 := by omega
        clear hne hz
        go_enter Try.func12, Try.ntmps12
        go_wp2_with fail
        go_quiet (fail)
        have hb0 : Below w.heap.size w ((w.alloc (.cells #[.int .i64 x, .int .i64 y] 57)).drewN nq) := below_drewN hbx _
        go_wp2_with fail
        refine (Long_any g _ _ _ (hG.below hb0) hm).mono ?_; rintro e w1 ⟨lb, rfl, rfl, _⟩
        cases lb
        all_goals
          go_wp2_with fail
          refine (known_true _).mono ?_; rintro e w' ⟨rfl, hb⟩
          go_wp2
          go_ret
          exact ⟨rfl, hb0.trans (hb.mono hb0.size)⟩
end Go.Proofs.Ytedgndangamkaaa
