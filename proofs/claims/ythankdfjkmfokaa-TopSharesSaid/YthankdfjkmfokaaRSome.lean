/- The document's 'Some': what it returns. -/
import Derived.Test.YthankdfjkmfokaaSome
import Derived.Test.YthankdfjkmfokaaQuietB
namespace Go.Proofs.Ythankdfjkmfokaa
open Go.RowKit
set_option linter.unusedSimpArgs false
set_option linter.unusedVariables false

set_option maxRecDepth 100000 in
set_option maxHeartbeats 4000000 in
theorem rSome_any (xs ss : List Int) (a a2 : Option Addr) (cap cap2 : Nat) (n kd : Int) (W : World) (h1 : IntsAt W a xs) (h2 : IntsAt W a2 ss) (hm : xs.length ≤ maxLen) (hm2 : ss.length ≤ 1000) :
    Calls Try.prog 30 #[.slice a xs.length cap, .slice a2 ss.length cap2, .int .i64 n, .int .i64 kd] W (SomPost xs ss n kd W) := by
  obtain ⟨i0, hi0, hz0, hz1, hz2⟩ := info_parts info3
  have Ha := ask_any xs a cap n kd W h1 hm
  by_cases hx : ExOK xs kd ∧ NumOK n
  · rw [show e01 (ExOK xs kd ∧ NumOK n) = 0 from e01_yes hx] at Ha
    have Hx := hid Ha
    have HX := hid hx.1
    have hl8 := hx.1.1.l8
    clear hx Ha
    have hb0 := Below.refl W.heap.size W
    go_enter Try.func30, Try.ntmps30
    go_wp2_with fail
    refine Hx.out.mono ?_; rintro e w' ⟨rfl, rfl⟩
    go_wp2_with fail
    go_loopw [11, 12] (fun v11 v12 w' => ∃ k : Nat, k ≤ ss.length ∧ v12 = .int .i64 k ∧ w'.ownsRow W.heap.size 3 1 v11 k (((sub xs ss).take k).map (Value.int .i64)) ∧ (∀ j, j < k → SchAt xs ss j) ∧ Below W.heap.size W w') (fun _ v12 _ => ss.length - (intOf v12).toNat)
    case atStart => exact ⟨0, by omega, rfl, World.ownsRow_nil _ _ _ _, fun j hj => absurd hj (Nat.not_lt_zero j), hb0⟩
    case round =>
      clear hb0
      obtain ⟨k, hk, rfl, hown, hA, hb⟩ := hrel
      have HA := hid hA
      clear hA
      by_cases hlt : k < ss.length
      · obtain ⟨b2, off2, e2, hbl2, c2⟩ := (h2.below hb) k hlt
        subst e2
        have i1 : (0 : Int) ≤ (k : Int) := by omega
        have i2 : (k : Int) < (ss.length : Int) := by omega
        by_cases hlo : nth ss k < 0
        · have d1 : decide (nth ss k < 0) = true := decide_eq_true hlo
          have R := hid (som_no (n := n) (kd := kd) (xs := xs) (ss := ss) fun h => by have := (schs_at h.sch k hlt).lo; omega)
          clear hlo
          go_wp2_with fail
          go_quiet (fail)
          go_wp2_with fail
          go_ret2
          refine ⟨none, 0, by rw [R.out.1, R.out.2]; rfl, by rw [R.out.2]; exact fun i hi => absurd hi (Nat.not_lt_zero i), below_drewN hb _, by rw [R.out.2]; exact Nat.le_refl _, Nat.zero_le _⟩
        · have d1 : decide (nth ss k < 0) = false := decide_eq_false hlo
          by_cases hhi : (xs.length : Int) ≤ nth ss k
          · have d2 : decide ((xs.length : Int) ≤ nth ss k) = true := decide_eq_true hhi
            have R := hid (som_no (n := n) (kd := kd) (xs := xs) (ss := ss) fun h => by have := (schs_at h.sch k hlt).hi; omega)
            clear hlo hhi
            go_wp2_with fail
            go_quiet (fail)
            go_wp2_with fail
            go_ret2
            refine ⟨none, 0, by rw [R.out.1, R.out.2]; rfl, by rw [R.out.2]; exact fun i hi => absurd hi (Nat.not_lt_zero i), below_drewN hb _, by rw [R.out.2]; exact Nat.le_refl _, Nat.zero_le _⟩
          · obtain ⟨j, hj⟩ : ∃ j : Nat, nth ss k = j := ⟨(nth ss k).toNat, by omega⟩
            have hjl : j < xs.length := by omega
            have d2 : decide ((xs.length : Int) ≤ nth ss k) = false := decide_eq_false hhi
            have i7 : (j : Int) < (xs.length : Int) := by omega
            by_cases h0 : 0 < k
            · obtain ⟨k', hk'⟩ : ∃ k' : Nat, k = k' + 1 := ⟨k - 1, by omega⟩
              obtain ⟨b3, off3, e3, hbl3, c3⟩ := (h2.below hb) k' (by omega)
              cases e3
              have hw1 : IntKind.i64.wrap ((k : Int) - 1) = (k' : Int) := by rw [IntWalk.i64_in _ (by omega)]; omega
              have i5 : (0 : Int) ≤ (k' : Int) := by omega
              have i6 : (k' : Int) < (ss.length : Int) := by omega
              have d0 : decide ((0 : Int) < (k : Int)) = true := decide_eq_true (by omega)
              by_cases hup : nth ss k' < nth ss k
              · have hat : SchAt xs ss k := ⟨by omega, by omega, fun _ => (show k' = k - 1 by omega) ▸ hup⟩
                have d3 : decide ((j : Int) ≤ nth ss k') = false := decide_eq_false (by omega)
                clear hlo hhi hup
                rw [hj] at c2 d1 d2
                obtain ⟨b, off, e1, hbl, c1⟩ := (h1.below hb) j (by omega)
                subst e1
                have HS := hid (sub_take xs ss k hlt)
                have HT := hid (sch_more HA.out hat)
                rw [hj, Int.toNat_natCast] at HS
                have i3 : (0 : Int) ≤ (j : Int) := by omega
                have i4 : (j : Int) < (xs.length : Int) := by omega
                clear hat hj
                generalize nth ss k' = P at *
                have Hk := hid hk'
                clear hk'
                go_wp2_with fail
                go_quiet (fail)
                have own0 : (wr.drewN nq).ownsRow W.heap.size 3 1 u11 k (((sub xs ss).take k).map (Value.int .i64)) := own_below hown (below_drewN (Below.refl _ _) nq)
                have Hown := hid own0
                have hbw : Below W.heap.size W (wr.drewN nq) := below_drewN hb nq
                have Hnews : Hid (∀ t u, ([Value.int .i64 (nth xs j)])[t]? = some u → ((wr.drewN nq).alloc (.cells #[.int .i64 (nth xs j)] 3)).cell? ((⟨wr.heap.size, 0, none⟩ : Addr).add t) = some u) := by
                  have := World.news_of_block (cs := #[.int .i64 (nth xs j)]) (t := 3) (fr := (0, 0)) (heap_alloc_new (wr.drewN nq) (.cells #[.int .i64 (nth xs j)] 3))
                  exact hid (by simpa using this)
                clear own0
                go_wp2_with (at_builtin; go_loud (refine wpList_append_own _ rfl _ _ 22 rfl W.heap.size 3 i0 (.int .i64 0) 1 8 Try.underlying22 hi0 hz0 hz1 hz2 rfl (by decide) _ _ _ rfl (Hown.out.alloc _) ⟨wr.heap.size, 0, none⟩ 1 1 [.int .i64 (nth xs j)] rfl rfl Hnews.out (by simp [Value.oneCell']) (by unfold maxLen; omega) (by omega) (by have := hbw.size; simp at this ⊢; omega) ?_); intro v' w6 hown6 hgrow6 _)
                rw [HS.out] at hown6
                have hb6 := (hbw.alloc hbw.size (.cells #[.int .i64 (nth xs j)] 3)).grown hgrow6 (by have := hbw.size; simp at this ⊢; omega) fun t ht => (Hown.out.lt _ ht).1
                clear hgrow6 Hown Hnews hbw
                go_wp2_with fail
                go_roundw
                case rel => exact ⟨k + 1, by omega, by go_num, hown6, HT.out, hb6⟩
                case measure => simp [intOf]; omega
              · have d3 : decide (nth ss k ≤ nth ss k') = true := decide_eq_true (by omega)
                have R := hid (som_no (n := n) (kd := kd) (xs := xs) (ss := ss) fun h => by have := (schs_at h.sch k hlt).up h0; rw [show k - 1 = k' by omega] at this; exact hup this)
                clear hlo hhi hup hj hk'
                go_wp2_with fail
                go_quiet (fail)
                go_wp2_with fail
                go_ret2
                refine ⟨none, 0, by rw [R.out.1, R.out.2]; rfl, by rw [R.out.2]; exact fun i hi => absurd hi (Nat.not_lt_zero i), below_drewN hb _, by rw [R.out.2]; exact Nat.le_refl _, Nat.zero_le _⟩
            · have hat : SchAt xs ss k := ⟨by omega, by omega, fun h => absurd h h0⟩
              have d0 : decide ((0 : Int) < (k : Int)) = false := decide_eq_false (by omega)
              have d0n : decide (0 < k) = false := decide_eq_false h0
              have d2n : decide (xs.length ≤ j) = false := decide_eq_false (by omega)
              clear hlo hhi h0
              rw [hj] at c2 d1 d2
              obtain ⟨b, off, e1, hbl, c1⟩ := (h1.below hb) j (by omega)
              subst e1
              have HS := hid (sub_take xs ss k hlt)
              have HT := hid (sch_more HA.out hat)
              rw [hj, Int.toNat_natCast] at HS
              have i3 : (0 : Int) ≤ (j : Int) := by omega
              have i4 : (j : Int) < (xs.length : Int) := by omega
              clear hat hj
              go_wp2_with fail
              refine wp_region_quiet_lit (by kernel_rfl) (by kernel_rfl) ?_
              refine Qt.out ?_
              iterate 18 (refine qt_want (by kernel_rfl) (fun K hK => ?_); go_simp; refine hK _ ?_; clear hK K)
              iterate 10 (refine qt_skip (by kernel_rfl) ?_)
              iterate 2 (refine qt_want (by kernel_rfl) (fun K hK => ?_); go_simp; refine hK _ ?_; clear hK K)
              refine qt_nil ?_
              intro _ hw'
              obtain ⟨nq, hw''⟩ := hw'
              subst hw''
              have own0 : (wr.drewN nq).ownsRow W.heap.size 3 1 u11 k (((sub xs ss).take k).map (Value.int .i64)) := own_below hown (below_drewN (Below.refl _ _) nq)
              have Hown := hid own0
              have hbw : Below W.heap.size W (wr.drewN nq) := below_drewN hb nq
              have Hnews : Hid (∀ t u, ([Value.int .i64 (nth xs j)])[t]? = some u → ((wr.drewN nq).alloc (.cells #[.int .i64 (nth xs j)] 3)).cell? ((⟨wr.heap.size, 0, none⟩ : Addr).add t) = some u) := by
                have := World.news_of_block (cs := #[.int .i64 (nth xs j)]) (t := 3) (fr := (0, 0)) (heap_alloc_new (wr.drewN nq) (.cells #[.int .i64 (nth xs j)] 3))
                exact hid (by simpa using this)
              clear own0
              go_wp2_with (at_builtin; go_loud (refine wpList_append_own _ rfl _ _ 22 rfl W.heap.size 3 i0 (.int .i64 0) 1 8 Try.underlying22 hi0 hz0 hz1 hz2 rfl (by decide) _ _ _ rfl (Hown.out.alloc _) ⟨wr.heap.size, 0, none⟩ 1 1 [.int .i64 (nth xs j)] rfl rfl Hnews.out (by simp [Value.oneCell']) (by unfold maxLen; omega) (by omega) (by have := hbw.size; simp at this ⊢; omega) ?_); intro v' w6 hown6 hgrow6 _)
              rw [HS.out] at hown6
              have hb6 := (hbw.alloc hbw.size (.cells #[.int .i64 (nth xs j)] 3)).grown hgrow6 (by have := hbw.size; simp at this ⊢; omega) fun t ht => (Hown.out.lt _ ht).1
              clear hgrow6 Hown Hnews hbw
              go_wp2_with fail
              go_roundw
              case rel => exact ⟨k + 1, by omega, by go_num, hown6, HT.out, hb6⟩
              case measure => simp [intOf]; omega
      · obtain rfl : k = ss.length := by omega
        by_cases h0 : ss.length = 0
        · have R := hid (som_no (n := n) (kd := kd) (xs := xs) (ss := ss) fun h => by have := h.sch.one; omega)
          rw [h0] at hown
          obtain ⟨_, rfl | hx⟩ : True ∧ (u11 = .slice none 0 0 ∨ ∃ g c, u11 = .slice (some ⟨g, 0, none⟩) 0 c) := ⟨trivial, by rcases hown.2 with ⟨h, _⟩ | ⟨g, c, _, h, _⟩; exact .inl h; exact .inr ⟨g, c, h⟩⟩
          · have h00 := hid h0
            clear h0 hown
            go_wp2_with fail
            go_ret2
            refine ⟨none, 0, by rw [R.out.1, R.out.2]; rfl, by rw [R.out.2]; exact fun i hi => absurd hi (Nat.not_lt_zero i), hb, by rw [R.out.2]; exact Nat.le_refl _, Nat.zero_le _⟩
          · obtain ⟨g, c, rfl⟩ := hx
            clear h0 hown
            go_wp2_with fail
            go_ret2
            refine ⟨none, 0, by rw [R.out.1, R.out.2]; rfl, by rw [R.out.2]; exact fun i hi => absurd hi (Nat.not_lt_zero i), hb, by rw [R.out.2]; exact Nat.le_refl _, Nat.zero_le _⟩
        · have hs := schs_of HA.out (by omega)
          have hd := som_div (n := n) HX.out hs
          have hown2 : wr.ownsRow W.heap.size 3 1 u11 (sub xs ss).length ((sub xs ss).map (Value.int .i64)) := by
            rw [sub_len]
            rw [List.take_of_length_le (by rw [sub_len]; exact Nat.le_refl _)] at hown
            exact hown
          obtain ⟨a3, c3, e3, h3, h4, h5⟩ := own_ints hown2
          rw [sub_len] at e3
          subst e3
          have hne : ((ss.length : Int) == 0) = false := beq_eq_false_iff_ne.2 (by omega)
          have HD := rDivide_any (sub xs ss) a3 c3 n kd wr h3 (by rw [sub_len]; unfold maxLen; omega)
          rw [sub_len, hd.1, hd.2] at HD
          have HD2 := hid HD
          clear HD hown hown2 hs hd h3 h0
          go_wp2_with fail
          refine HD2.out.mono ?_; rintro e w7 ⟨a7, c7, rfl, h7, hb7, l7, m7⟩
          go_wp2_with fail
          go_ret2
          exact ⟨a7, c7, rfl, h7, hb.trans (hb7.mono hb.size), l7, m7⟩
  · rw [show e01 (ExOK xs kd ∧ NumOK n) = 1 from e01_no hx] at Ha
    have Hx := hid Ha
    have R := hid (som_no (n := n) (kd := kd) (xs := xs) (ss := ss) fun h => hx ⟨h.ex, h.num⟩)
    clear hx Ha
    go_enter Try.func30, Try.ntmps30
    go_wp2_with fail
    refine Hx.out.mono ?_; rintro e w' ⟨rfl, rfl⟩
    go_wp2_with fail
    go_ret2
    refine ⟨none, 0, by rw [R.out.1, R.out.2]; rfl, by rw [R.out.2]; exact fun i hi => absurd hi (Nat.not_lt_zero i), Below.refl _ _, by rw [R.out.2]; exact Nat.le_refl _, Nat.zero_le _⟩
end Go.Proofs.Ythankdfjkmfokaa
