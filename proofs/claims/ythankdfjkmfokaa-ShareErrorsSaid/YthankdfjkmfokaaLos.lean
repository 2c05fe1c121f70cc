/- 'Loses' and the document's: what they return. -/
import Derived.Test.YthankdfjkmfokaaRemR
namespace Go.Proofs.Ythankdfjkmfokaa
open Go.RowKit
set_option linter.unusedSimpArgs false
set_option linter.unusedVariables false

set_option maxRecDepth 100000 in
set_option maxHeartbeats 4000000 in
theorem Loses_any (xs : List Int) (a : Option Addr) (cap : Nat) (n : Int) (W : World) (h1 : IntsAt W a xs) (hm : xs.length ≤ maxLen) :
    Calls Try.prog 49 #[.slice a xs.length cap, .int .i64 n] W (IntsE (losR xs n) (losE xs n) W) := by
  obtain ⟨i0, hi0, hz0, hz1, hz2⟩ := info_parts info3
  have Hv := Validate_any xs a cap W h1 hm
  by_cases ho : OrdOK xs
  · rw [e01_yes ho] at Hv
    have HV := hid Hv
    clear Hv
    by_cases hn : 0 ≤ n ∧ n ≤ 999
    · have R := hid (los_yes ⟨ho, hn.1, hn.2⟩)
      have hl8 := ho.l8
      have HA := hid (fun w h => remainders_any xs a cap n w h ho (by unfold NumOK; omega))
      have HB := hid (fun w h => remainders_any xs a cap (n + 1) w h ho (by unfold NumOK; omega))
      have HlA := hid (remL_len xs n)
      have HlB := hid (remL_len xs (n + 1))
      have HN := hid (within_yes n 0 999 W hn.1 hn.2)
      have w1 : IntKind.i64.wrap (n + 1) = n + 1 := IntWalk.i64_in _ (by omega)
      have n0 : 0 ≤ n + 1 := by omega
      have n1 : n + 1 ≤ 1000 := by omega
      clear ho hn
      generalize remL xs n = A at *
      generalize remL xs (n + 1) = B at *
      go_enter Try.func49, Try.ntmps49
      go_wp2_with fail
      refine HV.out.mono ?_; rintro e w' ⟨rfl, rfl⟩
      go_wp2_with fail
      refine HN.out.mono ?_; rintro e w' ⟨rfl, rfl⟩
      go_wp2_with fail
      refine (HB.out _ h1).mono ?_; rintro e w1 ⟨a1, c1, rfl, g1, hb1, _, _⟩
      rw [HlB.out]
      go_wp2_with fail
      refine (HA.out _ (h1.below hb1)).mono ?_; rintro e w2 ⟨a2, c2, rfl, gA, hb2, _, _⟩
      rw [HlA.out]
      have gB := g1.below hb2
      have hbz := hb1.trans (hb2.mono hb1.size)
      clear g1 hb1 hb2 HA HB HV HN w1
      go_wp2_with fail
      go_loopw [7, 9, 10, 27] (fun v7 v9 v10 v27 w' => ∃ k : Nat, k ≤ xs.length ∧ v27 = .int .i64 k ∧ w'.ownsRow w2.heap.size 3 1 v7 (losL A B k).length ((losL A B k).map (Value.int .i64)) ∧ Below w2.heap.size w2 w') (fun _ _ _ v27 _ => xs.length - (intOf v27).toNat)
      case atStart => exact ⟨0, by omega, rfl, World.ownsRow_nil _ _ _ _, Below.refl _ _⟩
      case round =>
        obtain ⟨k, hk, rfl, hown, hbw⟩ := hrel
        by_cases hlt : k < xs.length
        · obtain ⟨b, off, e1, hbl, c1⟩ := (gA.below hbw) k (by rw [HlA.out]; exact hlt)
          obtain ⟨b2, off2, e2, hbl2, c2⟩ := (gB.below hbw) k (by rw [HlB.out]; exact hlt)
          subst e1
          subst e2
          have i1 : (0 : Int) ≤ (k : Int) := by omega
          have i2 : (k : Int) < (xs.length : Int) := by omega
          have hll := losL_len A B k
          have Hy := hid (losL_yes A B k)
          have Hno := hid (losL_no A B k)
          by_cases hg : nth B k < nth A k
          · have d1 : decide (nth B k < nth A k) = true := decide_eq_true hg
            have E := hid (Hy.out hg)
            clear hg Hy Hno
            generalize nth B k = y at *
            generalize nth A k = x at *
            have Hown : Hid (wr.ownsRow w2.heap.size 3 1 u7 (losL A B k).length ((losL A B k).map (Value.int .i64))) := hid (hown)
            have hbw' : Below w2.heap.size w2 wr := hbw
            have Hnews : Hid (∀ t u, ([Value.int .i64 (k : Int)])[t]? = some u → (wr.alloc (.cells #[.int .i64 (k : Int)] 3)).cell? ((⟨wr.heap.size, 0, none⟩ : Addr).add t) = some u) := by
              have := World.news_of_block (cs := #[.int .i64 (k : Int)]) (t := 3) (fr := (0, 0)) (heap_alloc_new wr (.cells #[.int .i64 (k : Int)] 3))
              exact hid (by simpa using this)
            clear hown
            go_wp2_with (at_builtin; go_loud (refine wpList_append_own _ rfl _ _ 22 rfl w2.heap.size 3 i0 (.int .i64 0) 1 8 Try.underlying22 hi0 hz0 hz1 hz2 rfl (by decide) _ _ _ rfl (Hown.out.alloc _) ⟨wr.heap.size, 0, none⟩ 1 1 [.int .i64 (k : Int)] rfl rfl Hnews.out (by simp [Value.oneCell']) (by unfold maxLen; omega) (by omega) (by have := hbw'.size; simp at this ⊢; omega) ?_); intro v' w6 hown6 hgrow6 _)
            rw [E.out.1, E.out.2] at hown6
            have hb6 := (hbw'.alloc hbw'.size (.cells #[.int .i64 (k : Int)] 3)).grown hgrow6 (by have := hbw'.size; simp at this ⊢; omega) fun t ht => (Hown.out.lt _ ht).1
            clear hgrow6 Hown Hnews
            go_wp2_with fail
            go_roundw
            case rel => exact ⟨k + 1, by omega, by go_num, hown6, hb6⟩
            case measure => simp [intOf]; omega
          · have d1 : decide (nth B k < nth A k) = false := decide_eq_false hg
            have E := hid (Hno.out hg)
            clear hg Hy Hno
            generalize nth B k = y at *
            generalize nth A k = x at *
            go_wp2_with fail
            go_roundw
            case rel => exact ⟨k + 1, by omega, by go_num, by rw [E.out]; exact hown, hbw⟩
            case measure => simp [intOf]; omega
        · obtain rfl : k = xs.length := by omega
          obtain ⟨a9, c9, e9, g9, l9, m9⟩ := own_ints hown
          subst e9
          have hbz2 := hbz.trans (hbw.mono hbz.size)
          clear hown gA gB hbw
          go_wp2_with fail
          go_ret2
          exact ⟨a9, c9, by rw [R.out.1, R.out.2]; rfl, by rw [R.out.2]; exact g9, hbz2, by rw [R.out.2]; exact l9, m9⟩
    · have R := hid (los_no (xs := xs) (n := n) fun h => hn ⟨h.lo, h.hi⟩)
      have HN := hid (within_no n 0 999 W (by omega))
      clear ho hn
      go_enter Try.func49, Try.ntmps49
      go_wp2_with fail
      refine HV.out.mono ?_; rintro e w' ⟨rfl, rfl⟩
      go_wp2_with fail
      refine HN.out.mono ?_; rintro e w' ⟨rfl, rfl⟩
      go_wp2_with fail
      go_ret2
      exact ⟨none, 0, by rw [R.out.1, R.out.2]; rfl, by rw [R.out.2]; exact fun i hi => absurd hi (Nat.not_lt_zero i), Below.refl _ _, by rw [R.out.2]; exact Nat.le_refl _, Nat.zero_le _⟩
  · rw [e01_no ho] at Hv
    have HV := hid Hv
    have R := hid (los_no (xs := xs) (n := n) fun h => ho h.o)
    clear ho Hv
    go_enter Try.func49, Try.ntmps49
    go_wp2_with fail
    refine HV.out.mono ?_; rintro e w' ⟨rfl, rfl⟩
    go_wp2_with fail
    go_ret2
    exact ⟨none, 0, by rw [R.out.1, R.out.2]; rfl, by rw [R.out.2]; exact fun i hi => absurd hi (Nat.not_lt_zero i), Below.refl _ _, by rw [R.out.2]; exact Nat.le_refl _, Nat.zero_le _⟩

set_option maxRecDepth 100000 in
set_option maxHeartbeats 4000000 in
theorem rLoses_any (xs : List Int) (a : Option Addr) (cap : Nat) (n : Int) (W : World) (h1 : IntsAt W a xs) (hm : xs.length ≤ maxLen) :
    Calls Try.prog 50 #[.slice a xs.length cap, .int .i64 n] W (IntsE (losR xs n) (losE xs n) W) := by
  obtain ⟨i0, hi0, hz0, hz1, hz2⟩ := info_parts info3
  have Hv := rValidate_any xs a cap W h1 hm
  by_cases ho : OrdOK xs
  · rw [e01_yes ho] at Hv
    have HV := hid Hv
    clear Hv
    by_cases hn : 0 ≤ n ∧ n ≤ 999
    · have R := hid (los_yes ⟨ho, hn.1, hn.2⟩)
      have hl8 := ho.l8
      have HA := hid (fun w h => rremainders_any xs a cap n w h ho (by unfold NumOK; omega))
      have HB := hid (fun w h => rremainders_any xs a cap (n + 1) w h ho (by unfold NumOK; omega))
      have HlA := hid (remL_len xs n)
      have HlB := hid (remL_len xs (n + 1))
      have Hn := countOK_any n W
      rw [numB_yes (by unfold NumOK; omega)] at Hn
      have HN := hid Hn
      have d0 : (n == 1000) = false := beq_eq_false_iff_ne.2 (by omega)
      clear Hn
      have w1 : IntKind.i64.wrap (n + 1) = n + 1 := IntWalk.i64_in _ (by omega)
      have n0 : 0 ≤ n + 1 := by omega
      have n1 : n + 1 ≤ 1000 := by omega
      clear ho hn
      generalize remL xs n = A at *
      generalize remL xs (n + 1) = B at *
      go_enter Try.func50, Try.ntmps50
      go_wp2_with fail
      refine HV.out.mono ?_; rintro e w' ⟨rfl, rfl⟩
      go_wp2_with fail
      refine HN.out.mono ?_; rintro e w' ⟨rfl, rfl⟩
      go_wp2_with fail
      refine (HA.out _ h1).mono ?_; rintro e w1 ⟨a1, c1, rfl, g1, hb1, _, _⟩
      rw [HlA.out]
      go_wp2_with fail
      refine (HB.out _ (h1.below hb1)).mono ?_; rintro e w2 ⟨a2, c2, rfl, gB, hb2, _, _⟩
      rw [HlB.out]
      have gA := g1.below hb2
      have hbz := hb1.trans (hb2.mono hb1.size)
      clear g1 hb1 hb2 HA HB HV HN w1
      go_wp2_with fail
      go_loopw [9, 10] (fun v9 v10 w' => ∃ k : Nat, k ≤ xs.length ∧ v10 = .int .i64 k ∧ w'.ownsRow w2.heap.size 3 1 v9 (losL A B k).length ((losL A B k).map (Value.int .i64)) ∧ Below w2.heap.size w2 w') (fun _ v10 _ => xs.length - (intOf v10).toNat)
      case atStart => exact ⟨0, by omega, rfl, World.ownsRow_nil _ _ _ _, Below.refl _ _⟩
      case round =>
        obtain ⟨k, hk, rfl, hown, hbw⟩ := hrel
        by_cases hlt : k < xs.length
        · obtain ⟨b, off, e1, hbl, c1⟩ := (gA.below hbw) k (by rw [HlA.out]; exact hlt)
          obtain ⟨b2, off2, e2, hbl2, c2⟩ := (gB.below hbw) k (by rw [HlB.out]; exact hlt)
          subst e1
          subst e2
          have i1 : (0 : Int) ≤ (k : Int) := by omega
          have i2 : (k : Int) < (xs.length : Int) := by omega
          have hll := losL_len A B k
          have Hy := hid (losL_yes A B k)
          have Hno := hid (losL_no A B k)
          by_cases hg : nth B k < nth A k
          · have d1 : decide (nth B k < nth A k) = true := decide_eq_true hg
            have E := hid (Hy.out hg)
            clear hg Hy Hno
            generalize nth B k = y at *
            generalize nth A k = x at *
            go_wp2_with fail
            go_quiet (fail)
            have Hown : Hid ((wr.drewN nq).ownsRow w2.heap.size 3 1 u9 (losL A B k).length ((losL A B k).map (Value.int .i64))) := hid (own_below hown (below_drewN (Below.refl _ _) nq))
            have hbw' : Below w2.heap.size w2 (wr.drewN nq) := below_drewN hbw nq
            have Hnews : Hid (∀ t u, ([Value.int .i64 (k : Int)])[t]? = some u → ((wr.drewN nq).alloc (.cells #[.int .i64 (k : Int)] 3)).cell? ((⟨wr.heap.size, 0, none⟩ : Addr).add t) = some u) := by
              have := World.news_of_block (cs := #[.int .i64 (k : Int)]) (t := 3) (fr := (0, 0)) (heap_alloc_new (wr.drewN nq) (.cells #[.int .i64 (k : Int)] 3))
              exact hid (by simpa using this)
            clear hown
            go_wp2_with (at_builtin; go_loud (refine wpList_append_own _ rfl _ _ 22 rfl w2.heap.size 3 i0 (.int .i64 0) 1 8 Try.underlying22 hi0 hz0 hz1 hz2 rfl (by decide) _ _ _ rfl (Hown.out.alloc _) ⟨wr.heap.size, 0, none⟩ 1 1 [.int .i64 (k : Int)] rfl rfl Hnews.out (by simp [Value.oneCell']) (by unfold maxLen; omega) (by omega) (by have := hbw'.size; simp at this ⊢; omega) ?_); intro v' w6 hown6 hgrow6 _)
            rw [E.out.1, E.out.2] at hown6
            have hb6 := (hbw'.alloc hbw'.size (.cells #[.int .i64 (k : Int)] 3)).grown hgrow6 (by have := hbw'.size; simp at this ⊢; omega) fun t ht => (Hown.out.lt _ ht).1
            clear hgrow6 Hown Hnews
            go_wp2_with fail
            go_roundw
            case rel => exact ⟨k + 1, by omega, by go_num, hown6, hb6⟩
            case measure => simp [intOf]; omega
          · have d1 : decide (nth B k < nth A k) = false := decide_eq_false hg
            have E := hid (Hno.out hg)
            clear hg Hy Hno
            generalize nth B k = y at *
            generalize nth A k = x at *
            go_wp2_with fail
            go_quiet (fail)
            go_wp2_with fail
            go_roundw
            case rel => exact ⟨k + 1, by omega, by go_num, by rw [E.out]; exact own_below hown (below_drewN (Below.refl _ _) nq), below_drewN hbw nq⟩
            case measure => simp [intOf]; omega
        · obtain rfl : k = xs.length := by omega
          obtain ⟨a9, c9, e9, g9, l9, m9⟩ := own_ints hown
          subst e9
          have hbz2 := hbz.trans (hbw.mono hbz.size)
          clear hown gA gB hbw
          go_wp2_with fail
          go_ret2
          exact ⟨a9, c9, by rw [R.out.1, R.out.2]; rfl, by rw [R.out.2]; exact g9, hbz2, by rw [R.out.2]; exact l9, m9⟩
    · have R := hid (los_no (xs := xs) (n := n) fun h => hn ⟨h.lo, h.hi⟩)
      by_cases h1000 : n = 1000
      · have Hn := countOK_any n W
        rw [numB_yes (by unfold NumOK; omega)] at Hn
        have HN := hid Hn
        have d0 : (n == 1000) = true := beq_iff_eq.2 h1000
        clear ho hn Hn h1000
        go_enter Try.func50, Try.ntmps50
        go_wp2_with fail
        refine HV.out.mono ?_; rintro e w' ⟨rfl, rfl⟩
        go_wp2_with fail
        refine HN.out.mono ?_; rintro e w' ⟨rfl, rfl⟩
        go_wp2_with fail
        go_ret2
        exact ⟨none, 0, by rw [R.out.1, R.out.2]; rfl, by rw [R.out.2]; exact fun i hi => absurd hi (Nat.not_lt_zero i), Below.refl _ _, by rw [R.out.2]; exact Nat.le_refl _, Nat.zero_le _⟩
      · have Hn := countOK_any n W
        rw [numB_no (by unfold NumOK; omega)] at Hn
        have HN := hid Hn
        clear ho hn Hn h1000
        go_enter Try.func50, Try.ntmps50
        go_wp2_with fail
        refine HV.out.mono ?_; rintro e w' ⟨rfl, rfl⟩
        go_wp2_with fail
        refine HN.out.mono ?_; rintro e w' ⟨rfl, rfl⟩
        go_wp2_with fail
        go_ret2
        exact ⟨none, 0, by rw [R.out.1, R.out.2]; rfl, by rw [R.out.2]; exact fun i hi => absurd hi (Nat.not_lt_zero i), Below.refl _ _, by rw [R.out.2]; exact Nat.le_refl _, Nat.zero_le _⟩
  · rw [e01_no ho] at Hv
    have HV := hid Hv
    have R := hid (los_no (xs := xs) (n := n) fun h => ho h.o)
    clear ho Hv
    go_enter Try.func50, Try.ntmps50
    go_wp2_with fail
    refine HV.out.mono ?_; rintro e w' ⟨rfl, rfl⟩
    go_wp2_with fail
    go_ret2
    exact ⟨none, 0, by rw [R.out.1, R.out.2]; rfl, by rw [R.out.2]; exact fun i hi => absurd hi (Nat.not_lt_zero i), Below.refl _ _, by rw [R.out.2]; exact Nat.le_refl _, Nat.zero_le _⟩
end Go.Proofs.Ythankdfjkmfokaa
