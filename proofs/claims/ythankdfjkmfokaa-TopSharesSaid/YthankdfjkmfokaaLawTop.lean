/- 'TopShares' returns true: the walk. -/
import Derived.Test.YthankdfjkmfokaaTopS
namespace Go.Proofs.Ythankdfjkmfokaa
open Go.RowKit
set_option linter.unusedSimpArgs false
set_option linter.unusedVariables false

set_option maxRecDepth 100000 in
set_option maxHeartbeats 8000000 in
theorem lawTop (W : World) (a : Option Addr) (xs : List Int) (cap : Nat) (hI : IntsAt W a xs) (hm : xs.length ≤ maxLen) (_hw : ∀ i, i < xs.length → (Lit.int .i64 (nth xs i)).wf = true)
    (n kd : Int) (a2 : Option Addr) (ss : List Int) (cap2 : Nat) (h2 : IntsAt W a2 ss) (hm2 : ss.length ≤ maxLen) :
    Calls Try.prog 10 #[.slice a xs.length cap, .agg #[.int .i64 n, .int .i64 kd, .slice a2 ss.length cap2]] W fun e w' => e = .returned (.bool true) ∧ Below W.heap.size W w' := by
  clear _hw
  have hbB : Below W.heap.size W (W.alloc (.cells #[.int .i64 n, .int .i64 kd, .slice a2 ss.length cap2] 54)) := below_alloc _ _
  have hB0 := box_new W n kd (.slice a2 ss.length cap2)
  have H1 := hid (div721 1 (.inr (.inl rfl)) _ giv1)
  have d1 := Divide_any [7, 2, 1] (some ⟨W.heap.size + 1, 0, none⟩) 3 6 1 ((W.alloc (.cells #[.int .i64 n, .int .i64 kd, .slice a2 ss.length cap2] 54)).alloc (.cells #[.int .i64 7, .int .i64 2, .int .i64 1] 3)) (by have := intsAt_alloc (W.alloc (.cells #[.int .i64 n, .int .i64 kd, .slice a2 ss.length cap2] 54)) [7, 2, 1] 3; simpa using this) (by unfold maxLen; simp)
  rw [H1.out.1, H1.out.2] at d1
  have D1 := hid d1
  clear d1
  have HL := hid (fun W => Long_any xs a cap W hm)
  have HL2 := hid (fun W => Long_any ss a2 cap2 W hm2)
  go_enter Try.func10, Try.ntmps10
  go_wp2_with fail
  refine D1.out.mono ?_; rintro e w1 ⟨a1, c1, rfl, g1, hb1, _, _⟩
  have hba := (below_alloc (W.alloc (.cells #[.int .i64 n, .int .i64 kd, .slice a2 ss.length cap2] 54)) (.cells #[.int .i64 7, .int .i64 2, .int .i64 1] 3)).trans (hb1.mono (by simp))
  have hB1 := hB0.below hba
  have hz1 := hbB.trans (hba.mono hbB.size)
  have S1 := hid (SameInts_any [4, 1, 1] a1 (some ⟨w1.heap.size, 0, none⟩) c1 3 (w1.alloc (.cells #[.int .i64 4, .int .i64 1, .int .i64 1] 3)) (g1.below (below_alloc _ _)) (intsAt_alloc w1 [4, 1, 1] 3) (by unfold maxLen; simp))
  clear hB0 hbB hb1 hba g1 D1 H1
  go_wp2_with fail
  refine S1.out.mono ?_; rintro e w2 ⟨rfl, hb2⟩
  have hbb := (below_alloc w1 (.cells #[.int .i64 4, .int .i64 1, .int .i64 1] 3)).trans (hb2.mono (by simp))
  have hB := hB1.below hbb
  have hz := hz1.trans (hbb.mono hz1.size)
  clear hB1 hz1 hb2 hbb S1
  have c0 := hB.c0
  have c1' := hB.c1
  have c2 := hB.c2
  have HB := hid hB
  clear hB
  by_cases h60 : 60 < xs.length
  · rw [decide_eq_true h60] at HL
    go_wp2_with fail
    refine (HL.out _).mono ?_; rintro e w' ⟨rfl, rfl⟩
    go_wp2_with fail
    go_ret
    exact ⟨rfl, hz⟩
  rw [decide_eq_false h60] at HL
  by_cases h61 : 60 < ss.length
  · rw [decide_eq_true h61] at HL2
    go_wp2_with fail
    refine (HL.out _).mono ?_; rintro e w' ⟨rfl, rfl⟩
    go_wp2_with fail
    refine (HL2.out _).mono ?_; rintro e w' ⟨rfl, rfl⟩
    go_wp2_with fail
    go_ret
    exact ⟨rfl, hz⟩
  rw [decide_eq_false h61] at HL2
  by_cases hn200 : 200 < n
  · have dn : decide (200 < n) = true := decide_eq_true hn200
    go_wp2_with fail
    refine (HL.out _).mono ?_; rintro e w' ⟨rfl, rfl⟩
    go_wp2_with fail
    refine (HL2.out _).mono ?_; rintro e w' ⟨rfl, rfl⟩
    go_wp2_with fail
    go_ret
    exact ⟨rfl, hz⟩
  have dn : decide (200 < n) = false := decide_eq_false hn200
  have HO := hid (Order_any xs a cap n kd w2 (hI.below hz) hm)
  go_wp2_with fail
  refine (HL.out _).mono ?_; rintro e w' ⟨rfl, rfl⟩
  go_wp2_with fail
  refine (HL2.out _).mono ?_; rintro e w' ⟨rfl, rfl⟩
  clear HL HL2 dn
  go_wp2_with fail
  refine HO.out.mono ?_; rintro e w3 ⟨a3, c3, rfl, g3, hb3, _, _⟩
  have hz3 := hz.trans (hb3.mono hz.size)
  have hB3 := HB.out.below hb3
  clear hb3 hz HO c0 c1' c2 HB
  by_cases hOK : DivOK xs kd n
  case neg =>
    rw [divE_no hOK, ordR_no hOK]
    go_wp2_with fail
    go_ret
    exact ⟨rfl, hz3⟩
  case pos =>
    have hx1 : xs.length ≤ 60 := by omega
    have hs1 : ss.length ≤ 60 := by omega
    obtain ⟨m, rfl⟩ : ∃ m : Nat, n = (m : Int) := ⟨n.toNat, (num_nat hOK.2).1⟩
    have hm200 : m ≤ 200 := by omega
    have hl8 := hOK.1.1.l8
    have hl1 := hOK.1.1.l1
    have HDiv := hid (fun w h => Divide_any xs a cap m kd w h hm)
    rw [divE_yes hOK, divR_nat hOK] at HDiv
    rw [divE_yes hOK, ordR_nat hOK, gord_len]
    rw [ordR_nat hOK] at g3
    have HOK := hid hOK
    have HG := hid (giv_facts hOK (by omega))
    have Hgb := hid (fun i => giv_bd (kd := kd) hl1 i)
    have Hgot := hid (fun i => got_lt (kd := kd) hl1 i)
    have Hord := hid (fun i (hi : i < m) => gord_at kd xs m i hi)
    have Hord2 := hid (gord_len kd xs m)
    have HClm := hid (fun (i : Nat) (hi : i < m) w b h h' => by
      have e := Claimer_any xs (giv kd xs i) a b cap xs.length kd w h h' (by omega) (by rw [giv_len]; unfold maxLen; omega)
      have hh : HavOK xs (giv kd xs i) kd := ⟨hOK.1, giv_ok hOK.1.1 i (by omega)⟩
      rw [havE_yes hh, claR_yes hh, giv_len] at e
      exact e)
    clear hOK h60 h61 hn200
    go_wp2_with (refine wpList_make_int _ rfl _ _ 22 rfl 3 (.int .i64 0) 8 Try.underlying22 info3 rfl .i64 .i64 _ _ xs.length rfl rfl rfl rfl (by omega) (by omega) ?_; intro w4 hr4 hz4 hb4)
    go_loopw [9, 10, 11] (fun v9 v10 v11 w' => ∃ i : Nat, i ≤ m ∧ v9 = .int .i64 i ∧ w'.rowIs w3.heap.size 3 xs.length (rowN (nth (giv kd xs i))) ∧ Below w3.heap.size w3 w') (fun v9 _ _ _ => m - (intOf v9).toNat)
    case atStart =>
      refine ⟨0, by omega, rfl, hr4.congr fun i hi => ?_, hb4⟩
      have := Hgb.out 0 i hi
      simp at this
      unfold rowN
      rw [show nth (giv kd xs 0) i = 0 by omega]
    case round =>
      clear hr4 hz4 hb4
      obtain ⟨i, hi, rfl, hr, hb⟩ := hrel
      have hbz := hz3.trans (hb.mono hz3.size)
      have hBr := hB3.below hb
      by_cases hlt : i < m
      · have k1 := hBr.c1
        have hI4 : IntsAt wr (some ⟨w3.heap.size, 0, none⟩) (giv kd xs i) := ints_row (F := nth (giv kd xs i)) hr (fun i _ => rfl) (by rw [giv_len]; exact Nat.le_refl _)
        have HC := hid (HClm.out i hlt wr (some ⟨w3.heap.size, 0, none⟩) (hI.below hbz) hI4)
        have hgl := Hgot.out i
        have Hg : Hid (got kd xs i = topI kd xs (giv kd xs i) xs.length) := hid rfl
        obtain ⟨b3, off3, e3, hbl3, l3⟩ := (g3.below hb) i (by rw [Hord2.out]; exact hlt)
        rw [Hord.out i hlt] at l3
        rw [← Hg.out] at HC
        have hgi := Hgb.out i _ hgl
        have HS := hid (giv_succ kd xs i)
        have Hlen := hid (giv_len kd xs i)
        have hrl := hr.lt
        clear hI4
        generalize hq : got kd xs i = g at *
        have Hq := hid hq
        clear hq
        subst e3
        have i1 : (0 : Int) ≤ (i : Int) := by omega
        have i2 : (i : Int) < (m : Int) := by omega
        have i3 : (0 : Int) ≤ (g : Int) := by omega
        have i4 : (g : Int) < (xs.length : Int) := by omega
        have dg : ((g : Int) != (g : Int)) = false := by simp
        have dl : decide ((g : Int) < 0) = false := decide_eq_false (by omega)
        have dh : decide ((xs.length : Int) ≤ (g : Int)) = false := decide_eq_false (by omega)
        have dh2 : decide (xs.length ≤ g) = false := decide_eq_false (by omega)
        go_wp2_with fail
        refine HC.out.mono ?_; rintro e w5 ⟨rfl, hb5⟩
        have l5 := (hb5.cell (p := ⟨b3, off3 + i, none⟩) hbl3).trans l3
        have r5 := hr.of_block (hb5.block _ hrl)
        have z5 := r5.cell hgl
        have y5 := r5.frozen g
        have t5 := row_bump2 r5 Hlen.out g hgl
        rw [← HS.out] at t5
        unfold rowN at z5
        have hb35 := (hb.trans (hb5.mono hb.size)).setCell (p := ⟨w3.heap.size, g, none⟩) (Nat.le_refl _) (.int .i64 (nth (giv kd xs i) g + 1))
        have HZ := hid (And.intro t5 hb35)
        clear HC l3 k1 hb5 hr r5 t5 hb35 hbz hBr hb
        generalize nth (giv kd xs i) g = v at *
        go_wp2_with fail
        go_roundw
        case rel => exact ⟨i + 1, by omega, by go_num, HZ.out.1, HZ.out.2⟩
        case measure => simp [intOf]; omega
      · obtain rfl : i = m := by omega
        have hI4 : IntsAt wr (some ⟨w3.heap.size, 0, none⟩) (giv kd xs i) := ints_row (F := nth (giv kd xs i)) hr (fun i _ => rfl) (by rw [giv_len]; exact Nat.le_refl _)
        have k0 := hBr.c0
        have k1 := hBr.c1
        have HBr := hid hBr
        have hDl := giv_len kd xs i
        have HF := HG.out
        have HP := hid HF.pair
        have Hhav := hid HF.hav
        have Hfair := hid HF.fair
        have Hsome := hid (fun h => some_part (m := i) (ss := ss) HOK.out h)
        have Hgb2 := hid (Hgb.out i)
        clear HF HG Hgot Hord Hord2 HClm hr g3 hb hBr hB3 hz3 Hgb
        generalize giv kd xs i = D at *
        obtain ⟨wo, hwo⟩ : ∃ wo, wo = wr := ⟨_, rfl⟩
        subst hwo
        go_wp2_with fail
        refine (HDiv.out _ (hI.below hbz)).mono ?_; rintro e w5 ⟨a5, c5, rfl, g5, hb5, _, _⟩
        rw [hDl]
        have S2 := SameInts_any D a5 (some ⟨w3.heap.size, 0, none⟩) c5 xs.length w5 g5 (hI4.below hb5) (by rw [hDl]; unfold maxLen; omega)
        rw [hDl] at S2
        have HS2 := hid S2
        have hz5 := hbz.trans (hb5.mono hbz.size)
        have hB5 := HBr.out.below hb5
        clear S2 k0 k1 HDiv hI4 hb5 hbz HBr
        go_wp2_with fail
        refine HS2.out.mono ?_; rintro e w6 ⟨rfl, hb6⟩
        have hz6 := hz5.trans (hb6.mono hz5.size)
        have hB6 := hB5.below hb6
        have g6 := g5.below hb6
        have I6 := hI.below hz6
        clear HS2 hb6 hz5 hB5 g5
        have HI6 := hid (And.intro g6 I6)
        go_wp2_with fail
        go_loopw [14, 15, 16] (fun v14 v15 v16 w' => ∃ t q : Nat, t ≤ xs.length ∧ v15 = .int .i64 t ∧ v14 = .bool (noB D t) ∧ w' = w6.drewN q) (fun _ v15 _ _ => xs.length - (intOf v15).toNat)
        case atStart => exact ⟨0, 0, by omega, rfl, rfl, rfl⟩
        case round =>
          obtain ⟨t, q, ht, rfl, rfl, rfl⟩ := hrel
          by_cases hlt : t < xs.length
          · obtain ⟨b5, off5, e5, hbl5, d5⟩ := HI6.out.1 t (by rw [hDl]; exact hlt)
            obtain ⟨b, off, e1, hbl, x5⟩ := HI6.out.2 t hlt
            have i1 : (0 : Int) ≤ (t : Int) := by omega
            have i2 : (t : Int) < (xs.length : Int) := by omega
            have HNo : Hid (noB D (t + 1) = (noB D t || (nth D t == 0))) := hid rfl
            have HPt := hid (fun k hk => HP.out t k hlt hk)
            have HX6 := hid HI6.out
            subst e5
            subst e1
            clear g6 I6
            by_cases hb : noB D t = true
            · rw [hb] at HNo ⊢
              go_wp2_with fail
              as_aux_lemma =>
                go_loopw [16] (fun v16 w' => ∃ k r : Nat, k ≤ t ∧ v16 = .int .i64 k ∧ w' = w6.drewN r) (fun v16 _ => t - (intOf v16).toNat)
                case atStart => exact ⟨0, q, by omega, rfl, rfl⟩
                case round =>
                  obtain ⟨k, r, hk, rfl, rfl⟩ := hrel
                  by_cases hlt2 : k < t
                  · obtain ⟨b5', off5', e5', _, d6⟩ := HX6.out.1 k (by rw [hDl]; omega)
                    cases e5'
                    obtain ⟨b', off', e1', _, x6⟩ := HX6.out.2 k (by omega)
                    cases e1'
                    have F := HPt.out k hlt2
                    have j1 : (0 : Int) ≤ (k : Int) := by omega
                    have j2 : (k : Int) < (xs.length : Int) := by omega
                    have p0 := F.i0
                    have p1 := F.i1
                    have w1 : IntKind.i64.wrap (nth D t + 1) = nth D t + 1 := IntWalk.i64_in _ (by omega)
                    by_cases he : nth xs t = nth xs k
                    · have m1 := F.more he
                      have m2 := F.close (by omega)
                      have d1 : (nth xs t == nth xs k) = true := by simp [he]
                      have d2 : decide (nth D k < nth D t) = false := decide_eq_false (by omega)
                      have d3 : decide (nth D t + 1 < nth D k) = false := decide_eq_false (by omega)
                      have d4 : decide (nth xs k < nth xs t) = false := decide_eq_false (by omega)
                      clear F he
                      generalize nth xs t = x at *
                      generalize nth xs k = y at *
                      generalize nth D t = u at *
                      generalize nth D k = v at *
                      go_wp2_with fail
                      go_quiet (fail)
                      go_wp2_with fail
                      go_roundw
                      case rel => exact ⟨k + 1, _, by omega, by go_num, rfl⟩
                      case measure => simp [intOf]; omega
                    · have d1 : (nth xs t == nth xs k) = false := by simp [he]
                      by_cases hgt : nth xs k < nth xs t
                      · have m2 := F.close (by omega)
                        have d3 : decide (nth D t + 1 < nth D k) = false := decide_eq_false (by omega)
                        have d4 : decide (nth xs k < nth xs t) = true := decide_eq_true hgt
                        clear F he
                        generalize nth xs t = x at *
                        generalize nth xs k = y at *
                        generalize nth D t = u at *
                        generalize nth D k = v at *
                        go_wp2_with fail
                        go_quiet (fail)
                        go_wp2_with fail
                        go_roundw
                        case rel => exact ⟨k + 1, _, by omega, by go_num, rfl⟩
                        case measure => simp [intOf]; omega
                      · have d4 : decide (nth xs k < nth xs t) = false := decide_eq_false hgt
                        clear F he
                        generalize nth xs t = x at *
                        generalize nth xs k = y at *
                        generalize nth D t = u at *
                        generalize nth D k = v at *
                        go_wp2_with fail
                        go_quiet (fail)
                        go_wp2_with fail
                        go_roundw
                        case rel => exact ⟨k + 1, _, by omega, by go_num, rfl⟩
                        case measure => simp [intOf]; omega
                  · obtain rfl : k = t := by omega
                    go_wp2_with fail
                    go_roundw
                    case rel => exact ⟨k + 1, r, by omega, by go_num, by rw [HNo.out]; rfl, rfl⟩
                    case measure => simp [intOf]; omega
            · have hb' : noB D t = false := by simpa using hb
              clear hb
              rw [hb'] at HNo ⊢
              go_wp2_with fail
              as_aux_lemma =>
                go_loopw [16] (fun v16 w' => ∃ k r : Nat, k ≤ t ∧ v16 = .int .i64 k ∧ w' = w6.drewN r) (fun v16 _ => t - (intOf v16).toNat)
                case atStart => exact ⟨0, q, by omega, rfl, rfl⟩
                case round =>
                  obtain ⟨k, r, hk, rfl, rfl⟩ := hrel
                  by_cases hlt2 : k < t
                  · obtain ⟨b5', off5', e5', _, d6⟩ := HX6.out.1 k (by rw [hDl]; omega)
                    cases e5'
                    obtain ⟨b', off', e1', _, x6⟩ := HX6.out.2 k (by omega)
                    cases e1'
                    have F := HPt.out k hlt2
                    have j1 : (0 : Int) ≤ (k : Int) := by omega
                    have j2 : (k : Int) < (xs.length : Int) := by omega
                    have p0 := F.i0
                    have p1 := F.i1
                    have w1 : IntKind.i64.wrap (nth D t + 1) = nth D t + 1 := IntWalk.i64_in _ (by omega)
                    by_cases he : nth xs t = nth xs k
                    · have m1 := F.more he
                      have m2 := F.close (by omega)
                      have d1 : (nth xs t == nth xs k) = true := by simp [he]
                      have d2 : decide (nth D k < nth D t) = false := decide_eq_false (by omega)
                      have d3 : decide (nth D t + 1 < nth D k) = false := decide_eq_false (by omega)
                      have d4 : decide (nth xs k < nth xs t) = false := decide_eq_false (by omega)
                      clear F he
                      generalize nth xs t = x at *
                      generalize nth xs k = y at *
                      generalize nth D t = u at *
                      generalize nth D k = v at *
                      go_wp2_with fail
                      go_quiet (fail)
                      go_wp2_with fail
                      go_roundw
                      case rel => exact ⟨k + 1, _, by omega, by go_num, rfl⟩
                      case measure => simp [intOf]; omega
                    · have d1 : (nth xs t == nth xs k) = false := by simp [he]
                      by_cases hgt : nth xs k < nth xs t
                      · have m2 := F.close (by omega)
                        have d3 : decide (nth D t + 1 < nth D k) = false := decide_eq_false (by omega)
                        have d4 : decide (nth xs k < nth xs t) = true := decide_eq_true hgt
                        clear F he
                        generalize nth xs t = x at *
                        generalize nth xs k = y at *
                        generalize nth D t = u at *
                        generalize nth D k = v at *
                        go_wp2_with fail
                        go_quiet (fail)
                        go_wp2_with fail
                        go_roundw
                        case rel => exact ⟨k + 1, _, by omega, by go_num, rfl⟩
                        case measure => simp [intOf]; omega
                      · have d4 : decide (nth xs k < nth xs t) = false := decide_eq_false hgt
                        clear F he
                        generalize nth xs t = x at *
                        generalize nth xs k = y at *
                        generalize nth D t = u at *
                        generalize nth D k = v at *
                        go_wp2_with fail
                        go_quiet (fail)
                        go_wp2_with fail
                        go_roundw
                        case rel => exact ⟨k + 1, _, by omega, by go_num, rfl⟩
                        case measure => simp [intOf]; omega
                  · obtain rfl : k = t := by omega
                    go_wp2_with fail
                    go_roundw
                    case rel => exact ⟨k + 1, r, by omega, by go_num, by rw [HNo.out]; rfl, rfl⟩
                    case measure => simp [intOf]; omega
          · obtain rfl : t = xs.length := by omega
            as_aux_lemma =>
              have hnl : noB D xs.length = noB D D.length := by rw [hDl]
              have hzV := below_drewN hz6 q
              have hBV := hB6.draw q
              have gV := HI6.out.1.below (below_drewN (Below.refl w6.heap.size w6) q)
              have IV := HI6.out.2.below (below_drewN (Below.refl w6.heap.size w6) q)
              have DV := Divisor_any xs D a a5 cap c5 kd (w6.drewN q) IV gV (by omega) (by rw [hDl]; unfold maxLen; omega)
              rw [havE_yes Hhav.out, hDl] at DV
              have c1v := hBV.c1
              clear HI6 g6 I6 hz6
              generalize w6.drewN q = V at *
              by_cases hk2 : kd = 2
              · have dk : (kd == 2) = true := by simp [hk2]
                by_cases hno : noB D xs.length = true
                · rw [prove_none Hhav.out hk2 (by rw [← hnl]; exact hno)] at DV
                  have HDv := hid DV
                  rw [hno]
                  clear DV hk2 hno hnl
                  as_aux_lemma =>
                    generalize dvrN xs D kd = N at *
                    generalize dvrD xs D kd = Dd at *
                    go_wp2_with fail
                    refine HDv.out.mono ?_; rintro e w7 ⟨rfl, hb7⟩
                    have hAz := hb7.alloc hb7.size (.cells #[.int .i64 N, .int .i64 Dd] 44)
                    have hB7 := hBV.below hAz
                    have c1r := hB7.c1
                    clear HDv hb7 c1v hB7
                    go_wp2_with fail
                    generalize hwz : (w7.alloc (.cells #[.int .i64 N, .int .i64 Dd] 44)) = wz at *
                    clear hwz
                    have hzz := hzV.trans (hAz.mono hzV.size)
                    have hBz := hBV.below hAz
                    have gz := gV.below hAz
                    have Iz := hI.below hzz
                    have h2z := h2.below hzz
                    clear hAz hzV hBV gV IV
                    obtain ⟨i0, hi0, hz0, hz1, hz2⟩ := info_parts info3
                    have Hgz := hid gz
                    have Hh2z := hid h2z
                    have HBz := hid hBz
                    have HSm := hid (psm_bd ss D 1000 (by omega) (fun i hi => by rw [hDl] at hi; have := Hgb2.out i hi; omega))
                    have HPl := hid (prt_len ss D)
                    clear gz h2z hBz
                    go_wp2_with fail
                    go_loopw [20, 21, 22, 23] (fun v20 v21 v22 v23 w' => ∃ k : Nat, k ≤ ss.length ∧ v22 = .int .i64 k ∧ v20 = .int .i64 (psm ss D k) ∧ w'.ownsRow wz.heap.size 3 1 v21 (prt ss D k).length ((prt ss D k).map (Value.int .i64)) ∧ Below wz.heap.size wz w') (fun _ _ v22 _ _ => ss.length - (intOf v22).toNat)
                    case atStart => exact ⟨0, by omega, rfl, rfl, World.ownsRow_nil _ _ _ _, Below.refl _ _⟩
                    case round =>
                      obtain ⟨k, hk, rfl, rfl, hown, hb⟩ := hrel
                      have hBr := HBz.out.below hb
                      have c2r := hBr.c2
                      have sm := HSm.out k
                      have pl := HPl.out k
                      by_cases hlt3 : k < ss.length
                      · obtain ⟨b2, off2, e2, hbl2, s5⟩ := (Hh2z.out.below hb) k hlt3
                        subst e2
                        have i1 : (0 : Int) ≤ (k : Int) := by omega
                        have i2 : (k : Int) < (ss.length : Int) := by omega
                        by_cases h0 : 0 ≤ nth ss k
                        · by_cases h1 : nth ss k < xs.length
                          · obtain ⟨j, hj⟩ : ∃ j : Nat, nth ss k = j := ⟨(nth ss k).toNat, by omega⟩
                            have hjl : j < xs.length := by omega
                            obtain ⟨b5, off5, e5, hbl5, d5⟩ := (Hgz.out.below hb) j (by rw [hDl]; exact hjl)
                            subst e5
                            have E := hid (prt_yes ss D k j hj (by rw [hDl]; exact hjl))
                            have dj := Hgb2.out j hjl
                            rw [hj] at s5
                            have i3 : (0 : Int) ≤ (j : Int) := by omega
                            have i4 : (j : Int) < (xs.length : Int) := by omega
                            have Hown := hid hown
                            have Hnews : Hid (∀ t u, ([Value.int .i64 (nth D j)])[t]? = some u → (wr.alloc (.cells #[.int .i64 (nth D j)] 3)).cell? ((⟨wr.heap.size, 0, none⟩ : Addr).add t) = some u) := by
                              have := World.news_of_block (cs := #[.int .i64 (nth D j)]) (t := 3) (fr := (0, 0)) (heap_alloc_new wr (.cells #[.int .i64 (nth D j)] 3))
                              exact hid (by simpa using this)
                            clear hown hj h0 h1
                            generalize (prt ss D k).length = ln at *
                            generalize psm ss D k = sk at *
                            go_wp2_with (at_builtin; go_loud (refine wpList_append_own _ rfl _ _ 22 rfl wz.heap.size 3 i0 (.int .i64 0) 1 8 Try.underlying22 hi0 hz0 hz1 hz2 rfl (by decide) _ _ _ rfl (Hown.out.alloc _) ⟨wr.heap.size, 0, none⟩ 1 1 [.int .i64 (nth D j)] rfl rfl Hnews.out (by simp [Value.oneCell']) (by unfold maxLen; omega) (by omega) (by have := hb.size; simp at this ⊢; omega) ?_); intro v' w9 hown9 hgrow9 _; rw [E.out.1, E.out.2.1] at hown9; have hb9 := (hb.alloc hb.size (.cells #[.int .i64 (nth D j)] 3)).grown hgrow9 (by have := hb.size; simp at this ⊢; omega) (fun t ht => (Hown.out.lt _ ht).1); obtain ⟨bz, offz, ez, _, cz⟩ := (Hgz.out.below hb9) j (by rw [hDl]; exact hjl); cases ez; have Hz9 := hid (And.intro hown9 hb9); clear hgrow9 hown9 hb9)
                            go_wp2_with fail
                            go_roundw
                            case rel => exact ⟨k + 1, by omega, by go_num, by rw [E.out.2.2], Hz9.out.1, Hz9.out.2⟩
                            case measure => simp [intOf]; omega
                          · have E := hid (prt_no ss D k (by rw [hDl]; omega))
                            have d1 : decide (nth ss k < (xs.length : Int)) = false := decide_eq_false h1
                            have d0 : decide (0 ≤ nth ss k) = true := decide_eq_true h0
                            have Hown := hid hown
                            clear hown h0 h1
                            generalize nth ss k = s at *
                            go_wp2_with fail
                            go_roundw
                            case rel => exact ⟨k + 1, by omega, by go_num, by rw [E.out.2], by rw [E.out.1]; exact Hown.out, hb⟩
                            case measure => simp [intOf]; omega
                        · have E := hid (prt_no ss D k (by rw [hDl]; omega))
                          have d0 : decide (0 ≤ nth ss k) = false := decide_eq_false h0
                          have Hown := hid hown
                          clear hown h0
                          generalize nth ss k = s at *
                          go_wp2_with fail
                          go_roundw
                          case rel => exact ⟨k + 1, by omega, by go_num, by rw [E.out.2], by rw [E.out.1]; exact Hown.out, hb⟩
                          case measure => simp [intOf]; omega
                      · obtain rfl : k = ss.length := by omega
                        have hzr := hzz.trans (hb.mono hzz.size)
                        obtain ⟨a9, c9, e9, g9, _, m9⟩ := own_ints hown
                        subst e9
                        have c1r := hBr.c1
                        by_cases hbig : 1000 < psm ss D ss.length
                        · have db : decide (1000 < psm ss D ss.length) = true := decide_eq_true hbig
                          clear hbig hown
                          generalize psm ss D ss.length = sk at *
                          go_wp2_with fail
                          go_ret
                          exact ⟨rfl, hzr⟩
                        · have db : decide (1000 < psm ss D ss.length) = false := decide_eq_false hbig
                          have HSo := hid (Some_any xs ss a a2 cap cap2 (psm ss D ss.length) kd wr (hI.below hzr) (h2.below hzr) hm (by omega))
                          unfold SomPost at HSo
                          by_cases hs : SomOK xs ss (psm ss D ss.length) kd
                          · rw [(som_yes hs).1, Hsome.out hs] at HSo
                            clear hs hbig hown
                            generalize psm ss D ss.length = sk at *
                            have hPm : (prt ss D ss.length).length ≤ maxLen := by unfold maxLen; omega
                            generalize prt ss D ss.length = Q at *
                            go_wp2_with fail
                            refine HSo.out.mono ?_; rintro e w10 ⟨a10, c10, rfl, g10, hb10, _, _⟩
                            have HQ := hid (SameInts_any Q a10 a9 c10 c9 w10 g10 (g9.below hb10) hPm)
                            have hz10 := hzr.trans (hb10.mono hzr.size)
                            clear hb10 g10
                            go_wp2_with fail
                            refine HQ.out.mono ?_; rintro e w11 ⟨rfl, hb11⟩
                            go_wp2_with fail
                            go_ret
                            exact ⟨rfl, hz10.trans (hb11.mono hz10.size)⟩
                          · rw [(som_no hs).1] at HSo
                            clear hs hbig hown
                            generalize psm ss D ss.length = sk at *
                            generalize somR xs ss sk kd = R at *
                            go_wp2_with fail
                            refine HSo.out.mono ?_; rintro e w10 ⟨a10, c10, rfl, g10, hb10, _, _⟩
                            have hz10 := hzr.trans (hb10.mono hzr.size)
                            clear hb10 g10
                            go_wp2_with fail
                            go_ret
                            exact ⟨rfl, hz10⟩
                · have hno' : noB D xs.length = false := by simpa using hno
                  have hB := prove_yes Hhav.out Hfair.out (.inr (by rw [← hnl]; exact hno'))
                  rw [hB] at DV
                  have HDv := hid DV
                  have CV := dvrB_chk hB
                  rw [hno']
                  clear DV hk2 hno hno' hnl hB
                  as_aux_lemma =>
                    have HCk := hid (fun w h h' => Check_any xs D a a5 cap c5 kd (dvrN xs D kd) (dvrD xs D kd) w h h' (by omega) (by rw [hDl]; unfold maxLen; omega))
                    rw [CV, hDl] at HCk
                    clear CV
                    generalize dvrN xs D kd = N at *
                    generalize dvrD xs D kd = Dd at *
                    go_wp2_with fail
                    refine HDv.out.mono ?_; rintro e w7 ⟨rfl, hb7⟩
                    have hA7 := hb7.alloc hb7.size (.cells #[.int .i64 N, .int .i64 Dd] 44)
                    have hB7 := hBV.below hA7
                    have c1r := hB7.c1
                    have HCk2 := hid (HCk.out _ (IV.below hA7) (gV.below hA7))
                    clear HDv HCk hb7 c1v
                    go_wp2_with fail
                    refine HCk2.out.mono ?_; rintro e wz ⟨rfl, hb8⟩
                    have hAz := hA7.trans (hb8.mono hA7.size)
                    clear hb8 hA7 HCk2 hB7 c1r
                    have hzz := hzV.trans (hAz.mono hzV.size)
                    have hBz := hBV.below hAz
                    have gz := gV.below hAz
                    have Iz := hI.below hzz
                    have h2z := h2.below hzz
                    clear hAz hzV hBV gV IV
                    obtain ⟨i0, hi0, hz0, hz1, hz2⟩ := info_parts info3
                    have Hgz := hid gz
                    have Hh2z := hid h2z
                    have HBz := hid hBz
                    have HSm := hid (psm_bd ss D 1000 (by omega) (fun i hi => by rw [hDl] at hi; have := Hgb2.out i hi; omega))
                    have HPl := hid (prt_len ss D)
                    clear gz h2z hBz
                    go_wp2_with fail
                    go_loopw [20, 21, 22, 23] (fun v20 v21 v22 v23 w' => ∃ k : Nat, k ≤ ss.length ∧ v22 = .int .i64 k ∧ v20 = .int .i64 (psm ss D k) ∧ w'.ownsRow wz.heap.size 3 1 v21 (prt ss D k).length ((prt ss D k).map (Value.int .i64)) ∧ Below wz.heap.size wz w') (fun _ _ v22 _ _ => ss.length - (intOf v22).toNat)
                    case atStart => exact ⟨0, by omega, rfl, rfl, World.ownsRow_nil _ _ _ _, Below.refl _ _⟩
                    case round =>
                      obtain ⟨k, hk, rfl, rfl, hown, hb⟩ := hrel
                      have hBr := HBz.out.below hb
                      have c2r := hBr.c2
                      have sm := HSm.out k
                      have pl := HPl.out k
                      by_cases hlt3 : k < ss.length
                      · obtain ⟨b2, off2, e2, hbl2, s5⟩ := (Hh2z.out.below hb) k hlt3
                        subst e2
                        have i1 : (0 : Int) ≤ (k : Int) := by omega
                        have i2 : (k : Int) < (ss.length : Int) := by omega
                        by_cases h0 : 0 ≤ nth ss k
                        · by_cases h1 : nth ss k < xs.length
                          · obtain ⟨j, hj⟩ : ∃ j : Nat, nth ss k = j := ⟨(nth ss k).toNat, by omega⟩
                            have hjl : j < xs.length := by omega
                            obtain ⟨b5, off5, e5, hbl5, d5⟩ := (Hgz.out.below hb) j (by rw [hDl]; exact hjl)
                            subst e5
                            have E := hid (prt_yes ss D k j hj (by rw [hDl]; exact hjl))
                            have dj := Hgb2.out j hjl
                            rw [hj] at s5
                            have i3 : (0 : Int) ≤ (j : Int) := by omega
                            have i4 : (j : Int) < (xs.length : Int) := by omega
                            have Hown := hid hown
                            have Hnews : Hid (∀ t u, ([Value.int .i64 (nth D j)])[t]? = some u → (wr.alloc (.cells #[.int .i64 (nth D j)] 3)).cell? ((⟨wr.heap.size, 0, none⟩ : Addr).add t) = some u) := by
                              have := World.news_of_block (cs := #[.int .i64 (nth D j)]) (t := 3) (fr := (0, 0)) (heap_alloc_new wr (.cells #[.int .i64 (nth D j)] 3))
                              exact hid (by simpa using this)
                            clear hown hj h0 h1
                            generalize (prt ss D k).length = ln at *
                            generalize psm ss D k = sk at *
                            go_wp2_with (at_builtin; go_loud (refine wpList_append_own _ rfl _ _ 22 rfl wz.heap.size 3 i0 (.int .i64 0) 1 8 Try.underlying22 hi0 hz0 hz1 hz2 rfl (by decide) _ _ _ rfl (Hown.out.alloc _) ⟨wr.heap.size, 0, none⟩ 1 1 [.int .i64 (nth D j)] rfl rfl Hnews.out (by simp [Value.oneCell']) (by unfold maxLen; omega) (by omega) (by have := hb.size; simp at this ⊢; omega) ?_); intro v' w9 hown9 hgrow9 _; rw [E.out.1, E.out.2.1] at hown9; have hb9 := (hb.alloc hb.size (.cells #[.int .i64 (nth D j)] 3)).grown hgrow9 (by have := hb.size; simp at this ⊢; omega) (fun t ht => (Hown.out.lt _ ht).1); obtain ⟨bz, offz, ez, _, cz⟩ := (Hgz.out.below hb9) j (by rw [hDl]; exact hjl); cases ez; have Hz9 := hid (And.intro hown9 hb9); clear hgrow9 hown9 hb9)
                            go_wp2_with fail
                            go_roundw
                            case rel => exact ⟨k + 1, by omega, by go_num, by rw [E.out.2.2], Hz9.out.1, Hz9.out.2⟩
                            case measure => simp [intOf]; omega
                          · have E := hid (prt_no ss D k (by rw [hDl]; omega))
                            have d1 : decide (nth ss k < (xs.length : Int)) = false := decide_eq_false h1
                            have d0 : decide (0 ≤ nth ss k) = true := decide_eq_true h0
                            have Hown := hid hown
                            clear hown h0 h1
                            generalize nth ss k = s at *
                            go_wp2_with fail
                            go_roundw
                            case rel => exact ⟨k + 1, by omega, by go_num, by rw [E.out.2], by rw [E.out.1]; exact Hown.out, hb⟩
                            case measure => simp [intOf]; omega
                        · have E := hid (prt_no ss D k (by rw [hDl]; omega))
                          have d0 : decide (0 ≤ nth ss k) = false := decide_eq_false h0
                          have Hown := hid hown
                          clear hown h0
                          generalize nth ss k = s at *
                          go_wp2_with fail
                          go_roundw
                          case rel => exact ⟨k + 1, by omega, by go_num, by rw [E.out.2], by rw [E.out.1]; exact Hown.out, hb⟩
                          case measure => simp [intOf]; omega
                      · obtain rfl : k = ss.length := by omega
                        have hzr := hzz.trans (hb.mono hzz.size)
                        obtain ⟨a9, c9, e9, g9, _, m9⟩ := own_ints hown
                        subst e9
                        have c1r := hBr.c1
                        by_cases hbig : 1000 < psm ss D ss.length
                        · have db : decide (1000 < psm ss D ss.length) = true := decide_eq_true hbig
                          clear hbig hown
                          generalize psm ss D ss.length = sk at *
                          go_wp2_with fail
                          go_ret
                          exact ⟨rfl, hzr⟩
                        · have db : decide (1000 < psm ss D ss.length) = false := decide_eq_false hbig
                          have HSo := hid (Some_any xs ss a a2 cap cap2 (psm ss D ss.length) kd wr (hI.below hzr) (h2.below hzr) hm (by omega))
                          unfold SomPost at HSo
                          by_cases hs : SomOK xs ss (psm ss D ss.length) kd
                          · rw [(som_yes hs).1, Hsome.out hs] at HSo
                            clear hs hbig hown
                            generalize psm ss D ss.length = sk at *
                            have hPm : (prt ss D ss.length).length ≤ maxLen := by unfold maxLen; omega
                            generalize prt ss D ss.length = Q at *
                            go_wp2_with fail
                            refine HSo.out.mono ?_; rintro e w10 ⟨a10, c10, rfl, g10, hb10, _, _⟩
                            have HQ := hid (SameInts_any Q a10 a9 c10 c9 w10 g10 (g9.below hb10) hPm)
                            have hz10 := hzr.trans (hb10.mono hzr.size)
                            clear hb10 g10
                            go_wp2_with fail
                            refine HQ.out.mono ?_; rintro e w11 ⟨rfl, hb11⟩
                            go_wp2_with fail
                            go_ret
                            exact ⟨rfl, hz10.trans (hb11.mono hz10.size)⟩
                          · rw [(som_no hs).1] at HSo
                            clear hs hbig hown
                            generalize psm ss D ss.length = sk at *
                            generalize somR xs ss sk kd = R at *
                            go_wp2_with fail
                            refine HSo.out.mono ?_; rintro e w10 ⟨a10, c10, rfl, g10, hb10, _, _⟩
                            have hz10 := hzr.trans (hb10.mono hzr.size)
                            clear hb10 g10
                            go_wp2_with fail
                            go_ret
                            exact ⟨rfl, hz10⟩
              · have dk : (kd == 2) = false := by simp [hk2]
                have hB := prove_yes Hhav.out Hfair.out (.inl hk2)
                rw [hB] at DV
                have HDv := hid DV
                have CV := dvrB_chk hB
                generalize noB D xs.length = nb at *
                clear DV hk2 hnl hB
                as_aux_lemma =>
                  have HCk := hid (fun w h h' => Check_any xs D a a5 cap c5 kd (dvrN xs D kd) (dvrD xs D kd) w h h' (by omega) (by rw [hDl]; unfold maxLen; omega))
                  rw [CV, hDl] at HCk
                  clear CV
                  generalize dvrN xs D kd = N at *
                  generalize dvrD xs D kd = Dd at *
                  go_wp2_with fail
                  refine HDv.out.mono ?_; rintro e w7 ⟨rfl, hb7⟩
                  have hA7 := hb7.alloc hb7.size (.cells #[.int .i64 N, .int .i64 Dd] 44)
                  have hB7 := hBV.below hA7
                  have c1r := hB7.c1
                  have HCk2 := hid (HCk.out _ (IV.below hA7) (gV.below hA7))
                  clear HDv HCk hb7 c1v
                  go_wp2_with fail
                  refine HCk2.out.mono ?_; rintro e wz ⟨rfl, hb8⟩
                  have hAz := hA7.trans (hb8.mono hA7.size)
                  clear hb8 hA7 HCk2 hB7 c1r
                  have hzz := hzV.trans (hAz.mono hzV.size)
                  have hBz := hBV.below hAz
                  have gz := gV.below hAz
                  have Iz := hI.below hzz
                  have h2z := h2.below hzz
                  clear hAz hzV hBV gV IV
                  obtain ⟨i0, hi0, hz0, hz1, hz2⟩ := info_parts info3
                  have Hgz := hid gz
                  have Hh2z := hid h2z
                  have HBz := hid hBz
                  have HSm := hid (psm_bd ss D 1000 (by omega) (fun i hi => by rw [hDl] at hi; have := Hgb2.out i hi; omega))
                  have HPl := hid (prt_len ss D)
                  clear gz h2z hBz
                  go_wp2_with fail
                  go_loopw [20, 21, 22, 23] (fun v20 v21 v22 v23 w' => ∃ k : Nat, k ≤ ss.length ∧ v22 = .int .i64 k ∧ v20 = .int .i64 (psm ss D k) ∧ w'.ownsRow wz.heap.size 3 1 v21 (prt ss D k).length ((prt ss D k).map (Value.int .i64)) ∧ Below wz.heap.size wz w') (fun _ _ v22 _ _ => ss.length - (intOf v22).toNat)
                  case atStart => exact ⟨0, by omega, rfl, rfl, World.ownsRow_nil _ _ _ _, Below.refl _ _⟩
                  case round =>
                    obtain ⟨k, hk, rfl, rfl, hown, hb⟩ := hrel
                    have hBr := HBz.out.below hb
                    have c2r := hBr.c2
                    have sm := HSm.out k
                    have pl := HPl.out k
                    by_cases hlt3 : k < ss.length
                    · obtain ⟨b2, off2, e2, hbl2, s5⟩ := (Hh2z.out.below hb) k hlt3
                      subst e2
                      have i1 : (0 : Int) ≤ (k : Int) := by omega
                      have i2 : (k : Int) < (ss.length : Int) := by omega
                      by_cases h0 : 0 ≤ nth ss k
                      · by_cases h1 : nth ss k < xs.length
                        · obtain ⟨j, hj⟩ : ∃ j : Nat, nth ss k = j := ⟨(nth ss k).toNat, by omega⟩
                          have hjl : j < xs.length := by omega
                          obtain ⟨b5, off5, e5, hbl5, d5⟩ := (Hgz.out.below hb) j (by rw [hDl]; exact hjl)
                          subst e5
                          have E := hid (prt_yes ss D k j hj (by rw [hDl]; exact hjl))
                          have dj := Hgb2.out j hjl
                          rw [hj] at s5
                          have i3 : (0 : Int) ≤ (j : Int) := by omega
                          have i4 : (j : Int) < (xs.length : Int) := by omega
                          have Hown := hid hown
                          have Hnews : Hid (∀ t u, ([Value.int .i64 (nth D j)])[t]? = some u → (wr.alloc (.cells #[.int .i64 (nth D j)] 3)).cell? ((⟨wr.heap.size, 0, none⟩ : Addr).add t) = some u) := by
                            have := World.news_of_block (cs := #[.int .i64 (nth D j)]) (t := 3) (fr := (0, 0)) (heap_alloc_new wr (.cells #[.int .i64 (nth D j)] 3))
                            exact hid (by simpa using this)
                          clear hown hj h0 h1
                          generalize (prt ss D k).length = ln at *
                          generalize psm ss D k = sk at *
                          go_wp2_with (at_builtin; go_loud (refine wpList_append_own _ rfl _ _ 22 rfl wz.heap.size 3 i0 (.int .i64 0) 1 8 Try.underlying22 hi0 hz0 hz1 hz2 rfl (by decide) _ _ _ rfl (Hown.out.alloc _) ⟨wr.heap.size, 0, none⟩ 1 1 [.int .i64 (nth D j)] rfl rfl Hnews.out (by simp [Value.oneCell']) (by unfold maxLen; omega) (by omega) (by have := hb.size; simp at this ⊢; omega) ?_); intro v' w9 hown9 hgrow9 _; rw [E.out.1, E.out.2.1] at hown9; have hb9 := (hb.alloc hb.size (.cells #[.int .i64 (nth D j)] 3)).grown hgrow9 (by have := hb.size; simp at this ⊢; omega) (fun t ht => (Hown.out.lt _ ht).1); obtain ⟨bz, offz, ez, _, cz⟩ := (Hgz.out.below hb9) j (by rw [hDl]; exact hjl); cases ez; have Hz9 := hid (And.intro hown9 hb9); clear hgrow9 hown9 hb9)
                          go_wp2_with fail
                          go_roundw
                          case rel => exact ⟨k + 1, by omega, by go_num, by rw [E.out.2.2], Hz9.out.1, Hz9.out.2⟩
                          case measure => simp [intOf]; omega
                        · have E := hid (prt_no ss D k (by rw [hDl]; omega))
                          have d1 : decide (nth ss k < (xs.length : Int)) = false := decide_eq_false h1
                          have d0 : decide (0 ≤ nth ss k) = true := decide_eq_true h0
                          have Hown := hid hown
                          clear hown h0 h1
                          generalize nth ss k = s at *
                          go_wp2_with fail
                          go_roundw
                          case rel => exact ⟨k + 1, by omega, by go_num, by rw [E.out.2], by rw [E.out.1]; exact Hown.out, hb⟩
                          case measure => simp [intOf]; omega
                      · have E := hid (prt_no ss D k (by rw [hDl]; omega))
                        have d0 : decide (0 ≤ nth ss k) = false := decide_eq_false h0
                        have Hown := hid hown
                        clear hown h0
                        generalize nth ss k = s at *
                        go_wp2_with fail
                        go_roundw
                        case rel => exact ⟨k + 1, by omega, by go_num, by rw [E.out.2], by rw [E.out.1]; exact Hown.out, hb⟩
                        case measure => simp [intOf]; omega
                    · obtain rfl : k = ss.length := by omega
                      have hzr := hzz.trans (hb.mono hzz.size)
                      obtain ⟨a9, c9, e9, g9, _, m9⟩ := own_ints hown
                      subst e9
                      have c1r := hBr.c1
                      by_cases hbig : 1000 < psm ss D ss.length
                      · have db : decide (1000 < psm ss D ss.length) = true := decide_eq_true hbig
                        clear hbig hown
                        generalize psm ss D ss.length = sk at *
                        go_wp2_with fail
                        go_ret
                        exact ⟨rfl, hzr⟩
                      · have db : decide (1000 < psm ss D ss.length) = false := decide_eq_false hbig
                        have HSo := hid (Some_any xs ss a a2 cap cap2 (psm ss D ss.length) kd wr (hI.below hzr) (h2.below hzr) hm (by omega))
                        unfold SomPost at HSo
                        by_cases hs : SomOK xs ss (psm ss D ss.length) kd
                        · rw [(som_yes hs).1, Hsome.out hs] at HSo
                          clear hs hbig hown
                          generalize psm ss D ss.length = sk at *
                          have hPm : (prt ss D ss.length).length ≤ maxLen := by unfold maxLen; omega
                          generalize prt ss D ss.length = Q at *
                          go_wp2_with fail
                          refine HSo.out.mono ?_; rintro e w10 ⟨a10, c10, rfl, g10, hb10, _, _⟩
                          have HQ := hid (SameInts_any Q a10 a9 c10 c9 w10 g10 (g9.below hb10) hPm)
                          have hz10 := hzr.trans (hb10.mono hzr.size)
                          clear hb10 g10
                          go_wp2_with fail
                          refine HQ.out.mono ?_; rintro e w11 ⟨rfl, hb11⟩
                          go_wp2_with fail
                          go_ret
                          exact ⟨rfl, hz10.trans (hb11.mono hz10.size)⟩
                        · rw [(som_no hs).1] at HSo
                          clear hs hbig hown
                          generalize psm ss D ss.length = sk at *
                          generalize somR xs ss sk kd = R at *
                          go_wp2_with fail
                          refine HSo.out.mono ?_; rintro e w10 ⟨a10, c10, rfl, g10, hb10, _, _⟩
                          have hz10 := hzr.trans (hb10.mono hzr.size)
                          clear hb10 g10
                          go_wp2_with fail
                          go_ret
                          exact ⟨rfl, hz10⟩
end Go.Proofs.Ythankdfjkmfokaa
