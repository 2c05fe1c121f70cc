/- 'MenuPoints' returns true, whatever the machine and the points. -/
import Derived.Test.YtmllbemjcfkmjaaRPoints
import Derived.Test.YtmllbemjcfkmjaaPoints
import Derived.Test.YtmllbemjcfkmjaaPtsLaw
import Derived.Test.YtmllbemjcfkmjaaRound
import Derived.Test.YtmllbemjcfkmjaaRounded
import Derived.Test.YtmllbemjcfkmjaaFront
import Derived.Test.YtmllbemjcfkmjaaKnown
import Derived.Test.YtmllbemjcfkmjaaGenOne
import Derived.Deep.DeepCutAuto
namespace Go.Proofs.Ytmllbemjcfkmjaa
open Go.RowKit Go.Maps
set_option linter.unusedSimpArgs false
set_option linter.unusedVariables false

theorem six_le4 {k : Nat} (h : k ≤ 4) : six k ≤ 1296 := by
  have : ∀ k, k ≤ 4 → six k ≤ 1296 := by decide
  exact this k h
theorem cpN_bd (m : Mac) (n : Int) (hn4 : n ≤ 4) (xs : List Int) (tot : Int) : 0 ≤ cpN m n xs tot ∧ cpN m n xs tot ≤ 82944 := by
  by_cases h : scoE m n xs = 0 ∧ 0 ≤ tot ∧ tot ≤ 20 * n
  · rw [cpN_yes h]
    obtain ⟨⟨hOK, h0, h20⟩, hP⟩ := scoE_zero.1 h.1
    have h6b := six_le4 (show n.toNat ≤ 4 by omega)
    have hab := accS_bd (m := m) (f := fun s => wy m xs n.toNat s tot.toNat) (B := 1296) (by omega) (fun s => by have := wy_bd (m := m) (xs := xs) hOK.l6 n.toNat s tot.toNat; omega) m.nx.length
    have h64 := hOK.n64
    have : (m.nx.length : Int) * 1296 ≤ 64 * 1296 := Int.mul_le_mul_of_nonneg_right (by omega) (by omega)
    omega
  · rw [cpN_no h]; omega
theorem cpN_sum {m : Mac} {n : Int} {xs : List Int} (h : scoE m n xs = 0) : sumTo (fun p => cpN m n xs (p : Int)) (20 * n.toNat + 1) = cntN m n := by
  obtain ⟨⟨hOK, h0, h20⟩, hP⟩ := scoE_zero.1 h
  have hz : sizE m n = 0 := sizE_zero.2 ⟨hOK, h0, h20⟩
  rw [cntN_ok hz, ← totals hOK hP n.toNat]
  exact sumTo_congr _ _ _ fun p hp => by
    rw [cpN_yes ⟨h, by omega, by omega⟩, Int.toNat_natCast]
set_option maxRecDepth 100000 in
set_option maxHeartbeats 4000000 in
theorem lawPoints (W : World) (m : Mac) (a a2 : Option Addr) (cap cap2 : Nat) (hM : MacAt W a cap a2 cap2 m) (n z : Int) (wn : (Lit.int .i64 n).wf = true) (wz : (Lit.int .i64 z).wf = true) (ax : Option Addr) (xs : List Int) (cx : Nat) (hI : IntsAt W ax xs) (hlc : xs.length ≤ cx) (hcm : cx ≤ maxLen) (hwf : ∀ i, i < xs.length → (Lit.int .i64 (nth xs i)).wf = true) :
    Calls Try.prog 12 #[.agg #[.int .i64 m.L, .slice a m.nx.length cap, .slice a2 m.ac.length cap2], .agg #[.int .i64 n, .slice ax xs.length cx, .int .i64 z]] W fun e w' => e = .returned (.bool true) ∧ Below W.heap.size W w' := by
  clear wn wz hwf
  have hl : xs.length ≤ maxLen := Nat.le_trans hlc hcm
  clear hlc hcm
  have hb0 : Below W.heap.size W ((W.alloc (.cells #[.int .i64 m.L, .slice a m.nx.length cap, .slice a2 m.ac.length cap2] 25)).alloc (.cells #[.int .i64 n, .slice ax xs.length cx, .int .i64 z] 56)) := (below_alloc W _).alloc (by simp) _
  have HMa := hid (hM.below hb0)
  have HIp := hid (hI.below hb0)
  have HB := hid hb0
  have HXa : Hid (BoxAt W.heap.size ((W.alloc (.cells #[.int .i64 m.L, .slice a m.nx.length cap, .slice a2 m.ac.length cap2] 25)).alloc (.cells #[.int .i64 n, .slice ax xs.length cx, .int .i64 z] 56)) (.int .i64 m.L) (.slice a m.nx.length cap) (.slice a2 m.ac.length cap2)) := hid (box_fst (Below.refl _ _) rfl)
  have HXs : Hid (BoxAt (W.heap.size + 1) ((W.alloc (.cells #[.int .i64 m.L, .slice a m.nx.length cap, .slice a2 m.ac.length cap2] 25)).alloc (.cells #[.int .i64 n, .slice ax xs.length cx, .int .i64 z] 56)) (.int .i64 n) (.slice ax xs.length cx) (.int .i64 z)) := hid (box_snd (Below.refl _ _) rfl)
  have Hk := hid known_true
  have Hl := hid hl
  clear hM hI hb0 hl
  have HL := hid (Large_any m a a2 cap cap2 ((W.alloc (.cells #[.int .i64 m.L, .slice a m.nx.length cap, .slice a2 m.ac.length cap2] 25)).alloc (.cells #[.int .i64 n, .slice ax xs.length cx, .int .i64 z] 56)) HMa.out)
  cases hL : lrgB m
  · rw [hL] at HL
    clear hL
    go_enter Try.func12, Try.ntmps12
    go_wp2_with fail
    refine HL.out.mono ?_; rintro e w1 ⟨rfl, hb⟩
    clear HL
    replace HXa := hid (HXa.out.below hb)
    replace HXs := hid (HXs.out.below hb)
    replace HMa := hid (HMa.out.below hb)
    replace HIp := hid (HIp.out.below hb)
    replace HB := hid (HB.out.trans (hb.mono HB.out.size))
    clear hb
    by_cases hg : 100 < xs.length
    · have d1 : decide ((100 : Int) < (xs.length : Int)) = true := decide_eq_true (by omega)
      have d2 : decide (100 < xs.length) = true := decide_eq_true hg
      clear hg
      have x0a := HXa.out.c0
      have x1a := HXa.out.c1
      have x2a := HXa.out.c2
      have xla := HXa.out.lt
      have x0s := HXs.out.c0
      have x1s := HXs.out.c1
      have x2s := HXs.out.c2
      have xls := HXs.out.lt
      go_wp2_with fail
      refine (Hk.out _).mono ?_; rintro e wk ⟨rfl, hbk⟩
      have hz := HB.out.trans (hbk.mono HB.out.size)
      clear hbk
      go_wp2_with fail
      go_ret
      exact ⟨rfl, hz⟩
    · have d1 : decide ((100 : Int) < (xs.length : Int)) = false := decide_eq_false (by omega)
      have d2 : decide (100 < xs.length) = false := decide_eq_false hg
      clear hg
      have HC := hid (CountPoints_any m a a2 cap cap2 n xs ax cx z w1 HMa.out HIp.out Hl.out)
      have x0a := HXa.out.c0
      have x1a := HXa.out.c1
      have x2a := HXa.out.c2
      have xla := HXa.out.lt
      have x0s := HXs.out.c0
      have x1s := HXs.out.c1
      have x2s := HXs.out.c2
      have xls := HXs.out.lt
      go_wp2_with fail
      refine HC.out.mono ?_
      rintro e w2 ⟨rfl, hb⟩
      clear HC x0a x1a x2a xla x0s x1s x2s xls d1 d2
      replace HXa := hid (HXa.out.below hb)
      replace HXs := hid (HXs.out.below hb)
      replace HMa := hid (HMa.out.below hb)
      replace HIp := hid (HIp.out.below hb)
      replace HB := hid (HB.out.trans (hb.mono HB.out.size))
      clear hb
      have HC := hid (rCountPoints_any m a a2 cap cap2 n xs ax cx z w2 HMa.out HIp.out Hl.out)
      have x0a := HXa.out.c0
      have x1a := HXa.out.c1
      have x2a := HXa.out.c2
      have xla := HXa.out.lt
      have x0s := HXs.out.c0
      have x1s := HXs.out.c1
      have x2s := HXs.out.c2
      have xls := HXs.out.lt
      go_wp2_with fail
      refine HC.out.mono ?_
      rintro e w3 ⟨rfl, hb⟩
      clear HC x0a x1a x2a xla x0s x1s x2s xls
      replace HXa := hid (HXa.out.below hb)
      replace HXs := hid (HXs.out.below hb)
      replace HMa := hid (HMa.out.below hb)
      replace HIp := hid (HIp.out.below hb)
      replace HB := hid (HB.out.trans (hb.mono HB.out.size))
      clear hb
      have e1 : (cpN m n xs z == cpN m n xs z) = true := beq_self_eq_true _
      have e3 : (scoE m n xs == scoE m n xs) = true := beq_self_eq_true _
      by_cases hE : scoE m n xs = 0
      · obtain ⟨⟨hOK, hn0, hn20⟩, hP⟩ := scoE_zero.1 hE
        have HE := hid hE
        have Hsum := hid (cpN_sum hE)
        have Hsz : Hid (sizE m n = 0) := hid (sizE_zero.2 ⟨hOK, hn0, hn20⟩)
        obtain ⟨N0, rfl⟩ : ∃ N0 : Nat, n = (N0 : Int) := ⟨n.toNat, by omega⟩
        rw [Int.toNat_natCast] at Hsum
        rw [hE]
        clear e3 hE hOK hP hn0
        have hN0 : N0 ≤ 20 := by omega
        generalize cpN m (N0 : Int) xs z = cz at *
        clear hn20
        by_cases h4 : 4 < N0
        · have d4 : decide ((4 : Int) < (N0 : Int)) = true := decide_eq_true (by omega)
          have d5 : decide (4 < N0) = true := decide_eq_true h4
          clear h4
          have x0s := HXs.out.c0
          have x1s := HXs.out.c1
          have x2s := HXs.out.c2
          have xls := HXs.out.lt
          go_wp2_with fail
          refine (Hk.out _).mono ?_; rintro e wk ⟨rfl, hbk⟩
          have hz := HB.out.trans (hbk.mono HB.out.size)
          clear hbk
          go_wp2_with fail
          go_ret
          exact ⟨rfl, hz⟩
        · have d4 : decide ((4 : Int) < (N0 : Int)) = false := decide_eq_false (by omega)
          have d5 : decide (4 < N0) = false := decide_eq_false h4
          have hn4 : N0 ≤ 4 := by omega
          clear h4
          have x0s := HXs.out.c0
          have x1s := HXs.out.c1
          have x2s := HXs.out.c2
          have xls := HXs.out.lt
          go_wp2_with fail
          clear x0s x1s x2s xls d4 d5 e1
          obtain ⟨Y, hY⟩ : ∃ Y, Y = w3 := ⟨_, rfl⟩
          rw [← hY]
          rw [← hY] at HXa HXs HMa HIp HB
          clear hY
          go_loopw [9, 10, 11, 12] (fun v9 v10 v11 v12 w' => ∃ p : Nat, p ≤ 20 * N0 + 1 ∧ v10 = .int .i64 p ∧ v9 = .int .i64 (sumTo (fun p => cpN m (N0 : Int) xs (p : Int)) p) ∧ Below Y.heap.size Y w') (fun _ v10 _ _ _ => 20 * N0 + 1 - (intOf v10).toNat)
          case atStart => exact ⟨0, by omega, rfl, rfl, Below.refl _ _⟩
          case round =>
            obtain ⟨p, hp, rfl, rfl, hbw⟩ := hrel
            have hXs := HXs.out.below hbw
            have hXa := HXa.out.below hbw
            have x0s := hXs.c0
            have x1s := hXs.c1
            have x2s := hXs.c2
            have xls := hXs.lt
            have x0a := hXa.c0
            have x1a := hXa.c1
            have x2a := hXa.c2
            have xla := hXa.lt
            have HMw := hid (HMa.out.below hbw)
            have HIw := hid (HIp.out.below hbw)
            have HBw := hid (HB.out.trans (hbw.mono HB.out.size))
            have wk : IntKind.i64.wrap ((N0 : Int) * 20) = (N0 : Int) * 20 := IntWalk.i64_in _ (by omega)
            have Hbw := hid hbw
            clear hXs hXa hbw
            by_cases hlp : p < 20 * N0 + 1
            · have dp : decide ((p : Int) ≤ (N0 : Int) * 20) = true := decide_eq_true (by omega)
              have HC := hid (CountPoints_any m a a2 cap cap2 (N0 : Int) xs ax cx (p : Int) wr HMw.out HIw.out Hl.out)
              rw [HE.out] at HC
              have hcb := cpN_bd m (N0 : Int) (by omega) xs (p : Int)
              have hsb := sumTo_bd (fun p => cpN m (N0 : Int) xs (p : Int)) 82944 p (fun d _ => cpN_bd m (N0 : Int) (by omega) xs (d : Int))
              have hs1 : sumTo (fun p => cpN m (N0 : Int) xs (p : Int)) (p + 1) = sumTo (fun p => cpN m (N0 : Int) xs (p : Int)) p + cpN m (N0 : Int) xs (p : Int) := rfl
              have hs3 : (p : Int) * 82944 ≤ 80 * 82944 := Int.mul_le_mul_of_nonneg_right (by omega) (by omega)
              have Hs1 := hid hs1
              generalize sumTo (fun p => cpN m (N0 : Int) xs (p : Int)) p = sv at *
              generalize cpN m (N0 : Int) xs (p : Int) = cv at *
              have hsv : sv ≤ 6635520 := by omega
              clear hs1 hs3
              go_wp2_with fail
              refine HC.out.mono ?_
              rintro e w9 ⟨rfl, hb9⟩
              have HB9 := hid (Hbw.out.trans (hb9.mono Hbw.out.size))
              clear hb9 HC
              go_wp2_with fail
              go_roundw
              case rel => exact ⟨p + 1, by omega, by go_num, by rw [Hs1.out], HB9.out⟩
              case measure => simp [intOf]; omega
            · obtain rfl : p = 20 * N0 + 1 := by omega
              have dp : decide (((20 * N0 + 1 : Nat) : Int) ≤ (N0 : Int) * 20) = false := decide_eq_false (by omega)
              rw [Hsum.out]
              have HC := hid (Count_any m a a2 cap cap2 (N0 : Int) wr HMw.out)
              rw [Hsz.out] at HC
              have ec : (cntN m (N0 : Int) == cntN m (N0 : Int)) = true := beq_self_eq_true _
              go_wp2_with fail
              refine HC.out.mono ?_
              rintro e w9 ⟨rfl, hb9⟩
              have HB9 := hid (HBw.out.trans (hb9.mono HBw.out.size))
              clear hb9 HC
              go_wp2_with fail
              refine (Hk.out _).mono ?_; rintro e wk ⟨rfl, hbk⟩
              have hz := HB9.out.trans (hbk.mono HB9.out.size)
              clear hbk
              go_wp2_with fail
              go_ret
              exact ⟨rfl, hz⟩
      · have d3 : (scoE m n xs == 0) = false := beq_eq_false_iff_ne.2 hE
        have d4 : (scoE m n xs != 0) = true := by rw [bne, d3]; rfl
        clear hE
        generalize scoE m n xs = ev at *
        go_wp2_with fail
        refine (Hk.out _).mono ?_; rintro e wk ⟨rfl, hbk⟩
        have hz := HB.out.trans (hbk.mono HB.out.size)
        clear hbk
        go_wp2_with fail
        go_ret
        exact ⟨rfl, hz⟩
  · rw [hL] at HL
    clear hL
    go_enter Try.func12, Try.ntmps12
    go_wp2_with fail
    refine HL.out.mono ?_; rintro e w1 ⟨rfl, hb⟩
    clear HL
    replace HXa := hid (HXa.out.below hb)
    replace HXs := hid (HXs.out.below hb)
    replace HMa := hid (HMa.out.below hb)
    replace HIp := hid (HIp.out.below hb)
    replace HB := hid (HB.out.trans (hb.mono HB.out.size))
    clear hb
    go_wp2_with fail
    refine (Hk.out _).mono ?_; rintro e wk ⟨rfl, hbk⟩
    have hz := HB.out.trans (hbk.mono HB.out.size)
    clear hbk
    go_wp2_with fail
    go_ret
    exact ⟨rfl, hz⟩
end Go.Proofs.Ytmllbemjcfkmjaa
