/- The program's 'IsFair': what it returns. -/
import Derived.Test.YthankdfjkmfokaaFair
namespace Go.Proofs.Ythankdfjkmfokaa
open Go.RowKit
set_option linter.unusedSimpArgs false
set_option linter.unusedVariables false

def PairAt (kd : Int) (xs ms : List Int) (t k : Nat) : Prop :=
  (cth (lastL kd xs ms xs.length) t).i ≠ (k : Int) → 0 ≤ szC (cth (lastL kd xs ms xs.length) t).v (cth (lastL kd xs ms xs.length) t).a (nth xs k) (stp kd (nth ms k))
theorem pairs_fair {kd : Int} {xs ms : List Int} (h : ∀ t, t < (lastL kd xs ms xs.length).length → ∀ k, k < xs.length → PairAt kd xs ms t k) : FairOK kd xs ms := by
  intro i hi k hk hne hp
  obtain ⟨t, ht, he⟩ := last_at kd xs ms xs.length i hi hp
  have := h t ht k hk
  unfold PairAt at this
  rw [he] at this
  exact this (by show ((i : Nat) : Int) ≠ _; omega)
theorem pair_not {kd : Int} {xs ms : List Int} (t k : Nat) (ht : t < (lastL kd xs ms xs.length).length) (hk : k < xs.length) (h : ¬ PairAt kd xs ms t k) : ¬ FairOK kd xs ms := by
  intro hF
  obtain ⟨i, hi, hp, he⟩ := last_mem kd xs ms xs.length t ht
  refine h ?_
  unfold PairAt
  rw [he]
  intro hne
  exact hF i hi k hk (fun e => hne (by rw [e]; rfl)) hp

set_option maxRecDepth 100000 in
set_option maxHeartbeats 2000000 in
theorem IsFair_any (xs ms : List Int) (a a2 : Option Addr) (cap cap2 : Nat) (kd : Int) (W : World) (h1 : IntsAt W a xs) (h2 : IntsAt W a2 ms) (hm : xs.length ≤ 1000) (hm2 : ms.length ≤ maxLen) :
    Calls Try.prog 33 #[.slice a xs.length cap, .slice a2 ms.length cap2, .int .i64 kd] W fun e w' => e = .returned (.tuple #[.bool (faiB xs ms kd), .int .i64 (havE xs ms kd)]) ∧ Below W.heap.size W w' := by
  have Hn := hid (fun W h => dealt_any xs ms a a2 cap cap2 W h hm hm2)
  have hmx : xs.length ≤ maxLen := by unfold maxLen; omega
  by_cases hx : ExOK xs kd
  · have Hx := hid (fun W h => examine_yes xs a cap kd W h hmx hx)
    by_cases hn : MealsOK xs ms
    · have hOK : Hid (HavOK xs ms kd) := hid ⟨hx, hn⟩
      rw [e01_yes hn] at Hn
      have HO := hid hx.1
      have HK := hid hx.2
      have HM := hid hn
      clear hx hn
      have E := hid (havE_yes (kd := kd) hOK.out)
      go_enter Try.func33, Try.ntmps33
      go_wp2_with fail
      refine (Hx.out _ h1).mono ?_; rintro e w1 ⟨rfl, hb1⟩
      go_wp2_with fail
      refine (Hn.out _ (h2.below (hb1.alloc hb1.size _))).mono ?_; rintro e w' ⟨rfl, rfl⟩
      go_wp2_with fail
      refine (OrE_any 0 0 _ _ (two_alloc w1 (.cells #[.func (.func (kdF kd)) #[] #[], .int .i64 (fac kd)] 66) 0 0)).mono ?_; rintro e w' ⟨rfl, rfl⟩
      rw [or_zero]
      have hbs := (hb1.alloc (hb1.size) (.cells #[.func (.func (kdF kd)) #[] #[], .int .i64 (fac kd)] 66)).alloc (by have := hb1.size; simp at this ⊢; omega) (.cells #[.int .i64 0, .int .i64 0] 27)
      have hc := hid (last_any kd HK.out xs ms a a2 cap cap2 _ (h1.below hbs) (h2.below hbs) HO.out HM.out)
      have Hlok := hid (last_ok (kd := kd) HO.out HM.out)
      have Hnok := hid (next_ok (kd := kd) HO.out HM.out)
      have hl8 := lastL_len kd xs ms xs.length
      have hx8 := HO.out.l8
      have k0 : ((w1.alloc (.cells #[.func (.func (kdF kd)) #[] #[], .int .i64 (fac kd)] 66)).alloc (.cells #[.int .i64 0, .int .i64 0] 27)).cell? ⟨w1.heap.size, 0, none⟩ = some (.func (.func (kdF kd)) #[] #[]) := ((below_alloc _ _).cell (p := ⟨w1.heap.size, 0, none⟩) (by simp)).trans (by simp)
      have k1 : ((w1.alloc (.cells #[.func (.func (kdF kd)) #[] #[], .int .i64 (fac kd)] 66)).alloc (.cells #[.int .i64 0, .int .i64 0] 27)).cell? ⟨w1.heap.size, 1, none⟩ = some (.int .i64 (fac kd)) := ((below_alloc _ _).cell (p := ⟨w1.heap.size, 1, none⟩) (by simp)).trans (by simp)
      go_wp2_with fail
      refine hc.out.mono ?_; rintro e w3 ⟨a3, c3, rfl, h3, hb3⟩
      have m0 := (hb3.cell (p := ⟨w1.heap.size, 0, none⟩) (by simp; omega)).trans k0
      have m1 := (hb3.cell (p := ⟨w1.heap.size, 1, none⟩) (by simp; omega)).trans k1
      have hs3 : w1.heap.size < w3.heap.size := by have := hb3.size; simp at this; omega
      have hbz := hbs.trans (hb3.mono hbs.size)
      have g1 := h1.below hbz
      have g2 := h2.below hbz
      clear k0 k1 hb3 hc hbs hb1 Hx Hn
      generalize hL : (lastL kd xs ms xs.length).length = L at *
      have HL := hid hL
      clear hL
      go_wp2_with fail
      go_loopw [34] (fun v34 w' => ∃ t : Nat, t ≤ L ∧ v34 = .int .i64 t ∧ (∀ t', t' < t → ∀ k, k < xs.length → PairAt kd xs ms t' k) ∧ Below w3.heap.size w3 w') (fun v34 _ => L - (intOf v34).toNat)
      case atStart => exact ⟨0, by omega, rfl, fun i hi => absurd hi (Nat.not_lt_zero i), Below.refl _ _⟩
      case round =>
        obtain ⟨t, ht, rfl, hF, hb⟩ := hrel
        obtain ⟨wo, hwo⟩ : ∃ wo, wo = wr := ⟨_, rfl⟩
        subst hwo
        have HF := hid hF
        clear hF
        by_cases hlt : t < L
        · obtain ⟨b, off, e3, hbl, z0, z1, z2⟩ := (h3.below hb) t (by rw [HL.out]; exact hlt)
          subst e3
          have i1 : (0 : Int) ≤ (t : Int) := by omega
          have i2 : (t : Int) < (L : Int) := by omega
          have hokt := Hlok.out t (by rw [HL.out]; exact hlt)
          generalize hC : cth (lastL kd xs ms xs.length) t = C at *
          have HC := hid hC
          clear hC
          have q0 := (hb.cell (p := ⟨w1.heap.size, 0, none⟩) hs3).trans m0
          have q1 := (hb.cell (p := ⟨w1.heap.size, 1, none⟩) hs3).trans m1
          have hb0 := below_alloc wo (.cells #[.int .i64 C.v, .int .i64 C.a, .int .i64 C.i] 83)
          have hb4 := hb.alloc hb.size (.cells #[.int .i64 C.v, .int .i64 C.a, .int .i64 C.i] 83)
          have r0 := (hb0.cell (p := ⟨w1.heap.size, 0, none⟩) (Nat.lt_of_lt_of_le hs3 hb.size)).trans q0
          have r1 := (hb0.cell (p := ⟨w1.heap.size, 1, none⟩) (Nat.lt_of_lt_of_le hs3 hb.size)).trans q1
          have hnx := hid (next_any kd HK.out xs ms a a2 cap cap2 _ (g1.below hb4) (g2.below hb4) HO.out HM.out)
          go_wp2_with fail
          refine hnx.out.mono ?_; rintro e w5 ⟨a5, c5, rfl, h5, hb5⟩
          have p0 : w5.cell? ⟨wo.heap.size, 0, none⟩ = some (.int .i64 C.v) := (hb5.cell (p := ⟨wo.heap.size, 0, none⟩) (by simp)).trans (by simp)
          have p1 : w5.cell? ⟨wo.heap.size, 1, none⟩ = some (.int .i64 C.a) := (hb5.cell (p := ⟨wo.heap.size, 1, none⟩) (by simp)).trans (by simp)
          have p2 : w5.cell? ⟨wo.heap.size, 2, none⟩ = some (.int .i64 C.i) := (hb5.cell (p := ⟨wo.heap.size, 2, none⟩) (by simp)).trans (by simp)
          have hs5 : wo.heap.size < w5.heap.size := by have := hb5.size; simp at this; omega
          have hbz5 := hb4.trans (hb5.mono hb4.size)
          rw [nextL_len]
          clear z0 z1 z2 q0 q1 r0 r1 hnx hb0 hb4 hb5
          go_wp2_with fail
          go_loopw [43] (fun v43 w' => ∃ k : Nat, k ≤ xs.length ∧ v43 = .int .i64 k ∧ (∀ k', k' < k → PairAt kd xs ms t k') ∧ Below w5.heap.size w5 w') (fun v43 _ => xs.length - (intOf v43).toNat)
          case atStart => exact ⟨0, by omega, rfl, fun i hi => absurd hi (Nat.not_lt_zero i), Below.refl _ _⟩
          case round =>
            obtain ⟨k, hk, rfl, hG, hbi⟩ := hrel
            have HG := hid hG
            clear hG
            have hbo := hbz5.trans (hbi.mono hbz5.size)
            by_cases hltk : k < xs.length
            · obtain ⟨b', off', e5, hbl', y0, y1, y2⟩ := (h5.below hbi) k (by rw [nextL_len]; exact hltk)
              subst e5
              have hokk := Hnok.out k (by rw [nextL_len]; exact hltk)
              rw [nextL_at kd xs ms xs.length k hltk] at y0 y1 y2 hokk
              have y2' : wr.cell? ⟨b', off' + k * 3 + 2, none⟩ = some (.int .i64 (k : Int)) := y2
              clear y2
              have HP : Hid (PairAt kd xs ms t k ↔ (C.i ≠ (k : Int) → 0 ≤ szC C.v C.a (nextC kd xs ms k).v (nextC kd xs ms k).a)) := hid (by unfold PairAt; rw [HC.out]; exact Iff.rfl)
              generalize nextC kd xs ms k = D at *
              have j1 : (0 : Int) ≤ (k : Int) := by omega
              have j2 : (k : Int) < (xs.length : Int) := by omega
              have hbn := below_alloc wr (.cells #[.int .i64 D.v, .int .i64 D.a, .int .i64 (k : Int)] 83)
              have hs6 := Nat.lt_of_lt_of_le hs5 hbi.size
              have n0 := (hbn.cell (p := ⟨wo.heap.size, 0, none⟩) hs6).trans ((hbi.cell (p := ⟨wo.heap.size, 0, none⟩) hs5).trans p0)
              have n1 := (hbn.cell (p := ⟨wo.heap.size, 1, none⟩) hs6).trans ((hbi.cell (p := ⟨wo.heap.size, 1, none⟩) hs5).trans p1)
              have n2 := (hbn.cell (p := ⟨wo.heap.size, 2, none⟩) hs6).trans ((hbi.cell (p := ⟨wo.heap.size, 2, none⟩) hs5).trans p2)
              have Hsz := hid (size_any C.v C.a C.i D.v D.a k hokt hokk (wr.alloc (.cells #[.int .i64 D.v, .int .i64 D.a, .int .i64 (k : Int)] 83)))
              have hbi2 := hbi.alloc hbi.size (.cells #[.int .i64 D.v, .int .i64 D.a, .int .i64 (k : Int)] 83)
              have hbo2 := hbo.alloc hbo.size (.cells #[.int .i64 D.v, .int .i64 D.a, .int .i64 (k : Int)] 83)
              by_cases hne : C.i = (k : Int)
              · have d1 : (C.i != (k : Int)) = false := by simp [hne]
                have HN : Hid (PairAt kd xs ms t k) := hid (HP.out.2 fun h => absurd hne h)
                clear hne
                go_wp2_with fail
                go_roundw
                case rel => exact ⟨k + 1, by omega, by go_num, fair_more HG.out HN.out, hbi2⟩
                case measure => simp [intOf]; omega
              · have d1 : (C.i != (k : Int)) = true := by simp [hne]
                by_cases hz : szC C.v C.a D.v D.a < 0
                · have d2 : decide (szC C.v C.a D.v D.a < 0) = true := decide_eq_true hz
                  have R := hid (faiB_not (kd := kd) (xs := xs) (ms := ms) (pair_not t k (by rw [HL.out]; exact hlt) hltk fun h => by have := HP.out.1 h hne; omega))
                  clear hne hz
                  go_wp2_with fail
                  refine Hsz.out.mono ?_; rintro e w7 ⟨rfl, hb7⟩
                  go_wp2_with fail
                  go_ret2
                  refine ⟨?_, hbz.trans ((hbo2.trans (hb7.mono hbo2.size)).mono hbz.size)⟩
                  rw [R.out, E.out]
                  rfl
                · have d2 : decide (szC C.v C.a D.v D.a < 0) = false := decide_eq_false hz
                  have HN : Hid (PairAt kd xs ms t k) := hid (HP.out.2 fun _ => by omega)
                  clear hne hz
                  go_wp2_with fail
                  refine Hsz.out.mono ?_; rintro e w7 ⟨rfl, hb7⟩
                  go_wp2_with fail
                  go_roundw
                  case rel => exact ⟨k + 1, by omega, by go_num, fair_more HG.out HN.out, hbi2.trans (hb7.mono hbi2.size)⟩
                  case measure => simp [intOf]; omega
            · obtain rfl : k = xs.length := by omega
              go_wp2_with fail
              go_roundw
              case rel => exact ⟨t + 1, by omega, by go_num, fair_more HF.out HG.out, hbo⟩
              case measure => simp [intOf]; omega
        · obtain rfl : t = L := by omega
          have R := hid (faiB_yes hOK.out (pairs_fair (by rw [HL.out]; exact HF.out)))
          go_wp2_with fail
          go_ret2
          refine ⟨?_, hbz.trans (hb.mono hbz.size)⟩
          rw [R.out, E.out]
          rfl
    · have hno : ¬ HavOK xs ms kd := fun h => hn h.2
      rw [e01_no hn] at Hn
      clear hx hn
      have E := hid (havE_no hno)
      have R := hid (faiB_no hno)
      clear hno
      go_enter Try.func33, Try.ntmps33
      go_wp2_with fail
      refine (Hx.out _ h1).mono ?_; rintro e w1 ⟨rfl, hb1⟩
      go_wp2_with fail
      refine (Hn.out _ (h2.below (hb1.alloc hb1.size _))).mono ?_; rintro e w' ⟨rfl, rfl⟩
      go_wp2_with fail
      refine (OrE_any 0 1 _ _ (two_alloc w1 (.cells #[.func (.func (kdF kd)) #[] #[], .int .i64 (fac kd)] 66) 0 1)).mono ?_; rintro e w' ⟨rfl, rfl⟩
      rw [or_zero]
      have hbs := (hb1.alloc (hb1.size) (.cells #[.func (.func (kdF kd)) #[] #[], .int .i64 (fac kd)] 66)).alloc (by have := hb1.size; simp at this ⊢; omega) (.cells #[.int .i64 0, .int .i64 1] 27)
      go_wp2_with fail
      go_ret2
      rw [E.out, R.out]
      exact ⟨rfl, hbs⟩
  · have Hx := hid (fun W h => examine_no xs a cap kd W h hmx hx)
    have hno : ¬ HavOK xs ms kd := fun h => hx h.1
    clear hx
    have E := hid (havE_no hno)
    have R := hid (faiB_no hno)
    clear hno
    go_enter Try.func33, Try.ntmps33
    go_wp2_with fail
    refine (Hx.out _ h1).mono ?_; rintro e w1 ⟨rfl, hb1⟩
    go_wp2_with fail
    refine (Hn.out _ (h2.below (hb1.alloc hb1.size _))).mono ?_; rintro e w' ⟨rfl, rfl⟩
    go_wp2_with fail
    refine (OrE_any 1 (e01 (MealsOK xs ms)) _ _ (two_alloc w1 (.cells #[.nilFunc, .int .i64 0] 66) 1 (e01 (MealsOK xs ms)))).mono ?_; rintro e w' ⟨rfl, rfl⟩
    rw [or_one]
    have hbs := (hb1.alloc (hb1.size) (.cells #[.nilFunc, .int .i64 0] 66)).alloc (by have := hb1.size; simp at this ⊢; omega) (.cells #[.int .i64 1, .int .i64 (e01 (MealsOK xs ms))] 27)
    go_wp2_with fail
    go_ret2
    rw [E.out, R.out]
    exact ⟨rfl, hbs⟩
end Go.Proofs.Ythankdfjkmfokaa
