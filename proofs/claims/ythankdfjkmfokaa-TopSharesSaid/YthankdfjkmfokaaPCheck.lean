/- The program's 'Check': what it returns. -/
import Derived.Test.YthankdfjkmfokaaRCheck
namespace Go.Proofs.Ythankdfjkmfokaa
open Go.RowKit
set_option linter.unusedSimpArgs false
set_option linter.unusedVariables false

theorem undrewN3 {w w1 : World} {n : Nat} (h : Below (w.drewN n).heap.size (w.drewN n) w1) : Below w.heap.size w w1 := ⟨h.os, h.tape, h.output, h.size, h.block⟩
set_option maxRecDepth 100000 in
set_option maxHeartbeats 2000000 in
theorem Check_any (xs ms : List Int) (a a2 : Option Addr) (cap cap2 : Nat) (kd N D : Int) (W : World) (h1 : IntsAt W a xs) (h2 : IntsAt W a2 ms) (hm : xs.length ≤ 1000) (hm2 : ms.length ≤ maxLen) :
    Calls Try.prog 42 #[.slice a xs.length cap, .slice a2 ms.length cap2, .int .i64 kd, .agg #[.int .i64 N, .int .i64 D]] W fun e w' => e = .returned (.int .i64 (chkE xs ms kd N D)) ∧ Below W.heap.size W w' := by
  have hbA : Below W.heap.size W (W.alloc (.cells #[.int .i64 N, .int .i64 D] 44)) := below_alloc _ _
  have Hn := hid (fun W h => dealt_any xs ms a a2 cap cap2 W h hm hm2)
  have hmx : xs.length ≤ maxLen := by unfold maxLen; omega
  by_cases hx : ExOK xs kd
  · have Hx := hid (fun W h => examine_yes xs a cap kd W h hmx hx)
    by_cases hn : MealsOK xs ms
    · have hOK : Hid (HavOK xs ms kd) := hid ⟨hx, hn⟩
      rw [e01_yes hn] at Hn
      have HO := hid hx.1
      have HK := hid hx.2
      have HM := hid hn
      clear hx hn

      go_enter Try.func42, Try.ntmps42
      go_wp2_with fail
      refine (Hx.out _ (h1.below hbA)).mono ?_; rintro e w1 ⟨rfl, hb1⟩
      go_wp2_with fail
      refine (Hn.out _ (h2.below ((hbA.trans (hb1.mono hbA.size)).alloc (hbA.trans (hb1.mono hbA.size)).size _))).mono ?_; rintro e w' ⟨rfl, rfl⟩
      go_wp2_with fail
      refine (OrE_any 0 0 _ _ (two_alloc w1 (.cells #[.func (.func (kdF kd)) #[] #[], .int .i64 (fac kd)] 66) 0 0)).mono ?_; rintro e w' ⟨rfl, rfl⟩
      rw [or_zero]
      have hb0 := hbA.trans (hb1.mono hbA.size)
      have hbs := (hb0.alloc (hb0.size) (.cells #[.func (.func (kdF kd)) #[] #[], .int .i64 (fac kd)] 66)).alloc (by have := hb0.size; simp at this ⊢; omega) (.cells #[.int .i64 0, .int .i64 0] 27)
      have k0 := ((below_alloc _ (.cells #[.int .i64 0, .int .i64 0] 27)).cell (w := (w1.alloc (.cells #[.func (.func (kdF kd)) #[] #[], .int .i64 (fac kd)] 66))) (p := ⟨w1.heap.size, 0, none⟩) (by simp)).trans (show _ = some (Value.func (.func (kdF kd)) #[] #[]) by simp)
      have k1 := ((below_alloc _ (.cells #[.int .i64 0, .int .i64 0] 27)).cell (w := (w1.alloc (.cells #[.func (.func (kdF kd)) #[] #[], .int .i64 (fac kd)] 66))) (p := ⟨w1.heap.size, 1, none⟩) (by simp)).trans (show _ = some (Value.int .i64 (fac kd)) by simp)
      have hw1 : W.heap.size < w1.heap.size := by have := hb1.size; simp at this; omega
      have hq := (Below.refl w1.heap.size w1).alloc (Nat.le_refl _) (.cells #[.func (.func (kdF kd)) #[] #[], .int .i64 (fac kd)] 66)
      have hq2 := hq.alloc (by simp) (.cells #[.int .i64 0, .int .i64 0] 27)
      have q0 : ((w1.alloc (.cells #[.func (.func (kdF kd)) #[] #[], .int .i64 (fac kd)] 66)).alloc (.cells #[.int .i64 0, .int .i64 0] 27)).cell? ⟨W.heap.size, 0, none⟩ = some (.int .i64 N) := (hq2.cell (p := ⟨W.heap.size, 0, none⟩) hw1).trans ((hb1.cell (p := ⟨W.heap.size, 0, none⟩) (by simp)).trans (by simp))
      have q1 : ((w1.alloc (.cells #[.func (.func (kdF kd)) #[] #[], .int .i64 (fac kd)] 66)).alloc (.cells #[.int .i64 0, .int .i64 0] 27)).cell? ⟨W.heap.size, 1, none⟩ = some (.int .i64 D) := (hq2.cell (p := ⟨W.heap.size, 1, none⟩) hw1).trans ((hb1.cell (p := ⟨W.heap.size, 1, none⟩) (by simp)).trans (by simp))
      have HI := hid (h1.below hbs)
      have HI2 := hid (h2.below hbs)
      clear hq hq2 hw1 hb1 hb0
      by_cases hN : 1 ≤ N ∧ N ≤ 1000000000
      · have HwN := hid (fun w => within_yes N 1 1000000000 w hN.1 hN.2)
        by_cases hD : 1 ≤ D ∧ D ≤ 1000000000
        · have HwD := hid (fun w => within_yes D 1 1000000000 w hD.1 hD.2)
          have Hg : Hid (∀ w : World, Calls Try.prog 76 #[.int .i64 N, .int .i64 D] w fun e w' => e = .returned (.int .i64 (gc N.toNat D.toNat : Nat)) ∧ ∃ n, w' = w.drewN n) := hid (fun w => by
            have := divisor_in N.toNat D.toNat w (by omega) (by omega)
            rw [Int.toNat_of_nonneg (by omega : 0 ≤ N), Int.toNat_of_nonneg (by omega : 0 ≤ D)] at this
            exact this)
          by_cases g1 : gc N.toNat D.toNat = 1
          · rw [g1] at Hg
            have hLow : HavOK xs ms kd ∧ LowOK N D := ⟨hOK.out, hN.1, hN.2, hD.1, hD.2, g1⟩
            have HD := hid (fun w h h' => divides_any kd HK.out xs ms N D a a2 cap cap2 w h h' HO.out HM.out ⟨by omega, hN.2, by omega, hD.2⟩)
            by_cases hd : DvOK kd xs ms N D
            · rw [dvB_yes hd] at HD
              have R := hid (chk_yes hLow hd)
              clear hN hD g1 hLow hd
              go_wp2_with fail
              refine (HwN.out _).mono ?_; rintro e w' ⟨rfl, rfl⟩
              go_wp2_with fail
              refine (HwD.out _).mono ?_; rintro e w' ⟨rfl, rfl⟩
              go_wp2_with fail
              refine (Hg.out _).mono ?_; rintro e w' ⟨rfl, n, rfl⟩
              go_wp2_with fail
              refine (HD.out (((w1.alloc (.cells #[.func (.func (kdF kd)) #[] #[], .int .i64 (fac kd)] 66)).alloc (.cells #[.int .i64 0, .int .i64 0] 27)).drewN n) (HI.out.below (below_drewN (Below.refl _ _) n)) (HI2.out.below (below_drewN (Below.refl _ _) n))).mono ?_; rintro e w2 ⟨rfl, hb2⟩
              go_wp2_with fail
              go_ret
              rw [R.out]
              exact ⟨rfl, hbs.trans ((undrewN3 hb2).mono hbs.size)⟩
            · rw [dvB_no hd] at HD
              have R := hid (chk_8 hLow hd)
              clear hN hD g1 hLow hd
              go_wp2_with fail
              refine (HwN.out _).mono ?_; rintro e w' ⟨rfl, rfl⟩
              go_wp2_with fail
              refine (HwD.out _).mono ?_; rintro e w' ⟨rfl, rfl⟩
              go_wp2_with fail
              refine (Hg.out _).mono ?_; rintro e w' ⟨rfl, n, rfl⟩
              go_wp2_with fail
              refine (HD.out (((w1.alloc (.cells #[.func (.func (kdF kd)) #[] #[], .int .i64 (fac kd)] 66)).alloc (.cells #[.int .i64 0, .int .i64 0] 27)).drewN n) (HI.out.below (below_drewN (Below.refl _ _) n)) (HI2.out.below (below_drewN (Below.refl _ _) n))).mono ?_; rintro e w2 ⟨rfl, hb2⟩
              go_wp2_with fail
              go_ret
              rw [R.out]
              exact ⟨rfl, hbs.trans ((undrewN3 hb2).mono hbs.size)⟩
          · have R := hid (chk_no (xs := xs) (ms := ms) (kd := kd) (N := N) (D := D) fun h => g1 h.2.g)
            have d5 : (((gc N.toNat D.toNat : Nat) : Int) != 1) = true := by simp; omega
            generalize gc N.toNat D.toNat = g at *
            clear hN hD g1
            go_wp2_with fail
            refine (HwN.out _).mono ?_; rintro e w' ⟨rfl, rfl⟩
            go_wp2_with fail
            refine (HwD.out _).mono ?_; rintro e w' ⟨rfl, rfl⟩
            go_wp2_with fail
            refine (Hg.out _).mono ?_; rintro e w' ⟨rfl, n, rfl⟩
            go_wp2_with fail
            go_ret
            rw [R.out]
            exact ⟨rfl, below_drewN hbs n⟩
        · have HwD := hid (fun w => within_no D 1 1000000000 w (by omega))
          have HND := hid hD
          clear hN hD
          have R := hid (chk_no (xs := xs) (ms := ms) (kd := kd) (N := N) (D := D) fun h => HND.out ⟨h.2.d0, h.2.d1⟩)
          go_wp2_with fail
          refine (HwN.out _).mono ?_; rintro e w' ⟨rfl, rfl⟩
          go_wp2_with fail
          refine (HwD.out _).mono ?_; rintro e w' ⟨rfl, rfl⟩
          go_wp2_with fail
          go_ret
          rw [R.out]
          exact ⟨rfl, hbs⟩
      · have HwN := hid (fun w => within_no N 1 1000000000 w (by omega))
        have HND := hid hN
        clear hN
        have R := hid (chk_no (xs := xs) (ms := ms) (kd := kd) (N := N) (D := D) fun h => HND.out ⟨h.2.n0, h.2.n1⟩)
        go_wp2_with fail
        refine (HwN.out _).mono ?_; rintro e w' ⟨rfl, rfl⟩
        go_wp2_with fail
        go_ret
        rw [R.out]
        exact ⟨rfl, hbs⟩
    · have hno : ¬ HavOK xs ms kd := fun h => hn h.2
      rw [e01_no hn] at Hn
      clear hx hn
      have R := hid (chk_no (xs := xs) (ms := ms) (kd := kd) (N := N) (D := D) fun h => hno h.1)
      clear hno
      go_enter Try.func42, Try.ntmps42
      go_wp2_with fail
      refine (Hx.out _ (h1.below hbA)).mono ?_; rintro e w1 ⟨rfl, hb1⟩
      go_wp2_with fail
      refine (Hn.out _ (h2.below ((hbA.trans (hb1.mono hbA.size)).alloc (hbA.trans (hb1.mono hbA.size)).size _))).mono ?_; rintro e w' ⟨rfl, rfl⟩
      go_wp2_with fail
      refine (OrE_any 0 1 _ _ (two_alloc w1 (.cells #[.func (.func (kdF kd)) #[] #[], .int .i64 (fac kd)] 66) 0 1)).mono ?_; rintro e w' ⟨rfl, rfl⟩
      rw [or_zero]
      have hb0 := hbA.trans (hb1.mono hbA.size)
      have hbs := (hb0.alloc (hb0.size) (.cells #[.func (.func (kdF kd)) #[] #[], .int .i64 (fac kd)] 66)).alloc (by have := hb0.size; simp at this ⊢; omega) (.cells #[.int .i64 0, .int .i64 1] 27)
      go_wp2_with fail
      go_ret
      rw [R.out]
      exact ⟨rfl, hbs⟩
  · have Hx := hid (fun W h => examine_no xs a cap kd W h hmx hx)
    have hno : ¬ HavOK xs ms kd := fun h => hx h.1
    clear hx
    have R := hid (chk_no (xs := xs) (ms := ms) (kd := kd) (N := N) (D := D) fun h => hno h.1)
    clear hno
    go_enter Try.func42, Try.ntmps42
    go_wp2_with fail
    refine (Hx.out _ (h1.below hbA)).mono ?_; rintro e w1 ⟨rfl, hb1⟩
    go_wp2_with fail
    refine (Hn.out _ (h2.below ((hbA.trans (hb1.mono hbA.size)).alloc (hbA.trans (hb1.mono hbA.size)).size _))).mono ?_; rintro e w' ⟨rfl, rfl⟩
    go_wp2_with fail
    refine (OrE_any 1 (e01 (MealsOK xs ms)) _ _ (two_alloc w1 (.cells #[.nilFunc, .int .i64 0] 66) 1 (e01 (MealsOK xs ms)))).mono ?_; rintro e w' ⟨rfl, rfl⟩
    rw [or_one]
    have hb0 := hbA.trans (hb1.mono hbA.size)
    have hbs := (hb0.alloc (hb0.size) (.cells #[.nilFunc, .int .i64 0] 66)).alloc (by have := hb0.size; simp at this ⊢; omega) (.cells #[.int .i64 1, .int .i64 (e01 (MealsOK xs ms))] 27)
    go_wp2_with fail
    go_ret
    rw [R.out]
    exact ⟨rfl, hbs⟩
end Go.Proofs.Ythankdfjkmfokaa
