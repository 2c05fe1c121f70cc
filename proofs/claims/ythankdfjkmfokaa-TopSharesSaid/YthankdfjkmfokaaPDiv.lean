/- The program's 'Divisor': what it returns. -/
import Derived.Test.YthankdfjkmfokaaProveLaw
import Derived.Test.YthankdfjkmfokaaPCheck
namespace Go.Proofs.Ythankdfjkmfokaa
open Go.RowKit
set_option linter.unusedSimpArgs false
set_option linter.unusedVariables false

open Classical in
noncomputable def dvrB (xs ms : List Int) (kd : Int) : Bool := decide (HavOK xs ms kd ∧ TopOK kd xs ms)
open Classical in
noncomputable def dvrN (xs ms : List Int) (kd : Int) : Int := if HavOK xs ms kd ∧ TopOK kd xs ms then frN (nth xs (topI kd xs ms xs.length) * fac kd) (stp kd (nth ms (topI kd xs ms xs.length))) else 0
open Classical in
noncomputable def dvrD (xs ms : List Int) (kd : Int) : Int := if HavOK xs ms kd ∧ TopOK kd xs ms then frD (nth xs (topI kd xs ms xs.length) * fac kd) (stp kd (nth ms (topI kd xs ms xs.length))) else 0
theorem dvr_yes {xs ms : List Int} {kd : Int} (h : HavOK xs ms kd) (h2 : TopOK kd xs ms) : dvrB xs ms kd = true ∧ dvrN xs ms kd = frN (nth xs (topI kd xs ms xs.length) * fac kd) (stp kd (nth ms (topI kd xs ms xs.length))) ∧ dvrD xs ms kd = frD (nth xs (topI kd xs ms xs.length) * fac kd) (stp kd (nth ms (topI kd xs ms xs.length))) :=
  ⟨by simp [dvrB, h, h2], by rw [dvrN, if_pos ⟨h, h2⟩], by rw [dvrD, if_pos ⟨h, h2⟩]⟩
theorem dvr_no {xs ms : List Int} {kd : Int} (h : ¬ (HavOK xs ms kd ∧ TopOK kd xs ms)) : dvrB xs ms kd = false ∧ dvrN xs ms kd = 0 ∧ dvrD xs ms kd = 0 :=
  ⟨by simp only [dvrB, h, decide_false], by rw [dvrN, if_neg h], by rw [dvrD, if_neg h]⟩
set_option maxRecDepth 100000 in
set_option maxHeartbeats 4000000 in
theorem Divisor_any (xs ms : List Int) (a a2 : Option Addr) (cap cap2 : Nat) (kd : Int) (W : World) (h1 : IntsAt W a xs) (h2 : IntsAt W a2 ms) (hm : xs.length ≤ 1000) (hm2 : ms.length ≤ maxLen) :
    Calls Try.prog 41 #[.slice a xs.length cap, .slice a2 ms.length cap2, .int .i64 kd] W fun e w' => e = .returned (.tuple #[.agg #[.int .i64 (dvrN xs ms kd), .int .i64 (dvrD xs ms kd)], .bool (dvrB xs ms kd), .int .i64 (havE xs ms kd)]) ∧ Below W.heap.size W w' := by
  have hbA : Below W.heap.size W (W.alloc (.cells #[.int .i64 0, .int .i64 0] 44)) := below_alloc _ _
  have Hn := hid (fun W h => dealt_any xs ms a a2 cap cap2 W h hm hm2)
  have hmx : xs.length ≤ maxLen := by unfold maxLen; omega
  by_cases hx : ExOK xs kd
  · have Hx := hid (fun W h => examine_yes xs a cap kd W h hmx hx)
    by_cases hn : MealsOK xs ms
    · have HOK : Hid (HavOK xs ms kd) := hid ⟨hx, hn⟩
      rw [e01_yes hn] at Hn
      have HO := hid hx.1
      have HK := hid hx.2
      have HM := hid hn
      clear hx hn
      have E := hid (havE_yes (kd := kd) HOK.out)
      go_enter Try.func41, Try.ntmps41
      go_wp2_with fail
      refine (Hx.out _ (h1.below hbA)).mono ?_; rintro e w1 ⟨rfl, hb1⟩
      go_wp2_with fail
      refine (Hn.out _ (h2.below ((hbA.trans (hb1.mono hbA.size)).alloc (hbA.trans (hb1.mono hbA.size)).size _))).mono ?_; rintro e w' ⟨rfl, rfl⟩
      go_wp2_with fail
      refine (OrE_any 0 0 _ _ (two_alloc w1 (.cells #[.func (.func (kdF kd)) #[] #[], .int .i64 (fac kd)] 66) 0 0)).mono ?_; rintro e w' ⟨rfl, rfl⟩
      rw [or_zero]
      have hb0 := hbA.trans (hb1.mono hbA.size)
      have hbs := (hb0.alloc (hb0.size) (.cells #[.func (.func (kdF kd)) #[] #[], .int .i64 (fac kd)] 66)).alloc (by have := hb0.size; simp at this ⊢; omega) (.cells #[.int .i64 0, .int .i64 0] 27)
      have hsW : W.heap.size < w1.heap.size := by have := hb1.size; simp at this; omega
      have hbR : Below (W.alloc (.cells #[.int .i64 0, .int .i64 0] 44)).heap.size (W.alloc (.cells #[.int .i64 0, .int .i64 0] 44)) ((w1.alloc (.cells #[.func (.func (kdF kd)) #[] #[], .int .i64 (fac kd)] 66)).alloc (.cells #[.int .i64 0, .int .i64 0] 27)) := (hb1.alloc hb1.size _).alloc (by have := hb1.size; simp at this ⊢; omega) _
      have k0 := ((below_alloc _ (.cells #[.int .i64 0, .int .i64 0] 27)).cell (w := (w1.alloc (.cells #[.func (.func (kdF kd)) #[] #[], .int .i64 (fac kd)] 66))) (p := ⟨w1.heap.size, 0, none⟩) (by simp)).trans (show _ = some (Value.func (.func (kdF kd)) #[] #[]) by simp)
      have k1 := ((below_alloc _ (.cells #[.int .i64 0, .int .i64 0] 27)).cell (w := (w1.alloc (.cells #[.func (.func (kdF kd)) #[] #[], .int .i64 (fac kd)] 66))) (p := ⟨w1.heap.size, 1, none⟩) (by simp)).trans (show _ = some (Value.int .i64 (fac kd)) by simp)
      have HI := hid (h1.below hbs)
      have HI2 := hid (h2.below hbs)
      have hc := hid (next_any kd HK.out xs ms a a2 cap cap2 _ (h1.below hbs) (h2.below hbs) HO.out HM.out)
      clear hb1 hb0
      have hs1 : w1.heap.size < ((w1.alloc (.cells #[.func (.func (kdF kd)) #[] #[], .int .i64 (fac kd)] 66)).alloc (.cells #[.int .i64 0, .int .i64 0] 27)).heap.size := by simp; omega
      go_wp2_with fail
      refine hc.out.mono ?_; rintro e w3 ⟨a3, c3, rfl, h3, hb3⟩
      have hmax := maxFunc_any (nextL kd xs ms xs.length) a3 c3 w3 h3 (next_ok (kd := kd) HO.out HM.out) (by rw [nextL_len]; exact HO.out.l1) (by rw [nextL_len]; exact HO.out.l8)
      have hcl := top_lt (kd := kd) (ms := ms) HO.out
      rw [nextL_len, maxI_top kd xs ms xs.length xs.length (Nat.le_refl _), nextL_at kd xs ms xs.length _ hcl] at hmax
      have Hmax : Hid (Calls Try.prog 71 #[.slice a3 xs.length c3, .func (.func 72) #[] #[]] w3 fun e w' => e = .returned (.agg #[.int .i64 (nextC kd xs ms (topI kd xs ms xs.length)).v, .int .i64 (nextC kd xs ms (topI kd xs ms xs.length)).a, .int .i64 ((topI kd xs ms xs.length : Nat) : Int)]) ∧ Below w3.heap.size w3 w') := hmax
      have HP : Hid (TopOK kd xs ms ↔ 0 < (nextC kd xs ms (topI kd xs ms xs.length)).a ∧ DvOK kd xs ms ((nextC kd xs ms (topI kd xs ms xs.length)).v * fac kd) (nextC kd xs ms (topI kd xs ms xs.length)).a) := hid ⟨fun h => ⟨h.pos, h.dv⟩, fun h => ⟨h.1, h.2⟩⟩
      have HN : Hid (TopOK kd xs ms → dvrB xs ms kd = true ∧ dvrN xs ms kd = frN ((nextC kd xs ms (topI kd xs ms xs.length)).v * fac kd) (nextC kd xs ms (topI kd xs ms xs.length)).a ∧ dvrD xs ms kd = frD ((nextC kd xs ms (topI kd xs ms xs.length)).v * fac kd) (nextC kd xs ms (topI kd xs ms xs.length)).a) := hid fun h => dvr_yes HOK.out h
      have HZ : Hid (¬ TopOK kd xs ms → dvrB xs ms kd = false ∧ dvrN xs ms kd = 0 ∧ dvrD xs ms kd = 0) := hid fun h => dvr_no fun x => h x.2
      have oc := HO.out.el _ hcl
      have mc := HM.out.el _ (show topI kd xs ms xs.length < ms.length by rw [HM.out.len]; exact hcl)
      have sc := stp_bd (kd := kd) mc.1 mc.2
      have cv1 : 1 ≤ (nextC kd xs ms (topI kd xs ms xs.length)).v := oc.1
      have cv2 : (nextC kd xs ms (topI kd xs ms xs.length)).v ≤ 1000000 := oc.2
      have ca0 : 0 ≤ (nextC kd xs ms (topI kd xs ms xs.length)).a := sc.1
      have ca1 : (nextC kd xs ms (topI kd xs ms xs.length)).a ≤ 2001 := sc.2
      rw [nextL_len]
      clear hmax h3 hc hcl oc mc sc
      generalize nextC kd xs ms (topI kd xs ms xs.length) = C at *
      generalize ((topI kd xs ms xs.length : Nat) : Int) = ci at *
      go_wp2_with fail
      refine Hmax.out.mono ?_; rintro e w4 ⟨rfl, hb4⟩
      have hbRz := hbR.trans ((hb3.trans (hb4.mono hb3.size)).mono hbR.size)
      have hbz := hbs.trans ((hb3.trans (hb4.mono hb3.size)).mono hbs.size)
      have hsz : w1.heap.size < w4.heap.size := Nat.lt_of_lt_of_le hs1 (Nat.le_trans hb3.size hb4.size)
      have l0 := (hb4.cell (p := ⟨w1.heap.size, 0, none⟩) (Nat.lt_of_lt_of_le hs1 hb3.size)).trans ((hb3.cell (p := ⟨w1.heap.size, 0, none⟩) hs1).trans k0)
      have l1 := (hb4.cell (p := ⟨w1.heap.size, 1, none⟩) (Nat.lt_of_lt_of_le hs1 hb3.size)).trans ((hb3.cell (p := ⟨w1.heap.size, 1, none⟩) hs1).trans k1)
      have g1 := (HI.out.below hb3).below hb4
      have g2 := (HI2.out.below hb3).below hb4
      clear k0 k1 hb3 hb4 hbs hbR hs1 HI HI2 Hmax
      have hbC : Below w4.heap.size w4 (w4.alloc (.cells #[.int .i64 C.v, .int .i64 C.a, .int .i64 ci] 83)) := below_alloc _ _
      have m0 := (hbC.cell (p := ⟨w1.heap.size, 0, none⟩) hsz).trans l0
      have m1 := (hbC.cell (p := ⟨w1.heap.size, 1, none⟩) hsz).trans l1
      have hbRc := hbRz.trans (hbC.mono hbRz.size)
      have hbzc := hbz.trans (hbC.mono hbz.size)
      by_cases hp : C.a = 0
      · have R := hid (HZ.out fun h => by have := (HP.out.1 h).1; omega)
        have hpb : (C.a == 0) = true := by simp [hp]
        have hr := rat_cells W (w4.alloc (.cells #[.int .i64 C.v, .int .i64 C.a, .int .i64 ci] 83)) hbRc
        have f0 := hr.frozen 0
        have f1 := hr.frozen 1
        have q0 := hr.cell (i := 0) (by omega)
        have q1 := hr.cell (i := 1) (by omega)
        have s1 := (hr.set 0 (.int .i64 0)).set 1 (.int .i64 0)
        have o0 := s1.cell (i := 0) (by omega)
        have o1 := s1.cell (i := 1) (by omega)
        simp only [if_true, if_false, show (0 : Nat) ≠ 1 by omega, ite_true, ite_false] at o0 o1
        clear s1 hr
        clear hp HN HZ HP
        go_wp2_with fail
        refine bodyPost_ret (v := .tuple #[.agg #[.int .i64 0, .int .i64 0], .bool false, .int .i64 0]) (by simp [results, Try.results41, go_sem, o0, o1]) rfl ⟨by rw [R.out.1, R.out.2.1, R.out.2.2, E.out], ?_⟩
        exact (hbzc.setCell (p := ⟨W.heap.size, 0, none⟩) (Nat.le_refl _) _).setCell (p := ⟨W.heap.size, 1, none⟩) (Nat.le_refl _) _
      · have hpb : (C.a == 0) = false := by simp [hp]
        have hs : C.a ≠ 0 := hp
        have ca' : 1 ≤ C.a := by omega
        clear hp
        have hf := fac_bd kd
        have hmul := mul_bds (show 0 ≤ C.v by omega) cv2 (show 0 ≤ fac kd by omega) hf.2
        have w0 : IntKind.i64.wrap (C.v * fac kd) = C.v * fac kd := IntWalk.i64_in _ (by omega)
        have hpos : 0 ≤ C.v * fac kd := hmul.1
        have HF := hid (fun w => fraction_any (C.v * fac kd) C.a w hmul.1 (by omega) ca' (by omega))
        have HR := hid (claim_rat (kd := kd) cv1 cv2 ca' ca1)
        have HD := hid (fun w h h' => divides_any kd HK.out xs ms (frN (C.v * fac kd) C.a) (frD (C.v * fac kd) C.a) a a2 cap cap2 w h h' HO.out HM.out HR.out)
        have HQ : Hid (TopOK kd xs ms ↔ DvOK kd xs ms (frN (C.v * fac kd) C.a) (frD (C.v * fac kd) C.a)) := hid ⟨fun h => (dv_fr hpos ca').2 (HP.out.1 h).2, fun h => HP.out.2 ⟨by omega, (dv_fr hpos ca').1 h⟩⟩
        have HI := hid (g1.below hbC)
        have HI2 := hid (g2.below hbC)
        have hszc := Nat.lt_of_lt_of_le hsz hbC.size
        clear hf hs cv1 cv2 ca0 ca1 g1 g2 hbz hbRz hsz l0 l1 HP HR
        by_cases hd : DvOK kd xs ms (frN (C.v * fac kd) C.a) (frD (C.v * fac kd) C.a)
        · rw [dvB_yes hd] at HD
          have R := hid (HN.out (HQ.out.2 hd))
          clear hd HQ HN HZ hmul
          generalize frN (C.v * fac kd) C.a = N at *
          generalize frD (C.v * fac kd) C.a = D at *
          go_wp2_with fail
          refine (HF.out _).mono ?_; rintro e w5 ⟨rfl, hb5⟩
          have hbR5 := hbRc.trans (hb5.mono hbRc.size)
          have hbz5 := hbzc.trans (hb5.mono hbzc.size)
          have p0 := (hb5.cell (p := ⟨w1.heap.size, 0, none⟩) hszc).trans m0
          have p1 := (hb5.cell (p := ⟨w1.heap.size, 1, none⟩) hszc).trans m1
          have hsz5 := Nat.lt_of_lt_of_le hszc hb5.size
          have g1 := HI.out.below hb5
          have g2 := HI2.out.below hb5
          clear m0 m1 hb5 hbRc hbzc hszc HI HI2
          have hbD : Below w5.heap.size w5 (w5.alloc (.cells #[.int .i64 N, .int .i64 D] 44)) := below_alloc _ _
          have r0 := (hbD.cell (p := ⟨w1.heap.size, 0, none⟩) hsz5).trans p0
          have r1 := (hbD.cell (p := ⟨w1.heap.size, 1, none⟩) hsz5).trans p1
          go_wp2_with fail
          refine (HD.out _ (g1.below hbD) (g2.below hbD)).mono ?_; rintro e w6 ⟨rfl, hb6⟩
          have n0 : w6.cell? ⟨w5.heap.size, 0, none⟩ = some (.int .i64 N) := (hb6.cell (p := ⟨w5.heap.size, 0, none⟩) (by simp)).trans (by simp)
          have n1 : w6.cell? ⟨w5.heap.size, 1, none⟩ = some (.int .i64 D) := (hb6.cell (p := ⟨w5.heap.size, 1, none⟩) (by simp)).trans (by simp)
          have hbD6 := hbD.trans (hb6.mono hbD.size)
          have hbRe := hbR5.trans (hbD6.mono hbR5.size)
          have hbze := hbz5.trans (hbD6.mono hbz5.size)
          clear p0 p1 r0 r1 hb6 hbD hbD6
          have hr := rat_cells W w6 hbRe
          have f0 := hr.frozen 0
          have f1 := hr.frozen 1
          have q0 := hr.cell (i := 0) (by omega)
          have q1 := hr.cell (i := 1) (by omega)
          have s1 := (hr.set 0 (.int .i64 N)).set 1 (.int .i64 D)
          have o0 := s1.cell (i := 0) (by omega)
          have o1 := s1.cell (i := 1) (by omega)
          simp only [if_true, if_false, show (0 : Nat) ≠ 1 by omega, ite_true, ite_false] at o0 o1
          clear s1 hr
          go_wp2_with fail
          refine bodyPost_ret (v := .tuple #[.agg #[.int .i64 N, .int .i64 D], .bool true, .int .i64 0]) (by simp [results, Try.results41, go_sem, o0, o1]) rfl ⟨by rw [R.out.1, R.out.2.1, R.out.2.2, E.out], ?_⟩
          exact (hbze.setCell (p := ⟨W.heap.size, 0, none⟩) (Nat.le_refl _) _).setCell (p := ⟨W.heap.size, 1, none⟩) (Nat.le_refl _) _
        · rw [dvB_no hd] at HD
          have R := hid (HZ.out fun h => hd (HQ.out.1 h))
          clear hd HQ HN HZ hmul
          generalize frN (C.v * fac kd) C.a = N at *
          generalize frD (C.v * fac kd) C.a = D at *
          go_wp2_with fail
          refine (HF.out _).mono ?_; rintro e w5 ⟨rfl, hb5⟩
          have hbR5 := hbRc.trans (hb5.mono hbRc.size)
          have hbz5 := hbzc.trans (hb5.mono hbzc.size)
          have p0 := (hb5.cell (p := ⟨w1.heap.size, 0, none⟩) hszc).trans m0
          have p1 := (hb5.cell (p := ⟨w1.heap.size, 1, none⟩) hszc).trans m1
          have hsz5 := Nat.lt_of_lt_of_le hszc hb5.size
          have g1 := HI.out.below hb5
          have g2 := HI2.out.below hb5
          clear m0 m1 hb5 hbRc hbzc hszc HI HI2
          have hbD : Below w5.heap.size w5 (w5.alloc (.cells #[.int .i64 N, .int .i64 D] 44)) := below_alloc _ _
          have r0 := (hbD.cell (p := ⟨w1.heap.size, 0, none⟩) hsz5).trans p0
          have r1 := (hbD.cell (p := ⟨w1.heap.size, 1, none⟩) hsz5).trans p1
          go_wp2_with fail
          refine (HD.out _ (g1.below hbD) (g2.below hbD)).mono ?_; rintro e w6 ⟨rfl, hb6⟩
          have n0 : w6.cell? ⟨w5.heap.size, 0, none⟩ = some (.int .i64 N) := (hb6.cell (p := ⟨w5.heap.size, 0, none⟩) (by simp)).trans (by simp)
          have n1 : w6.cell? ⟨w5.heap.size, 1, none⟩ = some (.int .i64 D) := (hb6.cell (p := ⟨w5.heap.size, 1, none⟩) (by simp)).trans (by simp)
          have hbD6 := hbD.trans (hb6.mono hbD.size)
          have hbRe := hbR5.trans (hbD6.mono hbR5.size)
          have hbze := hbz5.trans (hbD6.mono hbz5.size)
          clear p0 p1 r0 r1 hb6 hbD hbD6
          have hr := rat_cells W w6 hbRe
          have f0 := hr.frozen 0
          have f1 := hr.frozen 1
          have q0 := hr.cell (i := 0) (by omega)
          have q1 := hr.cell (i := 1) (by omega)
          have s1 := (hr.set 0 (.int .i64 0)).set 1 (.int .i64 0)
          have o0 := s1.cell (i := 0) (by omega)
          have o1 := s1.cell (i := 1) (by omega)
          simp only [if_true, if_false, show (0 : Nat) ≠ 1 by omega, ite_true, ite_false] at o0 o1
          clear s1 hr
          go_wp2_with fail
          refine bodyPost_ret (v := .tuple #[.agg #[.int .i64 0, .int .i64 0], .bool false, .int .i64 0]) (by simp [results, Try.results41, go_sem, o0, o1]) rfl ⟨by rw [R.out.1, R.out.2.1, R.out.2.2, E.out], ?_⟩
          exact (hbze.setCell (p := ⟨W.heap.size, 0, none⟩) (Nat.le_refl _) _).setCell (p := ⟨W.heap.size, 1, none⟩) (Nat.le_refl _) _
    · have hno : ¬ HavOK xs ms kd := fun h => hn h.2
      rw [e01_no hn] at Hn
      clear hx hn
      have R := hid (dvr_no (xs := xs) (ms := ms) (kd := kd) fun h => hno h.1)
      have E := hid (havE_no hno)
      clear hno
      go_enter Try.func41, Try.ntmps41
      go_wp2_with fail
      refine (Hx.out _ (h1.below hbA)).mono ?_; rintro e w1 ⟨rfl, hb1⟩
      go_wp2_with fail
      refine (Hn.out _ (h2.below ((hbA.trans (hb1.mono hbA.size)).alloc (hbA.trans (hb1.mono hbA.size)).size _))).mono ?_; rintro e w' ⟨rfl, rfl⟩
      go_wp2_with fail
      refine (OrE_any 0 1 _ _ (two_alloc w1 (.cells #[.func (.func (kdF kd)) #[] #[], .int .i64 (fac kd)] 66) 0 1)).mono ?_; rintro e w' ⟨rfl, rfl⟩
      rw [or_zero]
      have hb0 := hbA.trans (hb1.mono hbA.size)
      have hbs := (hb0.alloc (hb0.size) (.cells #[.func (.func (kdF kd)) #[] #[], .int .i64 (fac kd)] 66)).alloc (by have := hb0.size; simp at this ⊢; omega) (.cells #[.int .i64 0, .int .i64 1] 27)
      have hbR : Below (W.alloc (.cells #[.int .i64 0, .int .i64 0] 44)).heap.size (W.alloc (.cells #[.int .i64 0, .int .i64 0] 44)) ((w1.alloc (.cells #[.func (.func (kdF kd)) #[] #[], .int .i64 (fac kd)] 66)).alloc (.cells #[.int .i64 0, .int .i64 1] 27)) := (hb1.alloc hb1.size _).alloc (by have := hb1.size; simp at this ⊢; omega) _
      have hr := rat_cells W ((w1.alloc (.cells #[.func (.func (kdF kd)) #[] #[], .int .i64 (fac kd)] 66)).alloc (.cells #[.int .i64 0, .int .i64 1] 27)) hbR
      have f0 := hr.frozen 0
      have f1 := hr.frozen 1
      have q0 := hr.cell (i := 0) (by omega)
      have q1 := hr.cell (i := 1) (by omega)
      have s1 := (hr.set 0 (.int .i64 0)).set 1 (.int .i64 0)
      have o0 := s1.cell (i := 0) (by omega)
      have o1 := s1.cell (i := 1) (by omega)
      simp only [if_true, if_false, show (0 : Nat) ≠ 1 by omega, ite_true, ite_false] at o0 o1
      clear s1 hr
      go_wp2_with fail
      refine bodyPost_ret (v := .tuple #[.agg #[.int .i64 0, .int .i64 0], .bool false, .int .i64 1]) (by simp [results, Try.results41, go_sem, o0, o1]) rfl ⟨by rw [R.out.1, R.out.2.1, R.out.2.2, E.out], ?_⟩
      exact (hbs.setCell (p := ⟨W.heap.size, 0, none⟩) (Nat.le_refl _) _).setCell (p := ⟨W.heap.size, 1, none⟩) (Nat.le_refl _) _
  · have Hx := hid (fun W h => examine_no xs a cap kd W h hmx hx)
    have hno : ¬ HavOK xs ms kd := fun h => hx h.1
    clear hx
    have R := hid (dvr_no (xs := xs) (ms := ms) (kd := kd) fun h => hno h.1)
    have E := hid (havE_no hno)
    clear hno
    go_enter Try.func41, Try.ntmps41
    go_wp2_with fail
    refine (Hx.out _ (h1.below hbA)).mono ?_; rintro e w1 ⟨rfl, hb1⟩
    go_wp2_with fail
    refine (Hn.out _ (h2.below ((hbA.trans (hb1.mono hbA.size)).alloc (hbA.trans (hb1.mono hbA.size)).size _))).mono ?_; rintro e w' ⟨rfl, rfl⟩
    go_wp2_with fail
    refine (OrE_any 1 (e01 (MealsOK xs ms)) _ _ (two_alloc w1 (.cells #[.nilFunc, .int .i64 0] 66) 1 (e01 (MealsOK xs ms)))).mono ?_; rintro e w' ⟨rfl, rfl⟩
    rw [or_one]
    have hb0 := hbA.trans (hb1.mono hbA.size)
    have hbs := (hb0.alloc (hb0.size) (.cells #[.nilFunc, .int .i64 0] 66)).alloc (by have := hb0.size; simp at this ⊢; omega) (.cells #[.int .i64 1, .int .i64 (e01 (MealsOK xs ms))] 27)
    have hbR : Below (W.alloc (.cells #[.int .i64 0, .int .i64 0] 44)).heap.size (W.alloc (.cells #[.int .i64 0, .int .i64 0] 44)) ((w1.alloc (.cells #[.nilFunc, .int .i64 0] 66)).alloc (.cells #[.int .i64 1, .int .i64 (e01 (MealsOK xs ms))] 27)) := (hb1.alloc hb1.size _).alloc (by have := hb1.size; simp at this ⊢; omega) _
    have hr := rat_cells W ((w1.alloc (.cells #[.nilFunc, .int .i64 0] 66)).alloc (.cells #[.int .i64 1, .int .i64 (e01 (MealsOK xs ms))] 27)) hbR
    have f0 := hr.frozen 0
    have f1 := hr.frozen 1
    have q0 := hr.cell (i := 0) (by omega)
    have q1 := hr.cell (i := 1) (by omega)
    have s1 := (hr.set 0 (.int .i64 0)).set 1 (.int .i64 0)
    have o0 := s1.cell (i := 0) (by omega)
    have o1 := s1.cell (i := 1) (by omega)
    simp only [if_true, if_false, show (0 : Nat) ≠ 1 by omega, ite_true, ite_false] at o0 o1
    clear s1 hr
    go_wp2_with fail
    refine bodyPost_ret (v := .tuple #[.agg #[.int .i64 0, .int .i64 0], .bool false, .int .i64 1]) (by simp [results, Try.results41, go_sem, o0, o1]) rfl ⟨by rw [R.out.1, R.out.2.1, R.out.2.2, E.out], ?_⟩
    exact (hbs.setCell (p := ⟨W.heap.size, 0, none⟩) (Nat.le_refl _) _).setCell (p := ⟨W.heap.size, 1, none⟩) (Nat.le_refl _) _
end Go.Proofs.Ythankdfjkmfokaa
