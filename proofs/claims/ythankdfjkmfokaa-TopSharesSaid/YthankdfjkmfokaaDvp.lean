/- The program's 'divides': what it returns. -/
import Derived.Test.YthankdfjkmfokaaDivs
namespace Go.Proofs.Ythankdfjkmfokaa
open Go.RowKit
set_option linter.unusedSimpArgs false
set_option linter.unusedVariables false

/-- The last claim t is not above the divisor's. -/
def DvLs (kd : Int) (xs ms : List Int) (N D : Int) (t : Nat) : Prop :=
  (cth (lastL kd xs ms xs.length) t).a * N ≤ (cth (lastL kd xs ms xs.length) t).v * fac kd * D
theorem dv_all {kd : Int} {xs ms : List Int} {N D : Int} (h1 : ∀ i, i < xs.length → DvNext kd xs ms N D i) (h2 : ∀ t, t < (lastL kd xs ms xs.length).length → DvLs kd xs ms N D t) : DvOK kd xs ms N D := by
  intro i hi
  refine ⟨h1 i hi, ⟨fun hp => ?_⟩⟩
  obtain ⟨t, ht, he⟩ := last_at kd xs ms xs.length i hi hp
  have := h2 t ht
  unfold DvLs at this
  rw [he] at this
  exact this
theorem dv_bad {kd : Int} {xs ms : List Int} {N D : Int} (t : Nat) (ht : t < (lastL kd xs ms xs.length).length) (h : ¬ DvLs kd xs ms N D t) : ¬ DvOK kd xs ms N D := by
  intro hF
  obtain ⟨i, hi, hp, he⟩ := last_mem kd xs ms xs.length t ht
  refine h ?_
  unfold DvLs
  rw [he]
  exact (hF i hi).last.le hp

set_option maxRecDepth 100000 in
set_option maxHeartbeats 4000000 in
theorem divides_any (kd : Int) (hk : KindOK kd) (xs ms : List Int) (N D : Int) (a a2 : Option Addr) (cap cap2 : Nat) (W : World) (h1 : IntsAt W a xs) (h2 : IntsAt W a2 ms) (ho : OrdOK xs) (hm : MealsOK xs ms) (hr : RatOK N D) :
    Calls Try.prog 75 #[.agg #[.func (.func (kdF kd)) #[] #[], .int .i64 (fac kd)], .slice a xs.length cap, .slice a2 ms.length cap2, .agg #[.int .i64 N, .int .i64 D]] W fun e w' => e = .returned (.bool (dvB kd xs ms N D)) ∧ Below W.heap.size W w' := by
  have hbA : Below W.heap.size W ((W.alloc (.cells #[.func (.func (kdF kd)) #[] #[], .int .i64 (fac kd)] 66)).alloc (.cells #[.int .i64 N, .int .i64 D] 44)) := (below_alloc _ _).alloc (by simp) _
  have hk0 : ((W.alloc (.cells #[.func (.func (kdF kd)) #[] #[], .int .i64 (fac kd)] 66)).alloc (.cells #[.int .i64 N, .int .i64 D] 44)).cell? ⟨W.heap.size, 0, none⟩ = some (.func (.func (kdF kd)) #[] #[]) := ((below_alloc _ _).cell (p := ⟨W.heap.size, 0, none⟩) (by simp)).trans (by simp)
  have hk1 : ((W.alloc (.cells #[.func (.func (kdF kd)) #[] #[], .int .i64 (fac kd)] 66)).alloc (.cells #[.int .i64 N, .int .i64 D] 44)).cell? ⟨W.heap.size, 1, none⟩ = some (.int .i64 (fac kd)) := ((below_alloc _ _).cell (p := ⟨W.heap.size, 1, none⟩) (by simp)).trans (by simp)
  have hk2 : ((W.alloc (.cells #[.func (.func (kdF kd)) #[] #[], .int .i64 (fac kd)] 66)).alloc (.cells #[.int .i64 N, .int .i64 D] 44)).cell? ⟨W.heap.size + 1, 0, none⟩ = some (.int .i64 N) := by simp
  have hk3 : ((W.alloc (.cells #[.func (.func (kdF kd)) #[] #[], .int .i64 (fac kd)] 66)).alloc (.cells #[.int .i64 N, .int .i64 D] 44)).cell? ⟨W.heap.size + 1, 1, none⟩ = some (.int .i64 D) := by simp
  have hsz : W.heap.size + 1 < ((W.alloc (.cells #[.func (.func (kdF kd)) #[] #[], .int .i64 (fac kd)] 66)).alloc (.cells #[.int .i64 N, .int .i64 D] 44)).heap.size := by simp
  have hI := h1.below hbA
  have hI2 := h2.below hbA
  have Hnx := hid (next_any kd hk xs ms a a2 cap cap2 _ hI hI2 ho hm)
  have Hnok := hid (next_ok (kd := kd) ho hm)
  have Hlok := hid (last_ok (kd := kd) ho hm)
  have hf := fac_bd kd
  have Hk := hid hk
  have HO := hid ho
  have HM := hid hm
  have hl8 := ho.l8
  clear hk ho hm h1 h2
  go_enter Try.func75, Try.ntmps75
  go_wp2_with fail
  refine Hnx.out.mono ?_; rintro e w3 ⟨a3, c3, rfl, h3, hb3⟩
  have m0 := (hb3.cell (p := ⟨W.heap.size, 0, none⟩) (by simp; omega)).trans hk0
  have m1 := (hb3.cell (p := ⟨W.heap.size, 1, none⟩) (by simp; omega)).trans hk1
  have m2 := (hb3.cell (p := ⟨W.heap.size + 1, 0, none⟩) hsz).trans hk2
  have m3 := (hb3.cell (p := ⟨W.heap.size + 1, 1, none⟩) hsz).trans hk3
  have hs3 := Nat.lt_of_lt_of_le hsz hb3.size
  have hbz := hbA.trans (hb3.mono hbA.size)
  have g1 := hI.below hb3
  have g2 := hI2.below hb3
  rw [nextL_len]
  clear hk0 hk1 hk2 hk3 hsz hI hI2 Hnx hb3 hbA
  go_wp2_with fail
  go_loopw [18] (fun v18 w' => ∃ i : Nat, i ≤ xs.length ∧ v18 = .int .i64 i ∧ (∀ i', i' < i → DvNext kd xs ms N D i') ∧ Below w3.heap.size w3 w') (fun v18 _ => xs.length - (intOf v18).toNat)
  case atStart => exact ⟨0, by omega, rfl, fun i hi => absurd hi (Nat.not_lt_zero i), Below.refl _ _⟩
  case round =>
    obtain ⟨i, hi, rfl, hF, hb⟩ := hrel
    have HF := hid hF
    clear hF
    have q0 := (hb.cell (p := ⟨W.heap.size, 0, none⟩) (by show W.heap.size < _; omega)).trans m0
    have q1 := (hb.cell (p := ⟨W.heap.size, 1, none⟩) (by show W.heap.size < _; omega)).trans m1
    have q2 := (hb.cell (p := ⟨W.heap.size + 1, 0, none⟩) hs3).trans m2
    have q3 := (hb.cell (p := ⟨W.heap.size + 1, 1, none⟩) hs3).trans m3
    have hs := Nat.lt_of_lt_of_le hs3 hb.size
    by_cases hlt : i < xs.length
    · obtain ⟨b, off, e3, hbl, z0, z1, z2⟩ := (h3.below hb) i (by rw [nextL_len]; exact hlt)
      subst e3
      have i1 : (0 : Int) ≤ (i : Int) := by omega
      have i2 : (i : Int) < (xs.length : Int) := by omega
      have hok := Hnok.out i (by rw [nextL_len]; exact hlt)
      rw [nextL_at kd xs ms xs.length i hlt] at z0 z1 z2 hok
      have HP : Hid (DvNext kd xs ms N D i ↔ (nextC kd xs ms i).v * fac kd * D ≤ (nextC kd xs ms i).a * N) := hid ⟨fun h => h.le, fun h => ⟨h⟩⟩
      generalize nextC kd xs ms i = C at *
      have L := dv_left (kd := kd) (v := C.v) (D := D) hok.v0 hok.v1 hr.d0 hr.d1
      have R := mul_bds hok.a0 hok.a1 hr.n0 hr.n1
      have w1 : IntKind.i64.wrap (C.v * fac kd) = C.v * fac kd := IntWalk.i64_in _ (by omega)
      have w2 : IntKind.i64.wrap (C.v * fac kd * D) = C.v * fac kd * D := IntWalk.i64_in _ (by omega)
      have w3' : IntKind.i64.wrap (C.a * N) = C.a * N := IntWalk.i64_in _ (by omega)
      have hbn := below_alloc wr (.cells #[.int .i64 C.v, .int .i64 C.a, .int .i64 C.i] 83)
      have r1 := (hbn.cell (p := ⟨W.heap.size, 1, none⟩) (by show W.heap.size < _; omega)).trans q1
      have r2 := (hbn.cell (p := ⟨W.heap.size + 1, 0, none⟩) hs).trans q2
      have r3 := (hbn.cell (p := ⟨W.heap.size + 1, 1, none⟩) hs).trans q3
      have hb2 := hb.alloc hb.size (.cells #[.int .i64 C.v, .int .i64 C.a, .int .i64 C.i] 83)
      by_cases hy : C.a * N < C.v * fac kd * D
      · have hyd : decide (C.a * N < C.v * fac kd * D) = true := decide_eq_true hy
        have X := hid (dvB_no fun h => by have := HP.out.1 (h i hlt).next; omega)
        clear hy L R
        go_wp2_with fail
        go_ret
        refine ⟨?_, hbz.trans (hb2.mono hbz.size)⟩
        rw [X.out]
        rfl
      · have hyd : decide (C.a * N < C.v * fac kd * D) = false := decide_eq_false hy
        have HN : Hid (DvNext kd xs ms N D i) := hid (HP.out.2 (by omega))
        clear hy L R
        go_wp2_with fail
        go_roundw
        case rel => exact ⟨i + 1, by omega, by go_num, fair_more HF.out HN.out, hb2⟩
        case measure => simp [intOf]; omega
    · obtain rfl : i = xs.length := by omega
      have hbz2 := hbz.trans (hb.mono hbz.size)
      have Hls := hid (last_any kd Hk.out xs ms a a2 cap cap2 wr (g1.below hb) (g2.below hb) HO.out HM.out)
      clear h3 m0 m1 m2 m3 hs3 hb hbz g1 g2
      obtain ⟨wo, hwo⟩ : ∃ wo, wo = wr := ⟨_, rfl⟩
      subst hwo
      go_wp2_with fail
      refine Hls.out.mono ?_; rintro e w5 ⟨a5, c5, rfl, h5, hb5⟩
      have p1 := (hb5.cell (p := ⟨W.heap.size, 1, none⟩) (by show W.heap.size < _; omega)).trans q1
      have p2 := (hb5.cell (p := ⟨W.heap.size + 1, 0, none⟩) hs).trans q2
      have p3 := (hb5.cell (p := ⟨W.heap.size + 1, 1, none⟩) hs).trans q3
      have hs5 := Nat.lt_of_lt_of_le hs hb5.size
      have hbz5 := hbz2.trans (hb5.mono hbz2.size)
      have hl8' := lastL_len kd xs ms xs.length
      clear q0 q1 q2 q3 hs hb5 hbz2 Hls
      generalize hL : (lastL kd xs ms xs.length).length = L at *
      have HL := hid hL
      clear hL
      go_wp2_with fail
      go_loopw [42] (fun v42 w' => ∃ t : Nat, t ≤ L ∧ v42 = .int .i64 t ∧ (∀ t', t' < t → DvLs kd xs ms N D t') ∧ Below w5.heap.size w5 w') (fun v42 _ => L - (intOf v42).toNat)
      case atStart => exact ⟨0, by omega, rfl, fun i hi => absurd hi (Nat.not_lt_zero i), Below.refl _ _⟩
      case round =>
        obtain ⟨t, ht, rfl, hG, hb⟩ := hrel
        have HG := hid hG
        clear hG
        by_cases hlt2 : t < L
        · obtain ⟨b, off, e5, hbl, z0, z1, z2⟩ := (h5.below hb) t (by rw [HL.out]; exact hlt2)
          subst e5
          have i1 : (0 : Int) ≤ (t : Int) := by omega
          have i2 : (t : Int) < (L : Int) := by omega
          have hok := Hlok.out t (by rw [HL.out]; exact hlt2)
          have HP : Hid (DvLs kd xs ms N D t ↔ (cth (lastL kd xs ms xs.length) t).a * N ≤ (cth (lastL kd xs ms xs.length) t).v * fac kd * D) := hid Iff.rfl
          generalize cth (lastL kd xs ms xs.length) t = C at *
          have Lb := dv_left (kd := kd) (v := C.v) (D := D) hok.v0 hok.v1 hr.d0 hr.d1
          have R := mul_bds hok.a0 hok.a1 hr.n0 hr.n1
          have w1 : IntKind.i64.wrap (C.v * fac kd) = C.v * fac kd := IntWalk.i64_in _ (by omega)
          have w2 : IntKind.i64.wrap (C.v * fac kd * D) = C.v * fac kd * D := IntWalk.i64_in _ (by omega)
          have w3' : IntKind.i64.wrap (C.a * N) = C.a * N := IntWalk.i64_in _ (by omega)
          have hbn := below_alloc wr (.cells #[.int .i64 C.v, .int .i64 C.a, .int .i64 C.i] 83)
          have hs6 := Nat.lt_of_lt_of_le hs5 hb.size
          have r1 := (hbn.cell (p := ⟨W.heap.size, 1, none⟩) (by show W.heap.size < _; omega)).trans ((hb.cell (p := ⟨W.heap.size, 1, none⟩) (by show W.heap.size < _; omega)).trans p1)
          have r2 := (hbn.cell (p := ⟨W.heap.size + 1, 0, none⟩) hs6).trans ((hb.cell (p := ⟨W.heap.size + 1, 0, none⟩) hs5).trans p2)
          have r3 := (hbn.cell (p := ⟨W.heap.size + 1, 1, none⟩) hs6).trans ((hb.cell (p := ⟨W.heap.size + 1, 1, none⟩) hs5).trans p3)
          have hb2 := hb.alloc hb.size (.cells #[.int .i64 C.v, .int .i64 C.a, .int .i64 C.i] 83)
          by_cases hy : C.v * fac kd * D < C.a * N
          · have hyd : decide (C.v * fac kd * D < C.a * N) = true := decide_eq_true hy
            have X := hid (dvB_no (dv_bad t (by rw [HL.out]; exact hlt2) fun h => by have := HP.out.1 h; omega))
            clear hy Lb R
            go_wp2_with fail
            go_ret
            refine ⟨?_, hbz5.trans (hb2.mono hbz5.size)⟩
            rw [X.out]
            rfl
          · have hyd : decide (C.v * fac kd * D < C.a * N) = false := decide_eq_false hy
            have HN : Hid (DvLs kd xs ms N D t) := hid (HP.out.2 (by omega))
            clear hy Lb R
            go_wp2_with fail
            go_roundw
            case rel => exact ⟨t + 1, by omega, by go_num, fair_more HG.out HN.out, hb2⟩
            case measure => simp [intOf]; omega
        · obtain rfl : t = L := by omega
          have X := hid (dvB_yes (dv_all HF.out (by rw [HL.out]; exact HG.out)))
          go_wp2_with fail
          go_ret
          refine ⟨?_, hbz5.trans (hb.mono hbz5.size)⟩
          rw [X.out]
          rfl
end Go.Proofs.Ythankdfjkmfokaa
