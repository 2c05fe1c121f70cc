/- When there is a divisor, plainly. -/
import Derived.Test.YthankdfjkmfokaaDvFair
import Derived.Test.YthankdfjkmfokaaQuota
namespace Go.Proofs.Ythankdfjkmfokaa
open Go.RowKit
set_option linter.unusedSimpArgs false
set_option linter.unusedVariables false

theorem mul_le_cancel {g x y : Int} (hg : 1 ≤ g) : x * g ≤ y * g ↔ x ≤ y :=
  ⟨fun h => Int.le_of_mul_le_mul_right h (by omega), fun h => Int.mul_le_mul_of_nonneg_right h (by omega)⟩
/-- What a divisor is hangs on the fraction's value alone. -/
theorem dv_scale {kd : Int} {xs ms : List Int} {N D g : Int} (hg : 1 ≤ g) : DvOK kd xs ms (N * g) (D * g) ↔ DvOK kd xs ms N D := by
  have key : ∀ i, DvAt kd xs ms (N * g) (D * g) i ↔ DvAt kd xs ms N D i := by
    intro i
    have e1 : nth xs i * fac kd * (D * g) ≤ stp kd (nth ms i) * (N * g) ↔ nth xs i * fac kd * D ≤ stp kd (nth ms i) * N := by
      rw [← Int.mul_assoc, ← Int.mul_assoc]; exact mul_le_cancel hg
    have e2 : stp kd (nth ms i - 1) * (N * g) ≤ nth xs i * fac kd * (D * g) ↔ stp kd (nth ms i - 1) * N ≤ nth xs i * fac kd * D := by
      rw [← Int.mul_assoc, ← Int.mul_assoc]; exact mul_le_cancel hg
    exact ⟨fun h => ⟨⟨e1.1 h.next.le⟩, ⟨fun hp => e2.1 (h.last.le hp)⟩⟩, fun h => ⟨⟨e1.2 h.next.le⟩, ⟨fun hp => e2.2 (h.last.le hp)⟩⟩⟩
  exact ⟨fun h i hi => (key i).1 (h i hi), fun h i hi => (key i).2 (h i hi)⟩
theorem fr_mul {x y : Int} (hx : 0 ≤ x) (hy : 1 ≤ y) : 1 ≤ ((gc x.toNat y.toNat : Nat) : Int) ∧ frN x y * (gc x.toNat y.toNat : Nat) = x ∧ frD x y * (gc x.toNat y.toNat : Nat) = y := by
  have hp := gc_pos x.toNat y.toNat (by omega)
  have d1 : ((gc x.toNat y.toNat : Nat) : Int) ∣ x := by
    have := Int.natCast_dvd_natCast.2 (Nat.gcd_dvd_left x.toNat y.toNat)
    rw [Int.toNat_of_nonneg hx] at this
    exact this
  have d2 : ((gc x.toNat y.toNat : Nat) : Int) ∣ y := by
    have := Int.natCast_dvd_natCast.2 (Nat.gcd_dvd_right x.toNat y.toNat)
    rw [Int.toNat_of_nonneg (by omega : 0 ≤ y)] at this
    exact this
  exact ⟨by omega, Int.ediv_mul_cancel d1, Int.ediv_mul_cancel d2⟩
theorem dv_fr {kd : Int} {xs ms : List Int} {x y : Int} (hx : 0 ≤ x) (hy : 1 ≤ y) : DvOK kd xs ms (frN x y) (frD x y) ↔ DvOK kd xs ms x y := by
  obtain ⟨h1, h2, h3⟩ := fr_mul hx hy
  have := dv_scale (kd := kd) (xs := xs) (ms := ms) (N := frN x y) (D := frD x y) h1
  rw [h2, h3] at this
  exact this.symm
theorem fr_low {x y : Int} (hx : 1 ≤ x) (hy : 1 ≤ y) : 1 ≤ frN x y ∧ frN x y ≤ x ∧ 1 ≤ frD x y ∧ frD x y ≤ y ∧ gc (frN x y).toNat (frD x y).toNat = 1 := by
  obtain ⟨h1, h2, h3⟩ := fr_mul (show 0 ≤ x by omega) hy
  have e1 : frN x y = ((x.toNat / gc x.toNat y.toNat : Nat) : Int) := by
    unfold frN; rw [Int.natCast_ediv, Int.toNat_of_nonneg (by omega)]
  have e2 : frD x y = ((y.toNat / gc x.toNat y.toNat : Nat) : Int) := by
    unfold frD; rw [Int.natCast_ediv, Int.toNat_of_nonneg (by omega)]
  have p1 : 1 ≤ frN x y := by
    by_cases h : 1 ≤ frN x y
    · exact h
    · have : frN x y * ((gc x.toNat y.toNat : Nat) : Int) ≤ 0 := Int.mul_nonpos_of_nonpos_of_nonneg (by omega) (by omega)
      omega
  have p2 : 1 ≤ frD x y := by
    by_cases h : 1 ≤ frD x y
    · exact h
    · have : frD x y * ((gc x.toNat y.toNat : Nat) : Int) ≤ 0 := Int.mul_nonpos_of_nonpos_of_nonneg (by omega) (by omega)
      omega
  refine ⟨p1, ?_, p2, ?_, ?_⟩
  · have := Int.mul_le_mul_of_nonneg_left h1 (show 0 ≤ frN x y by omega)
    omega
  · have := Int.mul_le_mul_of_nonneg_left h1 (show 0 ≤ frD x y by omega)
    omega
  · rw [e1, e2, Int.toNat_natCast, Int.toNat_natCast]
    have hp := gc_pos x.toNat y.toNat (by omega)
    have := Nat.gcd_div (Nat.gcd_dvd_left x.toNat y.toNat) (Nat.gcd_dvd_right x.toNat y.toNat)
    show Nat.gcd (x.toNat / Nat.gcd x.toNat y.toNat) (y.toNat / Nat.gcd x.toNat y.toNat) = 1
    rw [this]
    exact Nat.div_self hp
/-- The greatest claim to a next meal gives a divisor if any school's does. -/
theorem dv_top {kd : Int} {xs ms : List Int} (ho : OrdOK xs) (hm : MealsOK xs ms) (i : Nat) (hi : i < xs.length) (hs : 0 < stp kd (nth ms i)) (h : DvOK kd xs ms (nth xs i * fac kd) (stp kd (nth ms i))) :
    0 < stp kd (nth ms (topI kd xs ms xs.length)) ∧ DvOK kd xs ms (nth xs (topI kd xs ms xs.length) * fac kd) (stp kd (nth ms (topI kd xs ms xs.length))) := by
  have h1 := ho.l1
  have hc : topI kd xs ms xs.length < xs.length := by have := topI_lt kd xs ms xs.length; omega
  have hml := hm.len
  have tg := top_gt (kd := kd) ho (fun i hi => (hm.el i (by omega)).1) xs.length (Nat.le_refl _)
  generalize topI kd xs ms xs.length = c at *
  by_cases e : i = c
  · subst e; exact ⟨hs, h⟩
  · have g := tg i hi e
    have oc := ho.el c hc
    have oi := ho.el i hi
    have f1 := (fac_bd kd).1
    have sc := stp_bd (kd := kd) (hm.el c (by omega)).1 (hm.el c (by omega)).2
    have hn := (h c hc).next.le
    have hsc : 0 < stp kd (nth ms c) := by
      by_cases h0 : 0 < stp kd (nth ms c)
      · exact h0
      · exfalso
        have e0 : stp kd (nth ms c) = 0 := by omega
        rw [e0, Int.zero_mul] at hn
        have a1 : 0 < nth xs c * fac kd := Int.mul_pos (by omega) (by omega)
        have a2 : 0 < nth xs c * fac kd * stp kd (nth ms i) := Int.mul_pos a1 hs
        omega
    refine ⟨hsc, ?_⟩
    have ge := gt_ge g
    rw [sz_ways, if_neg (by omega), if_neg (by omega)] at ge
    have le1 : nth xs i * stp kd (nth ms c) ≤ nth xs c * stp kd (nth ms i) := by
      have := @sg_neg (nth xs c * stp kd (nth ms i)) (nth xs i * stp kd (nth ms c))
      omega
    have le2 : nth xs c * stp kd (nth ms i) ≤ nth xs i * stp kd (nth ms c) := by
      have e1 : nth xs c * fac kd * stp kd (nth ms i) = nth xs c * stp kd (nth ms i) * fac kd := by ac_rfl
      have e2 : stp kd (nth ms c) * (nth xs i * fac kd) = nth xs i * stp kd (nth ms c) * fac kd := by ac_rfl
      rw [e1, e2] at hn
      exact (mul_le_cancel f1).1 hn
    have eq : nth xs c * stp kd (nth ms i) = nth xs i * stp kd (nth ms c) := by omega
    have s1 := dv_scale (kd := kd) (xs := xs) (ms := ms) (N := nth xs i * fac kd) (D := stp kd (nth ms i)) (g := stp kd (nth ms c)) (by omega)
    have s2 := dv_scale (kd := kd) (xs := xs) (ms := ms) (N := nth xs c * fac kd) (D := stp kd (nth ms c)) (g := stp kd (nth ms i)) (by omega)
    have r1 : nth xs i * fac kd * stp kd (nth ms c) = nth xs c * fac kd * stp kd (nth ms i) := by
      have a1 : nth xs i * fac kd * stp kd (nth ms c) = nth xs i * stp kd (nth ms c) * fac kd := by ac_rfl
      have a2 : nth xs c * fac kd * stp kd (nth ms i) = nth xs c * stp kd (nth ms i) * fac kd := by ac_rfl
      rw [a1, a2, eq]
    rw [r1, Int.mul_comm (stp kd (nth ms i))] at s1
    exact s2.1 (s1.2 h)
end Go.Proofs.Ythankdfjkmfokaa
