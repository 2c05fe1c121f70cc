/- Meals with a divisor are fair, plainly. -/
import Derived.Test.YthankdfjkmfokaaDivs
namespace Go.Proofs.Ythankdfjkmfokaa
open Go.RowKit
set_option linter.unusedSimpArgs false
set_option linter.unusedVariables false
theorem cross {v a w b f N D : Int} (f1 : 1 ≤ f) (N1 : 1 ≤ N) (D1 : 1 ≤ D) (a0 : 0 ≤ a) (b0 : 0 ≤ b) (w1 : 1 ≤ w) (v1 : 1 ≤ v) (h1 : w * f * D ≤ b * N) (h2 : a * N ≤ v * f * D) : w * a ≤ v * b := by
  have fD : 1 ≤ f * D := by
    have := Int.mul_le_mul f1 D1 (by omega) (by omega)
    omega
  have e : (w * f * D) * (a * N) ≤ (b * N) * (v * f * D) := Int.mul_le_mul h1 h2 (Int.mul_nonneg a0 (by omega)) (Int.mul_nonneg b0 (by omega))
  have e1 : (w * f * D) * (a * N) = (w * a) * (f * D * N) := by ac_rfl
  have e2 : (b * N) * (v * f * D) = (v * b) * (f * D * N) := by ac_rfl
  rw [e1, e2] at e
  have fDN : 0 < f * D * N := Int.mul_pos (by omega) (by omega)
  exact Int.le_of_mul_le_mul_right e fDN
theorem dv_fair {kd : Int} {xs ms : List Int} {N D : Int} (ho : OrdOK xs) (hm : MealsOK xs ms) (N1 : 1 ≤ N) (D1 : 1 ≤ D) (h : DvOK kd xs ms N D) : FairOK kd xs ms := by
  intro i hi k hk hne hp
  have o1 := ho.el i hi
  have o2 := ho.el k hk
  have m1 := hm.el i (by rw [hm.len]; exact hi)
  have m2 := hm.el k (by rw [hm.len]; exact hk)
  have f1 := (fac_bd kd).1
  have sa := stp_bd (kd := kd) (k := nth ms i - 1) (by omega) (by omega)
  have sb := stp_bd (kd := kd) m2.1 m2.2
  have h1 := (h k hk).next.le
  have h2 := (h i hi).last.le hp
  unfold lnAt
  generalize stp kd (nth ms i - 1) = a at *
  generalize stp kd (nth ms k) = b at *
  have hb : b ≠ 0 := by
    intro hb
    rw [hb, Int.zero_mul] at h1
    have e1 : 1 ≤ nth xs k * fac kd := by have := Int.mul_le_mul o2.1 f1 (by omega) (by omega); omega
    have e2 : 1 ≤ nth xs k * fac kd * D := by have := Int.mul_le_mul e1 D1 (by omega) (by omega); omega
    omega
  rw [sz_ways]
  by_cases ha : a = 0
  · rw [if_pos ha, if_neg hb]; omega
  · rw [if_neg ha, if_neg hb]
    have := cross f1 N1 D1 sa.1 sb.1 o2.1 o1.1 h1 h2
    unfold sg
    rw [if_neg (by omega)]
    split <;> omega
end Go.Proofs.Ythankdfjkmfokaa
