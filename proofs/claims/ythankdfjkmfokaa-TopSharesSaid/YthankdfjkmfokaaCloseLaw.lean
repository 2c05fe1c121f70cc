/- Fair meals: who orders no less has at most one less; of equal ones the first has no less; plainly. -/
import Derived.Test.YthankdfjkmfokaaFair
namespace Go.Proofs.Ythankdfjkmfokaa
open Go.RowKit
set_option linter.unusedSimpArgs false
set_option linter.unusedVariables false

theorem stp_mono (kd : Int) {m k : Int} (h0 : 0 ≤ m) (h : m < k) : stp kd m < stp kd k := by unfold stp; split <;> (try split) <;> omega
theorem fair_close {kd : Int} {xs ms : List Int} (ho : OrdOK xs) (hm : MealsOK xs ms) (hf : FairOK kd xs ms) (i k : Nat) (hi : i < xs.length) (hk : k < xs.length) (hne : i ≠ k) (hx : nth xs k ≤ nth xs i) : nth ms k ≤ nth ms i + 1 := by
  refine Classical.byContradiction fun hn => ?_
  have oi := ho.el i hi
  have ok := ho.el k hk
  have mi := hm.el i (by rw [hm.len]; exact hi)
  have mk := hm.el k (by rw [hm.len]; exact hk)
  have g := hf k hk i hi hne.symm (by omega)
  have up := stp_mono kd mi.1 (show nth ms i < nth ms k - 1 by omega)
  have sb := stp_bd (kd := kd) mi.1 mi.2
  unfold lnAt at g
  rw [sz_ways, if_neg (by omega)] at g
  by_cases h0 : stp kd (nth ms i) = 0
  · rw [if_pos h0] at g; omega
  · rw [if_neg h0] at g
    have e := @sg_neg (nth xs k * stp kd (nth ms i)) (nth xs i * stp kd (nth ms k - 1))
    have h1 : nth xs k * stp kd (nth ms i) < nth xs k * stp kd (nth ms k - 1) := Int.mul_lt_mul_of_pos_left up (by omega)
    have h2 : nth xs k * stp kd (nth ms k - 1) ≤ nth xs i * stp kd (nth ms k - 1) := Int.mul_le_mul_of_nonneg_right hx (by omega)
    have := e.2 (by omega)
    omega
theorem first_more {kd : Int} {xs ms : List Int} (ho : OrdOK xs) (hm : MealsOK xs ms) (hf : SF kd xs ms) (i k : Nat) (hi : i < xs.length) (hki : k < i) (hx : nth xs i = nth xs k) : nth ms i ≤ nth ms k := by
  refine Classical.byContradiction fun hn => ?_
  have mk := hm.el k (by rw [hm.len]; omega)
  have mi := hm.el i (by rw [hm.len]; exact hi)
  have g := hf i k hi (by omega) (by omega) (by omega)
  have c1 := cok (kd := kd) ho hi (show 0 ≤ nth ms i - 1 by omega)
  have c2 := cok (kd := kd) ho (show k < xs.length by omega) (show 0 ≤ nth ms k by omega)
  rw [← hx] at g c2
  by_cases e : nth ms k = nth ms i - 1
  · rw [e] at g
    have h0 : szC (nth xs i) (stp kd (nth ms i - 1)) (nth xs i) (stp kd (nth ms i - 1)) = 0 := by
      have := sz_anti c1 c1
      omega
    rcases g with g | ⟨_, g⟩ <;> omega
  · have h1 := sz_own c2 (stp_mono kd mk.1 (show nth ms k < nth ms i - 1 by omega))
    have h2 := sz_anti c1 c2
    have := gt_ge g
    omega
end Go.Proofs.Ythankdfjkmfokaa
