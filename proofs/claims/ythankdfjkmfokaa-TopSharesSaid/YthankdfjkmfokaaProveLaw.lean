/- When there is a divisor: exactly if the meals are fair and no claim to a next meal is without limit; plainly. -/
import Derived.Test.YthankdfjkmfokaaHas
import Derived.Test.YthankdfjkmfokaaFairs
namespace Go.Proofs.Ythankdfjkmfokaa
open Go.RowKit
set_option linter.unusedSimpArgs false
set_option linter.unusedVariables false

/-- The greatest claim to a next meal is a divisor. -/
structure TopOK (kd : Int) (xs ms : List Int) : Prop where
  pos : 0 < stp kd (nth ms (topI kd xs ms xs.length))
  dv : DvOK kd xs ms (nth xs (topI kd xs ms xs.length) * fac kd) (stp kd (nth ms (topI kd xs ms xs.length)))
theorem top_lt {kd : Int} {xs ms : List Int} (ho : OrdOK xs) : topI kd xs ms xs.length < xs.length := by
  have := topI_lt kd xs ms xs.length
  have := ho.l1
  omega
theorem has_top {kd : Int} {xs ms : List Int} (ho : OrdOK xs) (hm : MealsOK xs ms) : HasOK kd xs ms ↔ TopOK kd xs ms := by
  constructor
  · rintro ⟨i, hi, hh⟩
    have := dv_top ho hm i hi hh.pos hh.dv
    exact ⟨this.1, this.2⟩
  · intro h
    exact ⟨_, top_lt ho, ⟨h.pos, h.dv⟩⟩
/-- No school's claim to a next meal is without limit. -/
def AllPos (kd : Int) (xs ms : List Int) : Prop := ∀ i, i < xs.length → 0 < stp kd (nth ms i)
theorem top_fair {kd : Int} {xs ms : List Int} (ho : OrdOK xs) (hm : MealsOK xs ms) (h : TopOK kd xs ms) : FairOK kd xs ms ∧ AllPos kd xs ms := by
  have hc := top_lt (kd := kd) (ms := ms) ho
  have oc := ho.el _ hc
  have f := fac_bd kd
  have p1 : 1 ≤ nth xs (topI kd xs ms xs.length) * fac kd := Int.mul_pos (by omega) (by omega)
  refine ⟨dv_fair ho hm p1 h.pos h.dv, fun i hi => ?_⟩
  have hn := (h.dv i hi).next.le
  have oi := ho.el i hi
  have hp := h.pos
  have mi := hm.el i (by rw [hm.len]; exact hi)
  have sb := stp_bd (kd := kd) mi.1 mi.2
  have q1 : 0 < nth xs i * fac kd := Int.mul_pos (by omega) (by omega)
  have q2 : 0 < nth xs i * fac kd * stp kd (nth ms (topI kd xs ms xs.length)) := Int.mul_pos q1 hp
  by_cases e : stp kd (nth ms i) = 0
  · rw [e, Int.zero_mul] at hn; omega
  · omega
theorem fair_top {kd : Int} {xs ms : List Int} (ho : OrdOK xs) (hm : MealsOK xs ms) (hf : FairOK kd xs ms) (hp : AllPos kd xs ms) : TopOK kd xs ms := by
  have hc := top_lt (kd := kd) (ms := ms) ho
  have tg := top_gt (kd := kd) ho (fun i hi => (hm.el i (by rw [hm.len]; exact hi)).1) xs.length (Nat.le_refl _)
  refine ⟨hp _ hc, fun i hi => ?_⟩
  have f1 := (fac_bd kd).1
  have oi := ho.el i hi
  have mi := hm.el i (by rw [hm.len]; exact hi)
  have pi := hp i hi
  have pc := hp _ hc
  have fc := hf i hi _ hc
  have mc := hm.el _ (show topI kd xs ms xs.length < ms.length by rw [hm.len]; exact hc)
  have oc := ho.el _ hc
  generalize topI kd xs ms xs.length = c at *
  refine ⟨⟨?_⟩, ⟨fun hmi => ?_⟩⟩
  · have e1 : nth xs i * fac kd * stp kd (nth ms c) = nth xs i * stp kd (nth ms c) * fac kd := by ac_rfl
    have e2 : stp kd (nth ms i) * (nth xs c * fac kd) = nth xs c * stp kd (nth ms i) * fac kd := by ac_rfl
    rw [e1, e2]
    refine (mul_le_cancel f1).2 ?_
    by_cases e : i = c
    · subst e; exact Int.le_refl _
    · have g := gt_ge (tg i hi e)
      rw [sz_ways, if_neg (by omega), if_neg (by omega)] at g
      have := @sg_neg (nth xs c * stp kd (nth ms i)) (nth xs i * stp kd (nth ms c))
      omega
  · have e1 : nth xs i * fac kd * stp kd (nth ms c) = nth xs i * stp kd (nth ms c) * fac kd := by ac_rfl
    have e2 : stp kd (nth ms i - 1) * (nth xs c * fac kd) = nth xs c * stp kd (nth ms i - 1) * fac kd := by ac_rfl
    rw [e1, e2]
    refine (mul_le_cancel f1).2 ?_
    have sl := stp_bd (kd := kd) (show 0 ≤ nth ms i - 1 by omega) (by omega)
    by_cases e : i = c
    · subst e
      have up := stp_up kd (nth ms i - 1) (by omega)
      rw [Int.sub_add_cancel] at up
      exact Int.mul_le_mul_of_nonneg_left (by omega) (by omega)
    · have g := fc e hmi
      unfold lnAt at g
      rw [sz_ways] at g
      by_cases e0 : stp kd (nth ms i - 1) = 0
      · rw [e0, Int.mul_zero]
        exact Int.mul_nonneg (by omega) (by omega)
      · rw [if_neg e0, if_neg (by omega)] at g
        have := @sg_neg (nth xs i * stp kd (nth ms c)) (nth xs c * stp kd (nth ms i - 1))
        omega
theorem top_iff {kd : Int} {xs ms : List Int} (ho : OrdOK xs) (hm : MealsOK xs ms) : TopOK kd xs ms ↔ FairOK kd xs ms ∧ AllPos kd xs ms :=
  ⟨top_fair ho hm, fun h => fair_top ho hm h.1 h.2⟩
def NoneOK (xs ms : List Int) : Prop := ∃ i, i < xs.length ∧ nth ms i = 0
theorem all_none {kd : Int} {xs ms : List Int} (hm : MealsOK xs ms) (hk : KindOK kd) : AllPos kd xs ms ↔ (kd ≠ 2 ∨ ¬ NoneOK xs ms) := by
  constructor
  · intro h
    by_cases e : kd = 2
    · subst e
      refine .inr fun ⟨i, hi, h0⟩ => ?_
      have := h i hi
      rw [h0] at this
      simp [stp] at this
    · exact .inl e
  · intro h i hi
    have mi := hm.el i (by rw [hm.len]; exact hi)
    unfold KindOK at hk
    unfold stp
    rcases h with h | h
    · split
      · omega
      · split <;> omega
    · have : nth ms i ≠ 0 := fun h0 => h ⟨i, hi, h0⟩
      split
      · omega
      · split <;> omega
end Go.Proofs.Ythankdfjkmfokaa
