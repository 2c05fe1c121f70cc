/- The school that gives a meal back first, plainly: the program's least claim is the document's. -/
import Derived.Test.YthankdfjkmfokaaTop
namespace Go.Proofs.Ythankdfjkmfokaa
open Go.RowKit
set_option linter.unusedSimpArgs false
set_option linter.unusedVariables false

theorem lastL_app (kd : Int) (xs ms : List Int) (k : Nat) (h : 0 < nth ms k) : lastL kd xs ms (k + 1) = lastL kd xs ms k ++ [lastC kd xs ms k] := by
  unfold lastL
  rw [List.range_succ, List.filter_append, List.map_append]
  simp [List.filter_cons, h]
theorem cth_left (cs ds : List Cl) (i : Nat) (h : i < cs.length) : cth (cs ++ ds) i = cth cs i := by
  simp [cth, List.getD, List.getElem?_append_left h]
theorem cth_end (cs : List Cl) (c : Cl) : cth (cs ++ [c]) cs.length = c := by simp [cth, List.getD]
theorem minI_left (cs ds : List Cl) : ∀ k, k ≤ cs.length → minI (cs ++ ds) k = minI cs k := by
  intro k
  induction k with
  | zero => intro _; rfl
  | succ k ih =>
    intro hk
    have ih := ih (by omega)
    have := minI_lt cs k
    unfold minI cmpAt
    rw [ih, cth_left cs ds k (by omega), cth_left cs ds (minI cs k) (by omega)]
theorem last_mem (kd : Int) (xs ms : List Int) : ∀ k t, t < (lastL kd xs ms k).length → ∃ i, i < k ∧ 0 < nth ms i ∧ cth (lastL kd xs ms k) t = lastC kd xs ms i := by
  intro k
  induction k with
  | zero => intro t ht; simp [lastL] at ht
  | succ k ih =>
    intro t ht
    by_cases h : 0 < nth ms k
    · rw [lastL_app kd xs ms k h] at ht ⊢
      by_cases h2 : t < (lastL kd xs ms k).length
      · obtain ⟨i, hi, hp, he⟩ := ih t h2
        exact ⟨i, by omega, hp, by rw [cth_left _ _ _ h2, he]⟩
      · have : t = (lastL kd xs ms k).length := by simp at ht; omega
        subst this
        exact ⟨k, by omega, h, cth_end _ _⟩
    · rw [lastL_no kd xs ms k h] at ht ⊢
      obtain ⟨i, hi, hp, he⟩ := ih t ht
      exact ⟨i, by omega, hp, he⟩
theorem last_at (kd : Int) (xs ms : List Int) : ∀ k i, i < k → 0 < nth ms i → ∃ t, t < (lastL kd xs ms k).length ∧ cth (lastL kd xs ms k) t = lastC kd xs ms i := by
  intro k
  induction k with
  | zero => intro i hi; omega
  | succ k ih =>
    intro i hi hp
    by_cases h : 0 < nth ms k
    · rw [lastL_app kd xs ms k h]
      by_cases hik : i = k
      · subst hik
        exact ⟨(lastL kd xs ms i).length, by simp, cth_end _ _⟩
      · obtain ⟨t, ht, he⟩ := ih i (by omega) hp
        exact ⟨t, by simp; omega, by rw [cth_left _ _ _ ht, he]⟩
    · rw [lastL_no kd xs ms k h]
      have hik : i ≠ k := fun e => h (e ▸ hp)
      exact ih i (by omega) hp
theorem last_ok {kd : Int} {xs ms : List Int} (ho : OrdOK xs) (hm : MealsOK xs ms) : ClaimsOK (lastL kd xs ms xs.length) := by
  intro t ht
  obtain ⟨i, hi, hp, he⟩ := last_mem kd xs ms xs.length t ht
  rw [he]
  have h1 := ho.el i hi
  have h2 := hm.el i (by rw [hm.len]; exact hi)
  have h3 := stp_bd (kd := kd) (k := nth ms i - 1) (by omega) (by omega)
  exact ⟨h1.1, h1.2, h3.1, h3.2⟩

/-- The size of the last claim of school i against that of school j. -/
def lzAt (kd : Int) (xs ms : List Int) (i j : Nat) : Int := szC (nth xs i) (stp kd (nth ms i - 1)) (nth xs j) (stp kd (nth ms j - 1))
def lowI (kd : Int) (xs ms : List Int) : Nat → Int
  | 0 => -1
  | k + 1 => if 0 < nth ms k ∧ (lowI kd xs ms k < 0 ∨ lzAt kd xs ms k (lowI kd xs ms k).toNat ≤ 0) then k else lowI kd xs ms k
theorem lowI_first (kd : Int) (xs ms : List Int) (k : Nat) (h : 0 < nth ms k) (h2 : lowI kd xs ms k < 0) : lowI kd xs ms (k + 1) = k := by rw [lowI, if_pos ⟨h, .inl h2⟩]
theorem lowI_yes (kd : Int) (xs ms : List Int) (k : Nat) (h : 0 < nth ms k) (h2 : lzAt kd xs ms k (lowI kd xs ms k).toNat ≤ 0) : lowI kd xs ms (k + 1) = k := by rw [lowI, if_pos ⟨h, .inr h2⟩]
theorem lowI_none (kd : Int) (xs ms : List Int) (k : Nat) (h : ¬ 0 < nth ms k) : lowI kd xs ms (k + 1) = lowI kd xs ms k := by rw [lowI, if_neg fun x => h x.1]
theorem lowI_no (kd : Int) (xs ms : List Int) (k : Nat) (h1 : ¬ lowI kd xs ms k < 0) (h2 : ¬ lzAt kd xs ms k (lowI kd xs ms k).toNat ≤ 0) : lowI kd xs ms (k + 1) = lowI kd xs ms k := by rw [lowI, if_neg fun x => x.2.elim h1 h2]
theorem lowI_bd (kd : Int) (xs ms : List Int) (k : Nat) : -1 ≤ lowI kd xs ms k ∧ lowI kd xs ms k < k ∧ (0 ≤ lowI kd xs ms k → 0 < nth ms (lowI kd xs ms k).toNat) := by
  induction k with
  | zero => simp [lowI]
  | succ k ih =>
    rw [lowI]
    split
    · rename_i h
      refine ⟨by omega, by omega, fun _ => ?_⟩
      simpa using h.1
    · exact ⟨ih.1, by omega, ih.2.2⟩
theorem low_min (kd : Int) (xs ms : List Int) (k : Nat) :
    ((lastL kd xs ms k).length = 0 ∧ lowI kd xs ms k = -1) ∨
    (0 < (lastL kd xs ms k).length ∧ 0 ≤ lowI kd xs ms k ∧ cth (lastL kd xs ms k) (minI (lastL kd xs ms k) (lastL kd xs ms k).length) = lastC kd xs ms (lowI kd xs ms k).toNat) := by
  induction k with
  | zero => exact .inl ⟨rfl, rfl⟩
  | succ k ih =>
    by_cases h : 0 < nth ms k
    · refine .inr ?_
      rw [lastL_app kd xs ms k h]
      have hln : (lastL kd xs ms k ++ [lastC kd xs ms k]).length = (lastL kd xs ms k).length + 1 := by simp
      rw [hln]
      have hml := minI_left (lastL kd xs ms k) [lastC kd xs ms k] (lastL kd xs ms k).length (Nat.le_refl _)
      rcases ih with ⟨hl, hlo⟩ | ⟨hl, h0, he⟩
      · rw [lowI_first kd xs ms k h (by omega), hl, minI_one]
        have := cth_end (lastL kd xs ms k) (lastC kd xs ms k)
        rw [hl] at this
        exact ⟨by omega, by omega, by simpa using this⟩
      · have hbd := lowI_bd kd xs ms k
        have hmt := minI_lt (lastL kd xs ms k) (lastL kd xs ms k).length
        have key : cmpAt (lastL kd xs ms k ++ [lastC kd xs ms k]) (lastL kd xs ms k).length (minI (lastL kd xs ms k) (lastL kd xs ms k).length) < 0 ↔ lzAt kd xs ms k (lowI kd xs ms k).toNat ≤ 0 := by
          unfold cmpAt lzAt
          rw [cth_end, cth_left _ _ (minI (lastL kd xs ms k) (lastL kd xs ms k).length) (by omega), he]
          exact cmpC_neg _ _ _ _ k (lowI kd xs ms k).toNat (by omega)
        by_cases hp : lzAt kd xs ms k (lowI kd xs ms k).toNat ≤ 0
        · rw [lowI_yes kd xs ms k h hp, minI_yes _ _ (by rw [hml]; exact key.2 hp), cth_end]
          exact ⟨by omega, by omega, by simp⟩
        · rw [lowI_no kd xs ms k (by omega) hp, minI_no _ _ (by rw [hml]; exact fun x => hp (key.1 x)), hml, cth_left _ _ _ (by omega)]
          exact ⟨by omega, h0, he⟩
    · rw [lastL_no kd xs ms k h, lowI_none kd xs ms k h]
      exact ih
end Go.Proofs.Ythankdfjkmfokaa
