/- The state behind a word, its rank; plainly. -/
import Derived.Test.YtmllbemjcfkmjaaCount
namespace Go.Proofs.Ytmllbemjcfkmjaa
open Go.RowKit
set_option linter.unusedSimpArgs false
set_option linter.unusedVariables false

def runF (m : Mac) (xs : List Int) (s : Int) : Nat → Int
  | 0 => s
  | j + 1 => stepM m (runF m xs s j) (nth xs j).toNat
def runN (m : Mac) (xs : List Int) (j : Nat) : Int := runF m xs 0 j
theorem step_in {m : Mac} (h : MacOK m) {s : Int} (h0 : 0 ≤ s) (h1 : s < m.nx.length) {a : Int} (a0 : 0 ≤ a) (a1 : a < m.L) : 0 ≤ stepM m s a.toNat ∧ stepM m s a.toNat < m.nx.length := by
  have hl := h.len s.toNat (by omega)
  exact h.el s.toNat (by omega) a.toNat (by omega)
theorem runF_in {m : Mac} {xs : List Int} (h : MacOK m) (hw : WordOK m.L xs) {s : Int} (h0 : 0 ≤ s) (h1 : s < m.nx.length) (j : Nat) (hj : j ≤ xs.length) : 0 ≤ runF m xs s j ∧ runF m xs s j < m.nx.length := by
  induction j with
  | zero => exact ⟨h0, h1⟩
  | succ j ih =>
    have ih := ih (by omega)
    have he := hw.el j (by omega)
    exact step_in h ih.1 ih.2 he.1 he.2
theorem runN_in {m : Mac} {xs : List Int} (h : MacOK m) (hw : WordOK m.L xs) (j : Nat) (hj : j ≤ xs.length) : 0 ≤ runN m xs j ∧ runN m xs j < m.nx.length :=
  runF_in h hw (Int.le_refl _) (by have := h.n1; omega) j hj
def innR (m : Mac) (xs : List Int) (j t : Nat) : Int := sumTo (fun b => cnt m (xs.length - 1 - j) (stepM m (runN m xs j) b)) t
def rkN (m : Mac) (xs : List Int) (i : Nat) : Int := sumTo (fun j => innR m xs j (nth xs j).toNat) i
theorem innR_bd {m : Mac} {xs : List Int} (h : MacOK m) (hl : xs.length ≤ 20) (j t : Nat) (ht : t ≤ 6) : 0 ≤ innR m xs j t ∧ innR m xs j t ≤ 21936950640377856 := by
  have h6 := six_le (show xs.length - 1 - j ≤ 20 by omega)
  have := sumTo_bd (fun b => cnt m (xs.length - 1 - j) (stepM m (runN m xs j) b)) 3656158440062976 t fun d _ => by
    have := cnt_bd m h.l6 (xs.length - 1 - j) (stepM m (runN m xs j) d)
    omega
  unfold innR
  omega
theorem rkN_bd {m : Mac} {xs : List Int} (h : MacOK m) (hw : WordOK m.L xs) (i : Nat) (hi : i ≤ xs.length) : 0 ≤ rkN m xs i ∧ rkN m xs i ≤ 438739012807557120 := by
  have := sumTo_bd (fun j => innR m xs j (nth xs j).toNat) 21936950640377856 i fun d hd => innR_bd h hw.l20 d _ (by have := hw.el d (by omega); have := h.l6; omega)
  have := hw.l20
  unfold rkN
  omega
open Classical in
noncomputable def rnkE (m : Mac) (xs : List Int) : Int := if wodE m xs = 0 then (if accM m (runN m xs xs.length) = true then 0 else 9) else wodE m xs
open Classical in
noncomputable def rnkN (m : Mac) (xs : List Int) : Int := if rnkE m xs = 0 then rkN m xs xs.length else 0
theorem rnk_ok {m : Mac} {xs : List Int} (h : wodE m xs = 0) (ha : accM m (runN m xs xs.length) = true) : rnkE m xs = 0 ∧ rnkN m xs = rkN m xs xs.length := by
  have e : rnkE m xs = 0 := by unfold rnkE; rw [if_pos h, if_pos ha]
  exact ⟨e, by unfold rnkN; rw [if_pos e]⟩
theorem rnk_no {m : Mac} {xs : List Int} (h : wodE m xs = 0) (ha : accM m (runN m xs xs.length) = false) : rnkE m xs = 9 ∧ rnkN m xs = 0 := by
  have e : rnkE m xs = 9 := by unfold rnkE; rw [if_pos h, ha, if_neg (by decide)]
  exact ⟨e, by unfold rnkN; rw [e, if_neg (by decide)]⟩
theorem rnk_bad {m : Mac} {xs : List Int} (h : wodE m xs ≠ 0) : rnkE m xs = wodE m xs ∧ rnkN m xs = 0 := by
  have e : rnkE m xs = wodE m xs := by unfold rnkE; rw [if_neg h]
  exact ⟨e, by unfold rnkN; rw [e, if_neg h]⟩
theorem rnkE_zero {m : Mac} {xs : List Int} : rnkE m xs = 0 ↔ (MacOK m ∧ WordOK m.L xs) ∧ accM m (runN m xs xs.length) = true := by
  by_cases h : wodE m xs = 0
  · cases ha : accM m (runN m xs xs.length)
    · rw [(rnk_no h ha).1]
      exact ⟨(fun h => by cases h), fun h => by cases h.2⟩
    · exact ⟨fun _ => ⟨wodE_zero.1 h, rfl⟩, fun _ => (rnk_ok h ha).1⟩
  · rw [(rnk_bad h).1]
    exact ⟨fun h2 => absurd h2 h, fun h2 => absurd (wodE_zero.2 h2.1) h⟩
end Go.Proofs.Ytmllbemjcfkmjaa
