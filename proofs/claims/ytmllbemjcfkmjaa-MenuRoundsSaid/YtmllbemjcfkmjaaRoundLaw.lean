/- Which words can be served again and again; plainly. -/
import Derived.Test.YtmllbemjcfkmjaaRankLaw
namespace Go.Proofs.Ytmllbemjcfkmjaa
open Go.RowKit
set_option linter.unusedSimpArgs false
set_option linter.unusedVariables false

/-- The state behind k times the word. -/
def rdS (m : Mac) (xs : List Int) : Nat → Int
  | 0 => 0
  | k + 1 => runF m xs (rdS m xs k) xs.length
theorem rdS_in {m : Mac} {xs : List Int} (h : MacOK m) (hw : WordOK m.L xs) (k : Nat) : 0 ≤ rdS m xs k ∧ rdS m xs k < m.nx.length := by
  induction k with
  | zero => exact ⟨Int.le_refl _, by have := h.n1; show (0 : Int) < _; omega⟩
  | succ k ih => exact runF_in h hw ih.1 ih.2 _ (Nat.le_refl _)
theorem rdS_again {m : Mac} {xs : List Int} {i j : Nat} (h : rdS m xs i = rdS m xs j) (t : Nat) : rdS m xs (i + t) = rdS m xs (j + t) := by
  induction t with
  | zero => exact h
  | succ t ih =>
    show runF m xs (rdS m xs (i + t)) xs.length = runF m xs (rdS m xs (j + t)) xs.length
    rw [ih]
theorem rdS_twice {m : Mac} {xs : List Int} (h : MacOK m) (hw : WordOK m.L xs) : ∃ i j, i < j ∧ j ≤ m.nx.length ∧ rdS m xs i = rdS m xs j := by
  by_cases hn : ((List.range (m.nx.length + 1)).map fun i => (rdS m xs i).toNat).Nodup
  · have := pigeon_nat m.nx.length _ hn fun x hx => by
      obtain ⟨i, _, rfl⟩ := List.mem_map.1 hx
      have := rdS_in h hw i
      omega
    simp at this
    omega
  · unfold List.Nodup at hn
    rw [List.pairwise_iff_getElem] at hn
    simp only [Classical.not_forall] at hn
    obtain ⟨i, j, hi, hj, hij, he⟩ := hn
    simp at hi hj he
    have h1 := rdS_in h hw i
    have h2 := rdS_in h hw j
    exact ⟨i, j, hij, by omega, by omega⟩
theorem rdS_all {m : Mac} {xs : List Int} (h : MacOK m) (hw : WordOK m.L xs) (ha : ∀ k, k < m.nx.length → accM m (rdS m xs (k + 1)) = true) : ∀ k, accM m (rdS m xs (k + 1)) = true := by
  obtain ⟨i, j, hij, hj, he⟩ := rdS_twice h hw
  have key : ∀ n k, k ≤ n → accM m (rdS m xs (k + 1)) = true := by
    intro n
    induction n with
    | zero =>
      intro k hk
      exact ha k (by have := h.n1; omega)
    | succ n ih =>
      intro k hk
      by_cases hkn : k < m.nx.length
      · exact ha k hkn
      · have e : rdS m xs (k + 1) = rdS m xs (i + (k + 1 - j)) := by
          rw [rdS_again he]
          congr 1
          omega
        rw [e, show i + (k + 1 - j) = (i + (k - j)) + 1 by omega]
        exact ih _ (by omega)
  exact fun k => key k k (Nat.le_refl _)
open Classical in
noncomputable def rndB (m : Mac) (xs : List Int) : Bool := if wodE m xs = 0 ∧ ∀ k, accM m (rdS m xs (k + 1)) = true then true else false
theorem rnd_yes {m : Mac} {xs : List Int} (h : wodE m xs = 0) (ha : ∀ k, k < m.nx.length → accM m (rdS m xs (k + 1)) = true) : rndB m xs = true := by
  obtain ⟨h1, h2⟩ := wodE_zero.1 h
  unfold rndB
  rw [if_pos ⟨h, rdS_all h1 h2 ha⟩]
theorem rnd_no {m : Mac} {xs : List Int} (k : Nat) (ha : accM m (rdS m xs (k + 1)) = false) : rndB m xs = false := by
  unfold rndB
  rw [if_neg fun h => by have := h.2 k; rw [ha] at this; cases this]
theorem rnd_bad {m : Mac} {xs : List Int} (h : wodE m xs ≠ 0) : rndB m xs = false := by
  unfold rndB
  rw [if_neg fun h2 => h h2.1]
theorem rnd_of {m : Mac} {xs : List Int} (h : rndB m xs = true) : ∀ k, accM m (rdS m xs (k + 1)) = true := by
  unfold rndB at h
  split at h
  · next h2 => exact h2.2
  · cases h
end Go.Proofs.Ytmllbemjcfkmjaa
