/- The first one of the turned forms of a word, plainly: all of them have the same one. -/
import Derived.Test.YtmllbemjcfkmjaaRank
namespace Go.Proofs.Ytmllbemjcfkmjaa
open Go.RowKit Go.Maps
set_option linter.unusedSimpArgs false
set_option linter.unusedVariables false

def ltW : List Int → List Int → Bool
  | [], _ => false
  | _ :: _, [] => false
  | x :: xs, y :: ys => decide (x < y) || (decide (x = y) && ltW xs ys)
def rot (xs : List Int) (i : Nat) : List Int := xs.drop i ++ xs.take i
def bestF (xs : List Int) : Nat → List Int
  | 0 => xs
  | i + 1 => if ltW (rot xs i) (bestF xs i) = true then rot xs i else bestF xs i
theorem rot_len (xs : List Int) (i : Nat) (hi : i ≤ xs.length) : (rot xs i).length = xs.length := by simp [rot]; omega
theorem rot_zero (xs : List Int) : rot xs 0 = xs := by simp [rot]
theorem bestF_len (xs : List Int) : ∀ i, i ≤ xs.length → (bestF xs i).length = xs.length := by
  intro i
  induction i with
  | zero => intro _; rfl
  | succ i ih =>
    intro h
    rw [bestF]
    split
    · exact rot_len xs i (by omega)
    · exact ih (by omega)
theorem ltW_irrefl (xs : List Int) : ltW xs xs = false := by
  induction xs with
  | nil => rfl
  | cons x xs ih => simp [ltW, ih]
theorem ltW_trans : ∀ {a b c : List Int}, ltW a b = true → ltW b c = true → ltW a c = true := by
  intro a
  induction a with
  | nil => intro b c h; simp [ltW] at h
  | cons x a ih =>
    intro b c h1 h2
    cases b with
    | nil => simp [ltW] at h1
    | cons y b =>
      cases c with
      | nil => simp [ltW] at h2
      | cons z c =>
        simp only [ltW, Bool.or_eq_true, Bool.and_eq_true, decide_eq_true_eq] at h1 h2 ⊢
        rcases h1 with h1 | ⟨h1, h1'⟩ <;> rcases h2 with h2 | ⟨h2, h2'⟩
        · exact .inl (by omega)
        · exact .inl (by omega)
        · exact .inl (by omega)
        · exact .inr ⟨by omega, ih h1' h2'⟩
theorem ltW_total : ∀ {a b : List Int}, a.length = b.length → ltW a b = false → ltW b a = false → a = b := by
  intro a
  induction a with
  | nil => intro b h _ _; cases b with
    | nil => rfl
    | cons y b => simp at h
  | cons x a ih =>
    intro b h h1 h2
    cases b with
    | nil => simp at h
    | cons y b =>
      simp only [ltW, Bool.or_eq_false_iff, decide_eq_false_iff_not, Bool.and_eq_false_iff] at h1 h2
      have e : x = y := by omega
      subst e
      have e1 : ltW a b = false := by
        rcases h1.2 with h | h
        · exact absurd rfl h
        · exact h
      have e2 : ltW b a = false := by
        rcases h2.2 with h | h
        · exact absurd rfl h
        · exact h
      rw [ih (by simpa using h) e1 e2]
theorem nth_cons (x : Int) (xs : List Int) (i : Nat) : nth (x :: xs) (i + 1) = nth xs i := by simp [nth]
theorem nth_zero (x : Int) (xs : List Int) : nth (x :: xs) 0 = x := by simp [nth]
theorem ltW_at : ∀ (k : Nat) {a b : List Int}, a.length = b.length → k < a.length → (∀ j, j < k → nth a j = nth b j) → nth a k ≠ nth b k → ltW a b = decide (nth a k < nth b k) := by
  intro k
  induction k with
  | zero =>
    intro a b hl hk _ hne
    cases a with
    | nil => simp at hk
    | cons x a =>
      cases b with
      | nil => simp at hl
      | cons y b =>
        rw [nth_zero, nth_zero] at hne
        simp [ltW, nth_zero, hne]
  | succ k ih =>
    intro a b hl hk he hne
    cases a with
    | nil => simp at hk
    | cons x a =>
      cases b with
      | nil => simp at hl
      | cons y b =>
        have e0 := he 0 (by omega)
        rw [nth_zero, nth_zero] at e0
        rw [nth_cons, nth_cons] at hne
        have := ih (a := a) (b := b) (by simpa using hl) (by simpa using hk) (fun j hj => by have := he (j + 1) (by omega); rwa [nth_cons, nth_cons] at this) hne
        rw [nth_cons, nth_cons, ← this]
        simp [ltW, e0]
theorem ltW_same {a b : List Int} (h : a = b) : ltW a b = false := by rw [h]; exact ltW_irrefl b
theorem nth_ext {a b : List Int} (hl : a.length = b.length) (h : ∀ j, j < a.length → nth a j = nth b j) : a = b := by
  refine List.ext_getElem hl fun i h1 h2 => ?_
  have := h i h1
  simpa [nth, List.getD, h1, h2] using this
theorem rot_nth (xs : List Int) {i j : Nat} (hi : i < xs.length) (hj : j < xs.length) : nth (rot xs i) j = nth xs ((i + j) % xs.length) := by
  unfold nth rot
  by_cases h : i + j < xs.length
  · rw [Nat.mod_eq_of_lt h]
    have h' : j < (xs.drop i).length := by simp; omega
    simp [List.getD, List.getElem?_append_left h']
  · have e : (i + j) % xs.length = i + j - xs.length := by rw [Nat.mod_eq_sub_mod (by omega), Nat.mod_eq_of_lt (by omega)]
    rw [e]
    have h' : (xs.drop i).length ≤ j := by simp; omega
    have h2 : j - (xs.length - i) < i := by omega
    simp [List.getD, List.getElem?_append_right h', List.getElem?_take, h2]
    rw [show j - (xs.length - i) = i + j - xs.length by omega]
theorem rot_rot (xs : List Int) {b i : Nat} (hb : b < xs.length) (hi : i < xs.length) : rot (rot xs b) i = rot xs ((b + i) % xs.length) := by
  have hn : 0 < xs.length := by omega
  have hm := Nat.mod_lt (b + i) hn
  have l1 := rot_len xs b (by omega)
  refine nth_ext (by rw [rot_len _ _ (by omega), l1, rot_len _ _ (by omega)]) fun j hj => ?_
  rw [rot_len _ _ (by omega), l1] at hj
  rw [rot_nth (rot xs b) (by omega) (by omega), l1, rot_nth xs hb (Nat.mod_lt _ hn), rot_nth xs hm hj]
  congr 1
  rw [Nat.add_mod_mod, Nat.mod_add_mod, Nat.add_assoc]
theorem best_mem (xs : List Int) (h0 : 0 < xs.length) : ∀ k, k ≤ xs.length → ∃ i, i < xs.length ∧ bestF xs k = rot xs i := by
  intro k
  induction k with
  | zero => intro _; exact ⟨0, h0, (rot_zero xs).symm⟩
  | succ k ih =>
    intro hk
    rw [bestF]
    split
    · exact ⟨k, by omega, rfl⟩
    · exact ih (by omega)
theorem best_min (xs : List Int) : ∀ k i, i < k → ltW (rot xs i) (bestF xs k) = false := by
  intro k
  induction k with
  | zero => intro i hi; omega
  | succ k ih =>
    intro i hi
    rw [bestF]
    split
    · rename_i h
      by_cases e : i = k
      · subst e; exact ltW_irrefl _
      · cases h2 : ltW (rot xs i) (rot xs k) with
        | false => rfl
        | true =>
          have := ltW_trans h2 h
          rw [ih i (by omega)] at this
          cases this
    · rename_i h
      by_cases e : i = k
      · subst e; simpa using h
      · exact ih i (by omega)
theorem best_rot (xs : List Int) {b : Nat} (hb : b < xs.length) : bestF (rot xs b) xs.length = bestF xs xs.length := by
  have hn : 0 < xs.length := by omega
  have l1 := rot_len xs b (by omega)
  obtain ⟨i, hi, e1⟩ := best_mem xs hn xs.length (Nat.le_refl _)
  obtain ⟨j, hj, e2⟩ := best_mem (rot xs b) (by omega) xs.length (by omega)
  rw [l1] at hj
  have m1 := best_min xs xs.length
  have m2 := best_min (rot xs b) xs.length
  refine ltW_total (by rw [e1, e2, rot_len _ _ (by omega), l1, rot_len _ _ (by omega)]) ?_ ?_
  · rw [e2, rot_rot xs hb hj]
    exact m1 _ (Nat.mod_lt _ hn)
  · have h3 := m2 ((xs.length - b + i) % xs.length) (Nat.mod_lt _ hn)
    rw [rot_rot xs hb (Nat.mod_lt _ hn), Nat.add_mod_mod, show b + (xs.length - b + i) = i + xs.length by omega, Nat.add_mod_right, Nat.mod_eq_of_lt hi, ← e1] at h3
    exact h3
theorem best_one (xs : List Int) : bestF xs 1 = xs := by
  show (if ltW (rot xs 0) (bestF xs 0) = true then rot xs 0 else bestF xs 0) = xs
  rw [rot_zero, show bestF xs 0 = xs from rfl, ltW_irrefl]
  rfl
noncomputable def frsR (xs : List Int) : List Int := if wrdE 6 xs = 0 then bestF xs xs.length else []
theorem frsR_ok {xs : List Int} (h : WordOK 6 xs) : frsR xs = bestF xs xs.length := by unfold frsR; rw [if_pos (wrdE_ok h)]
theorem frsR_bad {xs : List Int} (h : wrdE 6 xs ≠ 0) : frsR xs = [] := by unfold frsR; rw [if_neg h]
theorem rot_ok {L : Int} {xs : List Int} (h : WordOK L xs) {b : Nat} (hb : b < xs.length) : WordOK L (rot xs b) := by
  have l1 := rot_len xs b (by omega)
  refine ⟨by rw [l1]; exact h.l20, fun j hj => ?_⟩
  rw [l1] at hj
  rw [rot_nth xs hb hj]
  exact h.el _ (Nat.mod_lt _ (by omega))
theorem frs_rot {xs : List Int} (h : WordOK 6 xs) {b : Nat} (hb : b < xs.length) : frsR (rot xs b) = frsR xs ∧ wrdE 6 (rot xs b) = 0 := by
  have h' := rot_ok h hb
  rw [frsR_ok h, frsR_ok h', rot_len xs b (by omega), best_rot xs hb]
  exact ⟨rfl, wrdE_ok h'⟩
theorem best_wf {xs : List Int} {P : Int → Prop} (h : ∀ j, j < xs.length → P (nth xs j)) : ∀ k, k ≤ xs.length → ∀ j, j < (bestF xs k).length → P (nth (bestF xs k) j) := by
  intro k hk j hj
  rw [bestF_len xs k hk] at hj
  obtain ⟨i, hi, e⟩ := best_mem xs (by omega) k hk
  rw [e, rot_nth xs hi hj]
  exact h _ (Nat.mod_lt _ (by omega))
end Go.Proofs.Ytmllbemjcfkmjaa
