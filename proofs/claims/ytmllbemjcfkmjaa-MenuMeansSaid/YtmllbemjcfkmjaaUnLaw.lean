/- The word with a rank: it has this rank, and the word with a word's rank is the word; plainly. -/
import Derived.Test.YtmllbemjcfkmjaaRankLaw
namespace Go.Proofs.Ytmllbemjcfkmjaa
open Go.RowKit
set_option linter.unusedSimpArgs false
set_option linter.unusedVariables false

/-- The words of k more letters behind the letters below a. -/
def sumS (m : Mac) (k : Nat) (s : Int) (a : Nat) : Int := sumTo (fun b => cnt m k (stepM m s b)) a
theorem sumS_succ (m : Mac) (k : Nat) (s : Int) (a : Nat) : sumS m k s (a + 1) = sumS m k s a + cnt m k (stepM m s a) := rfl
theorem sumS_all (m : Mac) (k : Nat) (s : Int) : sumS m k s m.L.toNat = cnt m (k + 1) s := rfl
theorem sumS_mono (m : Mac) (h6 : m.L ≤ 6) (k : Nat) (s : Int) {a b : Nat} (h : a ≤ b) : sumS m k s a ≤ sumS m k s b := by
  induction b with
  | zero => obtain rfl : a = 0 := by omega
            exact Int.le_refl _
  | succ b ih =>
    by_cases e : a = b + 1
    · subst e; exact Int.le_refl _
    · have := ih (by omega)
      have := (cnt_bd m h6 k (stepM m s b)).1
      rw [sumS_succ]
      omega
theorem sumS_pos (m : Mac) (h6 : m.L ≤ 6) (k : Nat) (s : Int) (a : Nat) : 0 ≤ sumS m k s a := sumS_mono m h6 k s (Nat.zero_le a)
open Classical in
/-- The letter that rank r falls to. -/
noncomputable def ltr (m : Mac) (k : Nat) (s r : Int) : Nat := if h : ∃ a, sumS m k s a ≤ r ∧ r < sumS m k s (a + 1) then h.choose else 0
theorem ltr_eq {m : Mac} (h6 : m.L ≤ 6) {k : Nat} {s r : Int} {a : Nat} (h1 : sumS m k s a ≤ r) (h2 : r < sumS m k s (a + 1)) : ltr m k s r = a := by
  have hex : ∃ a, sumS m k s a ≤ r ∧ r < sumS m k s (a + 1) := ⟨a, h1, h2⟩
  unfold ltr
  rw [dif_pos hex]
  obtain ⟨g1, g2⟩ := hex.choose_spec
  rcases Nat.lt_trichotomy hex.choose a with h | h | h
  · have := sumS_mono m h6 k s (show hex.choose + 1 ≤ a from h)
    omega
  · exact h
  · have := sumS_mono m h6 k s (show a + 1 ≤ hex.choose from h)
    omega
theorem ltr_ex (m : Mac) (k : Nat) (s r : Int) (h0 : 0 ≤ r) (n : Nat) (h1 : r < sumS m k s n) : ∃ a, a < n ∧ sumS m k s a ≤ r ∧ r < sumS m k s (a + 1) := by
  induction n with
  | zero => exact absurd h1 (by show ¬ r < 0; omega)
  | succ n ih =>
    by_cases h : r < sumS m k s n
    · obtain ⟨a, ha, h2⟩ := ih h
      exact ⟨a, by omega, h2⟩
    · exact ⟨n, by omega, by omega, h1⟩
noncomputable def unr (m : Mac) : Nat → Int → Int → List Int
  | 0, _, _ => []
  | k + 1, s, r => (ltr m k s r : Int) :: unr m k (stepM m s (ltr m k s r)) (r - sumS m k s (ltr m k s r))
theorem unr_step {m : Mac} (h6 : m.L ≤ 6) {k : Nat} {s r : Int} {a : Nat} (h1 : sumS m k s a ≤ r) (h2 : r < sumS m k s (a + 1)) : unr m (k + 1) s r = (a : Int) :: unr m k (stepM m s a) (r - sumS m k s a) := by
  rw [unr, ltr_eq h6 h1 h2]
theorem unr_len (m : Mac) (k : Nat) : ∀ s r, (unr m k s r).length = k := by
  induction k with
  | zero => intro s r; rfl
  | succ k ih => intro s r; rw [unr, List.length_cons, ih]
/-- The rank of a word from a state. -/
def rkR (m : Mac) : List Int → Int → Int
  | [], _ => 0
  | x :: w, s => sumS m w.length s x.toNat + rkR m w (stepM m s x.toNat)
def accR (m : Mac) : List Int → Int → Bool
  | [], s => accM m s
  | x :: w, s => accR m w (stepM m s x.toNat)
theorem sumTo_front (f : Nat → Int) (i : Nat) : sumTo f (i + 1) = f 0 + sumTo (fun j => f (j + 1)) i := by
  induction i with
  | zero => simp [sumTo]
  | succ i ih => rw [sumTo, ih]; simp only [sumTo]; omega
theorem runF_cons (m : Mac) (x : Int) (w : List Int) (s : Int) (j : Nat) : runF m (x :: w) s (j + 1) = runF m w (stepM m s x.toNat) j := by
  induction j with
  | zero => rfl
  | succ j ih =>
    show stepM m (runF m (x :: w) s (j + 1)) (nth (x :: w) (j + 1)).toNat = stepM m (runF m w (stepM m s x.toNat) j) (nth w j).toNat
    rw [ih]
    rfl
theorem accR_run (m : Mac) (w : List Int) : ∀ s, accR m w s = accM m (runF m w s w.length) := by
  induction w with
  | nil => intro s; rfl
  | cons x w ih => intro s; rw [accR, ih, List.length_cons, runF_cons]
theorem rkR_sum (m : Mac) (w : List Int) : ∀ s, rkR m w s = sumTo (fun j => sumTo (fun b => cnt m (w.length - 1 - j) (stepM m (runF m w s j) b)) (nth w j).toNat) w.length := by
  induction w with
  | nil => intro s; rfl
  | cons x w ih =>
    intro s
    rw [List.length_cons, sumTo_front, rkR, ih]
    congr 1
    refine sumTo_congr _ _ _ fun j hj => ?_
    rw [runF_cons]
    have e : w.length + 1 - 1 - (j + 1) = w.length - 1 - j := by omega
    rw [e]
    rfl
theorem rkN_R (m : Mac) (w : List Int) : rkN m w w.length = rkR m w 0 := (rkR_sum m w 0).symm
theorem word_cons {L x : Int} {w : List Int} (h : WordOK L (x :: w)) : (0 ≤ x ∧ x < L) ∧ WordOK L w :=
  ⟨h.el 0 (by simp), by have := h.l20; simp at this; omega, fun i hi => h.el (i + 1) (by simp; omega)⟩
theorem rkR_lt {m : Mac} (h6 : m.L ≤ 6) (w : List Int) : ∀ s, WordOK m.L w → accR m w s = true → 0 ≤ rkR m w s ∧ rkR m w s < cnt m w.length s := by
  induction w with
  | nil =>
    intro s _ ha
    have ha : accM m s = true := ha
    simp [rkR, cnt, ha]
  | cons x w ih =>
    intro s hw ha
    obtain ⟨hx, hw'⟩ := word_cons hw
    have h1 := ih _ hw' ha
    have h2 := sumS_mono m h6 w.length s (show x.toNat + 1 ≤ m.L.toNat by omega)
    rw [sumS_succ, sumS_all] at h2
    have h3 := sumS_pos m h6 w.length s x.toNat
    rw [rkR, List.length_cons]
    omega
theorem unr_rk {m : Mac} (h6 : m.L ≤ 6) (w : List Int) : ∀ s, WordOK m.L w → accR m w s = true → unr m w.length s (rkR m w s) = w := by
  induction w with
  | nil => intro s _ _; rfl
  | cons x w ih =>
    intro s hw ha
    obtain ⟨hx, hw'⟩ := word_cons hw
    have h1 := rkR_lt h6 w _ hw' ha
    have e := unr_step (m := m) h6 (k := w.length) (s := s) (r := rkR m (x :: w) s) (a := x.toNat) (by rw [rkR]; omega) (by rw [sumS_succ, rkR]; omega)
    rw [List.length_cons, e]
    have e2 : rkR m (x :: w) s - sumS m w.length s x.toNat = rkR m w (stepM m s x.toNat) := by rw [rkR]; omega
    rw [e2, ih _ hw' ha]
    congr 1
    omega
theorem rk_unr {m : Mac} (hOK : MacOK m) (k : Nat) (hk : k ≤ 20) : ∀ s r : Int, 0 ≤ s → s < m.nx.length → 0 ≤ r → r < cnt m k s → WordOK m.L (unr m k s r) ∧ accR m (unr m k s r) s = true ∧ rkR m (unr m k s r) s = r := by
  induction k with
  | zero =>
    intro s r _ _ h0 h1
    have ha : accM m s = true := by
      cases h : accM m s
      · simp [cnt, h] at h1; omega
      · rfl
    refine ⟨⟨by simp [unr], fun i hi => by simp [unr] at hi⟩, ha, ?_⟩
    simp [cnt, ha] at h1
    show (0 : Int) = r
    omega
  | succ k ih =>
    intro s r s0 s1 h0 h1
    obtain ⟨a, ha, h2, h3⟩ := ltr_ex m k s r h0 m.L.toNat h1
    rw [unr_step hOK.l6 h2 h3]
    have h4 := h3
    rw [sumS_succ] at h4
    have hs := step_in hOK s0 s1 (a := (a : Int)) (by omega) (by omega)
    rw [Int.toNat_natCast] at hs
    obtain ⟨g1, g2, g3⟩ := ih (by omega) (stepM m s a) (r - sumS m k s a) hs.1 hs.2 (by omega) (by omega)
    refine ⟨⟨by rw [List.length_cons, unr_len]; exact hk, fun i hi => ?_⟩, ?_, ?_⟩
    · cases i with
      | zero =>
        show 0 ≤ (a : Int) ∧ (a : Int) < m.L
        omega
      | succ i => exact g1.el i (by simp at hi; omega)
    · rw [accR, Int.toNat_natCast]; exact g2
    · rw [rkR, Int.toNat_natCast, unr_len, g3]; omega
open Classical in
noncomputable def unkE (m : Mac) (n r : Int) : Int := if sizE m n = 0 then (if 0 ≤ r ∧ r < cnt m n.toNat 0 then 0 else 5) else sizE m n
open Classical in
noncomputable def unkR (m : Mac) (n r : Int) : List Int := if unkE m n r = 0 then unr m n.toNat 0 r else []
theorem unk_ok {m : Mac} {n r : Int} (h : sizE m n = 0) (h0 : 0 ≤ r) (h1 : r < cnt m n.toNat 0) : unkE m n r = 0 ∧ unkR m n r = unr m n.toNat 0 r := by
  have e : unkE m n r = 0 := by unfold unkE; rw [if_pos h, if_pos ⟨h0, h1⟩]
  exact ⟨e, by unfold unkR; rw [if_pos e]⟩
theorem unk_no {m : Mac} {n r : Int} (h : sizE m n = 0) (h1 : r < 0 ∨ cnt m n.toNat 0 ≤ r) : unkE m n r = 5 ∧ unkR m n r = [] := by
  have e : unkE m n r = 5 := by unfold unkE; rw [if_pos h, if_neg (by omega)]
  exact ⟨e, by unfold unkR; rw [e, if_neg (by decide)]⟩
theorem unk_bad {m : Mac} {n r : Int} (h : sizE m n ≠ 0) : unkE m n r = sizE m n ∧ unkR m n r = [] := by
  have e : unkE m n r = sizE m n := by unfold unkE; rw [if_neg h]
  exact ⟨e, by unfold unkR; rw [e, if_neg h]⟩
theorem unkE_zero {m : Mac} {n r : Int} : unkE m n r = 0 ↔ sizE m n = 0 ∧ 0 ≤ r ∧ r < cnt m n.toNat 0 := by
  by_cases h : sizE m n = 0
  · by_cases h2 : 0 ≤ r ∧ r < cnt m n.toNat 0
    · rw [(unk_ok h h2.1 h2.2).1]
      exact ⟨fun _ => ⟨h, h2⟩, fun _ => rfl⟩
    · rw [(unk_no h (by omega)).1]
      exact ⟨(fun h => by cases h), fun h3 => absurd h3.2 h2⟩
  · rw [(unk_bad h).1]
    exact ⟨fun h2 => absurd h2 h, fun h2 => absurd h2.1 h⟩
/-- The word with a word's rank is the word. -/
theorem unk_rnk {m : Mac} {xs : List Int} (h : rnkE m xs = 0) : unkE m xs.length (rnkN m xs) = 0 ∧ unkR m xs.length (rnkN m xs) = xs := by
  obtain ⟨⟨hOK, hW⟩, ha⟩ := rnkE_zero.1 h
  have hr := rnk_ok (wodE_zero.2 ⟨hOK, hW⟩) ha
  have ha' : accR m xs 0 = true := by rw [accR_run]; exact ha
  have hl := rkR_lt hOK.l6 xs 0 hW ha'
  rw [hr.2, rkN_R]
  have := unk_ok (m := m) (n := xs.length) (r := rkR m xs 0) (sizE_zero.2 ⟨hOK, by omega, by have := hW.l20; omega⟩) hl.1 (by rw [Int.toNat_natCast]; exact hl.2)
  rw [Int.toNat_natCast, unr_rk hOK.l6 xs 0 hW ha'] at this
  exact this
/-- The word with a rank has this rank. -/
theorem rnk_unk {m : Mac} {n r : Int} (h : unkE m n r = 0) : rnkE m (unkR m n r) = 0 ∧ rnkN m (unkR m n r) = r := by
  obtain ⟨hs, h0, h1⟩ := unkE_zero.1 h
  obtain ⟨hOK, n0, n20⟩ := sizE_zero.1 hs
  have hn1 := hOK.n1
  rw [(unk_ok hs h0 h1).2]
  obtain ⟨g1, g2, g3⟩ := rk_unr hOK n.toNat (by omega) 0 r (by omega) (by omega) h0 h1
  have g2' : accM m (runN m (unr m n.toNat 0 r) (unr m n.toNat 0 r).length) = true := by rw [accR_run] at g2; exact g2
  have hr := rnk_ok (wodE_zero.2 ⟨hOK, g1⟩) g2'
  exact ⟨hr.1, by rw [hr.2, rkN_R, g3]⟩
end Go.Proofs.Ytmllbemjcfkmjaa
