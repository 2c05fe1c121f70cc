/- The fewest points of the accepted words of a length, and the first word with them; plainly. -/
import Derived.Test.YtmllbemjcfkmjaaRank
namespace Go.Proofs.Ytmllbemjcfkmjaa
open Go.RowKit Go.Maps
set_option linter.unusedSimpArgs false
set_option linter.unusedVariables false

/-! ### the errors -/
structure PtsOK (L : Int) (xs : List Int) : Prop where
  len : (xs.length : Int) = L
  el : ∀ i, i < xs.length → 0 ≤ nth xs i ∧ nth xs i ≤ 20
open Classical in
noncomputable def ptsE (L : Int) (xs : List Int) : Int := if PtsOK L xs then 0 else 1
open Classical in
noncomputable def scoE (m : Mac) (n : Int) (xs : List Int) : Int := if sizE m n = 0 then ptsE m.L xs else sizE m n
theorem ptsE_ok {L : Int} {xs : List Int} (h : PtsOK L xs) : ptsE L xs = 0 := by unfold ptsE; rw [if_pos h]
theorem ptsE_bad {L : Int} {xs : List Int} (h : ¬ PtsOK L xs) : ptsE L xs = 1 := by unfold ptsE; rw [if_neg h]
theorem scoE_ok {m : Mac} {n : Int} (h : sizE m n = 0) (xs : List Int) : scoE m n xs = ptsE m.L xs := by unfold scoE; rw [if_pos h]
theorem scoE_bad {m : Mac} {n : Int} (h : sizE m n ≠ 0) (xs : List Int) : scoE m n xs = sizE m n := by unfold scoE; rw [if_neg h]
theorem scoE_zero {m : Mac} {n : Int} {xs : List Int} : scoE m n xs = 0 ↔ (MacOK m ∧ 0 ≤ n ∧ n ≤ 20) ∧ PtsOK m.L xs := by
  rw [← sizE_zero]
  by_cases h : sizE m n = 0
  · rw [scoE_ok h]
    by_cases h2 : PtsOK m.L xs
    · rw [ptsE_ok h2]; exact ⟨fun _ => ⟨h, h2⟩, fun _ => rfl⟩
    · rw [ptsE_bad h2]; exact ⟨fun x => by omega, fun x => absurd x.2 h2⟩
  · rw [scoE_bad h]; exact ⟨fun x => absurd x h, fun x => absurd x.1 h⟩
/-! ### the fewest points -/
section
variable (m : Mac) (xs : List Int)
/-- One letter more: c points from there on, p for the letter, r so far. -/
def fewS (r c p : Int) : Int := if 0 ≤ c ∧ (r < 0 ∨ c + p < r) then c + p else r
def fewF (f : Nat → Int) : Nat → Int
  | 0 => -1
  | a + 1 => fewS (fewF f a) (f a) (nth xs a)
def few : Nat → Int → Int
  | 0, s => if accM m s then 0 else -1
  | k + 1, s => fewF xs (fun a => few k (stepM m s a)) m.L.toNat
def nonC : Int := 1099511627776
/-- As the document writes it. -/
def ddI (c : Int) : Int := if c < 0 then nonC else c
def fewI (k s : Nat) : Int := few m xs k (s : Int)
def fewJ (k s : Nat) : Int := ddI (few m xs k (s : Int))
end
section
variable {m : Mac} {xs : List Int}
theorem fewF_bd (hx : ∀ i, i < xs.length → 0 ≤ nth xs i ∧ nth xs i ≤ 20) {f : Nat → Int} {B : Int} (hB : 0 ≤ B) (hf : ∀ a, -1 ≤ f a ∧ f a ≤ B) : ∀ a, a ≤ xs.length → -1 ≤ fewF xs f a ∧ fewF xs f a ≤ B + 20 := by
  intro a
  induction a with
  | zero => intro _; simp only [fewF]; omega
  | succ a ih =>
    intro h
    have h1 := ih (by omega)
    have h2 := hf a
    have h3 := hx a (by omega)
    simp only [fewF, fewS]
    split <;> omega
theorem few_bd (h : PtsOK m.L xs) (k : Nat) : ∀ s, -1 ≤ few m xs k s ∧ few m xs k s ≤ 20 * k := by
  induction k with
  | zero => intro s; simp only [few]; split <;> omega
  | succ k ih =>
    intro s
    have := fewF_bd h.el (f := fun a => few m xs k (stepM m s a)) (B := 20 * k) (by omega) (fun a => ih _) m.L.toNat (by have := h.len; omega)
    simp only [few]
    omega
theorem fewF_zero (f : Nat → Int) : fewF xs f 0 = -1 := rfl
/-- The document's step. -/
theorem dd_step {r c p : Int} (hr : -1 ≤ r) (hr2 : r ≤ 1000) (hc : -1 ≤ c) (hc2 : c ≤ 1000) (hp : 0 ≤ p) (hp2 : p ≤ 20) : (if ddI r ≤ p + ddI c then ddI r else p + ddI c) = ddI (fewS r c p) := by
  unfold ddI fewS nonC
  by_cases h1 : r < 0 <;> by_cases h2 : c < 0
  · rw [if_pos h1, if_pos h2, if_neg (show ¬ (0 ≤ c ∧ (r < 0 ∨ c + p < r)) by omega), if_pos h1, if_pos (by omega)]
  · rw [if_pos h1, if_neg h2, if_pos (show 0 ≤ c ∧ (r < 0 ∨ c + p < r) by omega), if_neg (by omega), if_neg (by omega)]
    omega
  · rw [if_neg h1, if_pos h2, if_neg (show ¬ (0 ≤ c ∧ (r < 0 ∨ c + p < r)) by omega), if_neg h1, if_pos (by omega)]
  · by_cases h3 : c + p < r
    · rw [if_neg h1, if_neg h2, if_pos (show 0 ≤ c ∧ (r < 0 ∨ c + p < r) by omega), if_neg (by omega), if_neg (by omega)]
      omega
    · rw [if_neg h1, if_neg h2, if_neg (show ¬ (0 ≤ c ∧ (r < 0 ∨ c + p < r)) by omega), if_neg h1, if_pos (by omega)]
theorem dd_bd {c : Int} (h : -1 ≤ c) (h2 : c ≤ 1000) : 0 ≤ ddI c ∧ ddI c ≤ nonC := by unfold ddI nonC; split <;> omega
theorem dd_small {c : Int} (h : 0 ≤ c) : ddI c = c := by unfold ddI; rw [if_neg (by omega)]
theorem dd_none {c : Int} (h : -1 ≤ c) (h2 : c ≤ 1000) : (nonC ≤ ddI c) ↔ c < 0 := by unfold ddI nonC; split <;> omega
end
/-! ### the first word -/
section
variable (m : Mac) (xs : List Int)
def fstP (k : Nat) (s : Int) (a : Nat) : Bool := decide (0 ≤ few m xs k (stepM m s a)) && decide (few m xs k (stepM m s a) + nth xs a = few m xs (k + 1) s)
def fstA (k : Nat) (s : Int) : Nat := ((List.range m.L.toNat).find? (fstP m xs k s)).getD 0
def cheW : Nat → Int → List Int
  | 0, _ => []
  | k + 1, s => ((fstA m xs k s : Nat) : Int) :: cheW k (stepM m s (fstA m xs k s))
end
section
variable {m : Mac} {xs : List Int}
theorem cheW_len (k : Nat) : ∀ s, (cheW m xs k s).length = k := by
  induction k with
  | zero => intro s; rfl
  | succ k ih => intro s; simp [cheW, ih]
theorem fewF_hit {f : Nat → Int} (hx : ∀ i, i < xs.length → 0 ≤ nth xs i) (hf : ∀ a, -1 ≤ f a) : ∀ n, n ≤ xs.length → 0 ≤ fewF xs f n → ∃ a, a < n ∧ 0 ≤ f a ∧ f a + nth xs a = fewF xs f n := by
  intro n
  induction n with
  | zero => intro _ h; simp only [fewF] at h; omega
  | succ n ih =>
    intro hn h
    simp only [fewF, fewS] at h ⊢
    by_cases hc : 0 ≤ f n ∧ (fewF xs f n < 0 ∨ f n + nth xs n < fewF xs f n)
    · rw [if_pos hc]
      exact ⟨n, by omega, hc.1, rfl⟩
    · rw [if_neg hc] at h ⊢
      obtain ⟨a, h1, h2, h3⟩ := ih (by omega) h
      exact ⟨a, by omega, h2, h3⟩
theorem fst_ok (h : PtsOK m.L xs) {k : Nat} {s : Int} (h0 : 0 ≤ few m xs (k + 1) s) : fstA m xs k s < m.L.toNat ∧ fstP m xs k s (fstA m xs k s) = true ∧ ∀ b, b < fstA m xs k s → fstP m xs k s b = false := by
  obtain ⟨a, ha, h1, h2⟩ := fewF_hit (f := fun a => few m xs k (stepM m s a)) (fun i hi => (h.el i hi).1) (fun a => (few_bd h k _).1) m.L.toNat (by have := h.len; omega) h0
  have hp : fstP m xs k s a = true := by
    unfold fstP
    rw [decide_eq_true h1, Bool.true_and]
    exact decide_eq_true h2
  unfold fstA
  cases hf : (List.range m.L.toNat).find? (fstP m xs k s) with
  | none =>
    rw [List.find?_range_eq_none] at hf
    have := hf a ha
    rw [hp] at this
    simp at this
  | some b =>
    rw [List.find?_range_eq_some] at hf
    obtain ⟨q1, q2, q3⟩ := hf
    refine ⟨by simpa using q2, q1, fun c hc => ?_⟩
    have := q3 c hc
    simpa using this
theorem fstP_iff {k : Nat} {s : Int} {a : Nat} : fstP m xs k s a = true ↔ 0 ≤ few m xs k (stepM m s a) ∧ few m xs k (stepM m s a) + nth xs a = few m xs (k + 1) s := by
  unfold fstP
  rw [Bool.and_eq_true, decide_eq_true_eq, decide_eq_true_eq]
/-- The document's test. -/
theorem fstP_doc (h : PtsOK m.L xs) {k : Nat} (hk : k ≤ 20) {s : Int} (h0 : 0 ≤ few m xs (k + 1) s) {a : Nat} (ha : a < m.L.toNat) : (nth xs a + ddI (few m xs k (stepM m s a)) = ddI (few m xs (k + 1) s)) ↔ fstP m xs k s a = true := by
  rw [fstP_iff, dd_small h0]
  have h1 := few_bd h k (stepM m s a)
  have h2 := few_bd h (k + 1) s
  have h3 := h.el a (by have := h.len; omega)
  unfold ddI nonC
  split <;> omega
end
/-! ### the answer -/
section
variable (m : Mac) (n : Int) (xs : List Int)
open Classical in
noncomputable def cheB : Bool := decide (scoE m n xs = 0 ∧ 0 ≤ few m xs n.toNat 0)
open Classical in
noncomputable def cheN : Int := if scoE m n xs = 0 ∧ 0 ≤ few m xs n.toNat 0 then few m xs n.toNat 0 else 0
open Classical in
noncomputable def cheR : List Int := if scoE m n xs = 0 ∧ 0 ≤ few m xs n.toNat 0 then cheW m xs n.toNat 0 else []
variable {m n xs}
theorem che_no (h : ¬ (scoE m n xs = 0 ∧ 0 ≤ few m xs n.toNat 0)) : cheB m n xs = false ∧ cheN m n xs = 0 ∧ cheR m n xs = [] := by
  unfold cheB cheN cheR
  rw [if_neg h, if_neg h]
  exact ⟨decide_eq_false h, rfl, rfl⟩
theorem che_yes (h : scoE m n xs = 0 ∧ 0 ≤ few m xs n.toNat 0) : cheB m n xs = true ∧ cheN m n xs = few m xs n.toNat 0 ∧ cheR m n xs = cheW m xs n.toNat 0 := by
  unfold cheB cheN cheR
  rw [if_pos h, if_pos h]
  exact ⟨decide_eq_true h, rfl, rfl⟩
theorem cheR_len : (cheR m n xs).length ≤ 20 := by
  by_cases h : scoE m n xs = 0 ∧ 0 ≤ few m xs n.toNat 0
  · rw [(che_yes h).2.2, cheW_len]
    have := (scoE_zero.1 h.1).1
    omega
  · rw [(che_no h).2.2]; exact Nat.zero_le _
end
/-! ### rows on their way -/
section
variable (m : Mac) (xs : List Int)
/-- The program's row: the states below s are done, of state s the letters below a. -/
def pfC (k s a i : Nat) : Int := if i < s then fewI m xs (k + 1) i else if i = s then fewF xs (fun b => few m xs k (stepM m (s : Int) b)) a else 0
/-- The document's. -/
def pdC (k s a i : Nat) : Int := if i < s then fewJ m xs (k + 1) i else if i = s then ddI (fewF xs (fun b => few m xs k (stepM m (s : Int) b)) a) else 0
def noneN (acc : Nat → Bool) (z : Int) (k j : Nat) : Int := if j < k ∧ acc j = false then z else 0
end
section
variable {w : World} {b N : Nat} {m : Mac} {xs : List Int} {k s a : Nat}
theorem row_first {f : Nat → Int} {z : Int} (h : w.rowIs b 3 N (rowI f)) (g : Nat → Int) (hg : ∀ i, i ≠ s → g i = f i) (hz : g s = z) : (w.setCell ⟨b, s, none⟩ (.int .i64 z)).rowIs b 3 N (rowI g) := by
  refine (h.set s _).congr fun i _ => ?_
  unfold rowI
  by_cases e : i = s
  · subst e; rw [hz]; simp
  · rw [hg i e]; simp [e]
theorem row_same {f g : Nat → Int} (h : w.rowIs b 3 N (rowI f)) (hg : ∀ i, i < N → f i = g i) : w.rowIs b 3 N (rowI g) := h.congr fun i hi => by unfold rowI; rw [hg i hi]
/-- Between two states: state s still holds 0. -/
def pfZ (m : Mac) (xs : List Int) (k s i : Nat) : Int := if i < s then fewI m xs (k + 1) i else 0
def pdZ (m : Mac) (xs : List Int) (k s i : Nat) : Int := if i < s then fewJ m xs (k + 1) i else 0
theorem pfZ_zero (h : w.rowIs b 3 N (fun _ => .int .i64 0)) : w.rowIs b 3 N (rowI (pfZ m xs k 0)) := h.congr fun i _ => by unfold rowI pfZ; rw [if_neg (by omega)]
theorem pdZ_zero (h : w.rowIs b 3 N (fun _ => .int .i64 0)) : w.rowIs b 3 N (rowI (pdZ m xs k 0)) := h.congr fun i _ => by unfold rowI pdZ; rw [if_neg (by omega)]
theorem pf_first (h : w.rowIs b 3 N (rowI (pfZ m xs k s))) : (w.setCell ⟨b, s, none⟩ (.int .i64 (-1))).rowIs b 3 N (rowI (pfC m xs k s 0)) :=
  row_first h _ (fun i hi => by unfold pfC pfZ; rw [if_neg hi]) (by unfold pfC; rw [if_neg (by omega), if_pos rfl]; rfl)
theorem pd_first (h : w.rowIs b 3 N (rowI (pdZ m xs k s))) : (w.setCell ⟨b, s, none⟩ (.int .i64 nonC)).rowIs b 3 N (rowI (pdC m xs k s 0)) :=
  row_first h _ (fun i hi => by unfold pdC pdZ; rw [if_neg hi]) (by unfold pdC; rw [if_neg (by omega), if_pos rfl]; rfl)
theorem pf_step (h : w.rowIs b 3 N (rowI (pfC m xs k s a))) {z : Int} (hz : z = fewS (fewF xs (fun b => few m xs k (stepM m (s : Int) b)) a) (few m xs k (stepM m (s : Int) a)) (nth xs a)) : (w.setCell ⟨b, s, none⟩ (.int .i64 z)).rowIs b 3 N (rowI (pfC m xs k s (a + 1))) :=
  row_first h _ (fun i hi => by unfold pfC; rw [if_neg hi, if_neg hi]) (by unfold pfC; rw [if_neg (by omega), if_pos rfl, hz]; rfl)
theorem pf_keep (h : w.rowIs b 3 N (rowI (pfC m xs k s a))) (hz : fewS (fewF xs (fun b => few m xs k (stepM m (s : Int) b)) a) (few m xs k (stepM m (s : Int) a)) (nth xs a) = fewF xs (fun b => few m xs k (stepM m (s : Int) b)) a) : w.rowIs b 3 N (rowI (pfC m xs k s (a + 1))) :=
  row_same h fun i _ => by
    unfold pfC
    by_cases e : i = s
    · subst e; rw [if_neg (by omega), if_pos rfl, if_neg (by omega), if_pos rfl]; exact hz.symm
    · rw [if_neg e, if_neg e]
theorem pd_step (h : w.rowIs b 3 N (rowI (pdC m xs k s a))) {z : Int} (hz : z = ddI (fewS (fewF xs (fun b => few m xs k (stepM m (s : Int) b)) a) (few m xs k (stepM m (s : Int) a)) (nth xs a))) : (w.setCell ⟨b, s, none⟩ (.int .i64 z)).rowIs b 3 N (rowI (pdC m xs k s (a + 1))) :=
  row_first h _ (fun i hi => by unfold pdC; rw [if_neg hi, if_neg hi]) (by unfold pdC; rw [if_neg (by omega), if_pos rfl, hz]; rfl)
theorem pf_next (h : w.rowIs b 3 N (rowI (pfC m xs k s a))) (ha : a = m.L.toNat) : w.rowIs b 3 N (rowI (pfZ m xs k (s + 1))) := row_same h fun i _ => by
  subst ha
  unfold pfC pfZ
  by_cases e : i = s
  · subst e; rw [if_neg (by omega), if_pos rfl, if_pos (by omega)]; rfl
  · by_cases e2 : i < s
    · rw [if_pos e2, if_pos (by omega)]
    · rw [if_neg e2, if_neg e, if_neg (by omega)]
theorem pd_next (h : w.rowIs b 3 N (rowI (pdC m xs k s a))) (ha : a = m.L.toNat) : w.rowIs b 3 N (rowI (pdZ m xs k (s + 1))) := row_same h fun i _ => by
  subst ha
  unfold pdC pdZ
  by_cases e : i = s
  · subst e; rw [if_neg (by omega), if_pos rfl, if_pos (by omega)]; rfl
  · by_cases e2 : i < s
    · rw [if_pos e2, if_pos (by omega)]
    · rw [if_neg e2, if_neg e, if_neg (by omega)]
theorem pf_end (h : w.rowIs b 3 N (rowI (pfZ m xs k N))) : w.rowIs b 3 N (fun s => .int .i64 (fewI m xs (k + 1) s)) := h.congr fun i hi => by unfold rowI pfZ; rw [if_pos hi]
theorem pd_end (h : w.rowIs b 3 N (rowI (pdZ m xs k N))) : w.rowIs b 3 N (fun s => .int .i64 (fewJ m xs (k + 1) s)) := h.congr fun i hi => by unfold rowI pdZ; rw [if_pos hi]
theorem none_zero (acc : Nat → Bool) (z : Int) (h : w.rowIs b 3 N (fun _ => .int .i64 0)) : w.rowIs b 3 N (rowI (noneN acc z 0)) := h.congr fun i _ => by unfold rowI noneN; rw [if_neg (by omega)]
theorem none_set {acc : Nat → Bool} {z : Int} (h : w.rowIs b 3 N (rowI (noneN acc z k))) (hk : acc k = false) : (w.setCell ⟨b, k, none⟩ (.int .i64 z)).rowIs b 3 N (rowI (noneN acc z (k + 1))) :=
  row_first h _ (fun i hi => by
    unfold noneN
    by_cases e : i < k
    · simp [e, show i < k + 1 by omega]
    · rw [if_neg (by omega), if_neg (by omega)]) (by unfold noneN; rw [if_pos ⟨by omega, hk⟩])
theorem none_skip {acc : Nat → Bool} {z : Int} (h : w.rowIs b 3 N (rowI (noneN acc z k))) (hk : acc k = true) : w.rowIs b 3 N (rowI (noneN acc z (k + 1))) := row_same h fun i _ => by
  unfold noneN
  by_cases e : i < k
  · simp [e, show i < k + 1 by omega]
  · by_cases e2 : i = k
    · subst e2; simp [hk]
    · rw [if_neg (by omega), if_neg (by omega)]
theorem pf_base (h : w.rowIs b 3 N (rowI (noneN (fun s => accM m (s : Int)) (-1) N))) : w.rowIs b 3 N (fun s => .int .i64 (fewI m xs 0 s)) := h.congr fun i hi => by
  unfold rowI noneN fewI
  simp only [few]
  by_cases ha : accM m (i : Int) = true
  · simp [ha]
  · simp [ha, hi]
theorem pd_base (h : w.rowIs b 3 N (rowI (noneN (fun s => accM m (s : Int)) nonC N))) : w.rowIs b 3 N (fun s => .int .i64 (fewJ m xs 0 s)) := h.congr fun i hi => by
  unfold rowI noneN fewJ ddI
  simp only [few]
  by_cases ha : accM m (i : Int) = true
  · simp [ha]
  · simp [ha, hi]
end
end Go.Proofs.Ytmllbemjcfkmjaa
