/- A machine given by what it does: its states in the order of finding, their languages, its plain form; plainly. -/
import Derived.Test.YtmllbemjcfkmjaaClassLaw
namespace Go.Proofs.Ytmllbemjcfkmjaa
set_option linter.unusedSimpArgs false
set_option linter.unusedVariables false
set_option linter.unusedSectionVars false

theorem erase_facts {l : List Nat} (hn : l.Nodup) (x : Nat) : (l.filter (· ≠ x)).Nodup ∧ l.length ≤ (l.filter (· ≠ x)).length + 1 := by
  refine ⟨hn.filter _, ?_⟩
  induction l with
  | nil => simp
  | cons y t ih =>
    obtain ⟨h1, h2⟩ := List.nodup_cons.1 hn
    by_cases e : y = x
    · subst e
      have : t.filter (· ≠ y) = t := List.filter_eq_self.2 fun z hz => by
        simp only [ne_eq, decide_not, Bool.not_eq_eq_eq_not, Bool.not_true, decide_eq_false_iff_not]
        intro hh
        exact h1 (hh ▸ hz)
      have e2 : (y :: t).filter (· ≠ y) = t := by rw [List.filter_cons, if_neg (by simp), this]
      rw [e2]
      simp
    · rw [List.filter_cons, if_pos (by simpa using e)]
      have := ih h2
      simp only [List.length_cons]
      omega
theorem pigeon_nat (K : Nat) : ∀ l : List Nat, l.Nodup → (∀ x, x ∈ l → x < K) → l.length ≤ K := by
  induction K with
  | zero =>
    intro l hn h
    cases l with
    | nil => simp
    | cons y t => exact absurd (h y (by simp)) (Nat.not_lt_zero y)
  | succ K ih =>
    intro l hn h
    obtain ⟨h1, h2⟩ := erase_facts hn K
    have := ih _ h1 fun x hx => by
      have hx' := List.mem_filter.1 hx
      have hne : x ≠ K := by simpa using hx'.2
      have := h x hx'.1
      omega
    omega
theorem pigeon {S : List Int} {lo hi : Int} (hn : S.Nodup) (h : ∀ x, x ∈ S → lo ≤ x ∧ x < hi) : S.length ≤ (hi - lo).toNat := by
  have h1 : (S.map fun x => (x - lo).toNat).Nodup := by
    unfold List.Nodup
    rw [List.pairwise_map]
    refine List.Pairwise.imp_of_mem (fun {a b} ha hb hne => ?_) hn
    have := h a ha
    have := h b hb
    omega
  have h2 := pigeon_nat (hi - lo).toNat _ h1 fun x hx => by
    obtain ⟨z, hz, rfl⟩ := List.mem_map.1 hx
    have := h z hz
    omega
  simpa using h2

def stepsA (L : Nat) (step : Int → Nat → Int) (s : Int) : List Int := (List.range L).map (step s)
def langA (L : Nat) (step : Int → Nat → Int) (ac : Int → Bool) : List Nat → Int → Bool
  | [], s => ac s
  | a :: w, s => decide (a < L) && langA L step ac w (step s a)
def laA (L : Nat) (step : Int → Nat → Int) (ac : Int → Bool) (s : Int) : Lang := fun w => langA L step ac w s
structure AutoOK (L : Nat) (step : Int → Nat → Int) (lo hi : Int) : Prop where
  l1 : 1 ≤ L
  l6 : L ≤ 6
  lo0 : lo ≤ 0
  hi0 : 0 < hi
  lom : -100 ≤ lo
  him : hi ≤ 5000
  cl : ∀ s, lo ≤ s → s < hi → ∀ a, a < L → lo ≤ step s a ∧ step s a < hi
section
variable {L : Nat} {step : Int → Nat → Int} {ac : Int → Bool} {lo hi : Int}
def raw (L : Nat) (step : Int → Nat → Int) (i : Nat) : List Int := bfs (stepsA L step) 0 i
theorem raw_in (h : AutoOK L step lo hi) (i : Nat) : ∀ x, x ∈ raw L step i → lo ≤ x ∧ x < hi := by
  refine bfs_in (stepsA L step) 0 (fun x => lo ≤ x ∧ x < hi) ⟨h.lo0, h.hi0⟩ (fun s hs y hy => ?_) i
  obtain ⟨a, ha, rfl⟩ := List.mem_map.1 hy
  exact h.cl s hs.1 hs.2 a (List.mem_range.1 ha)
theorem raw_len (h : AutoOK L step lo hi) (i : Nat) : (raw L step i).length ≤ 5100 := by
  have := pigeon (bfs_nodup (stepsA L step) 0 i) (raw_in h i)
  have := h.lom
  have := h.him
  unfold raw at *
  omega
theorem raw_pos (i : Nat) : 1 ≤ (raw L step i).length := by
  have := (List.getElem?_eq_some_iff.1 (bfs_first (stepsA L step) 0 i)).1
  unfold raw
  omega
/-- The states found while the letters below a of state i are looked at. -/
def part (L : Nat) (step : Int → Nat → Int) (i a : Nat) : List Int := visL (raw L step i) ((List.range a).map (step ((raw L step i).getD i 0)))
theorem part_zero (i : Nat) : part L step i 0 = raw L step i := rfl
theorem part_succ (i a : Nat) : part L step i (a + 1) = vis (part L step i a) (step ((raw L step i).getD i 0) a) := by
  unfold part
  rw [List.range_succ, List.map_append]
  exact visL_snoc _ _ _
theorem part_all (i : Nat) (hi : i < (raw L step i).length) : part L step i L = raw L step (i + 1) := by
  unfold raw at *
  have e : (bfs (stepsA L step) 0 i)[i]? = some ((bfs (stepsA L step) 0 i).getD i 0) := by simp [List.getD, hi]
  exact (bfs_step (stepsA L step) 0 i _ e).symm
theorem part_pre (i : Nat) {a b : Nat} (h : a ≤ b) : part L step i a <+: part L step i b := by
  induction b with
  | zero => have : a = 0 := by omega
            subst this; exact List.prefix_refl _
  | succ b ih =>
    by_cases e : a = b + 1
    · subst e; exact List.prefix_refl _
    · rw [part_succ]; exact (ih (by omega)).trans (vis_pre _ _)
theorem part_len (h : AutoOK L step lo hi) (i a : Nat) (hi' : i < (raw L step i).length) (ha : a ≤ L) : (part L step i a).length ≤ 5100 := by
  have h1 := (part_pre (L := L) (step := step) i ha).length_le
  rw [part_all i hi'] at h1
  have := raw_len h (i + 1)
  omega
theorem raw_pre {i j : Nat} (h : i ≤ j) : raw L step i <+: raw L step j := bfs_pre _ _ h
def nxA (step : Int → Nat → Int) (S : List Int) (i a : Nat) : Nat := idx S (step (S.getD i 0) a)
def acA (ac : Int → Bool) (S : List Int) (i : Nat) : Bool := ac (S.getD i 0)
def lgA (L : Nat) (step : Int → Nat → Int) (ac : Int → Bool) (S : List Int) (i : Nat) : Lang := laA L step ac (S.getD i 0)
def rowA (L : Nat) (step : Int → Nat → Int) (S : List Int) (i : Nat) : List Int := (List.range L).map fun a => ((nxA step S i a : Nat) : Int)
structure EndOK (L : Nat) (step : Int → Nat → Int) (S : List Int) : Prop where
  fnd : Found (stepsA L step) 0 S
  cl : ∀ i, i < S.length → ∀ a, a < L → step (S.getD i 0) a ∈ S
  pos : 1 ≤ S.length
  le : S.length ≤ 5100
  nd : S.Nodup
  z : S.getD 0 0 = 0
theorem raw_end (h : AutoOK L step lo hi) (i : Nat) (he : (raw L step i).length ≤ i) : EndOK L step (raw L step i) := by
  refine ⟨⟨i, rfl, he⟩, fun k hk a ha => ?_, raw_pos i, raw_len h i, bfs_nodup _ _ i, ?_⟩
  · exact bfs_closed (stepsA L step) 0 i k (by omega) _ (by unfold raw at *; simp [List.getD, hk]) _ (List.mem_map.2 ⟨a, List.mem_range.2 ha, rfl⟩)
  · have := bfs_first (stepsA L step) 0 i
    unfold raw
    simp [List.getD, this]
/-- The number of a state that was found when state i was looked at stays. -/
theorem nx_more (i a : Nat) (hi : i < (raw L step i).length) (ha : a < L) (j : Nat) (hij : i < j) : nxA step (raw L step j) i a = idx (part L step i (a + 1)) (step ((raw L step i).getD i 0) a) := by
  have hp : part L step i (a + 1) <+: raw L step j := by
    refine (part_pre i (show a + 1 ≤ L by omega)).trans ?_
    rw [part_all i hi]
    exact raw_pre (by omega)
  have e : (raw L step j).getD i 0 = (raw L step i).getD i 0 := by
    have := pre_get' (raw_pre (L := L) (step := step) (show i ≤ j by omega)) hi
    simp [List.getD, this]
  unfold nxA
  rw [e]
  refine idx_pre hp ?_
  rw [part_succ, mem_vis]
  exact .inr rfl
section
variable {S : List Int} (hE : EndOK L step S)
include hE
theorem nxA_lt (i a : Nat) (hi : i < S.length) (ha : a < L) : nxA step S i a < S.length := idx_lt (hE.cl i hi a ha)
theorem nxA_get (i a : Nat) (hi : i < S.length) (ha : a < L) : S.getD (nxA step S i a) 0 = step (S.getD i 0) a := by
  have := get_idx (hE.cl i hi a ha)
  unfold nxA
  simp [List.getD] at this ⊢
  simp [this]
theorem nx_ok : NxOK S.length L (nxA step S) := ⟨by have := hE.le; omega, fun i hi a ha => nxA_lt hE i a hi ha⟩
theorem lang_ok : LangOK (N := S.length) (L := L) (nx := nxA step S) (acc := acA ac S) (lgA L step ac S) := by
  refine ⟨fun i hi => rfl, fun i hi a w => ?_⟩
  show langA L step ac (a :: w) (S.getD i 0) = _
  simp only [langA]
  by_cases ha : a < L
  · have := nxA_get hE i a hi ha
    show _ = (decide (a < L) && langA L step ac w (S.getD (nxA step S i a) 0))
    rw [this]
  · simp [ha]
theorem laA_deriv (s : Int) (a : Nat) (ha : a < L) : deriv (laA L step ac s) a = laA L step ac (step s a) := by
  funext w
  show langA L step ac (a :: w) s = langA L step ac w (step s a)
  simp [langA, ha]
theorem laA_succ (s : Int) : succL L (laA L step ac s) = (stepsA L step s).map (laA L step ac) := by
  unfold succL stepsA
  rw [List.map_map]
  refine List.map_congr_left fun a ha => ?_
  exact laA_deriv hE s a (List.mem_range.1 ha)
noncomputable def forms (L : Nat) (step : Int → Nat → Int) (ac : Int → Bool) (S : List Int) : List Lang := nubN (lgA L step ac S) S.length
theorem forms_nub : forms L step ac S = nub (S.map (laA L step ac)) := by
  unfold forms nubN
  congr 1
  refine List.ext_getElem (by simp) fun i h1 h2 => ?_
  have hi : i < S.length := by simpa using h2
  simp [lgA, List.getD, hi]
theorem forms_found : Found (succL L) (laA L step ac 0) (forms L step ac S) := by
  rw [forms_nub hE]
  exact found_label (laA L step ac) (stepsA L step) (succL L) 0 hE.fnd fun s _ => laA_succ hE s
theorem forms_le : (forms L step ac S).length ≤ S.length := nubN_le _ _
/-- The row of a new class. -/
theorem class_row (k : Nat) (hp : pI S.length L (nxA step S) (acA ac S) k = pI S.length L (nxA step S) (acA ac S) (k + 1)) (i : Nat) (hi : i < S.length) :
    ((List.range L).map fun a => ((cI S.length L (nxA step S) (acA ac S) (k + 2) (nxA step S i a) : Nat) : Int)) = canRow L (forms L step ac S) (lgA L step ac S i) := by
  unfold canRow
  refine List.map_congr_left fun a ha => ?_
  have ha := List.mem_range.1 ha
  rw [class_end (nx_ok hE) (lang_ok hE) k hp _ (nxA_lt hE i a hi ha)]
  have e : deriv (lgA L step ac S i) a = lgA L step ac S (nxA step S i a) := by
    unfold lgA
    rw [nxA_get hE i a hi ha]
    exact laA_deriv hE _ a ha
  rw [e]
  rfl
end
end
theorem canNext_snoc (L : Nat) (G F : List Lang) (l : Lang) : (F.map (canRow L G)) ++ [canRow L G l] = (F ++ [l]).map (canRow L G) := by simp
end Go.Proofs.Ytmllbemjcfkmjaa
