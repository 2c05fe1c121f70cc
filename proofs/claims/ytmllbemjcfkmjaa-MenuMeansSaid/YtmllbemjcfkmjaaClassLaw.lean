/- States put into classes until nothing parts them: they have the same class exactly if they have the same language; plainly. -/
import Derived.Test.YtmllbemjcfkmjaaBfsLaw
namespace Go.Proofs.Ytmllbemjcfkmjaa
set_option linter.unusedSimpArgs false
set_option linter.unusedVariables false
set_option linter.unusedSectionVars false

def Lang : Type := List Nat → Bool
noncomputable instance langDec : DecidableEq Lang := fun a b => Classical.propDecidable (a = b)
def deriv (l : Lang) (a : Nat) : Lang := fun w => l (a :: w)
noncomputable def succL (L : Nat) (l : Lang) : List Lang := (List.range L).map (deriv l)
/-- The machine of a language: its parts in the order of their finding. -/
noncomputable def canRow (L : Nat) (F : List Lang) (l : Lang) : List Int := (List.range L).map fun a => ((idx F (deriv l a) : Nat) : Int)
noncomputable def canNext (L : Nat) (F : List Lang) : List (List Int) := F.map (canRow L F)
noncomputable def canAcc (F : List Lang) : List Bool := F.map fun l => l []

section
variable (N L : Nat) (nx : Nat → Nat → Nat) (acc : Nat → Bool)
/-- What is told of state i by its class and those behind it. -/
def keyV (c : Nat → Nat) (i a : Nat) : Nat := if a = 0 then c i else c (nx i (a - 1))
def two (v : Nat) : List UInt8 := [UInt8.ofNat v, UInt8.ofNat (v / 256)]
def keyU (c : Nat → Nat) (i : Nat) : Nat → List UInt8
  | 0 => []
  | k + 1 => keyU c i k ++ two (keyV nx c i k)
theorem two_inj {v w : Nat} (hv : v < 65536) (hw : w < 65536) (h : two v = two w) : v = w := by
  unfold two at h
  simp only [List.cons.injEq, and_true] at h
  have h1 := congrArg UInt8.toNat h.1
  have h2 := congrArg UInt8.toNat h.2
  simp only [UInt8.toNat_ofNat'] at h1 h2
  omega
theorem keyU_len (c : Nat → Nat) (i k : Nat) : (keyU nx c i k).length = 2 * k := by
  induction k with
  | zero => rfl
  | succ k ih => rw [keyU, List.length_append, ih]; simp [two]; omega
theorem keyU_iff (c : Nat → Nat) (i j k : Nat) (hi : ∀ a, a < k → keyV nx c i a < 65536) (hj : ∀ a, a < k → keyV nx c j a < 65536) :
    keyU nx c i k = keyU nx c j k ↔ ∀ a, a < k → keyV nx c i a = keyV nx c j a := by
  induction k with
  | zero => exact ⟨fun _ a ha => absurd ha (Nat.not_lt_zero a), fun _ => rfl⟩
  | succ k ih =>
    have ih := ih (fun a ha => hi a (by omega)) (fun a ha => hj a (by omega))
    rw [keyU, keyU]
    constructor
    · intro h a ha
      have h2 := List.append_inj h (by rw [keyU_len, keyU_len])
      by_cases e : a = k
      · subst e; exact two_inj (hi _ (by omega)) (hj _ (by omega)) h2.2
      · exact ih.1 h2.1 a (by omega)
    · intro h
      rw [ih.2 fun a ha => h a (by omega), h k (by omega)]
def key (c : Nat → Nat) (i : Nat) : List UInt8 := keyU nx c i (L + 1)
def cI : Nat → Nat → Nat
  | 0 => fun i => if acc i then 1 else 0
  | k + 1 => fun i => cname (key L nx (cI k)) N i
def pI (k : Nat) : Nat := (nubN (key L nx (cI N L nx acc k)) N).length
structure NxOK : Prop where
  n : N ≤ 60000
  lt : ∀ i, i < N → ∀ a, a < L → nx i a < N
variable {N L nx acc}
theorem cI_lt (h : NxOK N L nx) (k : Nat) : ∀ i, i < N → cI N L nx acc k i < 65536 := by
  intro i hi
  have := h.n
  cases k with
  | zero => simp only [cI]; split <;> omega
  | succ k =>
    have h1 := cname_lt (key L nx (cI N L nx acc k)) hi
    have h2 := nubN_le (key L nx (cI N L nx acc k)) N
    show cname _ _ _ < _
    omega
theorem keyV_lt (h : NxOK N L nx) (k i : Nat) (hi : i < N) : ∀ a, a < L + 1 → keyV nx (cI N L nx acc k) i a < 65536 := by
  intro a ha
  unfold keyV
  split
  · exact cI_lt h k i hi
  · exact cI_lt h k _ (h.lt i hi _ (by omega))
theorem key_iff (h : NxOK N L nx) (k i j : Nat) (hi : i < N) (hj : j < N) :
    key L nx (cI N L nx acc k) i = key L nx (cI N L nx acc k) j ↔ cI N L nx acc k i = cI N L nx acc k j ∧ ∀ a, a < L → cI N L nx acc k (nx i a) = cI N L nx acc k (nx j a) := by
  unfold key
  rw [keyU_iff nx _ i j (L + 1) (keyV_lt h k i hi) (keyV_lt h k j hj)]
  constructor
  · intro h2
    refine ⟨by simpa [keyV] using h2 0 (by omega), fun a ha => ?_⟩
    simpa [keyV] using h2 (a + 1) (by omega)
  · rintro ⟨h0, h1⟩ a ha
    unfold keyV
    split
    · exact h0
    · exact h1 _ (by omega)
theorem cI_iff (h : NxOK N L nx) (k i j : Nat) (hi : i < N) (hj : j < N) :
    cI N L nx acc (k + 1) i = cI N L nx acc (k + 1) j ↔ cI N L nx acc k i = cI N L nx acc k j ∧ ∀ a, a < L → cI N L nx acc k (nx i a) = cI N L nx acc k (nx j a) := by
  rw [← key_iff h k i j hi hj]
  exact cname_eq _ hi hj
theorem pI_eq (k : Nat) : pI N L nx acc k = (nubN (cI N L nx acc (k + 1)) N).length := by
  unfold pI
  exact (nub_alike _ _ N fun i j hi hj => (cname_eq (key L nx (cI N L nx acc k)) hi hj).symm).1
theorem pI_mono (h : NxOK N L nx) (k : Nat) : pI N L nx acc k ≤ pI N L nx acc (k + 1) := by
  rw [pI_eq, pI_eq]
  exact (nub_finer _ _ N fun i j hi hj e => ((cI_iff h (k + 1) i j hi hj).1 e).1).1
theorem pI_le (k : Nat) : pI N L nx acc k ≤ N := nubN_le _ _
theorem pI_pos (hN : 1 ≤ N) (k : Nat) : 1 ≤ pI N L nx acc k := by
  have := cname_lt (key L nx (cI N L nx acc k)) (n := N) (i := 0) (by omega)
  unfold pI
  omega
theorem stable (h : NxOK N L nx) (k : Nat) (hp : pI N L nx acc k = pI N L nx acc (k + 1)) (i j : Nat) (hi : i < N) (hj : j < N) (e : cI N L nx acc (k + 1) i = cI N L nx acc (k + 1) j) :
    cI N L nx acc (k + 2) i = cI N L nx acc (k + 2) j := by
  rw [pI_eq, pI_eq] at hp
  exact (nub_finer (cI N L nx acc (k + 2)) (cI N L nx acc (k + 1)) N fun i j hi hj e => ((cI_iff h (k + 1) i j hi hj).1 e).1).2 hp i j hi hj e
theorem cI_acc (h : NxOK N L nx) (k i j : Nat) (hi : i < N) (hj : j < N) (e : cI N L nx acc k i = cI N L nx acc k j) : acc i = acc j := by
  induction k with
  | zero =>
    simp only [cI] at e
    cases h1 : acc i <;> cases h2 : acc j <;> simp [h1, h2] at e <;> rfl
  | succ k ih => exact ih ((cI_iff h k i j hi hj).1 e).1
variable (la : Nat → Lang)
structure LangOK : Prop where
  nil : ∀ i, i < N → la i [] = acc i
  cons : ∀ i, i < N → ∀ a w, la i (a :: w) = (decide (a < L) && la (nx i a) w)
variable {la}
theorem lang_class (h : NxOK N L nx) (hl : LangOK (N := N) (L := L) (nx := nx) (acc := acc) la) (k : Nat) (hp : pI N L nx acc k = pI N L nx acc (k + 1)) (i j : Nat) (hi : i < N) (hj : j < N) :
    cI N L nx acc (k + 2) i = cI N L nx acc (k + 2) j ↔ la i = la j := by
  constructor
  · intro e
    have key : ∀ (w : List Nat) i j, i < N → j < N → cI N L nx acc (k + 1) i = cI N L nx acc (k + 1) j → la i w = la j w := by
      intro w
      induction w with
      | nil =>
        intro i j hi hj e
        rw [hl.nil i hi, hl.nil j hj]
        exact cI_acc h _ i j hi hj e
      | cons a w ih =>
        intro i j hi hj e
        rw [hl.cons i hi, hl.cons j hj]
        by_cases ha : a < L
        · rw [ih _ _ (h.lt i hi a ha) (h.lt j hj a ha) (((cI_iff h (k + 1) i j hi hj).1 (stable h k hp i j hi hj e)).2 a ha)]
        · simp [ha]
    exact funext fun w => key w i j hi hj ((cI_iff h (k + 1) i j hi hj).1 e).1
  · intro e
    have key : ∀ m i j, i < N → j < N → la i = la j → cI N L nx acc m i = cI N L nx acc m j := by
      intro m
      induction m with
      | zero =>
        intro i j hi hj e
        have := congrFun e []
        rw [hl.nil i hi, hl.nil j hj] at this
        simp only [cI, this]
      | succ m ih =>
        intro i j hi hj e
        refine (cI_iff h m i j hi hj).2 ⟨ih i j hi hj e, fun a ha => ih _ _ (h.lt i hi a ha) (h.lt j hj a ha) (funext fun w => ?_)⟩
        have := congrFun e (a :: w)
        rw [hl.cons i hi, hl.cons j hj] at this
        simpa [ha] using this
    exact key _ i j hi hj e
/-- At the end the class of a state is its language's place among the languages. -/
theorem class_end (h : NxOK N L nx) (hl : LangOK (N := N) (L := L) (nx := nx) (acc := acc) la) (k : Nat) (hp : pI N L nx acc k = pI N L nx acc (k + 1)) (i : Nat) (hi : i < N) : cI N L nx acc (k + 2) i = cname la N i := by
  have hk : ∀ i j, i < N → j < N → (key L nx (cI N L nx acc (k + 1)) i = key L nx (cI N L nx acc (k + 1)) j ↔ la i = la j) := fun i j hi hj => by
    rw [key_iff h (k + 1) i j hi hj, ← cI_iff h (k + 1) i j hi hj]
    exact lang_class h hl k hp i j hi hj
  exact (nub_alike _ _ N hk).2 i hi
end
/-- A state is new exactly if its class is the number of those before. -/
theorem class_new (la : Nat → Lang) (N i : Nat) (hi : i < N) : cname la N i = (nubN la i).length ↔ la i ∉ nubN la i := by
  rw [cname_more la (show i < i + 1 by omega) (show i + 1 ≤ N by omega)]
  unfold cname
  rw [nubN_succ]
  constructor
  · intro e hm
    rw [vis_mem _ _ hm] at e
    have := idx_lt hm
    omega
  · intro hn
    rw [vis_new _ _ hn]
    exact idx_app_new hn
end Go.Proofs.Ytmllbemjcfkmjaa
