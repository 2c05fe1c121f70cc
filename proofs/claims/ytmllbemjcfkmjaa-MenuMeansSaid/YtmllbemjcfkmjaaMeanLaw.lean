/- What the rules say of a word; plainly. -/
import Derived.Test.YtmllbemjcfkmjaaGenOne
import Derived.Test.YtmllbemjcfkmjaaKnown
import Derived.Test.YtmllbemjcfkmjaaRules
import Derived.Test.YtmllbemjcfkmjaaRound
namespace Go.Proofs.Ytmllbemjcfkmjaa
open Go.RowKit
set_option linter.unusedSimpArgs false
set_option linter.unusedVariables false

def natW (xs : List Int) : List Nat := xs.map Int.toNat
/-- The state of a machine given by steps, behind j letters. -/
def runS (step : Int → Nat → Int) (xs : List Int) : Nat → Int
  | 0 => 0
  | j + 1 => step (runS step xs j) (nth xs j).toNat
theorem langA_run (L : Nat) (step : Int → Nat → Int) (ac : Int → Bool) (w : List Nat) : ∀ s, (∀ a, a ∈ w → a < L) → langA L step ac w s = ac (w.foldl step s) := by
  induction w with
  | nil => intro s _; rfl
  | cons a w ih =>
    intro s h
    simp only [langA, List.foldl_cons]
    rw [ih _ fun b hb => h b (by simp [hb])]
    simp [h a (by simp)]
theorem runS_fold (step : Int → Nat → Int) (xs : List Int) (j : Nat) (hj : j ≤ xs.length) : runS step xs j = (natW (xs.take j)).foldl step 0 := by
  induction j with
  | zero => rfl
  | succ j ih =>
    have e : natW (xs.take (j + 1)) = natW (xs.take j) ++ [(nth xs j).toNat] := by
      unfold natW
      rw [List.take_succ_eq_append_getElem (by omega), List.map_append]
      simp [nth, List.getD, show j < xs.length by omega]
    rw [runS, ih (by omega), e, List.foldl_append]
    rfl
theorem runS_all (L : Nat) (step : Int → Nat → Int) (ac : Int → Bool) {xs : List Int} (hw : WordOK L xs) : laA L step ac 0 (natW xs) = ac (runS step xs xs.length) := by
  show langA L step ac (natW xs) 0 = _
  rw [langA_run, runS_fold step xs xs.length (Nat.le_refl _), List.take_length]
  intro a ha
  obtain ⟨x, hx, rfl⟩ := List.mem_map.1 ha
  obtain ⟨i, hi, rfl⟩ := List.getElem_of_mem hx
  have := hw.el i hi
  simp [nth, List.getD, hi] at this
  omega
theorem accR_lang {m : Mac} (h : MacOK m) (xs : List Int) : ∀ s, WordOK m.L xs → accR m xs s = langA (macL m) (stepM m) (accM m) (natW xs) s := by
  induction xs with
  | nil => intro s _; rfl
  | cons x w ih =>
    intro s hw
    obtain ⟨hx, hw'⟩ := word_cons hw
    have hx' : x.toNat < macL m := by unfold macL; omega
    rw [accR, ih _ hw']
    show _ = langA (macL m) (stepM m) (accM m) (x.toNat :: natW w) s
    simp [langA, hx']
/-- Whether the machine accepts a word is what its language says. -/
theorem acc_lang {m : Mac} {xs : List Int} (h : wodE m xs = 0) : accB m xs = langM m (natW xs) := by
  obtain ⟨h1, h2⟩ := wodE_zero.1 h
  rw [accB_ok h]
  have := accR_run m xs 0
  show accM m (runF m xs 0 xs.length) = _
  rw [← this, accR_lang h1 xs 0 h2]
  rfl
theorem wod_form {L : Nat} {la : Lang} {F : List Lang} (hF : Found (succL L) la F) (h1 : 1 ≤ L) (h6 : L ≤ 6) (h64 : F.length ≤ 64) (xs : List Int) : wodE (macOf L F) xs = wrdE L xs := wodE_ok (valE_ok (form_ok hF h1 h6 h64)) xs
theorem acc_form {L : Nat} {step : Int → Nat → Int} {ac : Int → Bool} {F : List Lang} (hF : Found (succL L) (laA L step ac 0) F) (h1 : 1 ≤ L) (h6 : L ≤ 6) (h64 : F.length ≤ 64) {xs : List Int} (hw : WordOK L xs) :
    accB (macOf L F) xs = ac (runS step xs xs.length) := by
  have h0 : wodE (macOf L F) xs = 0 := by rw [wod_form hF h1 h6 h64, wrdE_ok hw]
  rw [acc_lang h0, form_langM hF (laA_good _ _ _ _), runS_all L step ac hw]

/-! ### counting -/
def tmC (a : Int) (xs : List Int) : Nat → Nat
  | 0 => 0
  | j + 1 => if nth xs j = a then tmC a xs j + 1 else tmC a xs j
theorem tmC_le (a : Int) (xs : List Int) (j : Nat) : tmC a xs j ≤ j := by
  induction j with
  | zero => exact Nat.le_refl _
  | succ j ih => simp only [tmC]; split <;> omega
def mnI (x y : Int) : Int := if x ≤ y then x else y
theorem tmC_yes {a : Int} {xs : List Int} {j : Nat} (h : nth xs j = a) : tmC a xs (j + 1) = tmC a xs j + 1 := by rw [tmC, if_pos h]
theorem tmC_no {a : Int} {xs : List Int} {j : Nat} (h : nth xs j ≠ a) : tmC a xs (j + 1) = tmC a xs j := by rw [tmC, if_neg h]
theorem cu_run {L : Int} {a t : Int} {xs : List Int} (hw : WordOK L xs) (ha : 0 ≤ a) (ht : 0 ≤ t) (j : Nat) (hj : j ≤ xs.length) : runS (cuS a t) xs j = mnI (tmC a xs j : Int) (t + 1) := by
  induction j with
  | zero => show (0 : Int) = mnI 0 (t + 1); unfold mnI; rw [if_pos (by omega)]
  | succ j ih =>
    have hx := hw.el j (by omega)
    rw [runS, ih (by omega)]
    have e : (((nth xs j).toNat : Nat) : Int) = nth xs j := by omega
    by_cases h : nth xs j = a
    · rw [tmC_yes h]
      unfold cuS mnI
      rw [e]
      by_cases h2 : (tmC a xs j : Int) ≤ t + 1
      · rw [if_pos h2]
        by_cases h3 : (tmC a xs j : Int) ≤ t
        · rw [if_pos ⟨h, h3⟩, if_pos (by omega)]; omega
        · rw [if_neg (by omega), if_neg (by omega)]; omega
      · rw [if_neg h2, if_neg (by omega), if_neg (by omega)]
    · rw [tmC_no h]
      unfold cuS
      rw [e, if_neg (fun x => h x.1)]
theorem le_mean {L : Int} {a t : Int} {xs : List Int} (hw : WordOK L xs) (ha : 0 ≤ a) (ht : 0 ≤ t) : leA t (runS (cuS a t) xs xs.length) = decide (t ≤ (tmC a xs xs.length : Int)) := by
  rw [cu_run hw ha ht _ (Nat.le_refl _)]
  unfold leA mnI
  split
  · rfl
  · rw [decide_eq_true (by omega), decide_eq_true (by omega)]
theorem mo_mean {L : Int} {a t : Int} {xs : List Int} (hw : WordOK L xs) (ha : 0 ≤ a) (ht : 0 ≤ t) : moA t (runS (cuS a t) xs xs.length) = decide ((tmC a xs xs.length : Int) ≤ t) := by
  rw [cu_run hw ha ht _ (Nat.le_refl _)]
  unfold moA mnI
  split
  · rfl
  · rw [decide_eq_false (by omega), decide_eq_false (by omega)]
/-! ### never after -/
def brB (p q : Int) (xs : List Int) : Nat → Bool
  | 0 => false
  | j + 1 => brB p q xs j || (decide (0 < j) && (decide (nth xs (j - 1) = p) && decide (nth xs j = q)))
theorem nv_run {L : Int} {p q : Int} {xs : List Int} (hw : WordOK L xs) (j : Nat) (hj : j ≤ xs.length) : runS (nvS p q) xs j = cond (brB p q xs j) 2 (if 0 < j ∧ nth xs (j - 1) = p then 1 else 0) := by
  induction j with
  | zero => rfl
  | succ j ih =>
    have hx := hw.el j (by omega)
    rw [runS, ih (by omega)]
    have e : (((nth xs j).toNat : Nat) : Int) = nth xs j := by omega
    rw [brB, Nat.add_sub_cancel]
    unfold nvS
    rw [e]
    cases hb : brB p q xs j
    · simp only [Bool.false_or, cond_false]
      by_cases h1 : 0 < j ∧ nth xs (j - 1) = p
      · rw [if_pos h1]
        by_cases h2 : nth xs j = q
        · rw [if_pos (.inr ⟨rfl, h2⟩)]; simp [h1, h2]
        · rw [if_neg (by omega)]; simp [h1, h2]
      · rw [if_neg h1]
        have h3 : (decide (0 < j) && (decide (nth xs (j - 1) = p) && decide (nth xs j = q))) = false := by
          by_cases h4 : 0 < j
          · have h5 : ¬ nth xs (j - 1) = p := fun h => h1 ⟨h4, h⟩
            simp [h5]
          · simp [h4]
        rw [h3, if_neg (by omega)]
        simp
    · simp
theorem nv_mean {L : Int} {p q : Int} {xs : List Int} (hw : WordOK L xs) : nvA (runS (nvS p q) xs xs.length) = !brB p q xs xs.length := by
  rw [nv_run hw _ (Nat.le_refl _)]
  unfold nvA
  cases h : brB p q xs xs.length
  · simp only [cond_false]
    split <;> rfl
  · rfl
/-! ### apart -/
/-- Letter i is apart from those from k0 up to below k. -/
def okI (xs : List Int) (i k0 k : Nat) : Bool := decide (∀ j, j < k → k0 ≤ j → nth xs i ≠ nth xs j)
def okB (d : Nat) (xs : List Int) : Nat → Bool
  | 0 => true
  | i + 1 => okB d xs i && okI xs i (i + 1 - d) i
theorem okI_start (xs : List Int) (i k0 : Nat) : okI xs i k0 k0 = true := decide_eq_true fun j h1 h2 => by omega
theorem okI_succ (xs : List Int) (i k0 k : Nat) (h : k0 ≤ k) : okI xs i k0 (k + 1) = (okI xs i k0 k && decide (nth xs i ≠ nth xs k)) := by
  unfold okI
  rw [Bool.eq_iff_iff, Bool.and_eq_true, decide_eq_true_iff, decide_eq_true_iff, decide_eq_true_iff]
  constructor
  · intro hh
    exact ⟨fun j h1 h2 => hh j (by omega) h2, hh k (by omega) h⟩
  · rintro ⟨h1, h2⟩ j hj hk
    by_cases e : j = k
    · subst e; exact h2
    · exact h1 j (by omega) hk
def lastC (xs : List Int) (j : Nat) : Int := if j = 0 then 0 else nth xs (j - 1) + 1
def prevC (xs : List Int) (j : Nat) : Int := if j < 2 then 0 else nth xs (j - 2) + 1
theorem lastC_succ (xs : List Int) (j : Nat) : lastC xs (j + 1) = nth xs j + 1 := by unfold lastC; rw [if_neg (by omega), Nat.add_sub_cancel]
theorem prevC_succ (xs : List Int) (j : Nat) : prevC xs (j + 1) = lastC xs j := by
  unfold prevC lastC
  by_cases h : j = 0
  · rw [if_pos (by omega), if_pos h]
  · rw [if_neg (by omega), if_neg h]
    congr 2
theorem lastC_bd {L : Int} {xs : List Int} (hw : WordOK L xs) (hL : L ≤ 6) (j : Nat) (hj : j ≤ xs.length) : 0 ≤ lastC xs j ∧ lastC xs j ≤ 6 := by
  cases j with
  | zero => exact ⟨Int.le_refl _, by show (0 : Int) ≤ 6; omega⟩
  | succ j => have := hw.el j (by omega); rw [lastC_succ]; omega
theorem prevC_bd {L : Int} {xs : List Int} (hw : WordOK L xs) (hL : L ≤ 6) (j : Nat) (hj : j ≤ xs.length) : 0 ≤ prevC xs j ∧ prevC xs j ≤ 6 := by
  cases j with
  | zero => exact ⟨Int.le_refl _, by show (0 : Int) ≤ 6; omega⟩
  | succ j => rw [prevC_succ]; exact lastC_bd hw hL j (by omega)
theorem dec_eq {p q : Prop} [Decidable p] [Decidable q] (h : p ↔ q) : decide p = decide q := decide_eq_decide.2 h
theorem okI2 {L : Int} {xs : List Int} (hw : WordOK L xs) (j : Nat) (hj : j < xs.length) : okI xs j (j + 1 - 2) j = decide (lastC xs j ≠ nth xs j + 1) := by
  have hx := hw.el j hj
  cases j with
  | zero =>
    rw [show 0 + 1 - 2 = 0 by omega, okI_start]
    exact (decide_eq_true (by show (0 : Int) ≠ _; omega)).symm
  | succ i =>
    rw [show i + 1 + 1 - 2 = i by omega, okI_succ _ _ _ _ (Nat.le_refl _), okI_start, Bool.true_and, lastC_succ]
    exact dec_eq (by omega)
theorem okI3 {L : Int} {xs : List Int} (hw : WordOK L xs) (j : Nat) (hj : j < xs.length) : okI xs j (j + 1 - 3) j = (decide (prevC xs j ≠ nth xs j + 1) && decide (lastC xs j ≠ nth xs j + 1)) := by
  have hx := hw.el j hj
  match j with
  | 0 =>
    rw [show 0 + 1 - 3 = 0 by omega, okI_start, decide_eq_true (p := prevC xs 0 ≠ nth xs 0 + 1) (by show (0 : Int) ≠ _; omega), decide_eq_true (p := lastC xs 0 ≠ nth xs 0 + 1) (by show (0 : Int) ≠ _; omega)]
    rfl
  | 1 =>
    rw [show 1 + 1 - 3 = 0 by omega, okI_succ _ _ _ _ (Nat.le_refl _), okI_start, Bool.true_and, decide_eq_true (p := prevC xs 1 ≠ nth xs 1 + 1) (by show (0 : Int) ≠ _; omega), Bool.true_and]
    have e := lastC_succ xs 0
    rw [Nat.zero_add] at e
    rw [e]
    exact dec_eq (by omega)
  | i + 2 =>
    rw [show i + 2 + 1 - 3 = i by omega, okI_succ _ _ _ _ (by omega), okI_succ _ _ _ _ (Nat.le_refl _), okI_start, Bool.true_and]
    have e1 : lastC xs (i + 2) = nth xs (i + 1) + 1 := lastC_succ xs (i + 1)
    have e2 : prevC xs (i + 2) = nth xs i + 1 := by rw [show i + 2 = (i + 1) + 1 by omega, prevC_succ, lastC_succ]
    rw [e1, e2]
    congr 1
    · exact dec_eq (by omega)
    · exact dec_eq (by omega)
theorem apS_neg (d s : Int) (c : Nat) (h : s < 0) : apS d s c = -1 := by unfold apS; rw [if_pos (.inl h)]
theorem apS_1 (d : Int) (hd : d ≤ 1) (c : Nat) : apS d 0 c = 0 := by unfold apS; rw [if_neg (by omega), if_neg (by omega), if_neg (by omega)]
theorem apS_2 (s : Int) (h : 0 ≤ s) (c : Nat) : apS 2 s c = cond (decide (s % 10 ≠ c + 1)) ((c : Int) + 1) (-1) := by
  by_cases e : s % 10 = c + 1
  · rw [decide_eq_false (by simp [e]), cond_false]
    unfold apS
    rw [if_pos (by omega)]
  · rw [decide_eq_true e, cond_true]
    unfold apS
    rw [if_neg (by omega), if_pos rfl]
theorem apS_3 (s : Int) (h : 0 ≤ s) (c : Nat) : apS 3 s c = cond (decide (s / 10 ≠ c + 1) && decide (s % 10 ≠ c + 1)) (s % 10 * 10 + c + 1) (-1) := by
  by_cases e : s % 10 = c + 1
  · rw [decide_eq_false (p := s % 10 ≠ c + 1) (by simp [e]), Bool.and_false, cond_false]
    unfold apS
    rw [if_pos (by omega)]
  · by_cases e2 : s / 10 = c + 1
    · rw [decide_eq_false (p := s / 10 ≠ c + 1) (by simp [e2]), Bool.false_and, cond_false]
      unfold apS
      rw [if_pos (by omega)]
    · rw [decide_eq_true e, decide_eq_true e2, Bool.and_self, cond_true]
      unfold apS
      rw [if_neg (by omega), if_neg (by omega), if_pos rfl]
theorem ap_run1 {d : Nat} (hd : d ≤ 1) {xs : List Int} (j : Nat) : runS (apS d) xs j = 0 ∧ okB d xs j = true := by
  induction j with
  | zero => exact ⟨rfl, rfl⟩
  | succ j ih =>
    refine ⟨by rw [runS, ih.1, apS_1 _ (by omega)], ?_⟩
    rw [okB, ih.2, Bool.true_and]
    exact decide_eq_true fun k h3 h4 => by omega
theorem ap_run2 {L : Int} (hL : L ≤ 6) {xs : List Int} (hw : WordOK L xs) (j : Nat) (hj : j ≤ xs.length) : runS (apS 2) xs j = cond (okB 2 xs j) (lastC xs j) (-1) := by
  induction j with
  | zero => rfl
  | succ j ih =>
    have hx := hw.el j (by omega)
    have hl := lastC_bd hw hL j (by omega)
    have e : (((nth xs j).toNat : Nat) : Int) = nth xs j := by omega
    rw [runS, ih (by omega), okB]
    cases hb : okB 2 xs j
    · rw [cond_false, Bool.false_and, cond_false, apS_neg _ _ _ (by omega)]
    · rw [cond_true, Bool.true_and, apS_2 _ hl.1, e, okI2 hw j (by omega), lastC_succ, show lastC xs j % 10 = lastC xs j by omega]
theorem ap_run3 {L : Int} (hL : L ≤ 6) {xs : List Int} (hw : WordOK L xs) (j : Nat) (hj : j ≤ xs.length) : runS (apS 3) xs j = cond (okB 3 xs j) (prevC xs j * 10 + lastC xs j) (-1) := by
  induction j with
  | zero => rfl
  | succ j ih =>
    have hx := hw.el j (by omega)
    have hl := lastC_bd hw hL j (by omega)
    have hp := prevC_bd hw hL j (by omega)
    have e : (((nth xs j).toNat : Nat) : Int) = nth xs j := by omega
    rw [runS, ih (by omega), okB]
    cases hb : okB 3 xs j
    · rw [cond_false, Bool.false_and, cond_false, apS_neg _ _ _ (by omega)]
    · rw [cond_true, Bool.true_and, apS_3 _ (by omega), e, okI3 hw j (by omega), lastC_succ, prevC_succ, show (prevC xs j * 10 + lastC xs j) % 10 = lastC xs j by omega, show (prevC xs j * 10 + lastC xs j) / 10 = prevC xs j by omega]
      congr 1
      omega
theorem ap_mean {L : Int} (hL : L ≤ 6) {d : Nat} (hd : d ≤ 3) {xs : List Int} (hw : WordOK L xs) : apA (runS (apS d) xs xs.length) = okB d xs xs.length := by
  unfold apA
  by_cases h1 : d ≤ 1
  · rw [(ap_run1 h1 xs.length).1, (ap_run1 h1 xs.length).2]
    rfl
  · have hl := lastC_bd hw hL xs.length (Nat.le_refl _)
    have hp := prevC_bd hw hL xs.length (Nat.le_refl _)
    by_cases h2 : d = 2
    · subst h2
      rw [show (((2 : Nat) : Int)) = 2 from rfl, ap_run2 hL hw _ (Nat.le_refl _)]
      cases okB 2 xs xs.length
      · rfl
      · rw [cond_true]
        exact decide_eq_true hl.1
    · obtain rfl : d = 3 := by omega
      rw [show (((3 : Nat) : Int)) = 3 from rfl, ap_run3 hL hw _ (Nat.le_refl _)]
      cases okB 3 xs xs.length
      · rfl
      · rw [cond_true]
        exact decide_eq_true (by omega)
end Go.Proofs.Ytmllbemjcfkmjaa
