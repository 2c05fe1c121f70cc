/- The machine of the languages that are found: it is valid, and its language is the first of them; plainly. -/
import Derived.Test.YtmllbemjcfkmjaaUnLaw
import Derived.Test.YtmllbemjcfkmjaaJoin
namespace Go.Proofs.Ytmllbemjcfkmjaa
open Go.RowKit
set_option linter.unusedSimpArgs false
set_option linter.unusedVariables false

/-- Words with a letter that is none are not accepted. -/
def Good (L : Nat) (l : Lang) : Prop := ∀ w : List Nat, (∃ a, a ∈ w ∧ L ≤ a) → l w = false
theorem good_deriv {L : Nat} {l : Lang} (h : Good L l) (a : Nat) : Good L (deriv l a) := fun w ⟨b, hb, hL⟩ => h (a :: w) ⟨b, by simp [hb], hL⟩
theorem langA_good (L : Nat) (step : Int → Nat → Int) (ac : Int → Bool) (w : List Nat) : ∀ s, (∃ a, a ∈ w ∧ L ≤ a) → langA L step ac w s = false := by
  induction w with
  | nil => rintro s ⟨a, ha, _⟩; cases ha
  | cons x w ih =>
    rintro s ⟨a, ha, hL⟩
    simp only [langA]
    by_cases hx : x < L
    · rcases List.mem_cons.1 ha with rfl | ha
      · omega
      · rw [ih _ ⟨a, ha, hL⟩]; simp
    · simp [hx]
theorem laA_good (L : Nat) (step : Int → Nat → Int) (ac : Int → Bool) (s : Int) : Good L (laA L step ac s) := fun w h => langA_good L step ac w s h
section
variable {L : Nat} {la : Lang} {F : List Lang}
theorem found_pos (hF : Found (succL L) la F) : 1 ≤ F.length ∧ F[0]? = some la := by
  obtain ⟨i, rfl, _⟩ := hF
  have h := bfs_first (succL L) la i
  exact ⟨(List.getElem?_eq_some_iff.1 h).1, h⟩
theorem found_good (hF : Found (succL L) la F) (hg : Good L la) : ∀ l, l ∈ F → Good L l := by
  obtain ⟨i, rfl, _⟩ := hF
  refine bfs_in (succL L) la (Good L) hg (fun s hs y hy => ?_) i
  obtain ⟨a, _, rfl⟩ := List.mem_map.1 hy
  exact good_deriv hs a
theorem found_closed (hF : Found (succL L) la F) {j : Nat} {l : Lang} (hj : F[j]? = some l) {a : Nat} (ha : a < L) : deriv l a ∈ F := by
  obtain ⟨i, rfl, hi⟩ := hF
  have hjl := (List.getElem?_eq_some_iff.1 hj).1
  exact bfs_closed (succL L) la i j (by omega) l hj _ (List.mem_map.2 ⟨a, List.mem_range.2 ha, rfl⟩)
theorem row_mac (j : Nat) {l : Lang} (hj : F[j]? = some l) : rowOf (macOf L F) j = canRow L F l := by
  show (canNext L F).getD j [] = _
  simp [canNext, List.getD, hj]
theorem form_ok (hF : Found (succL L) la F) (h1 : 1 ≤ L) (h6 : L ≤ 6) (h64 : F.length ≤ 64) : MacOK (macOf L F) := by
  have hl : (macOf L F).nx.length = F.length := by show (canNext L F).length = _; simp [canNext]
  have ha : (macOf L F).ac.length = F.length := by show (canAcc F).length = _; simp [canAcc]
  have hp := (found_pos hF).1
  refine ⟨by show (1 : Int) ≤ (L : Int); omega, by show (L : Int) ≤ 6; omega, by omega, by omega, by omega, fun j hj => ?_, fun j hj a ha' => ?_⟩
  · have hj' : j < F.length := by omega
    rw [row_mac j (List.getElem?_eq_getElem hj')]
    show ((canRow L F _).length : Int) = (L : Int)
    simp [canRow]
  · have hj' : j < F.length := by omega
    have e := row_mac (L := L) j (List.getElem?_eq_getElem hj')
    rw [e] at ha' ⊢
    have haL : a < L := by simpa [canRow] using ha'
    have hm := idx_lt (found_closed hF (List.getElem?_eq_getElem hj') haL)
    have en : nth (canRow L F F[j]) a = ((idx F (deriv F[j] a) : Nat) : Int) := by simp [nth, List.getD, canRow, haL]
    rw [en, hl]
    omega
theorem form_lang (hF : Found (succL L) la F) (hg : Good L la) (w : List Nat) : ∀ j l, F[j]? = some l → langA L (stepM (macOf L F)) (accM (macOf L F)) w (j : Nat) = l w := by
  induction w with
  | nil =>
    intro j l hj
    show (macOf L F).ac.getD ((j : Int)).toNat false = l []
    rw [Int.toNat_natCast]
    show (canAcc F).getD j false = _
    simp [canAcc, List.getD, hj]
  | cons a w ih =>
    intro j l hj
    simp only [langA]
    by_cases ha : a < L
    · have hm := found_closed hF hj ha
      have es : stepM (macOf L F) (j : Nat) a = ((idx F (deriv l a) : Nat) : Int) := by
        show nth (rowOf (macOf L F) ((j : Int)).toNat) a = _
        rw [Int.toNat_natCast, row_mac j hj]
        simp [nth, List.getD, canRow, ha]
      rw [es, ih _ _ (get_idx hm)]
      simp [ha, deriv]
    · have hl := found_good hF hg l (List.mem_of_getElem? hj)
      rw [hl (a :: w) ⟨a, by simp, by omega⟩]
      simp [ha]
/-- The plain form's language is the language. -/
theorem form_langM (hF : Found (succL L) la F) (hg : Good L la) : langM (macOf L F) = la := by
  funext w
  have h := form_lang hF hg w 0 la (found_pos hF).2
  have e : macL (macOf L F) = L := by show ((L : Int)).toNat = L; simp
  show langA (macL (macOf L F)) _ _ w 0 = _
  rw [e]
  exact h
end
/-! ### counting words of a language -/
def cL (L : Nat) : Nat → Lang → Int
  | 0, l => if l [] then 1 else 0
  | k + 1, l => sumTo (fun a => cL L k (deriv l a)) L
theorem cnt_cL (m : Mac) (k : Nat) : ∀ s, cnt m k s = cL (macL m) k (laA (macL m) (stepM m) (accM m) s) := by
  induction k with
  | zero => intro s; rfl
  | succ k ih =>
    intro s
    simp only [cnt, cL]
    refine sumTo_congr _ _ _ fun a ha => ?_
    rw [ih]
    congr 1
    funext w
    show langA (macL m) _ _ w _ = langA (macL m) _ _ (a :: w) s
    have : a < macL m := ha
    simp [langA, this]
theorem cnt_langM (m : Mac) (k : Nat) : cnt m k 0 = cL (macL m) k (langM m) := cnt_cL m k 0
theorem sumTo_add (f g : Nat → Int) (n : Nat) : sumTo (fun a => f a + g a) n = sumTo f n + sumTo g n := by
  induction n with
  | zero => rfl
  | succ n ih => simp only [sumTo]; rw [ih]; omega
theorem cL_both (L k : Nat) : ∀ l1 l2 : Lang, cL L k (fun w => l1 w && l2 w) + cL L k (fun w => l1 w || l2 w) = cL L k l1 + cL L k l2 := by
  induction k with
  | zero => intro l1 l2; simp only [cL]; by_cases h1 : l1 [] = true <;> by_cases h2 : l2 [] = true <;> simp [h1, h2]
  | succ k ih =>
    intro l1 l2
    simp only [cL]
    rw [← sumTo_add, ← sumTo_add]
    exact sumTo_congr _ _ _ fun a ha => ih (deriv l1 a) (deriv l2 a)
/-! ### two machines side by side -/
theorem jn_lang {m k : Mac} (hm : MacOK m) (hk : MacOK k) (hL : m.L = k.L) (f : Bool → Bool → Bool) (w : List Nat) : ∀ s : Int, 0 ≤ s → s < m.nx.length * k.nx.length → (∀ a, a ∈ w → a < macL m) →
    langA (macL m) (jnS m k) (jnA f m k) w s = f (langA (macL m) (stepM m) (accM m) w (s / k.nx.length)) (langA (macL k) (stepM k) (accM k) w (s % k.nx.length)) := by
  induction w with
  | nil => intro s _ _ _; rfl
  | cons a w ih =>
    intro s h0 h1 hw
    have ha : a < macL m := hw a (by simp)
    have hLL : macL k = macL m := by unfold macL; rw [hL]
    have hak : a < macL k := by rw [hLL]; exact ha
    have hau := jn_auto hm hk hL
    have hs := hau.cl s h0 h1 a ha
    obtain ⟨⟨x0, x1⟩, y0, y1⟩ := jn_parts hm hk h0 h1
    have hkL : (a : Int) < k.L := by unfold macL at hak; omega
    have e2 := step_in hk y0 y1 (a := (a : Int)) (by omega) hkL
    rw [Int.toNat_natCast] at e2
    have hn := hk.n1
    have q1 : jnS m k s a / k.nx.length = stepM m (s / k.nx.length) a := by
      unfold jnS
      rw [Int.add_comm, Int.add_mul_ediv_right _ _ (by omega), Int.ediv_eq_zero_of_lt e2.1 e2.2]
      omega
    have q2 : jnS m k s a % k.nx.length = stepM k (s % k.nx.length) a := by
      unfold jnS
      rw [Int.add_comm, Int.add_mul_emod_self_right, Int.emod_eq_of_lt e2.1 e2.2]
    simp only [langA, ha, hak, decide_true, Bool.true_and]
    rw [ih _ hs.1 hs.2 fun b hb => hw b (by simp [hb]), q1, q2]
end Go.Proofs.Ytmllbemjcfkmjaa
