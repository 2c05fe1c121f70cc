/- How many words have a total of points; plainly: over all totals they are all words. -/
import Derived.Test.YtmllbemjcfkmjaaCheapLaw
namespace Go.Proofs.Ytmllbemjcfkmjaa
open Go.RowKit Go.Maps
set_option linter.unusedSimpArgs false
set_option linter.unusedVariables false

section
variable (m : Mac) (xs : List Int)
def ptN (a : Nat) : Nat := (nth xs a).toNat
def stN (s a : Nat) : Nat := (stepM m (s : Int) a).toNat
/-- Where the words of k letters lead, and with how many points. -/
def reach : Nat → List (Nat × Nat)
  | 0 => [(0, 0)]
  | k + 1 => (reach k).flatMap fun x => (List.range m.L.toNat).map fun a => (stN m x.1 a, x.2 + ptN xs a)
def wyN (l : List (Nat × Nat)) (t q : Nat) : Int := (l.count (t, q) : Nat)
def wy (k t q : Nat) : Int := wyN (reach m xs k) t q
def gW (k s a t q : Nat) : Int := if stN m s a = t ∧ ptN xs a ≤ q then wy m xs k s (q - ptN xs a) else 0
end
/-! ### sums -/
theorem sumTo_zero (f : Nat → Int) (n : Nat) (h : ∀ i, i < n → f i = 0) : sumTo f n = 0 := by
  induction n with
  | zero => rfl
  | succ n ih => rw [sumTo, ih fun i hi => h i (by omega), h n (by omega)]; rfl
theorem sumTo_one (f g : Nat → Int) (d : Int) (i n : Nat) (hi : i < n) (h : ∀ j, j < n → j ≠ i → g j = f j) (hd : g i = f i + d) : sumTo g n = sumTo f n + d := by
  induction n with
  | zero => omega
  | succ n ih =>
    rw [sumTo, sumTo]
    by_cases e : i = n
    · subst e
      rw [sumTo_congr g f i (fun j hj => h j (by omega) (by omega)), hd]
      omega
    · rw [ih (by omega) (fun j hj hne => h j (by omega) hne), h n (by omega) (by omega)]
      omega
theorem sumTo_le (f g : Nat → Int) (n : Nat) (h : ∀ i, i < n → f i ≤ g i) : sumTo f n ≤ sumTo g n := by
  induction n with
  | zero => exact Int.le_refl _
  | succ n ih => rw [sumTo, sumTo]; have := ih fun i hi => h i (by omega); have := h n (by omega); omega
theorem sumTo_nn (f : Nat → Int) (n : Nat) (h : ∀ i, i < n → 0 ≤ f i) : 0 ≤ sumTo f n := by
  induction n with
  | zero => exact Int.le_refl _
  | succ n ih => rw [sumTo]; have := ih fun i hi => h i (by omega); have := h n (by omega); omega
theorem sumTo_part (f : Nat → Int) {i n : Nat} (hi : i ≤ n) (h : ∀ j, j < n → 0 ≤ f j) : sumTo f i ≤ sumTo f n := by
  induction n with
  | zero => obtain rfl : i = 0 := by omega
            exact Int.le_refl _
  | succ n ih =>
    by_cases e : i = n + 1
    · subst e; exact Int.le_refl _
    · rw [sumTo]; have := ih (by omega) fun j hj => h j (by omega); have := h n (by omega); omega
theorem sumTo_single (n i : Nat) (hi : i < n) (c : Int) : sumTo (fun j => if j = i then c else 0) n = c := by
  have := sumTo_one (fun _ => 0) (fun j => if j = i then c else 0) c i n hi (fun j _ h => if_neg h) (by simp)
  rw [this, sumTo_zero _ _ (fun _ _ => rfl)]
  omega
theorem sumTo_addf (f g : Nat → Int) (n : Nat) : sumTo (fun a => f a + g a) n = sumTo f n + sumTo g n := by
  induction n with
  | zero => rfl
  | succ n ih => simp only [sumTo]; rw [ih]; omega
/-! ### lists of pairs -/
theorem wyN_cons (x : Nat × Nat) (l : List (Nat × Nat)) (t q : Nat) : wyN (x :: l) t q = (if x = (t, q) then 1 else 0) + wyN l t q := by
  unfold wyN
  rw [List.count_cons]
  by_cases h : x = (t, q)
  · subst h; simp; omega
  · simp [h]
theorem wyN_skip {x : Nat × Nat} {t q : Nat} (h : x ≠ (t, q)) (l : List (Nat × Nat)) : wyN (x :: l) t q = wyN l t q := by
  rw [wyN_cons, if_neg h, Int.zero_add]
theorem wyN_app (l l' : List (Nat × Nat)) (t q : Nat) : wyN (l ++ l') t q = wyN l t q + wyN l' t q := by
  unfold wyN
  rw [List.count_append]
  omega
theorem wyN_nn (l : List (Nat × Nat)) (t q : Nat) : 0 ≤ wyN l t q := by unfold wyN; omega
theorem wyN_le (l : List (Nat × Nat)) (t q : Nat) : wyN l t q ≤ l.length := by unfold wyN; have := List.count_le_length (a := (t, q)) (l := l); omega
theorem wyN_none {l : List (Nat × Nat)} {t q : Nat} (h : ∀ x, x ∈ l → x ≠ (t, q)) : wyN l t q = 0 := by
  unfold wyN
  rw [List.count_eq_zero.2 fun hm => h _ hm rfl]
  rfl
theorem wyN_range (f : Nat → Nat × Nat) (n t q : Nat) : wyN ((List.range n).map f) t q = sumTo (fun a => if f a = (t, q) then 1 else 0) n := by
  induction n with
  | zero => rfl
  | succ n ih =>
    rw [List.range_succ, List.map_append, wyN_app, ih]
    simp only [sumTo, List.map_cons, List.map_nil, wyN_cons]
    have : wyN [] t q = 0 := rfl
    rw [this]
    omega
section
variable {m : Mac} {xs : List Int}
theorem reach_ok (hOK : MacOK m) (hP : PtsOK m.L xs) (k : Nat) : ∀ x, x ∈ reach m xs k → x.1 < m.nx.length ∧ x.2 ≤ 20 * k := by
  induction k with
  | zero => intro x hx; rw [List.mem_singleton.1 hx]; exact ⟨hOK.n1, Nat.zero_le _⟩
  | succ k ih =>
    intro x hx
    obtain ⟨y, hy, hx⟩ := List.mem_flatMap.1 hx
    obtain ⟨a, ha, rfl⟩ := List.mem_map.1 hx
    have ha' := List.mem_range.1 ha
    obtain ⟨h1, h2⟩ := ih y hy
    have hL := hP.len
    have hp := hP.el a (by omega)
    have hs := step_in hOK (s := (y.1 : Int)) (a := (a : Int)) (by omega) (by omega) (by omega) (by omega)
    rw [Int.toNat_natCast] at hs
    refine ⟨?_, ?_⟩
    · show (stepM m (y.1 : Int) a).toNat < _
      omega
    · show y.2 + (nth xs a).toNat ≤ _
      omega
theorem reach_len (h6 : m.L ≤ 6) (k : Nat) : ((reach m xs k).length : Int) ≤ six k := by
  induction k with
  | zero => exact Int.le_refl _
  | succ k ih =>
    have e : (reach m xs (k + 1)).length = (reach m xs k).length * m.L.toNat := by
      show ((reach m xs k).flatMap fun x => (List.range m.L.toNat).map fun a => (stN m x.1 a, x.2 + ptN xs a)).length = _
      generalize reach m xs k = l
      induction l with
      | nil => simp
      | cons y l ihl => rw [List.flatMap_cons, List.length_append, ihl]; simp; rw [Nat.add_mul, Nat.one_mul]; omega
    rw [e]
    simp only [six]
    have h1 : ((reach m xs k).length * m.L.toNat : Nat) ≤ (reach m xs k).length * 6 := Nat.mul_le_mul_left _ (by omega)
    omega
theorem wy_bd (h6 : m.L ≤ 6) (k t q : Nat) : 0 ≤ wy m xs k t q ∧ wy m xs k t q ≤ six k := by
  have h1 := wyN_nn (reach m xs k) t q
  have h2 := wyN_le (reach m xs k) t q
  have h3 := reach_len (xs := xs) h6 k
  unfold wy
  omega
theorem wy_far (hOK : MacOK m) (hP : PtsOK m.L xs) {k t q : Nat} (h : 20 * k < q) : wy m xs k t q = 0 :=
  wyN_none fun x hx e => by have := (reach_ok hOK hP k x hx).2; rw [e] at this; simp at this; omega
/-- One letter more. -/
theorem wy_succ (hOK : MacOK m) (hP : PtsOK m.L xs) (k t q : Nat) : wy m xs (k + 1) t q = sumTo (fun s => sumTo (fun a => gW m xs k s a t q) m.L.toNat) m.nx.length := by
  have key : ∀ l : List (Nat × Nat), (∀ x, x ∈ l → x.1 < m.nx.length) → wyN (l.flatMap fun x => (List.range m.L.toNat).map fun a => (stN m x.1 a, x.2 + ptN xs a)) t q =
      sumTo (fun s => sumTo (fun a => if stN m s a = t ∧ ptN xs a ≤ q then wyN l s (q - ptN xs a) else 0) m.L.toNat) m.nx.length := by
    intro l
    induction l with
    | nil =>
      intro _
      symm
      exact sumTo_zero _ _ fun s _ => sumTo_zero _ _ fun a _ => by
        have e : wyN [] s (q - ptN xs a) = 0 := rfl
        rw [e]
        split <;> rfl
    | cons x l ih =>
      intro hx
      have hx1 := hx x (by simp)
      rw [List.flatMap_cons, wyN_app, ih fun y hy => hx y (by simp [hy]), wyN_range]
      symm
      rw [sumTo_one (fun s => sumTo (fun a => if stN m s a = t ∧ ptN xs a ≤ q then wyN l s (q - ptN xs a) else 0) m.L.toNat) _ (sumTo (fun a => if (stN m x.1 a, x.2 + ptN xs a) = (t, q) then 1 else 0) m.L.toNat) x.1 m.nx.length hx1 (fun s _ hs => ?_) ?_]
      · omega
      · rw [← sumTo_addf]
        refine sumTo_congr _ _ _ fun a _ => ?_
        rw [wyN_cons]
        by_cases h1 : stN m x.1 a = t ∧ ptN xs a ≤ q
        · rw [if_pos h1, if_pos h1]
          by_cases h2 : x.2 + ptN xs a = q
          · rw [if_pos (show x = (x.1, q - ptN xs a) from Prod.ext rfl (by show x.2 = _; omega)), if_pos (by rw [h1.1, h2])]
            omega
          · rw [if_neg (fun e => h2 (by have : x.2 = q - ptN xs a := congrArg Prod.snd e; omega)), if_neg (fun e => h2 (congrArg Prod.snd e))]
            omega
        · rw [if_neg h1, if_neg h1, if_neg]
          · rfl
          · intro e
            exact h1 ⟨congrArg Prod.fst e, by have : x.2 + ptN xs a = q := congrArg Prod.snd e; omega⟩
      · refine sumTo_congr _ _ _ fun a _ => ?_
        rw [wyN_skip (fun e => hs (by rw [e]))]
  unfold wy gW
  exact key (reach m xs k) fun x hx => (reach_ok hOK hP k x hx).1
theorem gW_nn (k s a t q : Nat) : 0 ≤ gW m xs k s a t q := by unfold gW; split; exact wyN_nn _ _ _; exact Int.le_refl _
/-! ### tables on their way -/
/-- The program's: the states below s are done; of state s the points below p; of these the letters below a. -/
def pH (m : Mac) (xs : List Int) (k s p a : Nat) (t q b : Nat) : Int := if stN m s b = t ∧ ptN xs b ≤ q ∧ (q - ptN xs b < p ∨ (q - ptN xs b = p ∧ b < a)) then wy m xs k s (q - ptN xs b) else 0
def pP (m : Mac) (xs : List Int) (k s p a t q : Nat) : Int := sumTo (fun s' => sumTo (fun b => gW m xs k s' b t q) m.L.toNat) s + sumTo (pH m xs k s p a t q) m.L.toNat
theorem pH_le (k s p a t q b : Nat) : 0 ≤ pH m xs k s p a t q b ∧ pH m xs k s p a t q b ≤ gW m xs k s b t q := by
  unfold pH gW
  by_cases h : stN m s b = t ∧ ptN xs b ≤ q
  · rw [if_pos h]
    split
    · exact ⟨wyN_nn _ _ _, Int.le_refl _⟩
    · exact ⟨Int.le_refl _, wyN_nn _ _ _⟩
  · rw [if_neg h, if_neg (fun e => h ⟨e.1, e.2.1⟩)]
    exact ⟨Int.le_refl _, Int.le_refl _⟩
theorem pP_bd (hOK : MacOK m) (hP : PtsOK m.L xs) {k s p a t q : Nat} (hs : s < m.nx.length) : 0 ≤ pP m xs k s p a t q ∧ pP m xs k s p a t q ≤ six (k + 1) := by
  have h1 := sumTo_nn (fun s' => sumTo (fun b => gW m xs k s' b t q) m.L.toNat) s fun i _ => sumTo_nn _ _ fun j _ => gW_nn _ _ _ _ _
  have h2 := sumTo_nn (pH m xs k s p a t q) m.L.toNat fun i _ => (pH_le _ _ _ _ _ _ _).1
  have h3 := sumTo_le (pH m xs k s p a t q) (fun b => gW m xs k s b t q) m.L.toNat fun i _ => (pH_le _ _ _ _ _ _ _).2
  have h4 := sumTo_part (fun s' => sumTo (fun b => gW m xs k s' b t q) m.L.toNat) (show s + 1 ≤ m.nx.length by omega) fun j _ => sumTo_nn _ _ fun j _ => gW_nn _ _ _ _ _
  rw [← wy_succ hOK hP] at h4
  rw [sumTo] at h4
  have h5 := (wy_bd (xs := xs) hOK.l6 (k + 1) t q).2
  unfold pP
  omega
theorem pP_step {k s p a t q : Nat} (ha : a < m.L.toNat) : pP m xs k s p (a + 1) t q = pP m xs k s p a t q + (if t = stN m s a ∧ q = p + ptN xs a then wy m xs k s p else 0) := by
  unfold pP
  rw [sumTo_one (pH m xs k s p a t q) (pH m xs k s p (a + 1) t q) (if t = stN m s a ∧ q = p + ptN xs a then wy m xs k s p else 0) a m.L.toNat ha (fun j _ hj => ?_) ?_]
  · omega
  · unfold pH
    by_cases h : t = stN m s a ∧ q = p + ptN xs a
    · obtain ⟨h1, h2⟩ := h
      subst h1 h2
      rw [if_pos ⟨rfl, by omega, by omega⟩, if_neg (by omega), if_pos ⟨rfl, rfl⟩, show p + ptN xs a - ptN xs a = p by omega]
      omega
    · rw [if_neg h]
      by_cases h2 : stN m s a = t ∧ ptN xs a ≤ q ∧ q - ptN xs a < p
      · rw [if_pos ⟨h2.1, h2.2.1, .inl h2.2.2⟩, if_pos ⟨h2.1, h2.2.1, .inl h2.2.2⟩]
        omega
      · rw [if_neg, if_neg]
        · rfl
        · rintro ⟨e1, e2, e3 | e3⟩
          · exact h2 ⟨e1, e2, e3⟩
          · omega
        · rintro ⟨e1, e2, e3 | e3⟩
          · exact h2 ⟨e1, e2, e3⟩
          · exact h ⟨e1.symm, by omega⟩
  · unfold pH
    have h3 : (q - ptN xs j = p ∧ j < a + 1) ↔ (q - ptN xs j = p ∧ j < a) := by omega
    simp only [h3]
theorem pP_next {k s p t q : Nat} : pP m xs k s p m.L.toNat t q = pP m xs k s (p + 1) 0 t q := by
  unfold pP
  congr 1
  refine sumTo_congr _ _ _ fun b hb => ?_
  unfold pH
  have : (q - ptN xs b < p ∨ q - ptN xs b = p ∧ b < m.L.toNat) ↔ (q - ptN xs b < p + 1 ∨ q - ptN xs b = p + 1 ∧ b < 0) := by omega
  simp only [this]
theorem pP_skip {k s p t q : Nat} (h0 : wy m xs k s p = 0) : pP m xs k s p 0 t q = pP m xs k s (p + 1) 0 t q := by
  unfold pP
  congr 1
  refine sumTo_congr _ _ _ fun b hb => ?_
  unfold pH
  by_cases h : stN m s b = t ∧ ptN xs b ≤ q
  · by_cases h1 : q - ptN xs b < p
    · rw [if_pos ⟨h.1, h.2, .inl h1⟩, if_pos ⟨h.1, h.2, .inl (by omega)⟩]
    · rw [if_neg (by omega)]
      by_cases h2 : q - ptN xs b = p
      · rw [if_pos ⟨h.1, h.2, .inl (by omega)⟩, h2, h0]
      · rw [if_neg (by omega)]
  · rw [if_neg (fun e => h ⟨e.1, e.2.1⟩), if_neg (fun e => h ⟨e.1, e.2.1⟩)]
theorem pP_row {k s t q : Nat} (hq : q < 401) : pP m xs k s 401 0 t q = pP m xs k (s + 1) 0 0 t q := by
  unfold pP
  rw [sumTo]
  have e1 : sumTo (pH m xs k s 401 0 t q) m.L.toNat = sumTo (fun b => gW m xs k s b t q) m.L.toNat := sumTo_congr _ _ _ fun b _ => by
    unfold pH gW
    by_cases h : stN m s b = t ∧ ptN xs b ≤ q
    · rw [if_pos h, if_pos ⟨h.1, h.2, .inl (by omega)⟩]
    · rw [if_neg h, if_neg (fun e => h ⟨e.1, e.2.1⟩)]
  have e2 : sumTo (pH m xs k (s + 1) 0 0 t q) m.L.toNat = 0 := sumTo_zero _ _ fun b _ => by unfold pH; rw [if_neg (by omega)]
  rw [e1, e2]
  omega
theorem pP_zero {k t q : Nat} : pP m xs k 0 0 0 t q = 0 := by
  unfold pP
  have e2 : sumTo (pH m xs k 0 0 0 t q) m.L.toNat = 0 := sumTo_zero _ _ fun b _ => by unfold pH; rw [if_neg (by omega)]
  rw [e2]
  rfl
theorem pP_end (hOK : MacOK m) (hP : PtsOK m.L xs) {k t q : Nat} : pP m xs k m.nx.length 0 0 t q = wy m xs (k + 1) t q := by
  rw [wy_succ hOK hP]
  unfold pP
  have e2 : sumTo (pH m xs k m.nx.length 0 0 t q) m.L.toNat = 0 := sumTo_zero _ _ fun b _ => by unfold pH; rw [if_neg (by omega)]
  rw [e2]
  omega
/-- The document's: the states below s are done; of state s the letters below a; of letter a the points below p. -/
def dP (m : Mac) (xs : List Int) (k s a p t q : Nat) : Int := sumTo (fun s' => sumTo (fun b => gW m xs k s' b t q) m.L.toNat) s + sumTo (fun b => gW m xs k s b t q) a + (if stN m s a = t ∧ ptN xs a ≤ q ∧ q - ptN xs a < p then wy m xs k s (q - ptN xs a) else 0)
theorem dP_bd (hOK : MacOK m) (hP : PtsOK m.L xs) {k s a p t q : Nat} (hs : s < m.nx.length) (ha : a < m.L.toNat) : 0 ≤ dP m xs k s a p t q ∧ dP m xs k s a p t q ≤ six (k + 1) := by
  have h1 := sumTo_nn (fun s' => sumTo (fun b => gW m xs k s' b t q) m.L.toNat) s fun i _ => sumTo_nn _ _ fun j _ => gW_nn _ _ _ _ _
  have h2 := sumTo_nn (fun b => gW m xs k s b t q) a fun i _ => gW_nn _ _ _ _ _
  have h3 := sumTo_part (fun b => gW m xs k s b t q) (show a + 1 ≤ m.L.toNat by omega) fun j _ => gW_nn _ _ _ _ _
  have h4 := sumTo_part (fun s' => sumTo (fun b => gW m xs k s' b t q) m.L.toNat) (show s + 1 ≤ m.nx.length by omega) fun j _ => sumTo_nn _ _ fun j _ => gW_nn _ _ _ _ _
  rw [← wy_succ hOK hP] at h4
  rw [sumTo] at h4 h3
  have h5 := (wy_bd (xs := xs) hOK.l6 (k + 1) t q).2
  have h6 : 0 ≤ (if stN m s a = t ∧ ptN xs a ≤ q ∧ q - ptN xs a < p then wy m xs k s (q - ptN xs a) else 0) ∧ (if stN m s a = t ∧ ptN xs a ≤ q ∧ q - ptN xs a < p then wy m xs k s (q - ptN xs a) else 0) ≤ gW m xs k s a t q := by
    unfold gW
    by_cases h : stN m s a = t ∧ ptN xs a ≤ q
    · rw [if_pos h]
      split
      · exact ⟨wyN_nn _ _ _, Int.le_refl _⟩
      · exact ⟨Int.le_refl _, wyN_nn _ _ _⟩
    · rw [if_neg h, if_neg (fun e => h ⟨e.1, e.2.1⟩)]
      exact ⟨Int.le_refl _, Int.le_refl _⟩
  unfold dP
  omega
theorem dP_step {k s a p t q : Nat} : dP m xs k s a (p + 1) t q = dP m xs k s a p t q + (if t = stN m s a ∧ q = p + ptN xs a then wy m xs k s p else 0) := by
  unfold dP
  by_cases h : t = stN m s a ∧ q = p + ptN xs a
  · obtain ⟨h1, h2⟩ := h
    subst h1 h2
    rw [if_pos ⟨rfl, by omega, by omega⟩, if_neg (by omega), if_pos ⟨rfl, rfl⟩, show p + ptN xs a - ptN xs a = p by omega]
    omega
  · rw [if_neg h]
    by_cases h2 : stN m s a = t ∧ ptN xs a ≤ q ∧ q - ptN xs a < p
    · rw [if_pos ⟨h2.1, h2.2.1, by omega⟩, if_pos h2]
      omega
    · rw [if_neg h2, if_neg]
      · omega
      · rintro ⟨e1, e2, e3⟩
        by_cases e4 : q - ptN xs a = p
        · exact h ⟨e1.symm, by omega⟩
        · exact h2 ⟨e1, e2, by omega⟩
theorem dP_next {k s a p top t q : Nat} (hp : top < p + ptN xs a) (hq : q ≤ top) : dP m xs k s a p t q = dP m xs k s (a + 1) 0 t q := by
  unfold dP
  rw [sumTo]
  have e1 : (if stN m s a = t ∧ ptN xs a ≤ q ∧ q - ptN xs a < p then wy m xs k s (q - ptN xs a) else 0) = gW m xs k s a t q := by
    unfold gW
    by_cases h : stN m s a = t ∧ ptN xs a ≤ q
    · rw [if_pos h, if_pos ⟨h.1, h.2, by omega⟩]
    · rw [if_neg h, if_neg (fun e => h ⟨e.1, e.2.1⟩)]
  rw [e1, if_neg (show ¬ (stN m s (a + 1) = t ∧ ptN xs (a + 1) ≤ q ∧ q - ptN xs (a + 1) < 0) by omega)]
  omega
theorem dP_row {k s t q : Nat} : dP m xs k s m.L.toNat 0 t q = dP m xs k (s + 1) 0 0 t q := by
  unfold dP
  rw [if_neg (by omega), if_neg (by omega), sumTo, sumTo]
  omega
theorem dP_zero {k t q : Nat} : dP m xs k 0 0 0 t q = 0 := by
  unfold dP
  rw [if_neg (by omega)]
  rfl
theorem dP_end (hOK : MacOK m) (hP : PtsOK m.L xs) {k t q : Nat} : dP m xs k m.nx.length 0 0 t q = wy m xs (k + 1) t q := by
  rw [wy_succ hOK hP]
  unfold dP
  rw [if_neg (by omega), sumTo]
  omega
/-! ### the answer -/
def accS (m : Mac) (f : Nat → Int) (n : Nat) : Int := sumTo (fun s => if accM m (s : Int) = true then f s else 0) n
theorem accS_bd {f : Nat → Int} {B : Int} (hB : 0 ≤ B) (hf : ∀ s, 0 ≤ f s ∧ f s ≤ B) (n : Nat) : 0 ≤ accS m f n ∧ accS m f n ≤ n * B := by
  unfold accS
  exact sumTo_bd _ _ _ fun d _ => by
    have := hf d
    split <;> omega
end
def sumL (f : Nat × Nat → Int) : List (Nat × Nat) → Int
  | [] => 0
  | x :: l => f x + sumL f l
theorem sumL_app (f : Nat × Nat → Int) (l l' : List (Nat × Nat)) : sumL f (l ++ l') = sumL f l + sumL f l' := by
  induction l with
  | nil => simp [sumL]
  | cons x l ih => simp only [List.cons_append, sumL]; rw [ih]; omega
theorem sumL_range (f : Nat × Nat → Int) (g : Nat → Nat × Nat) (n : Nat) : sumL f ((List.range n).map g) = sumTo (fun a => f (g a)) n := by
  induction n with
  | zero => rfl
  | succ n ih => rw [List.range_succ, List.map_append, sumL_app, ih]; simp only [sumTo, List.map_cons, List.map_nil, sumL]; omega
theorem sumL_congr {f g : Nat × Nat → Int} {l : List (Nat × Nat)} (h : ∀ x, x ∈ l → f x = g x) : sumL f l = sumL g l := by
  induction l with
  | nil => rfl
  | cons x l ih => simp only [sumL]; rw [h x (by simp), ih fun y hy => h y (by simp [hy])]
section
variable {m : Mac} {xs : List Int}
theorem reach_cnt (hOK : MacOK m) (hP : PtsOK m.L xs) (k : Nat) : ∀ j, sumL (fun x => cnt m j (x.1 : Int)) (reach m xs k) = cnt m (j + k) 0 := by
  induction k with
  | zero => intro j; simp [reach, sumL]
  | succ k ih =>
    intro j
    have key : ∀ l : List (Nat × Nat), (∀ x, x ∈ l → x.1 < m.nx.length) → sumL (fun x => cnt m j (x.1 : Int)) (l.flatMap fun x => (List.range m.L.toNat).map fun a => (stN m x.1 a, x.2 + ptN xs a)) = sumL (fun x => cnt m (j + 1) (x.1 : Int)) l := by
      intro l
      induction l with
      | nil => intro _; rfl
      | cons x l ihl =>
        intro hx
        rw [List.flatMap_cons, sumL_app, ihl fun y hy => hx y (by simp [hy]), sumL_range]
        simp only [sumL, cnt]
        congr 1
        refine sumTo_congr _ _ _ fun a ha => ?_
        have hs := step_in hOK (s := (x.1 : Int)) (a := (a : Int)) (by omega) (by have := hx x (by simp); omega) (by omega) (by omega)
        rw [Int.toNat_natCast] at hs
        show cnt m j ((stepM m (x.1 : Int) a).toNat : Int) = _
        rw [Int.toNat_of_nonneg hs.1]
    show sumL _ ((reach m xs k).flatMap _) = _
    rw [key _ fun x hx => (reach_ok hOK hP k x hx).1, ih (j + 1)]
    congr 1
    omega
theorem totals (hOK : MacOK m) (hP : PtsOK m.L xs) (n : Nat) : sumTo (fun p => accS m (fun s => wy m xs n s p) m.nx.length) (20 * n + 1) = cnt m n 0 := by
  have key : ∀ l : List (Nat × Nat), (∀ x, x ∈ l → x.1 < m.nx.length ∧ x.2 ≤ 20 * n) → sumTo (fun p => accS m (fun s => wyN l s p) m.nx.length) (20 * n + 1) = sumL (fun x => cnt m 0 (x.1 : Int)) l := by
    intro l
    induction l with
    | nil =>
      intro _
      exact sumTo_zero _ _ fun p _ => by
        unfold accS
        exact sumTo_zero _ _ fun s _ => by
          have e : wyN [] s p = 0 := rfl
          dsimp only
          rw [e]
          split <;> rfl
    | cons x l ih =>
      intro hx
      obtain ⟨h1, h2⟩ := hx x (by simp)
      have ih := ih fun y hy => hx y (by simp [hy])
      rw [sumTo_one (fun p => accS m (fun s => wyN l s p) m.nx.length) _ (cnt m 0 (x.1 : Int)) x.2 (20 * n + 1) (by omega) (fun p _ hp => ?_) ?_, ih]
      · simp only [sumL]; omega
      · unfold accS
        rw [sumTo_one (fun s => if accM m (s : Int) = true then wyN l s x.2 else 0) _ (cnt m 0 (x.1 : Int)) x.1 m.nx.length h1 (fun s _ hs => ?_) ?_]
        · dsimp only
          rw [wyN_cons, if_pos rfl]
          simp only [cnt]
          split <;> omega
        · dsimp only
          rw [wyN_skip (fun e => hs (by rw [e]))]
      · unfold accS
        refine sumTo_congr _ _ _ fun s _ => ?_
        dsimp only
        rw [wyN_skip (fun e => hp (by rw [e]))]
  have := key (reach m xs n) (reach_ok hOK hP n)
  rw [reach_cnt hOK hP n 0, Nat.zero_add] at this
  exact this
end
section
variable (m : Mac) (n : Int) (xs : List Int) (total : Int)
open Classical in
noncomputable def cpN : Int := if scoE m n xs = 0 ∧ 0 ≤ total ∧ total ≤ 20 * n then accS m (fun s => wy m xs n.toNat s total.toNat) m.nx.length else 0
variable {m n xs total}
theorem cpN_yes (h : scoE m n xs = 0 ∧ 0 ≤ total ∧ total ≤ 20 * n) : cpN m n xs total = accS m (fun s => wy m xs n.toNat s total.toNat) m.nx.length := by unfold cpN; rw [if_pos h]
theorem cpN_no (h : ¬ (scoE m n xs = 0 ∧ 0 ≤ total ∧ total ≤ 20 * n)) : cpN m n xs total = 0 := by unfold cpN; rw [if_neg h]
theorem cpN_far (h : scoE m n xs = 0) (h2 : 20 * n < total) : cpN m n xs total = accS m (fun s => wy m xs n.toNat s total.toNat) m.nx.length := by
  obtain ⟨⟨hOK, h0, _⟩, hP⟩ := scoE_zero.1 h
  rw [cpN_no (by omega)]
  unfold accS
  symm
  exact sumTo_zero _ _ fun s _ => by dsimp only; rw [wy_far hOK hP (by omega)]; split <;> rfl
end
end Go.Proofs.Ytmllbemjcfkmjaa
