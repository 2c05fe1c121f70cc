/- The first pair of states that differs, and the word that leads there; two machines have one language exactly if there is none; plainly. -/
import Derived.Test.YtmllbemjcfkmjaaWalkLaw
import Derived.Test.YtmllbemjcfkmjaaRounded
namespace Go.Proofs.Ytmllbemjcfkmjaa
open Go.RowKit Go.Maps
set_option linter.unusedSimpArgs false
set_option linter.unusedVariables false

def wXor (x y : Bool) : Bool := x != y
section
variable (L : Nat) (step : Int → Nat → Int)
/-- From which state, and by which letter, each state was found. -/
def extP (i : Nat) (base : List (Int × Int)) : Nat → List (Int × Int)
  | 0 => base
  | c + 1 => if step ((raw L step i).getD i 0) c ∈ part L step i c then extP i base c else extP i base c ++ [((i : Int), (c : Int))]
def rawP : Nat → List (Int × Int)
  | 0 => [(-1, 0)]
  | i + 1 => if i < (raw L step i).length then extP L step i (rawP i) L else rawP i
/-- The state behind a word. -/
def runI : List Int → Int → Int
  | [], s => s
  | x :: w, s => runI w (step s x.toNat)
variable {L step}
theorem runI_app (w : List Int) (x : Int) : ∀ s, runI step (w ++ [x]) s = step (runI step w s) x.toNat := by
  induction w with
  | nil => intro s; rfl
  | cons y w ih => intro s; exact ih _
/-- The words follow from where the states were found, and lead to them. -/
structure ParOK (step : Int → Nat → Int) (P : List (Int × Int)) (Wd : List (List Int)) (S : List Int) : Prop where
  lp : P.length = S.length
  lw : Wd.length = S.length
  at' : ∀ j, j < S.length → (P.getD j (0, 0) = (-1, 0) ∧ Wd.getD j [] = []) ∨ ∃ f c : Nat, P.getD j (0, 0) = ((f : Int), (c : Int)) ∧ f < j ∧ c ≤ 6 ∧ Wd.getD j [] = Wd.getD f [] ++ [(c : Int)]
  run : ∀ j, j < S.length → runI step (Wd.getD j []) 0 = S.getD j 0
theorem ParOK.snoc {P : List (Int × Int)} {Wd : List (List Int)} {S : List Int} (h : ParOK step P Wd S) {i c : Nat} (hi : i < S.length) (hc : c ≤ 6) {d : Int} (hd : d = step (S.getD i 0) c) :
    ParOK step (P ++ [((i : Int), (c : Int))]) (Wd ++ [Wd.getD i [] ++ [(c : Int)]]) (S ++ [d]) := by
  have gW : ∀ j, j < S.length → (Wd ++ [Wd.getD i [] ++ [(c : Int)]]).getD j [] = Wd.getD j [] := fun j hj => by simp [List.getD, List.getElem?_append, h.lw, hj]
  refine ⟨by simp [h.lp], by simp [h.lw], fun j hj => ?_, fun j hj => ?_⟩
  · by_cases e : j = S.length
    · subst e
      refine .inr ⟨i, c, ?_, hi, hc, ?_⟩
      · rw [← h.lp]; simp [List.getD]
      · rw [gW i hi, ← h.lw]; simp [List.getD]
    · have hj' : j < S.length := by simp at hj; omega
      have e1 : (P ++ [((i : Int), (c : Int))]).getD j (0, 0) = P.getD j (0, 0) := by simp [List.getD, List.getElem?_append, h.lp, hj']
      rw [e1, gW j hj']
      rcases h.at' j hj' with h1 | ⟨f, a, h1, h2, h3, h4⟩
      · exact .inl h1
      · exact .inr ⟨f, a, h1, h2, h3, by rw [gW f (by omega)]; exact h4⟩
  · by_cases e : j = S.length
    · subst e
      have e1 : (Wd ++ [Wd.getD i [] ++ [(c : Int)]]).getD S.length [] = Wd.getD i [] ++ [(c : Int)] := by rw [← h.lw]; simp [List.getD]
      have e2 : (S ++ [d]).getD S.length 0 = d := by simp [List.getD]
      rw [e1, e2, runI_app, h.run i hi, hd, Int.toNat_natCast]
    · have hj' : j < S.length := by simp at hj; omega
      have e2 : (S ++ [d]).getD j 0 = S.getD j 0 := by simp [List.getD, List.getElem?_append, hj']
      rw [gW j hj', e2]
      exact h.run j hj'
theorem ext_ok (hL : L ≤ 6) {i : Nat} (hi : i < (raw L step i).length) {P : List (Int × Int)} {Wd : List (List Int)} (h : ParOK step P Wd (raw L step i)) (c : Nat) (hc : c ≤ L) : ParOK step (extP L step i P c) (extW L step i Wd c) (part L step i c) ∧ (extW L step i Wd c).getD i [] = Wd.getD i [] := by
  induction c with
  | zero => exact ⟨h, rfl⟩
  | succ c ih =>
    obtain ⟨ih1, ih2⟩ := ih (by omega)
    have hip := part_get L step i c hi
    rw [extP, extW]
    by_cases hm : step ((raw L step i).getD i 0) c ∈ part L step i c
    · rw [if_pos hm, if_pos hm, part_old L step i c hm]
      exact ⟨ih1, ih2⟩
    · rw [if_neg hm, if_neg hm, (part_fresh L step i c hm).1, ← ih2]
      have hd : step ((raw L step i).getD i 0) c = step ((part L step i c).getD i 0) c := by
        have : (part L step i c).getD i 0 = (raw L step i).getD i 0 := hip.2
        rw [this]
      refine ⟨ih1.snoc hip.1 (by omega) hd, ?_⟩
      have hl := ih1.lw
      simp [List.getD, List.getElem?_append, hl, hip.1]
theorem raw_ok (hL : L ≤ 6) (i : Nat) : ParOK step (rawP L step i) (rawW L step i) (raw L step i) := by
  induction i with
  | zero =>
    refine ⟨rfl, rfl, fun j hj => ?_, fun j hj => ?_⟩
    · have hj0 : j < 1 := hj
      obtain rfl : j = 0 := by omega
      exact .inl ⟨rfl, rfl⟩
    · have hj0 : j < 1 := hj
      obtain rfl : j = 0 := by omega
      rfl
  | succ i ih =>
    rw [rawP, rawW]
    by_cases h : i < (raw L step i).length
    · rw [if_pos h, if_pos h, ← part_all i h]
      exact (ext_ok hL h ih L (Nat.le_refl _)).1
    · rw [if_neg h, if_neg h, raw_stop h]
      exact ih
theorem rawW_pre' {i j : Nat} (h : i ≤ j) : rawW L step i <+: rawW L step j := by
  induction j with
  | zero => obtain rfl : i = 0 := by omega
            exact List.prefix_refl _
  | succ j ih =>
    by_cases e : i = j + 1
    · subst e; exact List.prefix_refl _
    · exact (ih (by omega)).trans (rawW_pre j)
end
section
variable (m k : Mac)
noncomputable def parS : List Int := raw m.L.toNat (jnS m k) 5100
open Classical in
noncomputable def parI : Option Nat := if paiE m k = 0 then (List.range (parS m k).length).find? fun i => jnA wXor m k ((parS m k).getD i 0) else none
noncomputable def parB : Bool := (parI m k).isSome
noncomputable def parW : List Int := match parI m k with
  | some i => (rawW m.L.toNat (jnS m k) 5100).getD i []
  | none => []
variable {m k}
theorem parI_bad (h : paiE m k ≠ 0) : parI m k = none := by unfold parI; rw [if_neg h]
theorem par_bad (h : paiE m k ≠ 0) : parB m k = false ∧ parW m k = [] := by
  unfold parB parW
  rw [parI_bad h]
  exact ⟨rfl, rfl⟩
theorem find_range {n i : Nat} {p : Nat → Bool} (hi : i < n) (hp : p i = true) (hn : ∀ j, j < i → p j = false) : (List.range n).find? p = some i := by
  rw [List.find?_range_eq_some]
  exact ⟨hp, by simpa using hi, fun j hj => by rw [hn j hj]; rfl⟩
theorem parS_get {i j : Nat} (hi : i ≤ 5100) (hj : j < (raw m.L.toNat (jnS m k) i).length) : j < (parS m k).length ∧ (parS m k).getD j 0 = (raw m.L.toNat (jnS m k) i).getD j 0 := by
  have hp := raw_pre (L := m.L.toNat) (step := jnS m k) hi
  have h1 := hp.length_le
  refine ⟨by unfold parS; omega, ?_⟩
  have := pre_get' hp hj
  unfold parS
  simp [List.getD, this]
theorem par_hit {n i : Nat} (hE : paiE m k = 0) (hi : n ≤ 5100) (hl : i < (raw m.L.toNat (jnS m k) n).length) (hp : jnA wXor m k ((raw m.L.toNat (jnS m k) n).getD i 0) = true)
    (hn : ∀ j, j < i → jnA wXor m k ((raw m.L.toNat (jnS m k) n).getD j 0) = false) : parB m k = true ∧ parW m k = (rawW m.L.toNat (jnS m k) n).getD i [] := by
  have h0 : parI m k = some i := by
    unfold parI
    rw [if_pos hE]
    refine find_range (parS_get hi hl).1 ?_ fun j hj => ?_
    · rw [(parS_get hi hl).2]; exact hp
    · rw [(parS_get hi (by omega)).2]; exact hn j hj
  unfold parB parW
  rw [h0]
  refine ⟨rfl, ?_⟩
  have hl' : i < (rawW m.L.toNat (jnS m k) n).length := by rw [rawW_len]; exact hl
  have := pre_get' (rawW_pre' (L := m.L.toNat) (step := jnS m k) hi) hl'
  show (rawW m.L.toNat (jnS m k) 5100).getD i [] = _
  simp [List.getD, this]
theorem par_none {i : Nat} (hi : i ≤ 5100) (hl : ¬ i < (raw m.L.toNat (jnS m k) i).length) (hn : ∀ j, j < (raw m.L.toNat (jnS m k) i).length → jnA wXor m k ((raw m.L.toNat (jnS m k) i).getD j 0) = false) : parB m k = false ∧ parW m k = [] := by
  have e : parS m k = raw m.L.toNat (jnS m k) i := by
    unfold parS raw at *
    exact bfs_done _ _ (by omega) hi
  have h0 : parI m k = none := by
    unfold parI
    split
    · rw [List.find?_range_eq_none]
      intro j hj
      rw [e] at hj ⊢
      rw [hn j hj]
      rfl
    · rfl
  unfold parB parW
  rw [h0]
  exact ⟨rfl, rfl⟩
end

theorem mac_fits2 {m : Mac} (h : MacOK m) : ∃ F, Found (succL m.L.toNat) (langM m) F ∧ F.length ≤ 64 := by
  have hA := mac_auto h
  have hE := raw_end hA 5100 (raw_len hA 5100)
  refine ⟨forms (macL m) (stepM m) (accM m) (raw (macL m) (stepM m) 5100), forms_found (ac := accM m) hE, ?_⟩
  have h1 := forms_le (ac := accM m) hE
  have h2 := pigeon (bfs_nodup (stepsA (macL m) (stepM m)) 0 5100) (raw_in hA 5100)
  have h3 := h.n64
  unfold raw at *
  omega
theorem gn_fit2 {L : Nat} {la : Lang} {F : List Lang} (hF : Found (succL L) la F) (h64 : F.length ≤ 64) : gnE 0 L la = 0 ∧ gnM 0 L la = macOf L F := by
  have e := gnF_of hF
  unfold gnE gnM
  rw [e]
  simp [h64]
theorem langA_runI (L : Nat) (step : Int → Nat → Int) (ac : Int → Bool) (w : List Int) : ∀ s, (∀ x, x ∈ w → 0 ≤ x ∧ x < (L : Int)) → langA L step ac (w.map Int.toNat) s = ac (runI step w s) := by
  induction w with
  | nil => intro s _; rfl
  | cons x w ih =>
    intro s h
    have hx := h x (by simp)
    have e : decide (x.toNat < L) = true := decide_eq_true (by omega)
    show (decide (x.toNat < L) && langA L step ac (w.map Int.toNat) (step s x.toNat)) = _
    rw [e, Bool.true_and, ih _ (fun y hy => h y (by simp [hy]))]
    rfl
theorem langA_none {L : Nat} {step : Int → Nat → Int} {ac : Int → Bool} {S : List Int} (hE : EndOK L step S) (hn : ∀ i, i < S.length → ac (S.getD i 0) = false) (w : List Nat) : ∀ i, i < S.length → langA L step ac w (S.getD i 0) = false := by
  induction w with
  | nil => intro i hi; exact hn i hi
  | cons a w ih =>
    intro i hi
    simp only [langA]
    by_cases ha : a < L
    · have := ih _ (nxA_lt hE i a hi ha)
      rw [nxA_get hE i a hi ha] at this
      rw [this, Bool.and_false]
    · simp [ha]
theorem xor_eq {x y : Bool} : wXor x y = false ↔ x = y := by cases x <;> cases y <;> decide
section
variable {m k : Mac}
theorem par_gen (h : paiE m k = 0) {S : List Int} {Pp : List (Int × Int)} {Wd : List (List Int)} (hE : EndOK m.L.toNat (jnS m k) S) (P : ParOK (jnS m k) Pp Wd S) (hW : ∀ i, i < S.length → ∀ x, x ∈ Wd.getD i [] → 0 ≤ x ∧ x < (m.L.toNat : Int)) :
    ((List.range S.length).find? fun i => jnA wXor m k (S.getD i 0)).isSome = false ↔ langM m = langM k := by
  obtain ⟨hm, hk, hL⟩ := paiE_zero.1 h
  have h6 := hm.l6
  have hk1 : macL k = macL m := by unfold macL; rw [hL]
  constructor
  · intro hb
    have h0 : ((List.range S.length).find? fun i => jnA wXor m k (S.getD i 0)) = none := by
      cases e : ((List.range S.length).find? fun i => jnA wXor m k (S.getD i 0)) with
      | none => rfl
      | some i => rw [e] at hb; cases hb
    rw [List.find?_range_eq_none] at h0
    have hn : ∀ i, i < S.length → jnA wXor m k (S.getD i 0) = false := fun i hi => by
      have := h0 i hi
      simpa using this
    have hz := langA_none (ac := jnA wXor m k) hE hn
    funext w
    have g1 := langM_good m
    have g2 := langM_good k
    by_cases hw : ∀ a, a ∈ w → a < macL m
    · have e1 := jnL_at h wXor w hw
      have e2 := hz w 0 hE.pos
      rw [hE.z] at e2
      have e4 : jnL wXor m k w = false := e2
      rw [e4] at e1
      exact xor_eq.1 e1.symm
    · have hw' : ∃ a, a ∈ w ∧ macL m ≤ a := by
        simp only [Classical.not_forall] at hw
        obtain ⟨a, ha, hl⟩ := hw
        exact ⟨a, ha, by omega⟩
      rw [g1 w hw', g2 w (by rw [hk1]; exact hw')]
  · intro hl
    cases e : ((List.range S.length).find? fun i => jnA wXor m k (S.getD i 0)) with
    | none => rfl
    | some i =>
      exfalso
      rw [List.find?_range_eq_some] at e
      obtain ⟨e1, e2, _⟩ := e
      have hi : i < S.length := by simpa using e2
      have hr := P.run i hi
      have hw := hW i hi
      generalize Wd.getD i [] = wd at hr hw
      have e3 := langA_runI m.L.toNat (jnS m k) (jnA wXor m k) wd 0 hw
      rw [hr] at e3
      have e4 : jnL wXor m k (wd.map Int.toNat) = true := e3.trans e1
      rw [jnL_at h wXor _ (fun a ha => by
        obtain ⟨x, hx, rfl⟩ := List.mem_map.1 ha
        have := hw x hx
        unfold macL
        omega), hl] at e4
      rw [xor_eq.2 rfl] at e4
      cases e4
theorem par_lang (h : paiE m k = 0) : parB m k = false ↔ langM m = langM k := by
  obtain ⟨hm, hk, hL⟩ := paiE_zero.1 h
  have hA := jn_auto hm hk hL
  have h6 := hm.l6
  have hE : EndOK m.L.toNat (jnS m k) (parS m k) := by unfold parS; exact raw_end hA 5100 (raw_len hA 5100)
  obtain ⟨n5, hn5⟩ : ∃ n, n = 5100 := ⟨_, rfl⟩
  have hp : parS m k = raw m.L.toNat (jnS m k) n5 := by unfold parS; rw [hn5]
  clear hn5
  have P : ParOK (jnS m k) (rawP m.L.toNat (jnS m k) n5) (rawW m.L.toNat (jnS m k) n5) (parS m k) := by rw [hp]; exact raw_ok (by omega) n5
  have hW : ∀ i, i < (parS m k).length → ∀ x, x ∈ (rawW m.L.toNat (jnS m k) n5).getD i [] → 0 ≤ x ∧ x < (m.L.toNat : Int) := by
    rw [hp]
    intro i hi
    have hiw : i < (rawW m.L.toNat (jnS m k) n5).length := by rw [rawW_len]; exact hi
    exact (rawW_word (step := jnS m k) (L := m.L.toNat) (by omega) n5 ((rawW m.L.toNat (jnS m k) n5).getD i []) (by simp [List.getD, hiw])).2
  have := par_gen h hE P hW
  unfold parB parI
  rw [if_pos h]
  exact this
noncomputable def samB (m k : Mac) : Bool := decide (paiE m k = 0) && !parB m k
theorem same_forms (h : paiE m k = 0) : (gnE (valE m) (macL m) (langM m) = 0 ∧ gnE (valE k) (macL k) (langM k) = 0) ∧ samB m k = eqM (gnM (valE m) (macL m) (langM m)) (gnM (valE k) (macL k) (langM k)) := by
  obtain ⟨hm, hk, hL⟩ := paiE_zero.1 h
  have hk1 : macL k = macL m := by unfold macL; rw [hL]
  obtain ⟨F, hF, hF6⟩ := mac_fits2 hm
  obtain ⟨G, hG, hG6⟩ := mac_fits2 hk
  have f1 := gn_fit2 hF hF6
  have f2 := gn_fit2 hG hG6
  have v1 : valE m = 0 := valE_zero.2 hm
  have v2 : valE k = 0 := valE_zero.2 hk
  have f1a : gnE 0 (macL m) (langM m) = 0 := f1.1
  have f2a : gnE 0 (macL k) (langM k) = 0 := f2.1
  have f1b : gnM 0 (macL m) (langM m) = macOf (macL m) F := f1.2
  have f2b : gnM 0 (macL k) (langM k) = macOf (macL k) G := f2.2
  rw [v1, v2, f1a, f2a, f1b, f2b, hk1]
  refine ⟨⟨rfl, rfl⟩, ?_⟩
  have hl := par_lang h
  have hF' : Found (succL (macL m)) (langM m) F := hF
  have hG' : Found (succL (macL k)) (langM k) G := hG
  rw [hk1] at hG'
  unfold samB
  rw [decide_eq_true h, Bool.true_and]
  cases hb : parB m k with
  | false =>
    have e := hl.1 hb
    rw [← e] at hG'
    rw [found_unique _ _ hF' hG', eqM_self]
    rfl
  | true =>
    symm
    show eqM _ _ = false
    cases he : eqM (macOf (macL m) F) (macOf (macL m) G) with
    | false => rfl
    | true =>
      exfalso
      have e := of_decide_eq_true he
      have e1 := form_langM hF' (langM_good m)
      have e2 := form_langM hG' (hk1 ▸ langM_good k)
      have e3 : macOf (macL m) F = macOf (macL m) G := by
        obtain ⟨a1, a2, a3⟩ := e
        cases hx : macOf (macL m) F with
        | mk x1 x2 x3 =>
          cases hy : macOf (macL m) G with
          | mk y1 y2 y3 => rw [hx, hy] at a1 a2 a3; cases a1; cases a2; cases a3; rfl
      rw [e3, e2] at e1
      rw [hl.2 e1.symm] at hb
      cases hb
end
end Go.Proofs.Ytmllbemjcfkmjaa
