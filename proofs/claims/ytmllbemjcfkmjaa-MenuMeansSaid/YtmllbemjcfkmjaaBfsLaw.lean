/- What is found in the order of its finding, and names by first places; plainly. -/
import Derived.Test.YtmllbemjcfkmjaaBase
namespace Go.Proofs.Ytmllbemjcfkmjaa
set_option linter.unusedSimpArgs false
set_option linter.unusedVariables false
set_option linter.unusedSectionVars false

section
variable {α β : Type} [DecidableEq α] [DecidableEq β]
def vis (S : List α) (x : α) : List α := if x ∈ S then S else S ++ [x]
def visL (S : List α) : List α → List α
  | [] => S
  | x :: l => visL (vis S x) l
def nub (l : List α) : List α := visL [] l
def idx : List α → α → Nat
  | [], _ => 0
  | y :: t, x => if y = x then 0 else idx t x + 1
theorem vis_mem (S : List α) (x : α) (h : x ∈ S) : vis S x = S := by rw [vis, if_pos h]
theorem vis_new (S : List α) (x : α) (h : x ∉ S) : vis S x = S ++ [x] := by rw [vis, if_neg h]
theorem mem_vis {S : List α} {x y : α} : y ∈ vis S x ↔ y ∈ S ∨ y = x := by
  by_cases h : x ∈ S
  · rw [vis_mem S x h]
    exact ⟨.inl, fun h' => h'.elim id fun e => e ▸ h⟩
  · rw [vis_new S x h]; simp
theorem mem_visL {l : List α} : ∀ {S : List α} {y : α}, y ∈ visL S l ↔ y ∈ S ∨ y ∈ l := by
  induction l with
  | nil => intro S y; simp [visL]
  | cons x l ih =>
    intro S y
    rw [visL, ih, mem_vis, List.mem_cons]
    exact or_assoc
theorem visL_append (S l m : List α) : visL S (l ++ m) = visL (visL S l) m := by
  induction l generalizing S with
  | nil => rfl
  | cons x l ih => simp only [List.cons_append, visL]; exact ih _
theorem visL_snoc (S l : List α) (x : α) : visL S (l ++ [x]) = vis (visL S l) x := by rw [visL_append]; rfl
theorem visL_sub (S l : List α) (h : ∀ x, x ∈ l → x ∈ S) : visL S l = S := by
  induction l with
  | nil => rfl
  | cons x l ih => rw [visL, vis_mem S x (h x (by simp))]; exact ih fun y hy => h y (by simp [hy])
theorem vis_pre (S : List α) (x : α) : S <+: vis S x := by
  by_cases h : x ∈ S
  · rw [vis_mem S x h]; exact List.prefix_refl _
  · rw [vis_new S x h]; exact List.prefix_append _ _
theorem visL_pre (S l : List α) : S <+: visL S l := by
  induction l generalizing S with
  | nil => exact List.prefix_refl _
  | cons x l ih => exact (vis_pre S x).trans (ih _)
theorem vis_nodup {S : List α} (h : S.Nodup) (x : α) : (vis S x).Nodup := by
  by_cases hx : x ∈ S
  · rw [vis_mem S x hx]; exact h
  · rw [vis_new S x hx, List.nodup_append]
    refine ⟨h, by simp, ?_⟩
    intro a ha b hb e
    simp at hb
    subst hb
    exact hx (e ▸ ha)
theorem visL_nodup {S : List α} (h : S.Nodup) (l : List α) : (visL S l).Nodup := by
  induction l generalizing S with
  | nil => exact h
  | cons x l ih => exact ih (vis_nodup h x)
theorem nub_nodup (l : List α) : (nub l).Nodup := visL_nodup (by simp) l
theorem mem_nub {l : List α} {x : α} : x ∈ nub l ↔ x ∈ l := by unfold nub; rw [mem_visL]; simp
theorem nub_snoc (l : List α) (x : α) : nub (l ++ [x]) = vis (nub l) x := visL_snoc _ _ _
theorem idx_lt {S : List α} {x : α} (h : x ∈ S) : idx S x < S.length := by
  induction S with
  | nil => cases h
  | cons y t ih =>
    simp only [idx, List.length_cons]
    split
    · omega
    · rename_i hne
      have := ih ((List.mem_cons.1 h).resolve_left fun e => hne e.symm)
      omega
theorem get_idx {S : List α} {x : α} (h : x ∈ S) : S[idx S x]? = some x := by
  induction S with
  | nil => cases h
  | cons y t ih =>
    simp only [idx]
    split
    · rename_i e; simp [e]
    · rename_i hne
      simpa using ih ((List.mem_cons.1 h).resolve_left fun e => hne e.symm)
theorem idx_app_mem {S T : List α} {x : α} (h : x ∈ S) : idx (S ++ T) x = idx S x := by
  induction S with
  | nil => cases h
  | cons y t ih =>
    simp only [List.cons_append, idx]
    split
    · rfl
    · rename_i hne
      rw [ih ((List.mem_cons.1 h).resolve_left fun e => hne e.symm)]
theorem idx_app_new {S : List α} {x : α} (h : x ∉ S) : idx (S ++ [x]) x = S.length := by
  induction S with
  | nil => simp [idx]
  | cons y t ih =>
    simp only [List.cons_append, idx]
    rw [if_neg fun e => h (by simp [e]), ih fun h' => h (by simp [h'])]
    rfl
theorem idx_pre {S T : List α} {x : α} (hp : S <+: T) (h : x ∈ S) : idx T x = idx S x := by
  obtain ⟨r, rfl⟩ := hp
  exact idx_app_mem h
theorem idx_inj {S : List α} {x y : α} (hx : x ∈ S) (hy : y ∈ S) (h : idx S x = idx S y) : x = y := by
  have h1 := get_idx hx
  have h2 := get_idx hy
  rw [h] at h1
  rw [h1] at h2
  exact Option.some.inj h2
theorem idx_get {S : List α} (hn : S.Nodup) {i : Nat} {x : α} (h : S[i]? = some x) : idx S x = i := by
  obtain ⟨hi, e⟩ := List.getElem?_eq_some_iff.1 h
  have hx : x ∈ S := e ▸ List.getElem_mem hi
  have h1 := get_idx hx
  obtain ⟨hj, e2⟩ := List.getElem?_eq_some_iff.1 h1
  have hp := List.pairwise_iff_getElem.1 hn
  by_cases h1 : idx S x < i
  · exact absurd (by rw [e2, e]) (hp _ _ hj hi h1)
  · by_cases h2 : i < idx S x
    · exact absurd (by rw [e2, e]) (hp _ _ hi hj h2)
    · omega
theorem pre_get {S T : List α} (hp : S <+: T) {i : Nat} {x : α} (h : S[i]? = some x) : T[i]? = some x := by
  obtain ⟨r, rfl⟩ := hp
  have hi := (List.getElem?_eq_some_iff.1 h).1
  rw [List.getElem?_append_left hi]
  exact h
theorem pre_get' {S T : List α} (hp : S <+: T) {i : Nat} (h : i < S.length) : T[i]? = S[i]? := by
  rw [List.getElem?_eq_getElem h]
  exact pre_get hp (List.getElem?_eq_getElem h)

/-! ### the order of finding -/
def bfs (succ : α → List α) (s0 : α) : Nat → List α
  | 0 => [s0]
  | i + 1 => match (bfs succ s0 i)[i]? with
    | none => bfs succ s0 i
    | some s => visL (bfs succ s0 i) (succ s)
variable (succ : α → List α) (s0 : α)
theorem bfs_stop (i : Nat) (h : (bfs succ s0 i).length ≤ i) : bfs succ s0 (i + 1) = bfs succ s0 i := by
  have e : (bfs succ s0 i)[i]? = none := List.getElem?_eq_none h
  simp only [bfs, e]
theorem bfs_step (i : Nat) (s : α) (h : (bfs succ s0 i)[i]? = some s) : bfs succ s0 (i + 1) = visL (bfs succ s0 i) (succ s) := by
  simp only [bfs, h]
theorem bfs_pre1 (i : Nat) : bfs succ s0 i <+: bfs succ s0 (i + 1) := by
  cases e : (bfs succ s0 i)[i]? with
  | none => rw [bfs_stop succ s0 i (List.getElem?_eq_none_iff.1 e)]; exact List.prefix_refl _
  | some s => rw [bfs_step succ s0 i s e]; exact visL_pre _ _
theorem bfs_pre {i j : Nat} (h : i ≤ j) : bfs succ s0 i <+: bfs succ s0 j := by
  induction j with
  | zero => have : i = 0 := by omega
            subst this; exact List.prefix_refl _
  | succ j ih =>
    by_cases e : i = j + 1
    · subst e; exact List.prefix_refl _
    · exact (ih (by omega)).trans (bfs_pre1 succ s0 j)
theorem bfs_done {i j : Nat} (h : (bfs succ s0 i).length ≤ i) (hj : i ≤ j) : bfs succ s0 j = bfs succ s0 i := by
  induction j with
  | zero => have : i = 0 := by omega
            subst this; rfl
  | succ j ih =>
    by_cases e : i = j + 1
    · subst e; rfl
    · have ih := ih (by omega)
      rw [bfs_stop succ s0 j (by rw [ih]; omega), ih]
theorem bfs_nodup (i : Nat) : (bfs succ s0 i).Nodup := by
  induction i with
  | zero => simp [bfs]
  | succ i ih =>
    cases e : (bfs succ s0 i)[i]? with
    | none => rw [bfs_stop succ s0 i (List.getElem?_eq_none_iff.1 e)]; exact ih
    | some s => rw [bfs_step succ s0 i s e]; exact visL_nodup ih _
theorem bfs_first (i : Nat) : (bfs succ s0 i)[0]? = some s0 := pre_get (bfs_pre succ s0 (Nat.zero_le i)) (by simp [bfs])
theorem bfs_closed (i k : Nat) (hk : k < i) (s : α) (h : (bfs succ s0 i)[k]? = some s) : ∀ y, y ∈ succ s → y ∈ bfs succ s0 i := by
  intro y hy
  have hp := bfs_pre succ s0 (show k + 1 ≤ i by omega)
  refine List.IsPrefix.subset hp ?_
  by_cases hkl : k < (bfs succ s0 k).length
  · have e : (bfs succ s0 k)[k]? = some s := by rw [← pre_get' (bfs_pre succ s0 (show k ≤ i by omega)) hkl]; exact h
    rw [bfs_step succ s0 k s e, mem_visL]
    exact .inr hy
  · have := bfs_done succ s0 (i := k) (j := i) (by omega) (by omega)
    rw [this, List.getElem?_eq_none (by omega)] at h
    cases h
theorem bfs_in (D : α → Prop) (h0 : D s0) (hs : ∀ s, D s → ∀ y, y ∈ succ s → D y) (i : Nat) : ∀ x, x ∈ bfs succ s0 i → D x := by
  induction i with
  | zero => intro x hx; simp [bfs] at hx; exact hx ▸ h0
  | succ i ih =>
    cases e : (bfs succ s0 i)[i]? with
    | none => rw [bfs_stop succ s0 i (List.getElem?_eq_none_iff.1 e)]; exact ih
    | some s =>
      rw [bfs_step succ s0 i s e]
      intro x hx
      rcases mem_visL.1 hx with h | h
      · exact ih x h
      · exact hs s (ih s (List.mem_of_getElem? e)) x h
/-- F is all that is found, in the order of its finding. -/
def Found (F : List α) : Prop := ∃ i, F = bfs succ s0 i ∧ F.length ≤ i
theorem found_unique {F G : List α} (h1 : Found succ s0 F) (h2 : Found succ s0 G) : F = G := by
  obtain ⟨i, rfl, hi⟩ := h1
  obtain ⟨j, rfl, hj⟩ := h2
  by_cases h : i ≤ j
  · exact (bfs_done succ s0 hi h).symm
  · exact bfs_done succ s0 hj (by omega)
end

section
variable {α β : Type} [DecidableEq α] [DecidableEq β]
theorem nub_vis (f : α → β) (S : List α) (x : α) : nub ((vis S x).map f) = vis (nub (S.map f)) (f x) := by
  by_cases h : x ∈ S
  · rw [vis_mem S x h, vis_mem _ _ (mem_nub.2 (List.mem_map_of_mem h))]
  · rw [vis_new S x h, List.map_append]
    exact nub_snoc _ _
theorem nub_visL (f : α → β) (l : List α) : ∀ S : List α, nub ((visL S l).map f) = visL (nub (S.map f)) (l.map f) := by
  induction l with
  | nil => intro S; rfl
  | cons x l ih => intro S; rw [visL, ih, nub_vis]; rfl
/-- The labels of what is found, each once, are what is found among the labels. -/
theorem bfs_label (f : α → β) (succ : α → List α) (succ' : β → List β) (s0 : α) (hs : ∀ i s, (bfs succ s0 i)[i]? = some s → succ' (f s) = (succ s).map f) (hs2 : ∀ i s, s ∈ bfs succ s0 i → succ' (f s) = (succ s).map f) (i : Nat) (hi : i ≤ (bfs succ s0 i).length) :
    nub ((bfs succ s0 i).map f) = bfs succ' (f s0) (nub (((bfs succ s0 i).take i).map f)).length := by
  induction i with
  | zero => simp [bfs, nub, visL, vis]
  | succ i ih =>
    have hil : i < (bfs succ s0 i).length := by
      by_cases h : i < (bfs succ s0 i).length
      · exact h
      · have := bfs_stop succ s0 i (by omega)
        rw [this] at hi
        omega
    have ih := ih (by omega)
    have e : (bfs succ s0 i)[i]? = some (bfs succ s0 i)[i] := List.getElem?_eq_getElem hil
    have st := bfs_step succ s0 i _ e
    have hp := bfs_pre1 succ s0 i
    have tk : (bfs succ s0 (i + 1)).take (i + 1) = (bfs succ s0 i).take i ++ [(bfs succ s0 i)[i]] := by
      obtain ⟨r, hr⟩ := hp
      rw [← hr, List.take_append_of_le_length (by omega), List.take_succ_eq_append_getElem hil]
    have hsm := hs2 i _ (List.getElem_mem hil)
    rw [tk, List.map_append, List.map_cons, List.map_nil, nub_snoc, st, nub_visL, ih, ← hsm]
    generalize hx : (bfs succ s0 i)[i] = x at *
    generalize hT : nub (((bfs succ s0 i).take i).map f) = T at *
    by_cases hm : f x ∈ T
    · rw [vis_mem _ _ hm]
      refine visL_sub _ _ fun y hy => ?_
      rw [← ih]
      rw [← hT] at hm
      obtain ⟨z, hz, hfz⟩ := List.mem_map.1 (mem_nub.1 hm)
      obtain ⟨k, hk, hk2⟩ := List.getElem_of_mem hz
      have hk3 : k < i := by simp at hk; omega
      have hzk : (bfs succ s0 i)[k]? = some z := by
        rw [List.getElem_take] at hk2
        rw [← hk2]
        exact List.getElem?_eq_getElem (by omega)
      have hcl := bfs_closed succ s0 i k hk3 z hzk
      have hsz := hs2 i z (List.mem_of_getElem? hzk)
      rw [← hfz, hsz] at hy
      obtain ⟨u, hu, rfl⟩ := List.mem_map.1 hy
      exact mem_nub.2 (List.mem_map_of_mem (hcl u hu))
    · rw [vis_new _ _ hm, List.length_append]
      have ek : (bfs succ' (f s0) T.length)[T.length]? = some (f x) := by
        rw [← ih]
        have e2 : bfs succ s0 i = (bfs succ s0 i).take i ++ (x :: (bfs succ s0 i).drop (i + 1)) := by
          rw [← hx, List.getElem_cons_drop, List.take_append_drop]
        rw [e2, List.map_append, List.map_cons]
        have e3 : nub (((bfs succ s0 i).take i).map f ++ f x :: ((bfs succ s0 i).drop (i + 1)).map f) = visL (T ++ [f x]) (((bfs succ s0 i).drop (i + 1)).map f) := by
          unfold nub at hT ⊢
          rw [visL_append, hT, visL, vis_new _ _ hm]
        rw [e3]
        exact pre_get (visL_pre _ _) (by simp)
      exact (bfs_step succ' (f s0) T.length (f x) ek).symm
theorem found_label (f : α → β) (succ : α → List α) (succ' : β → List β) (s0 : α) {F : List α} (hF : Found succ s0 F) (hs : ∀ s, s ∈ F → succ' (f s) = (succ s).map f) : Found succ' (f s0) (nub (F.map f)) := by
  obtain ⟨i, rfl, hi⟩ := hF
  -- the first round behind which nothing is left
  have key : ∀ n i, i ≤ n → (bfs succ s0 i).length ≤ i → ∃ j, j ≤ (bfs succ s0 j).length ∧ (bfs succ s0 j).length ≤ j ∧ bfs succ s0 j = bfs succ s0 i := by
    intro n
    induction n with
    | zero =>
      intro i h0 hi
      have : i = 0 := by omega
      subst this
      simp [bfs] at hi
    | succ n ih =>
      intro i h0 hi
      by_cases e : i ≤ (bfs succ s0 i).length
      · exact ⟨i, e, hi, rfl⟩
      · obtain ⟨k, rfl⟩ : ∃ k, i = k + 1 := ⟨i - 1, by omega⟩
        have hk : (bfs succ s0 k).length ≤ k := by
          have hp := (bfs_pre1 succ s0 k).length_le
          omega
        obtain ⟨j, h1, h2, h3⟩ := ih k (by omega) hk
        exact ⟨j, h1, h2, h3.trans (bfs_stop succ s0 k hk).symm⟩
  obtain ⟨j, h1, h2, h3⟩ := key i i (Nat.le_refl _) hi
  rw [← h3] at hs ⊢
  have hm := bfs_label f succ succ' s0 (fun k s h => ?_) (fun k s h => ?_) j h1
  · refine ⟨_, hm, ?_⟩
    rw [List.take_of_length_le h2]
    exact Nat.le_refl _
  all_goals
    refine hs s ?_
    by_cases hkj : k ≤ j
    · exact List.IsPrefix.subset (bfs_pre succ s0 hkj) (by first | exact h | exact List.mem_of_getElem? h)
    · rw [bfs_done succ s0 h2 (show j ≤ k by omega)] at h
      first | exact h | exact List.mem_of_getElem? h
/-- Names by first places hang on who is like whom alone. -/
def nubN (h : Nat → α) (n : Nat) : List α := nub ((List.range n).map h)
theorem nubN_succ (h : Nat → α) (n : Nat) : nubN h (n + 1) = vis (nubN h n) (h n) := by
  unfold nubN
  rw [List.range_succ, List.map_append]
  exact nub_snoc _ _
theorem mem_nubN (h : Nat → α) (n : Nat) (x : α) : x ∈ nubN h n ↔ ∃ i, i < n ∧ h i = x := by
  unfold nubN
  rw [mem_nub]
  simp
theorem nubN_pre (h : Nat → α) {m n : Nat} (hmn : m ≤ n) : nubN h m <+: nubN h n := by
  induction n with
  | zero => have : m = 0 := by omega
            subst this; exact List.prefix_refl _
  | succ n ih =>
    by_cases e : m = n + 1
    · subst e; exact List.prefix_refl _
    · rw [nubN_succ]; exact (ih (by omega)).trans (vis_pre _ _)
theorem nubN_le (h : Nat → α) (n : Nat) : (nubN h n).length ≤ n := by
  induction n with
  | zero => simp [nubN, nub, visL]
  | succ n ih =>
    rw [nubN_succ]
    by_cases e : h n ∈ nubN h n
    · rw [vis_mem _ _ e]; omega
    · rw [vis_new _ _ e, List.length_append]; simp; omega
def cname (h : Nat → α) (n i : Nat) : Nat := idx (nubN h n) (h i)
theorem cname_lt (h : Nat → α) {n i : Nat} (hi : i < n) : cname h n i < (nubN h n).length := idx_lt ((mem_nubN h n _).2 ⟨i, hi, rfl⟩)
theorem cname_eq (h : Nat → α) {n i j : Nat} (hi : i < n) (hj : j < n) : cname h n i = cname h n j ↔ h i = h j :=
  ⟨fun e => idx_inj ((mem_nubN h n _).2 ⟨i, hi, rfl⟩) ((mem_nubN h n _).2 ⟨j, hj, rfl⟩) e, fun e => by unfold cname; rw [e]⟩
theorem cname_more (h : Nat → α) {m n i : Nat} (hi : i < m) (hmn : m ≤ n) : cname h n i = cname h m i := idx_pre (nubN_pre h hmn) ((mem_nubN h m _).2 ⟨i, hi, rfl⟩)
theorem nub_alike (h : Nat → α) (g : Nat → β) (n : Nat) (hg : ∀ i j, i < n → j < n → (h i = h j ↔ g i = g j)) : (nubN h n).length = (nubN g n).length ∧ ∀ i, i < n → cname h n i = cname g n i := by
  induction n with
  | zero => exact ⟨rfl, fun i hi => absurd hi (Nat.not_lt_zero i)⟩
  | succ n ih =>
    obtain ⟨h1, h2⟩ := ih fun i j hi hj => hg i j (by omega) (by omega)
    have old : ∀ i, i < n → cname h (n + 1) i = cname g (n + 1) i := fun i hi => by
      rw [cname_more h hi (Nat.le_succ n), cname_more g hi (Nat.le_succ n)]; exact h2 i hi
    by_cases e : h n ∈ nubN h n
    · obtain ⟨k, hk, he⟩ := (mem_nubN h n _).1 e
      have ge : g k = g n := (hg k n (by omega) (by omega)).1 he
      have e2 : g n ∈ nubN g n := (mem_nubN g n _).2 ⟨k, hk, ge⟩
      refine ⟨by rw [nubN_succ, nubN_succ, vis_mem _ _ e, vis_mem _ _ e2]; exact h1, fun i hi => ?_⟩
      by_cases hin : i = n
      · subst hin
        rw [← (cname_eq h (show k < i + 1 by omega) (show i < i + 1 by omega)).2 he, ← (cname_eq g (show k < i + 1 by omega) (show i < i + 1 by omega)).2 ge]
        exact old k hk
      · exact old i (by omega)
    · have e2 : g n ∉ nubN g n := fun hm => by
        obtain ⟨k, hk, he⟩ := (mem_nubN g n _).1 hm
        exact e ((mem_nubN h n _).2 ⟨k, hk, (hg k n (by omega) (by omega)).2 he⟩)
      refine ⟨by rw [nubN_succ, nubN_succ, vis_new _ _ e, vis_new _ _ e2, List.length_append, List.length_append, h1]; rfl, fun i hi => ?_⟩
      by_cases hin : i = n
      · subst hin
        unfold cname
        rw [nubN_succ, nubN_succ, vis_new _ _ e, vis_new _ _ e2, idx_app_new e, idx_app_new e2, h1]
      · exact old i (by omega)
/-- A finer parting has no fewer parts; if it has as many, it is no finer. -/
theorem nub_finer (h : Nat → α) (g : Nat → β) (n : Nat) (hg : ∀ i j, i < n → j < n → h i = h j → g i = g j) :
    (nubN g n).length ≤ (nubN h n).length ∧ ((nubN g n).length = (nubN h n).length → ∀ i j, i < n → j < n → g i = g j → h i = h j) := by
  induction n with
  | zero => exact ⟨Nat.le_refl _, fun _ i j hi => absurd hi (Nat.not_lt_zero i)⟩
  | succ n ih =>
    obtain ⟨h1, h2⟩ := ih fun i j hi hj => hg i j (by omega) (by omega)
    by_cases e : h n ∈ nubN h n
    · obtain ⟨k, hk, he⟩ := (mem_nubN h n _).1 e
      have ge : g k = g n := hg k n (by omega) (by omega) he
      have e2 : g n ∈ nubN g n := (mem_nubN g n _).2 ⟨k, hk, ge⟩
      rw [nubN_succ, nubN_succ, vis_mem _ _ e, vis_mem _ _ e2]
      refine ⟨h1, fun heq => ?_⟩
      have h2 := h2 heq
      have toN : ∀ i, i < n → g i = g n → h i = h n := fun i hi hgi => (h2 i k hi hk (hgi.trans ge.symm)).trans he
      intro i j hi hj hgij
      by_cases hin : i = n
      · by_cases hjn : j = n
        · rw [hin, hjn]
        · subst hin; exact (toN j (by omega) hgij.symm).symm
      · by_cases hjn : j = n
        · subst hjn; exact toN i (by omega) hgij
        · exact h2 i j (by omega) (by omega) hgij
    · rw [nubN_succ h, vis_new _ _ e, List.length_append]
      by_cases e2 : g n ∈ nubN g n
      · rw [nubN_succ g, vis_mem _ _ e2]
        refine ⟨by simp; omega, fun heq => ?_⟩
        simp at heq
        omega
      · rw [nubN_succ g, vis_new _ _ e2, List.length_append]
        refine ⟨by simp; omega, fun heq => ?_⟩
        have h2 := h2 (by simp at heq; omega)
        have no : ∀ i, i < n → g i ≠ g n := fun i hi hh => e2 ((mem_nubN g n _).2 ⟨i, hi, hh⟩)
        intro i j hi hj hgij
        by_cases hin : i = n
        · by_cases hjn : j = n
          · rw [hin, hjn]
          · subst hin; exact absurd hgij.symm (no j (by omega))
        · by_cases hjn : j = n
          · subst hjn; exact absurd hgij (no i (by omega))
          · exact h2 i j (by omega) (by omega) hgij
end
end Go.Proofs.Ytmllbemjcfkmjaa
