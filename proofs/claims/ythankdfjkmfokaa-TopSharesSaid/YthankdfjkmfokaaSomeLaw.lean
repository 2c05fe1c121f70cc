/- A part of what was divided among all is divided in the same way; plainly. -/
import Derived.Test.YthankdfjkmfokaaFairLaw
namespace Go.Proofs.Ythankdfjkmfokaa
open Go.RowKit
set_option linter.unusedSimpArgs false
set_option linter.unusedVariables false

/-- The numbers of the schools ss. -/
def sub (xs ss : List Int) : List Int := ss.map fun s => nth xs s.toNat
theorem sub_len (xs ss : List Int) : (sub xs ss).length = ss.length := by simp [sub]
theorem sub_at (xs ss : List Int) (j : Nat) (hj : j < ss.length) : nth (sub xs ss) j = nth xs (nth ss j).toNat := by
  simp [nth, sub, List.getD, hj]
/-- Schools in ascending order, each once. -/
structure SchsOK (xs ss : List Int) : Prop where
  one : 1 ≤ ss.length
  el : ∀ j, j < ss.length → 0 ≤ nth ss j ∧ nth ss j < xs.length
  up : ∀ j, j + 1 < ss.length → nth ss j < nth ss (j + 1)
theorem SchsOK.lt {xs ss : List Int} (h : SchsOK xs ss) {j k : Nat} (hk : k < ss.length) (hjk : j < k) : nth ss j < nth ss k := by
  induction k with
  | zero => omega
  | succ k ih =>
    have h1 := h.up k hk
    by_cases e : j = k
    · subst e; exact h1
    · have := ih (by omega) (by omega)
      omega
theorem SchsOK.ge {xs ss : List Int} (h : SchsOK xs ss) (j : Nat) (hj : j < ss.length) : (j : Int) ≤ nth ss j := by
  induction j with
  | zero => have := (h.el 0 hj).1; omega
  | succ j ih =>
    have := ih (by omega)
    have := h.up j hj
    omega
theorem SchsOK.len {xs ss : List Int} (h : SchsOK xs ss) : ss.length ≤ xs.length := by
  have h1 := h.one
  have h2 := h.ge (ss.length - 1) (by omega)
  have h3 := (h.el (ss.length - 1) (by omega)).2
  omega
theorem sub_ord {xs ss : List Int} (ho : OrdOK xs) (h : SchsOK xs ss) : OrdOK (sub xs ss) := by
  refine ⟨by rw [sub_len]; exact h.one, by rw [sub_len]; have := h.len; have := ho.l8; omega, fun d hd => ?_⟩
  rw [sub_len] at hd
  rw [sub_at xs ss d hd]
  have := h.el d hd
  exact ho.el _ (by omega)
theorem gt_asym {v a w b : Int} {i k : Nat} (h1 : COK v a) (h2 : COK w b) (g1 : gtC v a i w b k) (g2 : gtC w b k v a i) : False := by
  have := sz_anti h1 h2
  rcases g1 with g1 | ⟨g1, _⟩ <;> rcases g2 with g2 | ⟨g2, _⟩ <;> omega
theorem top_is {kd : Int} {xs ms : List Int} (ho : OrdOK xs) (hm : ∀ i, i < xs.length → 0 ≤ nth ms i) (c : Nat) (hc : c < xs.length)
    (h : ∀ i, i < xs.length → i ≠ c → gtC (nth xs c) (stp kd (nth ms c)) c (nth xs i) (stp kd (nth ms i)) i) : topI kd xs ms xs.length = c := by
  by_cases e : topI kd xs ms xs.length = c
  · exact e
  · exfalso
    have ht : topI kd xs ms xs.length < xs.length := by
      have := topI_lt kd xs ms xs.length
      omega
    have g := top_gt (kd := kd) ho hm xs.length (Nat.le_refl _) c hc (fun x => e x.symm)
    exact gt_asym (cok ho ht (hm _ ht)) (cok ho hc (hm _ hc)) g (h _ ht e)
theorem gt_num {v a w b : Int} {i k i' k' : Nat} (h : gtC v a i w b k) (hik : i < k → i' < k') : gtC v a i' w b k' := by
  rcases h with h | ⟨h, h'⟩
  · exact .inl h
  · exact .inr ⟨h, hik h'⟩
theorem sub_top {kd : Int} {xs ms ss : List Int} (ho : OrdOK xs) (hm : ∀ i, i < xs.length → 0 ≤ nth ms i) (h : SchsOK xs ss) (t : Nat) (ht : t < ss.length) (e : (nth ss t).toNat = topI kd xs ms xs.length) :
    topI kd (sub xs ss) (sub ms ss) ss.length = t := by
  have tg := top_gt (kd := kd) ho hm xs.length (Nat.le_refl _)
  rw [← sub_len xs ss]
  refine top_is (sub_ord ho h) (fun i hi => ?_) t (by rw [sub_len]; exact ht) (fun i hi hne => ?_)
  · rw [sub_len] at hi
    rw [sub_at ms ss i hi]
    have := h.el i hi
    exact hm _ (by omega)
  · rw [sub_len] at hi
    rw [sub_at xs ss t ht, sub_at ms ss t ht, sub_at xs ss i hi, sub_at ms ss i hi, e]
    have ei := h.el i hi
    have et := h.el t ht
    have hlt : t < i ∨ i < t := by omega
    have hne' : (nth ss i).toNat ≠ topI kd xs ms xs.length := by
      rw [← e]
      rcases hlt with hlt | hlt
      · have := h.lt hi hlt; omega
      · have := h.lt ht hlt; omega
    refine gt_num (tg _ (by omega) hne') fun hx => ?_
    rw [← e] at hx
    rcases hlt with hlt | hlt
    · exact hlt
    · have := h.lt ht hlt; omega
theorem nth_ext {xs ys : List Int} (hl : xs.length = ys.length) (h : ∀ i, i < xs.length → nth xs i = nth ys i) : xs = ys := by
  refine List.ext_getElem hl fun i h1 h2 => ?_
  have := h i h1
  simpa [nth, List.getD, h1, h2] using this
theorem sub_bump_in {ms ss : List Int} {xs : List Int} (h : SchsOK xs ss) (hl : ms.length = xs.length) (t : Nat) (ht : t < ss.length) : sub (bump ms (nth ss t).toNat) ss = bump (sub ms ss) t := by
  refine nth_ext (by simp [sub, bump]) fun i hi => ?_
  rw [sub_len] at hi
  have ei := h.el i hi
  have et := h.el t ht
  rw [sub_at _ _ _ hi, bump_at _ _ _ (by omega), bump_at _ _ _ (by rw [sub_len]; exact ht), sub_at _ _ _ hi, sub_at _ _ _ ht]
  by_cases e : i = t
  · subst e; rw [if_pos rfl, if_pos rfl]
  · rw [if_neg e, if_neg]
    have hlt : t < i ∨ i < t := by omega
    rcases hlt with hlt | hlt
    · have := h.lt hi hlt; omega
    · have := h.lt ht hlt; omega
theorem sub_bump_out {ms ss : List Int} {xs : List Int} (h : SchsOK xs ss) (hl : ms.length = xs.length) (c : Nat) (hc : c < xs.length) (hn : ∀ t, t < ss.length → (nth ss t).toNat ≠ c) : sub (bump ms c) ss = sub ms ss := by
  refine nth_ext (by simp [sub]) fun i hi => ?_
  rw [sub_len] at hi
  rw [sub_at _ _ _ hi, bump_at _ _ _ (by omega), sub_at _ _ _ hi, if_neg (hn i hi)]
theorem tot_bump (ms : List Int) (c : Nat) (hc : c < ms.length) : tot (bump ms c) = tot ms + 1 := by
  unfold tot
  rw [bump_len]
  exact sumTo_set _ _ c _ hc fun i => bump_at ms c i hc
theorem sumTo_zero (f : Nat → Int) (n : Nat) (h : ∀ d, d < n → f d = 0) : sumTo f n = 0 := by
  induction n with
  | zero => rfl
  | succ n ih => simp only [sumTo]; rw [ih fun d hd => h d (by omega), h n (by omega)]; rfl
/-- A part of what is divided among all is divided in the same way. -/
theorem some_sub (kd : Int) {xs ss : List Int} (ho : OrdOK xs) (h : SchsOK xs ss) (j : Nat) :
    ∃ k : Nat, k ≤ j ∧ tot (sub (giv kd xs j) ss) = k ∧ sub (giv kd xs j) ss = giv kd (sub xs ss) k := by
  have h1 := ho.l1
  induction j with
  | zero =>
    have e0 : ∀ i, i < ss.length → nth (sub (giv kd xs 0) ss) i = 0 := by
      intro i hi
      rw [sub_at _ _ _ hi]
      have := h.el i hi
      have hb := giv_bd (kd := kd) h1 0 (nth ss i).toNat (by omega)
      simp at hb
      omega
    refine ⟨0, Nat.le_refl _, ?_, ?_⟩
    · unfold tot
      rw [sub_len, sumTo_zero _ _ e0]; rfl
    · refine nth_ext (by rw [sub_len, giv_len, sub_len]) fun i hi => ?_
      rw [sub_len] at hi
      rw [e0 i hi]
      have hb := giv_bd (kd := kd) (xs := sub xs ss) (by rw [sub_len]; exact h.one) 0 i (by rw [sub_len]; exact hi)
      simp at hb
      omega
  | succ j ih =>
    obtain ⟨k, hk, ht, he⟩ := ih
    have hl := giv_len kd xs j
    have hc := got_lt (kd := kd) h1 j
    have hb := giv_bd (kd := kd) h1 j
    rw [giv_succ]
    by_cases hin : ∃ t, t < ss.length ∧ (nth ss t).toNat = got kd xs j
    · obtain ⟨t, htl, et⟩ := hin
      have top := sub_top (kd := kd) (ms := giv kd xs j) ho (fun i hi => (hb i hi).1) h t htl et
      rw [← et, sub_bump_in h hl t htl]
      refine ⟨k + 1, by omega, ?_, ?_⟩
      · rw [tot_bump _ _ (by rw [sub_len]; exact htl), ht]; push_cast; rfl
      · rw [giv_succ]
        have eg : got kd (sub xs ss) k = t := by
          unfold got
          rw [← he, sub_len]
          exact top
        rw [eg, he]
    · have hn : ∀ t, t < ss.length → (nth ss t).toNat ≠ got kd xs j := fun t ht e => hin ⟨t, ht, e⟩
      rw [sub_bump_out h hl _ hc hn]
      exact ⟨k, by omega, ht, he⟩
end Go.Proofs.Ythankdfjkmfokaa
