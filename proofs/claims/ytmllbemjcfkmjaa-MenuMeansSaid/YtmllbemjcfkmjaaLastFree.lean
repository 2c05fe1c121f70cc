/- A region that draws its order: a load may be taken first where a condition on the world holds behind every operation but one, k, which waits for it (the last store). -/
import Derived.OrdersHeld
namespace Go.Proofs.Ytmllbemjcfkmjaa
set_option linter.unusedVariables false
variable {P : Program} {ops : Array Oper} {Q : Exit → Act → World → Prop} {md : Region.Mode} {S : World → Prop} {k : Nat}

/-- Whatever order is picked, and S holds behind every operation but number k. -/
def anyBut (P : Program) (md : Region.Mode) (ops : Array Oper) (Q : Exit → Act → World → Prop) (S : World → Prop) (k : Nat) : Nat → Array Bool → Act → World → Prop
  | 0, l, a, w => Region.ready md ops l = [] ∧ Q .normal a w
  | n + 1, l, a, w => (Region.ready md ops l = [] → Q .normal a w) ∧
    ∀ i ∈ Region.ready md ops l, wpOp P ops Q i (fun a' w' => (i ≠ k → S w') ∧ anyBut P md ops Q S k n (l.setIfInBounds i true) a' w') a w
theorem any_of_but : ∀ (n : Nat) (l : Array Bool) (a : Act) (w : World), anyBut P md ops Q S k n l a w → wpAny P md ops Q n l a w
  | 0, _, _, _, h => h
  | n + 1, _, _, _, h => ⟨h.1, fun i hi => wpOp_mono (fun a' w' h' => any_of_but n _ a' w' h'.2) (h.2 i hi)⟩
/-- Operation k waits for operation i. -/
def waits (md : Region.Mode) (ops : Array Oper) (k i : Nat) : Bool := (ops[k]?).any fun o => o.after.toList.any fun e => Region.binds md e && e.on == i
theorem not_ready {i : Nat} {l : Array Bool} (hw : waits md ops k i = true) (hr : i ∈ Region.ready md ops l) : k ∉ Region.ready md ops l := by
  intro hk
  obtain ⟨_, o, ho, hall⟩ := mem_ready.1 hk
  have h0 := (mem_ready.1 hr).1
  unfold waits at hw
  rw [ho] at hw
  simp only [Option.any_some, List.any_eq_true, Bool.and_eq_true, beq_iff_eq] at hw
  obtain ⟨e, he, hb, rfl⟩ := hw
  have h1 := hall e (by simpa using he) hb
  rcases Nat.lt_or_ge e.on l.size with h' | h'
  · simp [h'] at h0 h1
    rw [h0] at h1
    cases h1
  · simp [Array.getElem?_eq_none h'] at h1
theorem but_first {i : Nat} {oi : Oper} {v : Value} (hi : ops[i]? = some oi) (hsel : ∀ (j : Nat) (o : Oper) cs b, ops[j]? = some o → o.op ≠ .select cs b)
    (hQ : ∀ c a w, Q (.panic c) (a.put oi.dst v) w → Q (.panic c) a w) (hk : waits md ops k i = true) (n : Nat) : ∀ (l : Array Bool) (a : Act) (w : World),
      (∀ j oj, ops[j]? = some oj → j ≠ i → l.getD j true = false → (∀ e ∈ oj.after, Region.binds md e = true → e.on ≠ i) → oi.apart ops oj = true) →
      i ∈ Region.ready md ops l → YieldsIf P ops S oi v a → S w → anyBut P md ops Q S k n (l.setIfInBounds i true) (a.put oi.dst v) w → anyBut P md ops Q S k (n + 1) l a w := by
  induction n with
  | zero =>
    intro l a w _ hr hy hS H
    refine ⟨fun h => absurd (h ▸ hr) (by simp), fun j hj => ?_⟩
    by_cases e : j = i
    · subst e
      exact hy.wpOp hi hS ⟨fun _ => hS, H⟩
    · have := ready_mono hj e
      rw [H.1] at this
      exact absurd this (by simp)
  | succ n ih =>
    intro l a w hfree hr hy hS H
    refine ⟨fun h => absurd (h ▸ hr) (by simp), fun j hj => ?_⟩
    by_cases e : j = i
    · subst e
      exact hy.wpOp hi hS ⟨fun _ => hS, H⟩
    · have hjk : j ≠ k := fun h => not_ready hk hr (h ▸ hj)
      obtain ⟨hun, oj, hoj, hall⟩ := mem_ready.1 hj
      have hno : ∀ e' ∈ oj.after, Region.binds md e' = true → e'.on ≠ i := fun e' he hb heq => by
        have h1 := hall e' he hb
        have h0 := (mem_ready.1 hr).1
        rw [heq] at h1
        rcases Nat.lt_or_ge i l.size with h' | h'
        · simp [h'] at h0 h1
          rw [h0] at h1
          cases h1
        · simp [Array.getElem?_eq_none h'] at h1
      have h2 := wpOp_putIf hoj (hfree j oj hoj e hun hno) (fun cs b => hsel i oi cs b hi) (fun cs b => hsel j oj cs b hoj) hQ hy (H.2 j (ready_mono hj e))
      refine wpOp_mono (fun a' w' h3 => ⟨h3.2.1, ih _ a' w' (fun m om hm hmi hml hmn => hfree m om hm hmi ?_ hmn) (ready_mono hr (Ne.symm e)) h3.1 (h3.2.1 hjk) ?_⟩) h2
      · by_cases hjm : j = m
        · subst hjm; exact hun
        · rw [getD_set_ne true hjm] at hml; exact hml
      · rw [Array.setIfInBounds_comm _ _ e]
        exact h3.2.2
theorem but_take {i : Nat} {oi : Oper} {v : Value} {n : Nat} {l : Array Bool} {a : Act} {w : World} (hi : ops[i]? = some oi) (hs : Region.noSelect ops = true) (hf : Region.free md ops l i = true)
    (hr : (Region.ready md ops l).contains i = true) (hk : waits md ops k i = true) (hQ : ∀ c a w, Q (.panic c) (a.put oi.dst v) w → Q (.panic c) a w) (hy : YieldsIf P ops S oi v a) (hS : S w)
    (h : anyBut P md ops Q S k n (l.setIfInBounds i true) (a.put oi.dst v) w) : anyBut P md ops Q S k (n + 1) l a w :=
  but_first hi (Region.noSelect_spec hs) hQ hk n l a w (Region.free_spec hi hf) (by simpa using hr) hy hS h
theorem but_one {i : Nat} {n : Nat} {l : Array Bool} {a : Act} {w : World} (hr : Region.ready md ops l = [i]) (h : wpOp P ops Q i (fun a' w' => (i ≠ k → S w') ∧ anyBut P md ops Q S k n (l.setIfInBounds i true) a' w') a w) :
    anyBut P md ops Q S k (n + 1) l a w := by
  unfold anyBut
  refine ⟨fun h0 => by rw [hr] at h0; exact absurd h0 (by simp), fun j hj => ?_⟩
  rw [hr] at hj
  obtain rfl : j = i := by simpa using hj
  exact h
theorem but_done {l : Array Bool} {a : Act} {w : World} (hr : Region.ready md ops l = []) (h : Q .normal a w) : ∀ n, anyBut P md ops Q S k n l a w
  | 0 => ⟨hr, h⟩
  | n + 1 => ⟨fun _ => h, fun j hj => by rw [hr] at hj; cases hj⟩
theorem wp_region_but {id : Nat} {a : Act} {w : World} (S : World → Prop) (k : Nat) (hm : P.follows .mixedOrders = true)
    (h : anyBut P .any ops Q S k ops.size (Array.replicate ops.size false) a { w with drawn := w.drawn + 1 }) : (Code.region id ops true).wp P Q a w :=
  wp_region_any hm (any_of_but _ _ _ _ h)
end Go.Proofs.Ytmllbemjcfkmjaa
