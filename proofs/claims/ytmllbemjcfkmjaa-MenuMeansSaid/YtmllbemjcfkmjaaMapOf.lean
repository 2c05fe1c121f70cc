/- A map that a call makes and fills with new keys, as a function of its keys. -/
import Derived.Test.YtmllbemjcfkmjaaMem
import Derived.Maps.OwnSet
namespace Go.Proofs.Ytmllbemjcfkmjaa
open Go.RowKit Go.Maps Go.ChangeMaps
set_option linter.unusedSimpArgs false
set_option linter.unusedVariables false

/-- Block b is a map of n entries: at a key x it holds g x. -/
def MapOf (P : Program) (k : TypeId) (w : World) (b n : Nat) (g : Value → Option Value) : Prop :=
  ∃ es clock, w.heap[b]? = some (.map es clock) ∧ es.size = n ∧ (∀ e ∈ es.toList, ∃ l, keyOf P k e.key = some l) ∧ (∀ e ∈ es.toList, g e.key = some e.val) ∧ (∀ x v, g x = some v → ∃ e ∈ es.toList, e.key = x)
section
variable {P : Program} {k : TypeId} {w : World} {b n : Nat} {g : Value → Option Value}
theorem mapOf_new (P : Program) (k : TypeId) (w : World) : MapOf P k (w.alloc (.map #[] 0)) w.heap.size 0 (fun _ => none) :=
  ⟨#[], 0, (MapKept.heap_alloc w _).1, rfl, by simp, by simp, fun x v h => by cases h⟩
theorem MapOf.congr (h : MapOf P k w b n g) {g' : Value → Option Value} (e : ∀ x, g x = g' x) : MapOf P k w b n g' := by
  have : g = g' := funext e
  exact this ▸ h
theorem MapOf.of_block {w' : World} (h : MapOf P k w b n g) (e : w'.heap[b]? = w.heap[b]?) : MapOf P k w' b n g := by
  obtain ⟨es, clock, hb, r⟩ := h
  exact ⟨es, clock, e.trans hb, r⟩
theorem MapOf.lt (h : MapOf P k w b n g) : b < w.heap.size := by
  obtain ⟨es, clock, hb, _⟩ := h
  exact (Array.getElem?_eq_some_iff.1 hb).1
theorem MapOf.below {w' : World} {B : Nat} (h : MapOf P k w b n g) (hb : Below B w w') (hB : b < B) : MapOf P k w' b n g := h.of_block (hb.block b hB)
/-- No row of cells is a map's block. -/
theorem MapOf.own_ne (h : MapOf P k w b n g) {B : Nat} {e : TypeId} {size m : Nat} {v : Value} {xs : List Value} (ho : w.ownsRow B e size v m xs) : v.ownBlock ≠ some b := by
  intro he
  obtain ⟨es, clock, hb, _⟩ := h
  rcases ho.2 with ⟨rfl, _⟩ | ⟨q, cap, cur, rfl, _, hg, _⟩
  · simp [Value.ownBlock] at he
  · simp [Value.ownBlock] at he
    subst he
    rw [hb] at hg
    cases hg
theorem MapOf.grown {w' : World} {row : Option Nat} (h : MapOf P k w b n g) (hg : w.grownBy w' row) (hne : row ≠ some b) : MapOf P k w' b n g :=
  h.of_block (hg.block b h.lt fun e => hne e.symm)
theorem MapOf.cell_ne (h : MapOf P k w b n g) {p : Addr} {v : Value} (hc : w.cell? p = some v) : p.block ≠ b := by
  intro e
  obtain ⟨es, clock, hb, _⟩ := h
  unfold World.cell? at hc
  rw [e, hb] at hc
  simp at hc
theorem MapOf.look_yes (h : MapOf P k w b n g) (K : Keyed P k) {t e : TypeId} (ht : P.underlying t = some (.map k e)) {x v : Value} {l : Lit} (hx : keyOf P k x = some l) (hv : g x = some v) (ok : Bool) :
    (Instr.lookup t (.map (some b)) x ok).run P w = .ok (if ok then .tuple #[v, .bool true] else v) w := by
  obtain ⟨es, clock, hb, hn, hk, hg, hc⟩ := h
  have hck := K.check w es.isEmpty hx
  rcases K.find w hx es.toList hk with ⟨_, hno⟩ | ⟨j, e0, hf, hj, he⟩
  · obtain ⟨e1, he1, hek⟩ := hc x v hv
    exact absurd hek (hno e1 he1)
  · have h1 := hg e0 (List.mem_of_getElem? hj)
    rw [he, hv] at h1
    cases h1
    cases ok <;> simp [Instr.lookup, run_underlying ht, MapKept.run_getObj_map hb, hck, hf, Result.andThen]
theorem MapOf.look_no (h : MapOf P k w b n g) (K : Keyed P k) {t e : TypeId} (ht : P.underlying t = some (.map k e)) {x z : Value} {l : Lit} (hz : (zeroValue e).run P w = .ok z w) (hx : keyOf P k x = some l) (hv : g x = none) (ok : Bool) :
    (Instr.lookup t (.map (some b)) x ok).run P w = .ok (if ok then .tuple #[z, .bool false] else z) w := by
  obtain ⟨es, clock, hb, hn, hk, hg, hc⟩ := h
  have hck := K.check w es.isEmpty hx
  rcases K.find w hx es.toList hk with ⟨hf, _⟩ | ⟨j, e0, hf, hj, he⟩
  · cases ok <;> simp [Instr.lookup, run_underlying ht, MapKept.run_getObj_map hb, hck, hf, hz, Result.andThen]
  · have h1 := hg e0 (List.mem_of_getElem? hj)
    rw [he, hv] at h1
    cases h1
open Classical in
theorem MapOf.insert (h : MapOf P k w b n g) (K : Keyed P k) {t e : TypeId} (ht : P.underlying t = some (.map k e)) {x v : Value} {l : Lit} (hx : keyOf P k x = some l) (hv : g x = none) :
    ∃ w', (Instr.mapUpdate t (.map (some b)) x v).run P w = .ok () w' ∧ MapOf P k w' b (n + 1) (fun y => if y = x then some v else g y) ∧ w.grownBy w' (some b) ∧ w'.heap.size = w.heap.size := by
  obtain ⟨es, clock, hb, hn, hk, hg, hc⟩ := h
  have hck := K.check w false hx
  rcases K.find w hx es.toList hk with ⟨hf, hno⟩ | ⟨j, e0, hf, hj, he⟩
  · refine ⟨{ w with heap := w.heap.setIfInBounds b (.map (es.push { key := x, val := v, born := clock }) (clock + 1)) }, ?_, ⟨es.push { key := x, val := v, born := clock }, clock + 1, ?_, by simp [hn], ?_, ?_, ?_⟩, ⟨rfl, rfl, rfl, by simp, fun i hi hne => ?_⟩, by simp⟩
    · simp [Instr.mapUpdate, run_underlying ht, MapKept.run_getObj_map hb, hck, hf, MapKept.run_setObj_map _ hb, Result.andThen]
    · have := (Array.getElem?_eq_some_iff.1 hb).1
      simp [this]
    · intro e1 he1
      simp at he1
      rcases he1 with he1 | rfl
      · exact hk e1 (by simpa using he1)
      · exact ⟨l, hx⟩
    · intro e1 he1
      simp at he1
      rcases he1 with he1 | rfl
      · have hne : e1.key ≠ x := hno e1 (by simpa using he1)
        simp only [hne, if_false]
        exact hg e1 (by simpa using he1)
      · simp
    · intro y u hy
      by_cases e1 : y = x
      · exact ⟨{ key := x, val := v, born := clock }, by simp, e1.symm⟩
      · simp only [e1, if_false] at hy
        obtain ⟨e2, he2, hk2⟩ := hc y u hy
        exact ⟨e2, by simp at he2 ⊢; exact .inl he2, hk2⟩
    · have hib : i ≠ b := fun e => hne (by rw [e])
      simp [Array.getElem?_setIfInBounds, Ne.symm hib]
  · have h1 := hg e0 (List.mem_of_getElem? hj)
    rw [he, hv] at h1
    cases h1
end
section
variable {P : Program} {w : World} {ops : Array Oper} {rest : List Oper} {o : Oper} {a : Act} {Q : Exit → Act → World → Prop}
open Classical in
theorem wpList_mapUpdate_new (hg : o.guard = none) (m x v : Operand) (t : TypeId) (hop : o.op = Op.mapUpdate t m x v)
    (k e : TypeId) (K : Keyed P k) (ht : P.underlying t = some (.map k e)) (b n : Nat) (g : Value → Option Value)
    (hm : a.eval m = .map (some b)) (hown : MapOf P k w b n g) (key val : Value) (kl : Lit) (hx : a.eval x = key) (hv : a.eval v = val) (hkey : keyOf P k key = some kl) (hn : g key = none)
    (hK : ∀ w', MapOf P k w' b (n + 1) (fun y => if y = key then some val else g y) → w.grownBy w' (some b) → w'.heap.size = w.heap.size → wpList P ops Q rest (a.put o.dst undef) w') :
    wpList P ops Q (o :: rest) a w := by
  refine wpList_plain hg fun K' hK' => ?_
  obtain ⟨w', hrun, r1, r2, r3⟩ := hown.insert K ht hkey hn (v := val)
  unfold Oper.wp
  simp [execOp, hop, hm, hx, hv, hrun, Result.andThen]
  exact hK' _ _ (hK w' r1 r2 r3)
theorem wpList_len_map (hg : o.guard = none) (m : Operand) (t : TypeId) (hop : o.op = Op.call { callee := Callee.builtin Builtin.len, args := #[m], argTypes := #[t] })
    (k e : TypeId) (ht : P.underlying t = some (.map k e)) (b n : Nat) (g : Value → Option Value) (hm : a.eval m = .map (some b)) (hown : MapOf P k w b n g)
    (hK : wpList P ops Q rest (a.put o.dst (.int .i64 n)) w) :
    wpList P ops Q (o :: rest) a w := by
  obtain ⟨es, clock, hb, hn, _⟩ := hown
  refine wpList_plain hg fun K' hK' => ?_
  have hl : (Builtin.len_ #[t] o.type #[.map (some b)]).run P w = .ok (.int .i64 n) w := by
    simp [Builtin.len_, run_underlying ht, MapKept.run_getObj_map hb, hn, Result.andThen]
    rfl
  unfold Oper.wp
  simp [execOp, hop, resolve, invoke, builtin, hm, hl, Result.andThen]
  exact hK' _ _ hK
end
end Go.Proofs.Ytmllbemjcfkmjaa
