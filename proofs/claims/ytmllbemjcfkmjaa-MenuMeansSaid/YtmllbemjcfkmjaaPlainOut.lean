/- The plain form as it is written out; plainly and in memory. -/
import Derived.Test.YtmllbemjcfkmjaaPlainMid
import Derived.Test.YtmllbemjcfkmjaaLastFree
namespace Go.Proofs.Ytmllbemjcfkmjaa
open Go.RowKit Go.Maps
set_option linter.unusedSimpArgs false
set_option linter.unusedVariables false

theorem prI_le {N L : Nat} {nx : Nat → Nat → Nat} {acc : Nat → Bool} (h : NxOK N L nx) (κ : Nat) : prI N L nx acc κ ≤ pI N L nx acc κ := by
  cases κ with
  | zero => exact Nat.zero_le _
  | succ κ => exact pI_mono h κ
theorem prI_end {N L : Nat} {nx : Nat → Nat → Nat} {acc : Nat → Bool} (hN : 1 ≤ N) (κ : Nat) (h : pI N L nx acc κ = prI N L nx acc κ) : ∃ κ', κ = κ' + 1 ∧ pI N L nx acc κ' = pI N L nx acc (κ' + 1) := by
  cases κ with
  | zero =>
    have := pI_pos (L := L) (nx := nx) (acc := acc) hN 0
    rw [h] at this
    exact absurd this (by simp [prI])
  | succ κ => exact ⟨κ, rfl, h.symm⟩
def outF (L : Nat) (vn vb : Value) (i : Nat) : Value := if i = 0 then .int .i64 L else if i = 1 then vn else vb
structure PlO (U : World) (L : Nat) (n : Nat) (f : Nat → List Int) (bs : List Bool) (vn vb : Value) (Q : Nat → Value) (w : World) : Prop where
  bl : Below U.heap.size U w
  out : w.rowIs U.heap.size 25 3 (outF L vn vb)
  nx : w.ownsRow (U.heap.size + 1) 33 1 vn n ((List.range n).map Q)
  rs : ∀ k, k < n → w.ownsRow (U.heap.size + 1) 3 1 (Q k) L ((f k).map (Value.int .i64))
  ac : w.ownsRow (U.heap.size + 1) 4 1 vb bs.length (bs.map Value.bool)
structure PlR (U : World) (L : Nat) (n : Nat) (f : Nat → List Int) (bs : List Bool) (vn vb v : Value) (Q : Nat → Value) (m : Nat) (r : List Int) (w : World) : Prop where
  O : PlO U L n f bs vn vb Q w
  own : w.ownsRow (U.heap.size + 1) 3 1 v m (r.map (Value.int .i64))
  ap : ∀ k, k < n → Apart v (Q k)
section
variable {U w w' : World} {L n m : Nat} {f : Nat → List Int} {bs : List Bool} {vn vb v v' : Value} {Q : Nat → Value} {r r' : List Int} {o : Obj}
theorem PlO.start (U : World) (L : Nat) (f : Nat → List Int) (Q : Nat → Value) : PlO U L 0 f [] (.slice none 0 0) (.slice none 0 0) Q (U.alloc (.cells #[.int .i64 L, .slice none 0 0, .slice none 0 0] 25)) := by
  refine ⟨below_alloc U _, ?_, World.ownsRow_nil _ _ _ _, fun k hk => absurd hk (Nat.not_lt_zero k), World.ownsRow_nil _ _ _ _⟩
  refine World.rowIs_alloc U #[.int .i64 L, .slice none 0 0, .slice none 0 0] 25 _ fun i hi => ?_
  have : i < 3 := hi
  unfold outF
  match i, this with
  | 0, _ => rfl
  | 1, _ => rfl
  | 2, _ => rfl
theorem PlO.below (h : PlO U L n f bs vn vb Q w) (hb : Below w.heap.size w w') : PlO U L n f bs vn vb Q w' :=
  ⟨h.bl.trans (hb.mono h.bl.size), rowIs_below h.out hb h.out.lt, own_below h.nx hb, fun k hk => own_below (h.rs k hk) hb, own_below h.ac hb⟩
theorem PlO.fresh (h : PlO U L n f bs vn vb Q w) : PlR U L n f bs vn vb (.slice none 0 0) Q 0 [] w :=
  ⟨h, World.ownsRow_nil _ _ _ _, fun k hk => apart_nil _⟩
theorem PlR.below (h : PlR U L n f bs vn vb v Q m r w) (hb : Below w.heap.size w w') : PlR U L n f bs vn vb v Q m r w' := ⟨h.O.below hb, own_below h.own hb, h.ap⟩
theorem out_grown {e : TypeId} {xs : List Value} (h : w.rowIs U.heap.size 25 3 (outF L vn vb)) (ho : w.ownsRow (U.heap.size + 1) e 1 v m xs) (hg : (w.alloc o).grownBy w' v.ownBlock) : w'.rowIs U.heap.size 25 3 (outF L vn vb) :=
  (h.alloc o).of_block (hg.block U.heap.size (by have := h.lt; simp; omega) fun e => by have := (ho.lt _ e.symm).1; omega)
theorem bl_out {e : TypeId} {xs : List Value} (h : Below U.heap.size U w) (ho : w.ownsRow (U.heap.size + 1) e 1 v m xs) (hg : (w.alloc o).grownBy w' v.ownBlock) : Below U.heap.size U w' :=
  (h.alloc h.size o).grown hg (by have := h.size; simp; omega) fun k hk => by have := (ho.lt k hk).1; omega
theorem PlR.push (h : PlR U L n f bs vn vb v Q m r w) (hg : (w.alloc o).grownBy w' v.ownBlock) (ho : w'.ownsRow (U.heap.size + 1) 3 1 v' (m + 1) (r'.map (Value.int .i64)))
    (hl : v'.ownBlock = v.ownBlock ∨ v'.ownBlock = some (w.alloc o).heap.size) : PlR U L n f bs vn vb v' Q (m + 1) r' w' :=
  ⟨⟨bl_out h.O.bl h.own hg, out_grown h.O.out h.own hg, own_kept h.O.nx hg (own_types h.O.nx h.own (by decide)), fun k hk => own_kept (h.O.rs k hk) hg (h.ap k hk), own_kept h.O.ac hg (own_types h.O.ac h.own (by decide))⟩,
   ho, fun k hk => apart_new (h.O.rs k hk) (h.ap k hk) hl⟩
theorem out_set1 (h : w.rowIs U.heap.size 25 3 (outF L vn vb)) (x : Value) : (w.setCell ⟨U.heap.size, 1, none⟩ x).rowIs U.heap.size 25 3 (outF L x vb) := by
  refine (h.set 1 x).congr fun i hi => ?_
  unfold outF
  by_cases e : i = 1
  · subst e; simp
  · simp [e]
theorem out_set2 (h : w.rowIs U.heap.size 25 3 (outF L vn vb)) (x : Value) : (w.setCell ⟨U.heap.size, 2, none⟩ x).rowIs U.heap.size 25 3 (outF L vn x) := by
  refine (h.set 2 x).congr fun i hi => ?_
  unfold outF
  by_cases e : i = 2
  · subst e; simp
  · have : i = 0 ∨ i = 1 := by omega
    rcases this with rfl | rfl <;> simp
/-- The row goes behind the rows, and these into the machine. -/
theorem PlR.close (h : PlR U L n f bs vn vb v Q L (f n) w) (hg : (w.alloc o).grownBy w' vn.ownBlock) (ho : w'.ownsRow (U.heap.size + 1) 33 1 v' (n + 1) ((List.range n).map Q ++ [v])) :
    PlO U L (n + 1) f bs v' vb (fun k => if k = n then v else Q k) (w'.setCell ⟨U.heap.size, 1, none⟩ v') := by
  have hlt : (⟨U.heap.size, 1, none⟩ : Addr).block < U.heap.size + 1 := Nat.lt_succ_self _
  refine ⟨(bl_out h.O.bl h.O.nx hg).setCell (Nat.le_refl _) _, out_set1 (out_grown h.O.out h.O.nx hg) v', ?_, fun k hk => ?_, ownsRow_setCell_below (own_kept h.O.ac hg (own_types h.O.ac h.O.nx (by decide))) hlt _⟩
  · have e : (List.range (n + 1)).map (fun j => if j = n then v else Q j) = (List.range n).map Q ++ [v] := by
      rw [List.range_succ, List.map_append]
      simp only [List.map_cons, List.map_nil, if_true]
      congr 1
      refine List.map_congr_left fun j hj => ?_
      have := List.mem_range.1 hj
      rw [if_neg (by omega)]
    rw [e]
    exact ownsRow_setCell_below ho hlt _
  · refine ownsRow_setCell_below ?_ hlt _
    by_cases e : k = n
    · subst e
      simp only [if_true]
      exact own_kept h.own hg (own_types h.own h.O.nx (by decide))
    · simp only [e, if_false]
      exact own_kept (h.O.rs k (by omega)) hg (own_types (h.O.rs k (by omega)) h.O.nx (by decide))
theorem PlO.accept (h : PlO U L n f bs vn vb Q w) (x : Bool) (hg : (w.alloc o).grownBy w' vb.ownBlock) (ho : w'.ownsRow (U.heap.size + 1) 4 1 v' (bs.length + 1) (bs.map Value.bool ++ [.bool x])) :
    PlO U L n f (bs ++ [x]) vn v' Q (w'.setCell ⟨U.heap.size, 2, none⟩ v') := by
  have hlt : (⟨U.heap.size, 2, none⟩ : Addr).block < U.heap.size + 1 := Nat.lt_succ_self _
  refine ⟨(bl_out h.bl h.ac hg).setCell (Nat.le_refl _) _, out_set2 (out_grown h.out h.ac hg) v', ownsRow_setCell_below (own_kept h.nx hg (own_types h.nx h.ac (by decide))) hlt _,
    fun k hk => ownsRow_setCell_below (own_kept (h.rs k hk) hg (own_types (h.rs k hk) h.ac (by decide))) hlt _, ?_⟩
  have := ownsRow_setCell_below ho hlt v'
  rw [show (bs ++ [x]).length = bs.length + 1 by simp, List.map_append]
  exact this
end
theorem wpOp_one {P : Program} {ops : Array Oper} {Q : Exit → Act → World → Prop} {i : Nat} {o : Oper} {K : Act → World → Prop} {a : Act} {w : World} (hi : ops[i]? = some o) (hw : Region.wanted o (yielded ops a.tmps) = true)
    (h : ∀ K' : Act → World → Prop, (∀ a' w', K a' w' → K' a' w') → Oper.wp P o a w K' Q) : wpOp P ops Q i K a w := by
  unfold wpOp
  simp only [hi, hw, if_true]
  exact .inl (h K fun _ _ x => x)
theorem wp_append_own {P : Program} {w : World} {o : Oper} {a : Act} {K : Act → World → Prop} {Q : Exit → Act → World → Prop} (hgd : o.guard = none) (s x : Operand) (t : TypeId)
    (ho : o.op = .call { callee := .builtin .append, args := #[s, x], argTypes := #[t, t] })
    (base : Nat) (e : TypeId) (i : TypeInfo) (z : Value) (size bytes : Nat) (ht : P.underlying t = some (.slice e)) (hi : P.info? e = some i) (hz : i.zero = some z)
    (hsize : i.size = size) (hby : i.bytes = bytes) (hzs : z.cells.size = size) (hsz : 0 < size)
    (v : Value) (n : Nat) (xs : List Value) (hs : a.eval s = v) (hown : w.ownsRow base e size v n xs)
    (ad : Addr) (m c : Nat) (news : List Value) (hx : a.eval x = .slice (some ad) m c) (hl : news.length = m * size) (hnews : ∀ j u, news[j]? = some u → w.cell? (ad.add j) = some u) (h1 : ∀ u ∈ news, u.oneCell' = true)
    (h63 : n + m ≤ maxLen) (hbytes : (n + m) * bytes ≤ 140737488355328) (hbase : base ≤ w.heap.size)
    (h : ∀ v' w', w'.ownsRow base e size v' (n + m) (xs ++ news) → w.grownBy w' v.ownBlock → K (a.put o.dst v') w') : Oper.wp P o a w K Q := by
  have h0 := step_append_own (P := P) (ops := #[]) (Q := Q) (E := True) hgd s x t ho base e i z size bytes ht hi hz hsize hby hzs hsz v n xs hs hown ad m c news hx hl hnews h1 h63 hbytes hbase h
  rw [if_pos (by simp [Region.wanted, hgd])] at h0
  exact h0
theorem keep3 {w w' : World} {row : Option Nat} {X H b4 o : Nat} {vb G s : Value} (hg : w.grownBy w' row) (hr : ∀ k, row = some k → X < k) (hX : X < w.heap.size) (hH : H ≤ X) (hb4 : b4 ≤ X)
    (h : w.cell? ⟨X, 2, none⟩ = some vb ∧ w.cell? ⟨H, 2, none⟩ = some G ∧ w.cell? ⟨b4, o, none⟩ = some s) :
    w'.cell? ⟨X, 2, none⟩ = some vb ∧ w'.cell? ⟨H, 2, none⟩ = some G ∧ w'.cell? ⟨b4, o, none⟩ = some s := by
  obtain ⟨h1, h4, h5⟩ := h
  have hb : ∀ k, k ≤ X → w'.heap[k]? = w.heap[k]? := fun k hk => hg.block k (by omega) fun e => by have := hr k e.symm; omega
  refine ⟨?_, ?_, ?_⟩
  · rw [World.cell?_of_block (w := w) (hb X (Nat.le_refl _))]; exact h1
  · rw [World.cell?_of_block (w := w) (hb H hH)]; exact h4
  · rw [World.cell?_of_block (w := w) (hb b4 hb4)]; exact h5
theorem grown_of {w w' : World} (hb : Below w.heap.size w w') : w.grownBy w' none := but_below (World.grownBy.refl _ none) hb
noncomputable def rowC (N : Nat) (la : Nat → Lang) (nx : Nat → Nat → Nat) (i b : Nat) : List Int := (List.range b).map fun a => ((cname la N (nx i a) : Nat) : Int)
theorem rowC_succ (N : Nat) (la : Nat → Lang) (nx : Nat → Nat → Nat) (i b : Nat) : (rowC N la nx i b).map (Value.int .i64) ++ [.int .i64 (cname la N (nx i b) : Nat)] = (rowC N la nx i (b + 1)).map (Value.int .i64) := by
  simp [rowC, List.range_succ]
theorem lang_old {la : Nat → Lang} {i : Nat} (h : la i ∈ nubN la i) : nubN la (i + 1) = nubN la i := by rw [nubN_succ, vis_mem _ _ h]
theorem lang_new {la : Nat → Lang} {i : Nat} (h : la i ∉ nubN la i) : nubN la (i + 1) = nubN la i ++ [la i] := by rw [nubN_succ, vis_new _ _ h]
theorem acc_new {la : Nat → Lang} {i : Nat} (h : la i ∉ nubN la i) : canAcc (nubN la (i + 1)) = canAcc (nubN la i) ++ [la i []] := by rw [lang_new h]; simp [canAcc]
theorem row_new {la : Nat → Lang} {i N L : Nat} (hi : i < N) (h : la i ∉ nubN la i) : (canNext L (nubN la N)).getD (nubN la i).length [] = canRow L (nubN la N) (la i) := by
  have e := (class_new la N i hi).2 h
  have hg : (nubN la N)[cname la N i]? = some (la i) := by
    have hm : la i ∈ nubN la N := by
      have := cname_lt la (n := N) hi
      have hx : la i ∈ nubN la (i + 1) := by rw [lang_new h]; simp
      exact (nubN_pre la (show i + 1 ≤ N by omega)).subset hx
    exact get_idx hm
  rw [← e]
  simp [canNext, List.getD, hg]
/-- A machine in memory, laid by the call: its rows and its answers. -/
def MachAt (w : World) (base L : Nat) (F : List Lang) (vn vb : Value) : Prop :=
  ∃ Q, w.ownsRow base 33 1 vn F.length ((List.range F.length).map Q) ∧ (∀ k, k < F.length → w.ownsRow base 3 1 (Q k) L (((canNext L F).getD k []).map (Value.int .i64))) ∧ w.ownsRow base 4 1 vb F.length ((canAcc F).map Value.bool)
theorem MachAt.below {w w' : World} {base L : Nat} {F : List Lang} {vn vb : Value} (h : MachAt w base L F vn vb) (hb : Below w.heap.size w w') : MachAt w' base L F vn vb := by
  obtain ⟨Q, h1, h2, h3⟩ := h
  exact ⟨Q, own_below h1 hb, fun k hk => own_below (h2 k hk) hb, own_below h3 hb⟩
/-- What the plain form of a machine of language la gives back. -/
def PlainPost (W : World) (L : Nat) (la : Lang) (e : Ending) (w' : World) : Prop :=
  ∃ F, Found (succL L) la F ∧ Below W.heap.size W w' ∧
    ((F.length ≤ 64 ∧ ∃ base vn vb, W.heap.size ≤ base ∧ e = .returned (.tuple #[.agg #[.int .i64 L, vn, vb], .int .i64 0]) ∧ MachAt w' base L F vn vb) ∨
     (64 < F.length ∧ e = .returned (.tuple #[.agg #[.int .i64 0, .slice none 0 0, .slice none 0 0], .int .i64 4])))
theorem MachAt.setCell {w : World} {base L : Nat} {F : List Lang} {vn vb : Value} (h : MachAt w base L F vn vb) {a : Addr} (ha : a.block < base) (u : Value) : MachAt (w.setCell a u) base L F vn vb := by
  obtain ⟨Q, h1, h2, h3⟩ := h
  exact ⟨Q, ownsRow_setCell_below h1 ha u, fun k hk => ownsRow_setCell_below (h2 k hk) ha u, ownsRow_setCell_below h3 ha u⟩
theorem PlO.mach {U w : World} {L : Nat} {F : List Lang} {vn vb : Value} {Q : Nat → Value} (h : PlO U L F.length (fun k => (canNext L F).getD k []) (canAcc F) vn vb Q w) : MachAt w (U.heap.size + 1) L F vn vb := by
  have ha := h.ac
  rw [show (canAcc F).length = F.length by simp [canAcc]] at ha
  exact ⟨Q, h.nx, h.rs, ha⟩
end Go.Proofs.Ytmllbemjcfkmjaa
