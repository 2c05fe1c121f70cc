/- 'Copy': what it returns; and what stands behind stores into the rows of a machine. -/
import Derived.Test.YtmllbemjcfkmjaaEqual
import Derived.Test.YtmllbemjcfkmjaaRounded
import Derived.Test.YtmllbemjcfkmjaaFront
import Derived.Test.YtmllbemjcfkmjaaKnown
import Derived.Deep.DeepCutAuto
import Derived.Laws.OwnMore
namespace Go.Proofs.Ytmllbemjcfkmjaa
open Go.RowKit Go.Maps
set_option linter.unusedSimpArgs false
set_option linter.unusedVariables false

/-! ### append from a list of any making -/
theorem run_append_src {P : Program} {w : World} (base : Nat) (t ty e : TypeId) (i : TypeInfo) (z : Value) (bytes : Nat) (ht : P.underlying t = some (.slice e)) (hi : P.info? e = some i) (hz : i.zero = some z)
    (hsize : i.size = 1) (hby : i.bytes = bytes) (hzs : z.cells.size = 1)
    (v : Value) (n : Nat) (xs : List Value) (hown : w.ownsRow base e 1 v n xs)
    (ra : Option Addr) (m c : Nat) (news : List Value) (hl : news.length = m) (hnews : 0 < m → ∃ b off, ra = some ⟨b, off, none⟩ ∧ ∀ j u, news[j]? = some u → w.cell? ⟨b, off + j, none⟩ = some u) (h1 : ∀ u ∈ news, u.oneCell' = true)
    (h63 : n + m ≤ maxLen) (hbytes : (n + m) * bytes ≤ 140737488355328) (hbase : base ≤ w.heap.size) :
    ∃ v' w', (Builtin.append_ #[t, t] ty #[v, .slice ra m c]).run P w = .ok v' w' ∧ w'.ownsRow base e 1 v' (n + m) (xs ++ news) ∧ w.grownBy w' v.ownBlock ∧ (v'.ownBlock = v.ownBlock ∨ v'.ownBlock = some w.heap.size) := by
  cases ra with
  | none =>
    have hm : m = 0 := by
      by_cases h : 0 < m
      · obtain ⟨b, off, e, _⟩ := hnews h; cases e
      · omega
    subst hm
    have hn : news = [] := List.eq_nil_of_length_eq_zero hl
    subst hn
    refine ⟨v, w, ?_, by simpa using hown, World.grownBy.refl _ _, .inl rfl⟩
    rcases hown.2 with ⟨rfl, rfl⟩ | ⟨g, cap, cur, rfl, _, _, hnc, _⟩
    · simp [Builtin.append_, run_underlying ht, sizeOf, typeInfo, hi, Builtin.lenOf, Builtin.firstCells]
    · simp [Builtin.append_, run_underlying ht, sizeOf, typeInfo, hi, Builtin.lenOf, Builtin.firstCells, hnc, storeCells]
  | some ad =>
    have hc : ∀ j u, news[j]? = some u → w.cell? (ad.add j) = some u := by
      intro j u hu
      have hj : j < news.length := (List.getElem?_eq_some_iff.1 hu).1
      obtain ⟨b, off, e, h⟩ := hnews (by omega)
      cases e
      rw [add_plain0]
      exact h j u hu
    obtain ⟨v', w', hr, h2, h3, _, h5⟩ := run_append_own_at (P := P) w base t ty e i z 1 bytes ht hi hz hsize hby hzs (by omega) v n xs hown ad m c news (by omega) hc h1 h63 hbytes hbase
    exact ⟨v', w', hr, h2, h3, h5⟩
theorem wp_append_src {P : Program} {w : World} {o : Oper} {a : Act} {K : Act → World → Prop} {Q : Exit → Act → World → Prop} (s x : Operand) (t : TypeId)
    (ho : o.op = .call { callee := .builtin .append, args := #[s, x], argTypes := #[t, t] })
    (base : Nat) (e : TypeId) (i : TypeInfo) (z : Value) (bytes : Nat) (ht : P.underlying t = some (.slice e)) (hi : P.info? e = some i) (hz : i.zero = some z)
    (hsize : i.size = 1) (hby : i.bytes = bytes) (hzs : z.cells.size = 1)
    (v : Value) (n : Nat) (xs : List Value) (hs : a.eval s = v) (hown : w.ownsRow base e 1 v n xs)
    (ra : Option Addr) (m c : Nat) (news : List Value) (hx : a.eval x = .slice ra m c) (hl : news.length = m) (hnews : 0 < m → ∃ b off, ra = some ⟨b, off, none⟩ ∧ ∀ j u, news[j]? = some u → w.cell? ⟨b, off + j, none⟩ = some u) (h1 : ∀ u ∈ news, u.oneCell' = true)
    (h63 : n + m ≤ maxLen) (hbytes : (n + m) * bytes ≤ 140737488355328) (hbase : base ≤ w.heap.size)
    (h : ∀ v' w', w'.ownsRow base e 1 v' (n + m) (xs ++ news) → w.grownBy w' v.ownBlock → (v'.ownBlock = v.ownBlock ∨ v'.ownBlock = some w.heap.size) → K (a.put o.dst v') w') : Oper.wp P o a w K Q := by
  obtain ⟨v', w', hr, h2, h3, h5⟩ := run_append_src (P := P) (w := w) base t o.type e i z bytes ht hi hz hsize hby hzs v n xs hown ra m c news hl hnews h1 h63 hbytes hbase
  unfold Oper.wp execOp
  simp only [ho, resolve, invoke, builtin, Sem.run_bind, Sem.run_pure, Result.andThen_ok, List.map_toArray, List.map_cons, List.map_nil, hs, hx, hr]
  exact h v' w' h2 h3 h5
theorem wp_append_own_at2 {P : Program} {w : World} {o : Oper} {a : Act} {K : Act → World → Prop} {Q : Exit → Act → World → Prop} (s x : Operand) (t : TypeId)
    (ho : o.op = .call { callee := .builtin .append, args := #[s, x], argTypes := #[t, t] })
    (base : Nat) (e : TypeId) (i : TypeInfo) (z : Value) (size bytes : Nat) (ht : P.underlying t = some (.slice e)) (hi : P.info? e = some i) (hz : i.zero = some z)
    (hsize : i.size = size) (hby : i.bytes = bytes) (hzs : z.cells.size = size) (hsz : 0 < size)
    (v : Value) (n : Nat) (xs : List Value) (hs : a.eval s = v) (hown : w.ownsRow base e size v n xs)
    (ad : Addr) (m c : Nat) (news : List Value) (hx : a.eval x = .slice (some ad) m c) (hl : news.length = m * size) (hnews : ∀ j u, news[j]? = some u → w.cell? (ad.add j) = some u) (h1 : ∀ u ∈ news, u.oneCell' = true)
    (h63 : n + m ≤ maxLen) (hbytes : (n + m) * bytes ≤ 140737488355328) (hbase : base ≤ w.heap.size)
    (h : ∀ v' w', w'.ownsRow base e size v' (n + m) (xs ++ news) → w.grownBy w' v.ownBlock → (v'.ownBlock = v.ownBlock ∨ v'.ownBlock = some w.heap.size) → K (a.put o.dst v') w') : Oper.wp P o a w K Q := by
  obtain ⟨v', w', hr, h2, h3, h4, h5⟩ := run_append_own_at (P := P) w base t o.type e i z size bytes ht hi hz hsize hby hzs hsz v n xs hown ad m c news hl hnews h1 h63 hbytes hbase
  unfold Oper.wp execOp
  simp only [ho, resolve, invoke, builtin, Sem.run_bind, Sem.run_pure, Result.andThen_ok, List.map_toArray, List.map_cons, List.map_nil, hs, hx, hr]
  exact h v' w' h2 h3 h5
theorem ints_src {w : World} {ra : Option Addr} {xs : List Int} (h : IntsAt w ra xs) : 0 < xs.length → ∃ b off, ra = some ⟨b, off, none⟩ ∧ ∀ j u, (xs.map (Value.int .i64))[j]? = some u → w.cell? ⟨b, off + j, none⟩ = some u := by
  intro h0
  obtain ⟨b, off, e, _, _⟩ := h 0 h0
  refine ⟨b, off, e, fun j u hu => ?_⟩
  have hj : j < xs.length := by have := (List.getElem?_eq_some_iff.1 hu).1; simpa using this
  obtain ⟨b', off', e', _, hc⟩ := h j hj
  rw [e] at e'
  cases e'
  rw [hc]
  simp [hj] at hu
  rw [← hu]
  simp [nth, List.getD, hj]
theorem bools_src {w : World} {ra : Option Addr} {bs : List Bool} (h : BoolsAt w ra bs) : 0 < bs.length → ∃ b off, ra = some ⟨b, off, none⟩ ∧ ∀ j u, (bs.map Value.bool)[j]? = some u → w.cell? ⟨b, off + j, none⟩ = some u := by
  intro h0
  obtain ⟨b, off, e, _, _⟩ := h 0 h0
  refine ⟨b, off, e, fun j u hu => ?_⟩
  have hj : j < bs.length := by have := (List.getElem?_eq_some_iff.1 hu).1; simpa using this
  obtain ⟨b', off', e', _, hc⟩ := h j hj
  rw [e] at e'
  cases e'
  rw [hc]
  simp [hj] at hu
  rw [← hu]
  simp [List.getD, hj]
theorem bools_one (bs : List Bool) : ∀ u ∈ bs.map Value.bool, u.oneCell' = true := by
  intro u hu
  obtain ⟨z, _, rfl⟩ := List.mem_map.1 hu
  rfl
/-! ### what stands while the copy is written -/
theorem wp_region_but_d2 {P : Program} {ops : Array Oper} {Q : Exit → Act → World → Prop} {id : Nat} {a : Act} {w : World} (S : World → Prop) (k : Nat) (hm : P.follows .mixedOrders = true)
    (h : ∀ Z, Z = w.drew → anyBut P .any ops Q S k ops.size (Array.replicate ops.size false) a Z) : (Code.region id ops true).wp P Q a w :=
  wp_region_but S k hm (h _ rfl)
theorem but_two2 {P : Program} {ops : Array Oper} {Q : Exit → Act → World → Prop} {md : Region.Mode} {S : World → Prop} {k i j : Nat} {n : Nat} {l : Array Bool} {a : Act} {w : World} (hr : Region.ready md ops l = [i, j])
    (h : wpOp P ops Q i (fun a' w' => (i ≠ k → S w') ∧ anyBut P md ops Q S k n (l.setIfInBounds i true) a' w') a w)
    (h' : wpOp P ops Q j (fun a' w' => (j ≠ k → S w') ∧ anyBut P md ops Q S k n (l.setIfInBounds j true) a' w') a w) :
    anyBut P md ops Q S k (n + 1) l a w := by
  unfold anyBut
  refine ⟨fun h0 => by rw [hr] at h0; exact absurd h0 (by simp), fun x hx => ?_⟩
  rw [hr] at hx
  rcases List.mem_cons.1 hx with e | hx
  · subst e; exact h
  · rw [List.mem_singleton.1 hx]; exact h'
def outZ (L : Int) (vn vb : Value) (i : Nat) : Value := if i = 0 then .int .i64 L else if i = 1 then vn else vb
theorem outZ_at (L : Int) (vn vb : Value) : ∀ i, i < (#[Value.int .i64 L, vn, vb] : Array Value).size → (#[Value.int .i64 L, vn, vb] : Array Value)[i]? = some (outZ L vn vb i) := by
  intro i hi
  have : i < 3 := hi
  match i, this with
  | 0, _ => rfl
  | 1, _ => rfl
  | 2, _ => rfl
structure CpO (U : World) (bx : Nat) (m : Mac) (n : Nat) (vn vb : Value) (Q : Nat → Value) (w : World) : Prop where
  bl : Below U.heap.size U w
  ge : U.heap.size ≤ bx
  out : w.rowIs bx 25 3 (outZ m.L vn vb)
  nx : w.ownsRow U.heap.size 33 1 vn n ((List.range n).map Q)
  rs : ∀ k, k < n → w.ownsRow U.heap.size 3 1 (Q k) (rowOf m k).length ((rowOf m k).map (Value.int .i64))
  ac : w.ownsRow U.heap.size 4 1 vb m.ac.length (m.ac.map Value.bool)
section
variable {U w w' : World} {bx n : Nat} {m : Mac} {vn vb v v' : Value} {Q : Nat → Value} {o : Obj}
theorem CpO.below (h : CpO U bx m n vn vb Q w) (hb : Below w.heap.size w w') : CpO U bx m n vn vb Q w' :=
  ⟨h.bl.trans (hb.mono h.bl.size), h.ge, rowIs_below h.out hb h.out.lt, own_below h.nx hb, fun k hk => own_below (h.rs k hk) hb, own_below h.ac hb⟩
theorem outZ1 {L : Int} (h : w.rowIs bx 25 3 (outZ L vn vb)) (x : Value) : (w.setCell ⟨bx, 1, none⟩ x).rowIs bx 25 3 (outZ L x vb) := by
  refine (h.set 1 x).congr fun i hi => ?_
  unfold outZ
  by_cases e : i = 1
  · subst e; simp
  · simp [e]
/-- A new row goes behind the rows, and these into the machine. -/
theorem CpO.close (h : CpO U bx m n vn vb Q w) (hr : w.ownsRow U.heap.size 3 1 v (rowOf m n).length ((rowOf m n).map (Value.int .i64))) (hg : (w.alloc o).grownBy w' vn.ownBlock) (ho : w'.ownsRow U.heap.size 33 1 v' (n + 1) ((List.range n).map Q ++ [v])) :
    CpO U bx m (n + 1) v' vb (fun k => if k = n then v else Q k) (w'.setCell ⟨bx, 1, none⟩ v') := by
  have hout := row_kept h.out h.nx (by decide) hg
  have hbl : Below U.heap.size U w' := (h.bl.alloc h.bl.size o).grown hg (by have := h.bl.size; simp; omega) fun k hk => (h.nx.lt k hk).1
  refine ⟨hbl.setCell h.ge _, h.ge, outZ1 hout v', ?_, fun k hk => ?_, own_set (own_kept h.ac hg (own_types h.ac h.nx (by decide))) hout (by decide) _ _⟩
  · rw [range_snoc]
    exact own_set ho hout (by decide) _ _
  · refine own_set ?_ hout (by decide) _ _
    by_cases e : k = n
    · subst e
      simp only [if_true]
      exact own_kept hr hg (own_types hr h.nx (by decide))
    · simp only [e, if_false]
      exact own_kept (h.rs k (by omega)) hg (own_types (h.rs k (by omega)) h.nx (by decide))
theorem cp_rows {B : Nat} (hx : w.ownsRow B 33 1 vn m.nx.length ((List.range m.nx.length).map Q)) (hs : ∀ k, k < m.nx.length → w.ownsRow B 3 1 (Q k) (rowOf m k).length ((rowOf m k).map (Value.int .i64))) (ha : w.ownsRow B 4 1 vb m.ac.length (m.ac.map Value.bool)) :
    ∃ an cn ab cb, vn = .slice an m.nx.length cn ∧ vb = .slice ab m.ac.length cb ∧ MacAt w an cn ab cb m := by
  obtain ⟨ab, cb, rfl, hB, b1, b2⟩ := own_bools ha
  rcases hx.2 with ⟨rfl, h0⟩ | ⟨gb, cap, cur, rfl, hb, hg, hn, hcm, hcs, htake⟩
  · exact ⟨none, 0, ab, cb, by rw [h0], rfl, ⟨by omega, Nat.zero_le _, b1, b2, hB, fun j hj => by omega⟩⟩
  · refine ⟨some ⟨gb, 0, none⟩, cap, ab, cb, rfl, rfl, ⟨hn, hcm, b1, b2, hB, fun j hj => ?_⟩⟩
    obtain ⟨ra, rc, er, hI, r1, r2⟩ := own_ints (hs j hj)
    refine ⟨gb, 0, rfl, (Array.getElem?_eq_some_iff.1 hg).1, ra, rc, ?_, r1, r2, hI⟩
    rw [cell_of_row w gb (0 + j) cur 33 (0, 0) hg, Nat.zero_add]
    have e : (cur.toList.take (m.nx.length * 1))[j]? = ((List.range m.nx.length).map Q)[j]? := by rw [htake]
    rw [List.getElem?_take, if_pos (by omega)] at e
    rw [← Array.getElem?_toList, e]
    simp [hj, er]
theorem CpO.mac (h : CpO U bx m m.nx.length vn vb Q w) : ∃ an cn ab cb, vn = .slice an m.nx.length cn ∧ vb = .slice ab m.ac.length cb ∧ MacAt w an cn ab cb m := cp_rows h.nx h.rs h.ac
end

theorem CpO.mac3 {U w : World} {bx H : Nat} {m : Mac} {an ab : Option Addr} {kn kb : Nat} {Q : Nat → Value} {f : Nat → Value} (h : CpO U bx m m.nx.length (.slice an m.nx.length kn) (.slice ab m.ac.length kb) Q w) (hr : w.rowIs H 25 3 f) (u v x : Value) :
    MacAt (((w.setCell ⟨H, 0, none⟩ u).setCell ⟨H, 1, none⟩ v).setCell ⟨H, 2, none⟩ x) an kn ab kb m := by
  have h1 := hr.set 0 u
  have h2 := h1.set 1 v
  have k : ∀ {e n : Nat} {v' : Value} {xs : List Value} (ho : w.ownsRow U.heap.size e 1 v' n xs) (he : e ≠ 25), (((w.setCell ⟨H, 0, none⟩ u).setCell ⟨H, 1, none⟩ v).setCell ⟨H, 2, none⟩ x).ownsRow U.heap.size e 1 v' n xs :=
    fun ho he => own_set (own_set (own_set ho hr he _ _) h1 he _ _) h2 he _ _
  obtain ⟨an', cn', ab', cb', e1, e2, hM⟩ := cp_rows (k h.nx (by decide)) (fun j hj => k (h.rs j hj) (by decide)) (k h.ac (by decide))
  cases e1
  cases e2
  exact hM
theorem cp_start {V w : World} {bx : Nat} {m : Mac} {f : Nat → Value} {vb : Value} (hr : w.rowIs bx 25 3 f) (hb : Below V.heap.size V w) (ho : w.ownsRow V.heap.size 4 1 vb m.ac.length (m.ac.map Value.bool)) (hbx : V.heap.size ≤ bx) (Q : Nat → Value) :
    CpO V bx m 0 (.slice none 0 0) vb Q (((w.setCell ⟨bx, 0, none⟩ (.int .i64 m.L)).setCell ⟨bx, 1, none⟩ (.slice none 0 0)).setCell ⟨bx, 2, none⟩ vb) := by
  have h1 := hr.set 0 (.int .i64 m.L)
  have h2 := h1.set 1 (.slice none 0 0)
  refine ⟨below_set3 hb hbx _ _ _, hbx, (h2.set 2 vb).congr fun i hi => ?_, World.ownsRow_nil _ _ _ _, fun k hk => absurd hk (Nat.not_lt_zero k), own_set (own_set (own_set ho hr (by decide) _ _) h1 (by decide) _ _) h2 (by decide) _ _⟩
  have : i = 0 ∨ i = 1 ∨ i = 2 := by omega
  rcases this with rfl | rfl | rfl <;> simp [outZ]

set_option maxRecDepth 100000 in
set_option maxHeartbeats 4000000 in
theorem Copy_any (m : Mac) (a a2 : Option Addr) (cap cap2 : Nat) (W : World) (hM : MacAt W a cap a2 cap2 m) (hS : SmallM m) :
    Calls Try.prog 20 #[.agg #[.int .i64 m.L, .slice a m.nx.length cap, .slice a2 m.ac.length cap2]] W fun e w' => ∃ an cn ab cb, e = .returned (.agg #[.int .i64 m.L, .slice an m.nx.length cn, .slice ab m.ac.length cb]) ∧ MacAt w' an cn ab cb m ∧ Below W.heap.size W w' := by
  have hb1 := below_alloc W (.cells #[.int .i64 m.L, .slice a m.nx.length cap, .slice a2 m.ac.length cap2] 25)
  have hb2 := below_alloc (W.alloc (.cells #[.int .i64 m.L, .slice a m.nx.length cap, .slice a2 m.ac.length cap2] 25)) (.cells #[.int .i64 0, .slice none 0 0, .slice none 0 0] 25)
  have s1 : (W.alloc (.cells #[.int .i64 m.L, .slice a m.nx.length cap, .slice a2 m.ac.length cap2] 25)).heap.size = W.heap.size + 1 := by simp
  have hX := (box_new W (.int .i64 m.L) (.slice a m.nx.length cap) (.slice a2 m.ac.length cap2) 25).below hb2
  have hR := res_cells (w := W.alloc (.cells #[.int .i64 m.L, .slice a m.nx.length cap, .slice a2 m.ac.length cap2] 25)) (w1 := ((W.alloc (.cells #[.int .i64 m.L, .slice a m.nx.length cap, .slice a2 m.ac.length cap2] 25)).alloc (.cells #[.int .i64 0, .slice none 0 0, .slice none 0 0] 25))) (Below.refl _ _) rfl
  rw [s1] at hR
  have hb := hb1.alloc hb1.size (.cells #[.int .i64 0, .slice none 0 0, .slice none 0 0] 25)
  have hVs : ((W.alloc (.cells #[.int .i64 m.L, .slice a m.nx.length cap, .slice a2 m.ac.length cap2] 25)).alloc (.cells #[.int .i64 0, .slice none 0 0, .slice none 0 0] 25)).heap.size = W.heap.size + 1 + 1 := by simp
  have HX := hid hX
  have HR := hid hR
  have HB := hid hb
  have HM := hid (hM.below hb)
  have HS := hid hS
  clear hb1 hb2 s1 hX hR hb hM hS
  obtain ⟨i0, hi0, hz0, hz1, hz2⟩ := info_parts info3
  obtain ⟨i3, hi3, hy0, hy1, hy2⟩ := info_parts info33
  obtain ⟨i4, hi4, hw0, hw1, hw2⟩ := info_parts info4
  go_enter Try.func20, Try.ntmps20
  go_wp2_with fail
  generalize ((W.alloc (.cells #[.int .i64 m.L, .slice a m.nx.length cap, .slice a2 m.ac.length cap2] 25)).alloc (.cells #[.int .i64 0, .slice none 0 0, .slice none 0 0] 25)) = V at *
  rename_i K hKa
  have key : ∀ (bx : Nat) (v7 : Value) (ab : Option Addr) (kb : Nat) (w : World), CpO V bx m 0 (.slice none 0 0) (.slice ab m.ac.length kb) (fun _ => undef) w →
      K { tmps := #[.agg #[.int .i64 m.L, .slice a m.nx.length cap, .slice a2 m.ac.length cap2], .pointer (some ⟨W.heap.size, 0, none⟩), .pointer (some ⟨W.heap.size + 1, 0, none⟩), .pointer (some ⟨bx, 0, none⟩), undef, .pointer (some ⟨W.heap.size, 0, none⟩), .int .i64 m.L, v7, .pointer (some ⟨W.heap.size, 2, none⟩), .slice a2 m.ac.length cap2, .slice ab m.ac.length kb, .agg #[.int .i64 m.L, .slice none 0 0, .slice ab m.ac.length kb], undef, undef, undef, undef, undef, undef, undef, undef, undef, undef, undef, undef, undef, undef, undef, undef, undef, undef, undef, undef], defers := [] } w := by
    intro bx v7 ab kb w hO
    refine hKa _ _ ?_
    clear hKa K
    have HO := hid hO
    clear hO
    go_wp2_with fail
    go_loopw [4] (fun v4 w' => ∃ (i : Nat) (vn : Value) (Q : Nat → Value), v4 = .int .i64 i ∧ i ≤ m.nx.length ∧ CpO V bx m i vn (.slice ab m.ac.length kb) Q w') (fun v4 _ => 5100 - (intOf v4).toNat)
    case atStart => exact ⟨0, _, _, rfl, by omega, HO.out⟩
    case round =>
      clear HO
      obtain ⟨i, vn, Q, rfl, hi, hO⟩ := hrel
      have hX := HX.out.below hO.bl
      have x1 := hX.c1
      have xl := hX.lt
      have hn2 := HS.out.n
      obtain ⟨an, kn, en⟩ := row_shape hO.nx
      subst en
      by_cases hlt : i < m.nx.length
      · obtain ⟨b1, o1, rfl, hb1, ra, rc, q0, r1, r2, hIA⟩ := HM.out.nx i hlt
        have i2 : (i : Int) < (m.nx.length : Int) := by omega
        have i3' : (0 : Int) ≤ (i : Int) := by omega
        have HSU : Hid (∀ w', Below V.heap.size V w' → w'.cell? ⟨W.heap.size, 1, none⟩ = some (.slice (some ⟨b1, o1, none⟩) m.nx.length cap) ∧ w'.cell? ⟨b1, o1 + i, none⟩ = some (.slice ra (rowOf m i).length rc)) := hid (fun w' hb => ⟨(hb.cell (p := ⟨W.heap.size, 1, none⟩) HX.out.lt).trans HX.out.c1, (hb.cell (p := ⟨b1, o1 + i, none⟩) hb1).trans q0⟩)
        have HOc : Hid (∀ w' : World, w'.rowIs bx 25 3 (outZ m.L (.slice an i kn) (.slice ab m.ac.length kb)) → w'.cell? ⟨bx, 1, none⟩ = some (.slice an i kn)) := hid (fun w' h => by
          have := h.cell (i := 1) (by omega)
          simpa [outZ] using this)
        have HIA := hid hIA
        have hd : Below wr.heap.size wr wr.drew := (Below.refl _ _).drew
        have HO6 := hid (hO.below hd)
        have hrl := HS.out.r i hlt
        have H20 : Hid (wr.drew.cell? ⟨bx, 1, none⟩ = some (.slice an i kn) ∧ wr.drew.cell? ⟨W.heap.size, 1, none⟩ = some (.slice (some ⟨b1, o1, none⟩) m.nx.length cap) ∧ wr.drew.cell? ⟨b1, o1 + i, none⟩ = some (.slice ra (rowOf m i).length rc)) := hid ⟨HOc.out _ HO6.out.out, HSU.out _ HO6.out.bl⟩
        clear hO hX hIA q0 r1 r2 hd
        go_wp2_with fail
        clear x1 xl
        refine wp_region_but_d2 (fun w' => w'.cell? ⟨bx, 1, none⟩ = some (.slice an i kn) ∧ w'.cell? ⟨W.heap.size, 1, none⟩ = some (.slice (some ⟨b1, o1, none⟩) m.nx.length cap) ∧ w'.cell? ⟨b1, o1 + i, none⟩ = some (.slice ra (rowOf m i).length rc)) 12 (by kernel_rfl) ?_
        intro Z0 hZ0
        rw [← hZ0] at H20 HO6
        clear hZ0
        have hZs := HO6.out.bl.size
        refine but_take (i := 0) (v := (.pointer (some ⟨bx, 1, none⟩))) rfl (by kernel_rfl) (by kernel_rfl) (by kernel_rfl) (by kernel_rfl) (fun _ _ _ h => h) (Or.inl ⟨by rfl, ?hy⟩) H20.out ?_
        case hy => intro w hSw; (try dsimp only at hSw); go_simp
        try simp only [Act.put, List.setIfInBounds_toArray, List.set_cons_zero, List.set_cons_succ]
        refine but_take (i := 1) (v := (.slice an i kn)) rfl (by kernel_rfl) (by kernel_rfl) (by kernel_rfl) (by kernel_rfl) (fun _ _ _ h => h) (Or.inl ⟨by rfl, ?hy⟩) H20.out ?_
        case hy => intro w hSw; (try dsimp only at hSw); go_simp
        try simp only [Act.put, List.setIfInBounds_toArray, List.set_cons_zero, List.set_cons_succ]
        refine but_take (i := 3) (v := (.pointer (some ⟨W.heap.size, 1, none⟩))) rfl (by kernel_rfl) (by kernel_rfl) (by kernel_rfl) (by kernel_rfl) (fun _ _ _ h => h) (Or.inl ⟨by rfl, ?hy⟩) H20.out ?_
        case hy => intro w hSw; (try dsimp only at hSw); go_simp
        try simp only [Act.put, List.setIfInBounds_toArray, List.set_cons_zero, List.set_cons_succ]
        refine but_take (i := 4) (v := (.slice (some ⟨b1, o1, none⟩) m.nx.length cap)) rfl (by kernel_rfl) (by kernel_rfl) (by kernel_rfl) (by kernel_rfl) (fun _ _ _ h => h) (Or.inl ⟨by rfl, ?hy⟩) H20.out ?_
        case hy => intro w hSw; (try dsimp only at hSw); go_simp
        try simp only [Act.put, List.setIfInBounds_toArray, List.set_cons_zero, List.set_cons_succ]
        refine but_take (i := 5) (v := (.int .i64 (i : Nat))) rfl (by kernel_rfl) (by kernel_rfl) (by kernel_rfl) (by kernel_rfl) (fun _ _ _ h => h) (Or.inl ⟨by rfl, ?hy⟩) H20.out ?_
        case hy => intro w hSw; (try dsimp only at hSw); go_simp
        try simp only [Act.put, List.setIfInBounds_toArray, List.set_cons_zero, List.set_cons_succ]
        refine but_take (i := 6) (v := (.pointer (some ⟨b1, o1 + i, none⟩))) rfl (by kernel_rfl) (by kernel_rfl) (by kernel_rfl) (by kernel_rfl) (fun _ _ _ h => h) (Or.inl ⟨by rfl, ?hy⟩) H20.out ?_
        case hy => intro w hSw; (try dsimp only at hSw); go_simp
        try simp only [Act.put, List.setIfInBounds_toArray, List.set_cons_zero, List.set_cons_succ]
        refine but_take (i := 7) (v := (.slice ra (rowOf m i).length rc)) rfl (by kernel_rfl) (by kernel_rfl) (by kernel_rfl) (by kernel_rfl) (fun _ _ _ h => h) (Or.inl ⟨by rfl, ?hy⟩) H20.out ?_
        case hy => intro w hSw; (try dsimp only at hSw); go_simp
        try simp only [Act.put, List.setIfInBounds_toArray, List.set_cons_zero, List.set_cons_succ]
        have hbE : Below V.heap.size V (Z0.alloc (.cells #[] 3)) := HO6.out.bl.alloc hZs _
        have hEm := World.ownsRow_lit (base := V.heap.size) (e := 3) (size := 1) Z0 #[] 0 hZs (by unfold maxLen; omega) rfl
        have H21 : Hid ((Z0.alloc (.cells #[] 3)).cell? ⟨bx, 1, none⟩ = some (.slice an i kn) ∧ (Z0.alloc (.cells #[] 3)).cell? ⟨W.heap.size, 1, none⟩ = some (.slice (some ⟨b1, o1, none⟩) m.nx.length cap) ∧ (Z0.alloc (.cells #[] 3)).cell? ⟨b1, o1 + i, none⟩ = some (.slice ra (rowOf m i).length rc)) := hid ⟨HOc.out _ (HO6.out.out.alloc _), HSU.out _ hbE⟩
        refine but_one (i := 2) (by kernel_rfl) ?_
        refine wpOp_one rfl (by rfl) (fun K hK => ?_)
        go_simp
        refine hK _ _ ⟨fun _ => H21.out, ?_⟩
        clear hK K
        try simp only [Act.put, List.setIfInBounds_toArray, List.set_cons_zero, List.set_cons_succ]
        refine but_one (i := 8) (by kernel_rfl) ?_
        refine wpOp_one rfl (by rfl) (fun K' hK => ?_)
        refine wp_append_src _ _ _ (by rfl) V.heap.size 3 i0 (.int .i64 0) 8 Try.underlying33 hi0 hz0 hz1 hz2 rfl _ 0 [] (by rfl) hEm ra (rowOf m i).length rc ((rowOf m i).map (Value.int .i64)) (by rfl) (by simp) (ints_src (HIA.out.below hbE)) (ints_one _) (by unfold maxLen; omega) (by omega) hbE.size ?_
        intro vr w3 hown hgrow hat
        rw [Nat.zero_add, List.nil_append] at hown
        obtain ⟨ar, kr, er⟩ := row_shape hown
        subst er
        have hb3 := (below_alloc Z0 (.cells #[] 3)).grown hgrow (by simp) (fun g hg => by have hg' : some Z0.heap.size = some g := hg; cases hg'; exact Nat.le_refl _)
        have hO3 := HO6.out.below hb3
        have hs3 : w3.cell? ⟨bx, 1, none⟩ = some (.slice an i kn) ∧ w3.cell? ⟨W.heap.size, 1, none⟩ = some (.slice (some ⟨b1, o1, none⟩) m.nx.length cap) ∧ w3.cell? ⟨b1, o1 + i, none⟩ = some (.slice ra (rowOf m i).length rc) := ⟨HOc.out _ hO3.out, HSU.out _ hO3.bl⟩
        refine hK _ _ ⟨fun _ => hs3, ?_⟩
        clear hK K' H21 hEm hbE hgrow hat
        try simp only [Act.put, List.setIfInBounds_toArray, List.set_cons_zero, List.set_cons_succ]
        have hs4 : (w3.alloc (.cells #[.slice ar (rowOf m i).length kr] 33)).cell? ⟨bx, 1, none⟩ = some (.slice an i kn) ∧ (w3.alloc (.cells #[.slice ar (rowOf m i).length kr] 33)).cell? ⟨W.heap.size, 1, none⟩ = some (.slice (some ⟨b1, o1, none⟩) m.nx.length cap) ∧ (w3.alloc (.cells #[.slice ar (rowOf m i).length kr] 33)).cell? ⟨b1, o1 + i, none⟩ = some (.slice ra (rowOf m i).length rc) := ⟨HOc.out _ (hO3.out.alloc _), HSU.out _ (hO3.bl.alloc hO3.bl.size _)⟩
        refine but_one (i := 9) (by kernel_rfl) ?_
        refine wpOp_one rfl (by rfl) (fun K hK => ?_)
        go_simp
        refine hK _ _ ⟨fun _ => hs4, ?_⟩
        clear hK K
        try simp only [Act.put, List.setIfInBounds_toArray, List.set_cons_zero, List.set_cons_succ]
        refine but_one (i := 10) (by kernel_rfl) ?_
        refine wpOp_one rfl (by rfl) (fun K' hK => ?_)
        refine wp_append_own_at2 _ _ _ (by rfl) V.heap.size 33 i3 (.slice none 0 0) 1 24 Try.underlying22 hi3 hy0 hy1 hy2 rfl (by omega) (.slice an i kn) i _ (by rfl) (hO3.nx.alloc _) ⟨w3.heap.size, 0, none⟩ 1 1 [.slice ar (rowOf m i).length kr] (by rfl) (by rfl) (World.news_of_block (cs := #[.slice ar (rowOf m i).length kr]) (t := 33) (fr := (0, 0)) (heap_alloc_new w3 _)) (by simp [Value.oneCell']) (by unfold maxLen; omega) (by omega) (by have := hO3.bl.size; simp; omega) ?_
        intro v5 w5 hown5 hgrow5 hat5
        obtain ⟨a5, k5, e5⟩ := row_shape hown5
        subst e5
        have ho5 := row_kept hO3.out hO3.nx (by decide) hgrow5
        have hb5 : Below V.heap.size V w5 := (hO3.bl.alloc hO3.bl.size _).grown hgrow5 (by have := hO3.bl.size; simp; omega) fun k hk => (hO3.nx.lt k hk).1
        have hs5 : w5.cell? ⟨bx, 1, none⟩ = some (.slice an i kn) ∧ w5.cell? ⟨W.heap.size, 1, none⟩ = some (.slice (some ⟨b1, o1, none⟩) m.nx.length cap) ∧ w5.cell? ⟨b1, o1 + i, none⟩ = some (.slice ra (rowOf m i).length rc) := ⟨HOc.out _ ho5, HSU.out _ hb5⟩
        have HO9 := hid (hO3.close hown hgrow5 hown5)
        have y3 := ho5.frozen 1
        have l3 := ho5.lt
        have c3 := hs5.1
        refine hK _ _ ⟨fun _ => hs5, ?_⟩
        clear hK K' hs4 hs3 hown hO3 hown5 hgrow5 hat5 ho5 hb5 hb3
        try simp only [Act.put, List.setIfInBounds_toArray, List.set_cons_zero, List.set_cons_succ]
        refine but_one (i := 11) (by kernel_rfl) ?_
        refine wpOp_one rfl (by rfl) (fun K hK => ?_)
        go_simp
        refine hK _ _ ⟨fun _ => hs5, ?_⟩
        clear hK K
        try simp only [Act.put, List.setIfInBounds_toArray, List.set_cons_zero, List.set_cons_succ]
        refine but_one (i := 12) (by kernel_rfl) ?_
        refine wpOp_one rfl (by rfl) (fun K hK => ?_)
        go_simp
        refine hK _ _ ⟨fun h => absurd rfl h, but_done (by kernel_rfl) ?_ _⟩
        clear hK K
        try simp only [Act.put, List.setIfInBounds_toArray, List.set_cons_zero, List.set_cons_succ]
        go_wp2_with fail
        go_roundw
        case rel => exact ⟨i + 1, _, _, by go_num, by omega, HO9.out⟩
        case measure => simp [intOf]; omega
      · obtain rfl : i = m.nx.length := by omega
        have i2 : ¬ (m.nx.length : Int) < (m.nx.length : Int) := by omega
        obtain ⟨an', cn', ab', cb', e1, e2, hMA⟩ := hO.mac
        cases e1
        cases e2
        have o0 := hO.out.cell (i := 0) (by omega)
        have o1 := hO.out.cell (i := 1) (by omega)
        have o2 := hO.out.cell (i := 2) (by omega)
        have ol := hO.out.lt
        simp only [outZ, if_true, if_false, show (1 : Nat) ≠ 0 by omega, show (2 : Nat) ≠ 0 by omega, show (2 : Nat) ≠ 1 by omega, ite_true, ite_false] at o0 o1 o2
        have hrr := rowIs_below HR.out hO.bl HR.out.lt
        have f0 := hrr.frozen 0
        have f1 := hrr.frozen 1
        have f2 := hrr.frozen 2
        have z0 := hrr.cell (i := 0) (by omega)
        have z1 := hrr.cell (i := 1) (by omega)
        have z2 := hrr.cell (i := 2) (by omega)
        have zl := hrr.lt
        have HC := hid (res_set hrr (.int .i64 m.L) (.slice an m.nx.length kn) (.slice ab m.ac.length kb))
        simp only [outF] at z0 z1 z2
        have HMA := hid (hO.mac3 hrr (.int .i64 m.L) (.slice an m.nx.length kn) (.slice ab m.ac.length kb))
        have Hbz := hid (HB.out.trans (hO.bl.mono HB.out.size))
        clear hO hX hMA hrr
        go_wp2_with fail
        have q0 := HC.out.c0
        have q1 := HC.out.c1
        have q2 := HC.out.c2
        exact bodyPost_ret (v := .agg #[.int .i64 m.L, .slice an m.nx.length kn, .slice ab m.ac.length kb]) (by simp [results, Try.results20, go_sem, q0, q1, q2]) rfl ⟨an, kn, ab, kb, rfl, HMA.out, below_set3 Hbz.out (by omega) _ _ _⟩
  clear hKa
  have HSS : Hid (∀ w', Below V.heap.size V w' → w'.cell? ⟨W.heap.size, 0, none⟩ = some (.int .i64 m.L) ∧ w'.cell? ⟨W.heap.size, 2, none⟩ = some (.slice a2 m.ac.length cap2)) := hid (fun w' hb => ⟨(hb.cell (p := ⟨W.heap.size, 0, none⟩) HX.out.lt).trans HX.out.c0, (hb.cell (p := ⟨W.heap.size, 2, none⟩) HX.out.lt).trans HX.out.c2⟩)
  refine wp_region_but_d2 (fun w' => w'.cell? ⟨W.heap.size, 0, none⟩ = some (.int .i64 m.L) ∧ w'.cell? ⟨W.heap.size, 2, none⟩ = some (.slice a2 m.ac.length cap2)) 8 (by kernel_rfl) ?_
  intro Z0 hZ0
  have hbZ : Below V.heap.size V Z0 := by rw [hZ0]; exact (Below.refl _ _).drew
  have H20 : Hid (Z0.cell? ⟨W.heap.size, 0, none⟩ = some (.int .i64 m.L) ∧ Z0.cell? ⟨W.heap.size, 2, none⟩ = some (.slice a2 m.ac.length cap2)) := hid (HSS.out _ hbZ)
  have hZs := hbZ.size
  clear hZ0
  refine but_take (i := 0) (v := (.pointer (some ⟨W.heap.size, 0, none⟩))) rfl (by kernel_rfl) (by kernel_rfl) (by kernel_rfl) (by kernel_rfl) (fun _ _ _ h => h) (Or.inl ⟨by rfl, ?hy⟩) H20.out ?_
  case hy => intro w hSw; (try dsimp only at hSw); go_simp
  try simp only [Act.put, List.setIfInBounds_toArray, List.set_cons_zero, List.set_cons_succ]
  refine but_take (i := 1) (v := (.int .i64 m.L)) rfl (by kernel_rfl) (by kernel_rfl) (by kernel_rfl) (by kernel_rfl) (fun _ _ _ h => h) (Or.inl ⟨by rfl, ?hy⟩) H20.out ?_
  case hy => intro w hSw; (try dsimp only at hSw); go_simp
  try simp only [Act.put, List.setIfInBounds_toArray, List.set_cons_zero, List.set_cons_succ]
  refine but_take (i := 3) (v := (.pointer (some ⟨W.heap.size, 2, none⟩))) rfl (by kernel_rfl) (by kernel_rfl) (by kernel_rfl) (by kernel_rfl) (fun _ _ _ h => h) (Or.inl ⟨by rfl, ?hy⟩) H20.out ?_
  case hy => intro w hSw; (try dsimp only at hSw); go_simp
  try simp only [Act.put, List.setIfInBounds_toArray, List.set_cons_zero, List.set_cons_succ]
  refine but_take (i := 4) (v := (.slice a2 m.ac.length cap2)) rfl (by kernel_rfl) (by kernel_rfl) (by kernel_rfl) (by kernel_rfl) (fun _ _ _ h => h) (Or.inl ⟨by rfl, ?hy⟩) H20.out ?_
  case hy => intro w hSw; (try dsimp only at hSw); go_simp
  try simp only [Act.put, List.setIfInBounds_toArray, List.set_cons_zero, List.set_cons_succ]
  refine but_two2 (i := 2) (j := 7) (by kernel_rfl) ?_ ?_
  · refine wpOp_one rfl (by rfl) (fun K' hK => ?_)
    go_simp
    have hbE : Below V.heap.size V (Z0.alloc (.cells #[] 4)) := hbZ.alloc hbZ.size _
    have hEm := World.ownsRow_lit (base := V.heap.size) (e := 4) (size := 1) Z0 #[] 0 hZs (by unfold maxLen; omega) rfl
    have hzE : V.heap.size ≤ Z0.heap.size := hZs
    refine hK _ _ ⟨fun _ => HSS.out _ hbE, ?_⟩
    clear hK K'
    try simp only [Act.put, List.setIfInBounds_toArray, List.set_cons_zero, List.set_cons_succ]
    refine but_two2 (i := 5) (j := 7) (by kernel_rfl) ?_ ?_
    · refine wpOp_one rfl (by rfl) (fun K' hK => ?_)
      refine wp_append_src _ _ _ (by rfl) V.heap.size 4 i4 (.bool false) 1 Try.underlying23 hi4 hw0 hw1 hw2 rfl _ 0 [] (by rfl) (hEm) a2 m.ac.length cap2 (m.ac.map Value.bool) (by rfl) (by simp) (bools_src ((HM.out.below (hbE)).ac)) (bools_one _) (by have := HS.out.a; unfold maxLen; omega) (by have := HS.out.a; omega) ((hbE).size) ?_
      intro vb w3 hown hgrow hat
      rw [Nat.zero_add, List.nil_append] at hown
      obtain ⟨ab, kb, eb⟩ := row_shape hown
      subst eb
      have hb3 : Below V.heap.size V w3 := (hbE).grown hgrow (by have := (hbE).size; simp at this ⊢; omega) (fun g hg => by have hg' : some _ = some g := hg; cases hg'; exact hzE)
      refine hK _ _ ⟨fun _ => HSS.out _ hb3, ?_⟩
      clear hK K'
      try simp only [Act.put, List.setIfInBounds_toArray, List.set_cons_zero, List.set_cons_succ]
      refine but_take (i := 6) (v := (.agg #[.int .i64 m.L, .slice none 0 0, .slice ab m.ac.length kb])) rfl (by kernel_rfl) (by kernel_rfl) (by kernel_rfl) (by kernel_rfl) (fun _ _ _ h => h) (Or.inl ⟨by rfl, ?hy⟩) (HSS.out _ hb3) ?_
      case hy => intro w hSw; (try dsimp only at hSw); go_simp
      try simp only [Act.put, List.setIfInBounds_toArray, List.set_cons_zero, List.set_cons_succ]
      have hbx : V.heap.size ≤ w3.heap.size := hb3.size
      have hr4 := res_cells (w := w3) (w1 := w3.alloc (.cells #[.int .i64 0, .slice none 0 0, .slice none 0 0] 25)) (Below.refl _ _) rfl
      have hb4 : Below V.heap.size V (w3.alloc (.cells #[.int .i64 0, .slice none 0 0, .slice none 0 0] 25)) := hb3.alloc hb3.size _
      have ho4 := hown.alloc (.cells #[.int .i64 0, .slice none 0 0, .slice none 0 0] 25)
      have hs4 := HSS.out _ hb4
      refine but_one (i := 7) (by kernel_rfl) ?_
      refine wpOp_one rfl (by rfl) (fun K hK => ?_)
      go_simp
      refine hK _ _ ⟨fun _ => hs4, ?_⟩
      clear hK K
      try simp only [Act.put, List.setIfInBounds_toArray, List.set_cons_zero, List.set_cons_succ]
      generalize w3.alloc (.cells #[.int .i64 0, .slice none 0 0, .slice none 0 0] 25) = w4 at *
      have f0 := hr4.frozen 0
      have f1 := hr4.frozen 1
      have f2 := hr4.frozen 2
      have y0 := hr4.cell (i := 0) (by omega)
      have y1 := hr4.cell (i := 1) (by omega)
      have y2 := hr4.cell (i := 2) (by omega)
      have yl := hr4.lt
      simp only [outF, if_true, if_false, show (1 : Nat) ≠ 0 by omega, show (2 : Nat) ≠ 0 by omega, show (2 : Nat) ≠ 1 by omega, ite_true, ite_false] at y0 y1 y2
      have HC := hid (cp_start hr4 hb4 ho4 hbx (fun _ => undef))
      clear hr4 hb4 ho4
      refine but_one (i := 8) (by kernel_rfl) ?_
      refine wpOp_one rfl (by rfl) (fun K hK => ?_)
      go_simp
      refine hK _ _ ⟨fun h => absurd rfl h, but_done (by kernel_rfl) ?_ _⟩
      clear hK K
      try simp only [Act.put, List.setIfInBounds_toArray, List.set_cons_zero, List.set_cons_succ]
      exact key _ _ _ _ _ HC.out
    · refine wpOp_one rfl (by rfl) (fun K' hK => ?_)
      go_simp
      have hbF : Below V.heap.size V ((Z0.alloc (.cells #[] 4)).alloc (.cells #[.int .i64 0, .slice none 0 0, .slice none 0 0] 25)) := hbE.alloc hbE.size _
      have hEm2 := hEm.alloc (.cells #[.int .i64 0, .slice none 0 0, .slice none 0 0] 25)
      have hr2 := res_cells (w := Z0.alloc (.cells #[] 4)) (w1 := (Z0.alloc (.cells #[] 4)).alloc (.cells #[.int .i64 0, .slice none 0 0, .slice none 0 0] 25)) (Below.refl _ _) rfl
      rw [show (Z0.alloc (.cells #[] 4)).heap.size = Z0.heap.size + 1 by simp] at hr2
      refine hK _ _ ⟨fun _ => HSS.out _ hbF, ?_⟩
      clear hK K'
      try simp only [Act.put, List.setIfInBounds_toArray, List.set_cons_zero, List.set_cons_succ]
      refine but_one (i := 5) (by kernel_rfl) ?_
      refine wpOp_one rfl (by rfl) (fun K' hK => ?_)
      refine wp_append_src _ _ _ (by rfl) V.heap.size 4 i4 (.bool false) 1 Try.underlying23 hi4 hw0 hw1 hw2 rfl _ 0 [] (by rfl) (hEm2) a2 m.ac.length cap2 (m.ac.map Value.bool) (by rfl) (by simp) (bools_src ((HM.out.below (hbF)).ac)) (bools_one _) (by have := HS.out.a; unfold maxLen; omega) (by have := HS.out.a; omega) ((hbF).size) ?_
      intro vb w3 hown hgrow hat
      rw [Nat.zero_add, List.nil_append] at hown
      obtain ⟨ab, kb, eb⟩ := row_shape hown
      subst eb
      have hb3 : Below V.heap.size V w3 := (hbF).grown hgrow (by have := (hbF).size; simp at this ⊢; omega) (fun g hg => by have hg' : some _ = some g := hg; cases hg'; exact hzE)
      refine hK _ _ ⟨fun _ => HSS.out _ hb3, ?_⟩
      clear hK K'
      try simp only [Act.put, List.setIfInBounds_toArray, List.set_cons_zero, List.set_cons_succ]
      have hr4 := hr2.of_block (hgrow.block _ hr2.lt (fun e => by have e' : some (Z0.heap.size + 1) = some Z0.heap.size := e; simp at e'))
      have hbx : V.heap.size ≤ Z0.heap.size + 1 := by omega
      have hb4 := hb3
      have ho4 := hown
      refine but_take (i := 6) (v := (.agg #[.int .i64 m.L, .slice none 0 0, .slice ab m.ac.length kb])) rfl (by kernel_rfl) (by kernel_rfl) (by kernel_rfl) (by kernel_rfl) (fun _ _ _ h => h) (Or.inl ⟨by rfl, ?hy⟩) (HSS.out _ hb3) ?_
      case hy => intro w hSw; (try dsimp only at hSw); go_simp
      try simp only [Act.put, List.setIfInBounds_toArray, List.set_cons_zero, List.set_cons_succ]
      have f0 := hr4.frozen 0
      have f1 := hr4.frozen 1
      have f2 := hr4.frozen 2
      have y0 := hr4.cell (i := 0) (by omega)
      have y1 := hr4.cell (i := 1) (by omega)
      have y2 := hr4.cell (i := 2) (by omega)
      have yl := hr4.lt
      simp only [outF, if_true, if_false, show (1 : Nat) ≠ 0 by omega, show (2 : Nat) ≠ 0 by omega, show (2 : Nat) ≠ 1 by omega, ite_true, ite_false] at y0 y1 y2
      have HC := hid (cp_start hr4 hb4 ho4 hbx (fun _ => undef))
      clear hr4 hb4 ho4
      refine but_one (i := 8) (by kernel_rfl) ?_
      refine wpOp_one rfl (by rfl) (fun K hK => ?_)
      go_simp
      refine hK _ _ ⟨fun h => absurd rfl h, but_done (by kernel_rfl) ?_ _⟩
      clear hK K
      try simp only [Act.put, List.setIfInBounds_toArray, List.set_cons_zero, List.set_cons_succ]
      exact key _ _ _ _ _ HC.out
  · refine wpOp_one rfl (by rfl) (fun K' hK => ?_)
    go_simp
    have hbE : Below V.heap.size V (Z0.alloc (.cells #[.int .i64 0, .slice none 0 0, .slice none 0 0] 25)) := hbZ.alloc hbZ.size _
    have hr1 := res_cells (w := Z0) (w1 := Z0.alloc (.cells #[.int .i64 0, .slice none 0 0, .slice none 0 0] 25)) (Below.refl _ _) rfl
    refine hK _ _ ⟨fun _ => HSS.out _ hbE, ?_⟩
    clear hK K'
    try simp only [Act.put, List.setIfInBounds_toArray, List.set_cons_zero, List.set_cons_succ]
    refine but_one (i := 2) (by kernel_rfl) ?_
    refine wpOp_one rfl (by rfl) (fun K' hK => ?_)
    go_simp
    have hbF : Below V.heap.size V ((Z0.alloc (.cells #[.int .i64 0, .slice none 0 0, .slice none 0 0] 25)).alloc (.cells #[] 4)) := hbE.alloc hbE.size _
    have hEm := World.ownsRow_lit (base := V.heap.size) (e := 4) (size := 1) (Z0.alloc (.cells #[.int .i64 0, .slice none 0 0, .slice none 0 0] 25)) #[] 0 hbE.size (by unfold maxLen; omega) rfl
    rw [show (Z0.alloc (.cells #[.int .i64 0, .slice none 0 0, .slice none 0 0] 25)).heap.size = Z0.heap.size + 1 by simp] at hEm
    have hr2 := hr1.alloc (.cells #[] 4)
    have hzE : V.heap.size ≤ Z0.heap.size + 1 := by omega
    refine hK _ _ ⟨fun _ => HSS.out _ hbF, ?_⟩
    clear hK K'
    try simp only [Act.put, List.setIfInBounds_toArray, List.set_cons_zero, List.set_cons_succ]
    refine but_one (i := 5) (by kernel_rfl) ?_
    refine wpOp_one rfl (by rfl) (fun K' hK => ?_)
    refine wp_append_src _ _ _ (by rfl) V.heap.size 4 i4 (.bool false) 1 Try.underlying23 hi4 hw0 hw1 hw2 rfl _ 0 [] (by rfl) (hEm) a2 m.ac.length cap2 (m.ac.map Value.bool) (by rfl) (by simp) (bools_src ((HM.out.below (hbF)).ac)) (bools_one _) (by have := HS.out.a; unfold maxLen; omega) (by have := HS.out.a; omega) ((hbF).size) ?_
    intro vb w3 hown hgrow hat
    rw [Nat.zero_add, List.nil_append] at hown
    obtain ⟨ab, kb, eb⟩ := row_shape hown
    subst eb
    have hb3 : Below V.heap.size V w3 := (hbF).grown hgrow (by have := (hbF).size; simp at this ⊢; omega) (fun g hg => by have hg' : some _ = some g := hg; cases hg'; exact hzE)
    refine hK _ _ ⟨fun _ => HSS.out _ hb3, ?_⟩
    clear hK K'
    try simp only [Act.put, List.setIfInBounds_toArray, List.set_cons_zero, List.set_cons_succ]
    have hr4 := hr2.of_block (hgrow.block _ hr2.lt (fun e => by have e' : some Z0.heap.size = some (Z0.heap.size + 1) := e; simp at e'))
    have hbx : V.heap.size ≤ Z0.heap.size := hZs
    have hb4 := hb3
    have ho4 := hown
    refine but_take (i := 6) (v := (.agg #[.int .i64 m.L, .slice none 0 0, .slice ab m.ac.length kb])) rfl (by kernel_rfl) (by kernel_rfl) (by kernel_rfl) (by kernel_rfl) (fun _ _ _ h => h) (Or.inl ⟨by rfl, ?hy⟩) (HSS.out _ hb3) ?_
    case hy => intro w hSw; (try dsimp only at hSw); go_simp
    try simp only [Act.put, List.setIfInBounds_toArray, List.set_cons_zero, List.set_cons_succ]
    have f0 := hr4.frozen 0
    have f1 := hr4.frozen 1
    have f2 := hr4.frozen 2
    have y0 := hr4.cell (i := 0) (by omega)
    have y1 := hr4.cell (i := 1) (by omega)
    have y2 := hr4.cell (i := 2) (by omega)
    have yl := hr4.lt
    simp only [outF, if_true, if_false, show (1 : Nat) ≠ 0 by omega, show (2 : Nat) ≠ 0 by omega, show (2 : Nat) ≠ 1 by omega, ite_true, ite_false] at y0 y1 y2
    have HC := hid (cp_start hr4 hb4 ho4 hbx (fun _ => undef))
    clear hr4 hb4 ho4
    refine but_one (i := 8) (by kernel_rfl) ?_
    refine wpOp_one rfl (by rfl) (fun K hK => ?_)
    go_simp
    refine hK _ _ ⟨fun h => absurd rfl h, but_done (by kernel_rfl) ?_ _⟩
    clear hK K
    try simp only [Act.put, List.setIfInBounds_toArray, List.set_cons_zero, List.set_cons_succ]
    exact key _ _ _ _ _ HC.out
end Go.Proofs.Ytmllbemjcfkmjaa
