/- Tables of numbers that a call makes, row after row; how many words of a length are accepted, plainly. -/
import Derived.Test.YtmllbemjcfkmjaaVal
namespace Go.Proofs.Ytmllbemjcfkmjaa
open Go.RowKit Go.Maps
set_option linter.unusedSimpArgs false
set_option linter.unusedVariables false

/-! ### in memory -/
structure TabI (V : World) (base N n : Nat) (f : Nat → Nat → Int) (v : Value) (g : Nat → Nat) (w : World) : Prop where
  bl : Below base V w
  own : w.ownsRow base 33 1 v n ((List.range n).map fun j => .slice (some ⟨g j, 0, none⟩) N N)
  rows : ∀ j, j < n → base ≤ g j ∧ w.rowIs (g j) 3 N (fun s => .int .i64 (f j s))
structure TabAt (w : World) (v : Value) (n N : Nat) (f : Nat → Nat → Int) (b cap : Nat) : Prop where
  eq : v = .slice (some ⟨b, 0, none⟩) n cap
  lt : b < w.heap.size
  row : ∀ k, k < n → ∃ gk, w.cell? ⟨b, k, none⟩ = some (.slice (some ⟨gk, 0, none⟩) N N) ∧ gk < w.heap.size ∧ ∀ s, s < N → w.cell? ⟨gk, s, none⟩ = some (.int .i64 (f k s))
section
variable {V w w' : World} {base N n : Nat} {f : Nat → Nat → Int} {v v' : Value} {g : Nat → Nat} {o : Obj}
theorem TabI.below (h : TabI V base N n f v g w) (hsz : base ≤ w.heap.size) (hb : Below w.heap.size w w') : TabI V base N n f v g w' :=
  ⟨h.bl.trans (hb.mono hsz), own_below h.own hb, fun j hj => ⟨(h.rows j hj).1, rowIs_below (h.rows j hj).2 hb (h.rows j hj).2.lt⟩⟩
theorem own_row_ne {b : Nat} {fv : Nat → Value} {xs : List Value} {t e : TypeId} (h : w.rowIs b t N fv) (ho : w.ownsRow base e 1 v n xs) (hne : e ≠ t) : v.ownBlock ≠ some b := by
  intro he
  obtain ⟨c, hb, _⟩ := h
  rcases ho.2 with ⟨rfl, _⟩ | ⟨q, cap, cur, rfl, _, hg, _⟩
  · simp [Value.ownBlock] at he
  · simp [Value.ownBlock] at he
    subst he
    rw [hb] at hg
    cases hg
    exact hne rfl
theorem row_kept {b : Nat} {fv : Nat → Value} {xs : List Value} {t e : TypeId} (h : w.rowIs b t N fv) (ho : w.ownsRow base e 1 v n xs) (hne : e ≠ t) (hg : (w.alloc o).grownBy w' v.ownBlock) : w'.rowIs b t N fv :=
  (h.alloc o).of_block (hg.block b (h.alloc o).lt fun e' => own_row_ne h ho hne e'.symm)
theorem TabI.push (h : TabI V base N n f v g w) (hsz : base ≤ w.heap.size) {gn : Nat} (hbg : base ≤ gn) (hr : w.rowIs gn 3 N (fun s => .int .i64 (f n s))) (hg : (w.alloc o).grownBy w' v.ownBlock)
    (ho : w'.ownsRow base 33 1 v' (n + 1) ((List.range n).map (fun j => .slice (some ⟨g j, 0, none⟩) N N) ++ [.slice (some ⟨gn, 0, none⟩) N N])) :
    TabI V base N (n + 1) f v' (fun j => if j = n then gn else g j) w' := by
  refine ⟨(h.bl.alloc hsz o).grown hg (by simp; omega) fun k hk => (h.own.lt k hk).1, ?_, fun j hj => ?_⟩
  · have e : (List.range (n + 1)).map (fun j => Value.slice (some ⟨if j = n then gn else g j, 0, none⟩) N N) = (List.range n).map (fun j => .slice (some ⟨g j, 0, none⟩) N N) ++ [.slice (some ⟨gn, 0, none⟩) N N] := by
      rw [List.range_succ, List.map_append]
      simp only [List.map_cons, List.map_nil, if_true]
      congr 1
      refine List.map_congr_left fun j hj => ?_
      have := List.mem_range.1 hj
      rw [if_neg (by omega)]
    rw [e]
    exact ho
  · by_cases e : j = n
    · subst e
      simp only [if_true]
      exact ⟨hbg, row_kept hr h.own (by decide) hg⟩
    · simp only [e, if_false]
      have hj' : j < n := by omega
      exact ⟨(h.rows j hj').1, row_kept (h.rows j hj').2 h.own (by decide) hg⟩
theorem TabI.at (h : TabI V base N n f v g w) (hn : 0 < n) : ∃ b cap, TabAt w v n N f b cap := by
  obtain ⟨b, cap, rfl, hlt, _⟩ := own_cell h.own 0 hn
  refine ⟨b, cap, rfl, hlt, fun k hk => ?_⟩
  obtain ⟨b', cap', e, _, hc⟩ := own_cell h.own k hk
  cases e
  refine ⟨g k, ?_, (h.rows k hk).2.lt, fun s hs => (h.rows k hk).2.cell hs⟩
  rw [hc]
  simp [hk]
theorem TabAt.below {b cap : Nat} (h : TabAt w v n N f b cap) (hb : Below w.heap.size w w') : TabAt w' v n N f b cap := by
  have := hb.size
  refine ⟨h.eq, Nat.lt_of_lt_of_le h.lt this, fun k hk => ?_⟩
  obtain ⟨gk, h1, h2, h3⟩ := h.row k hk
  refine ⟨gk, (hb.cell (p := ⟨b, k, none⟩) h.lt).trans h1, by omega, fun s hs => (hb.cell (p := ⟨gk, s, none⟩) h2).trans (h3 s hs)⟩
end

/-! ### how many words -/
def cnt (m : Mac) : Nat → Int → Int
  | 0, s => if accM m s then 1 else 0
  | k + 1, s => sumTo (fun a => cnt m k (stepM m s a)) m.L.toNat
def six : Nat → Int
  | 0 => 1
  | k + 1 => 6 * six k
theorem six_pos (k : Nat) : 1 ≤ six k := by
  induction k with
  | zero => decide
  | succ k ih => simp only [six]; omega
theorem six_le {k : Nat} (h : k ≤ 20) : six k ≤ 3656158440062976 := by
  have : ∀ k, k ≤ 20 → six k ≤ 3656158440062976 := by decide
  exact this k h
theorem cnt_bd (m : Mac) (h6 : m.L ≤ 6) (k : Nat) : ∀ s, 0 ≤ cnt m k s ∧ cnt m k s ≤ six k := by
  induction k with
  | zero => intro s; simp only [cnt, six]; split <;> omega
  | succ k ih =>
    intro s
    have := sumTo_bd (fun a => cnt m k (stepM m s a)) (six k) m.L.toNat fun d _ => ih _
    simp only [cnt, six]
    refine ⟨this.1, Int.le_trans this.2 (Int.mul_le_mul_of_nonneg_right (by omega) (by have := six_pos k; omega))⟩
def cntI (m : Mac) (k s : Nat) : Int := cnt m k (s : Int)
/-- A row on its way: the states below s are done, of state s the letters below a. -/
def ptC (m : Mac) (k s a i : Nat) : Int := if i < s then cntI m (k + 1) i else if i = s then sumTo (fun b => cnt m k (stepM m (s : Int) b)) a else 0
theorem ptC_bd (m : Mac) (h6 : m.L ≤ 6) (k s a : Nat) (ha : a ≤ m.L.toNat) : 0 ≤ ptC m k s a s ∧ ptC m k s a s ≤ 6 * six k := by
  have := sumTo_bd (fun b => cnt m k (stepM m (s : Int) b)) (six k) a fun d _ => cnt_bd m h6 k _
  unfold ptC
  rw [if_neg (by omega), if_pos rfl]
  refine ⟨this.1, Int.le_trans this.2 (Int.mul_le_mul_of_nonneg_right (by omega) (by have := six_pos k; omega))⟩
section
variable {w : World} {b N : Nat} {m : Mac} {k s a : Nat}
theorem ptC_zero (h : w.rowIs b 3 N (fun _ => .int .i64 0)) : w.rowIs b 3 N (rowI (ptC m k 0 0)) := h.congr fun i _ => by
  unfold rowI ptC
  rw [if_neg (by omega)]
  split <;> rfl
theorem ptC_step (h : w.rowIs b 3 N (rowI (ptC m k s a))) {t : Int} (ht : t = stepM m (s : Int) a) : (w.setCell ⟨b, s, none⟩ (.int .i64 (ptC m k s a s + cnt m k t))).rowIs b 3 N (rowI (ptC m k s (a + 1))) := by
  subst ht
  refine (h.set s _).congr fun i _ => ?_
  unfold rowI ptC
  by_cases e : i = s
  · subst e; simp [sumTo]
  · simp [e]
theorem ptC_next (h : w.rowIs b 3 N (rowI (ptC m k s a))) (ha : a = m.L.toNat) : w.rowIs b 3 N (rowI (ptC m k (s + 1) 0)) := h.congr fun i _ => by
  subst ha
  unfold rowI ptC
  by_cases e : i = s
  · subst e
    rw [if_neg (by omega), if_pos rfl, if_pos (by omega)]
    rfl
  · by_cases e2 : i < s
    · rw [if_pos e2, if_pos (by omega)]
    · rw [if_neg e2, if_neg e, if_neg (by omega)]
      split <;> rfl
theorem ptC_end (h : w.rowIs b 3 N (rowI (ptC m k N 0))) : w.rowIs b 3 N (fun s => .int .i64 (cntI m (k + 1) s)) := h.congr fun i hi => by
  unfold rowI ptC
  rw [if_pos hi]
theorem bit_cnt (h : w.rowIs b 3 N (rowI (bitN (fun s => accM m (s : Int)) N))) : w.rowIs b 3 N (fun s => .int .i64 (cntI m 0 s)) := h.congr fun i hi => by
  unfold rowI bitN cntI
  simp only [cnt]
  simp [hi]
end
end Go.Proofs.Ytmllbemjcfkmjaa
