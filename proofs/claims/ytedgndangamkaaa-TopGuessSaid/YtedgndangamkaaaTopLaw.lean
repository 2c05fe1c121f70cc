/- What 'TopGuess' needs beside: append in a region that draws, the first of the least numbers, the bound of a beginning. -/
import Derived.Test.YtedgndangamkaaaFront
import Derived.Test.YtedgndangamkaaaPortLaw
import Derived.Test.YtedgndangamkaaaLawNever
import Derived.Maps.AppendAt
namespace Go.Proofs.Ytedgndangamkaaa
open Go.RowKit
set_option linter.unusedSimpArgs false
set_option linter.unusedVariables false

theorem step_append_own {P : Program} {w : World} {ops : Array Oper} {o : Oper} {a : Act} {K : Act → World → Prop} {Q : Exit → Act → World → Prop} {E : Prop} (hgd : o.guard = none) (s x : Operand) (t : TypeId)
    (ho : o.op = .call { callee := .builtin .append, args := #[s, x], argTypes := #[t, t] })
    (base : Nat) (e : TypeId) (i : TypeInfo) (z : Value) (size bytes : Nat) (ht : P.underlying t = some (.slice e)) (hi : P.info? e = some i) (hz : i.zero = some z)
    (hsize : i.size = size) (hby : i.bytes = bytes) (hzs : z.cells.size = size) (hsz : 0 < size)
    (v : Value) (n : Nat) (xs : List Value) (hs : a.eval s = v) (hown : w.ownsRow base e size v n xs)
    (ad : Addr) (m c : Nat) (news : List Value) (hx : a.eval x = .slice (some ad) m c) (hl : news.length = m * size) (hnews : ∀ j u, news[j]? = some u → w.cell? (ad.add j) = some u) (h1 : ∀ u ∈ news, u.oneCell' = true)
    (h63 : n + m ≤ maxLen) (hbytes : (n + m) * bytes ≤ 140737488355328) (hbase : base ≤ w.heap.size)
    (h : ∀ v' w', w'.ownsRow base e size v' (n + m) (xs ++ news) → w.grownBy w' v.ownBlock → K (a.put o.dst v') w') :
    if Region.wanted o (yielded ops a.tmps) = true then Oper.wp P o a w K Q else E := by
  have hw : Region.wanted o (yielded ops a.tmps) = true := by simp [Region.wanted, hgd]
  rw [if_pos hw]
  obtain ⟨v', w', hrun, h2, h3, _, _⟩ := run_append_own_at (P := P) w base t o.type e i z size bytes ht hi hz hsize hby hzs hsz v n xs hown ad m c news hl hnews h1 h63 hbytes hbase
  unfold Oper.wp execOp
  simp only [ho, resolve, invoke, builtin, Sem.run_bind, Sem.run_pure, Result.andThen_ok, List.map_toArray, List.map_cons, List.map_nil, hs, hx, hrun]
  exact h v' w' h2 h3

theorem least_first (f : Nat → Int) (k : Nat) : ∀ j, j < least f k → f (least f k) < f j := by
  induction k with
  | zero => intro j hj; simp [least] at hj
  | succ k ih =>
    intro j hj
    by_cases h : f k < f (least f k)
    · rw [least_step f k h] at hj ⊢
      have := least_le f k j hj
      omega
    · rw [least_skip f k h] at hj ⊢
      exact ih j hj
theorem cost_first {xs : List Int} {o u : Int} (j : Nat) (h : j < qBest xs o u) : costN xs o u (qBest xs o u) < costN xs o u j := least_first _ _ j h

theorem top_bound {g : List Rd} (hok : GOK g) (k : Nat) (hk : k < g.length) :
    plE (g.take (k + 1)) = 0 ∧ boundE ((adv g 0).length : Int) (bestW (g.take (k + 1))) = 0 ∧ (er g (k + 1) : Int) ≤ boundR ((adv g 0).length : Int) (bestW (g.take (k + 1))) := by
  have hp := pl_front hok (k + 1) hk (by omega)
  have hok' := gok_take hok (k + 1)
  have ha : adv (g.take (k + 1)) 0 = adv g 0 := adv_take g (k + 1) 0 (by omega)
  have h1 := (hok.el 0 (by omega)).2.1
  have hl := least_lt (wrI (g.take (k + 1))) (adv (g.take (k + 1)) 0).length
  have hb : bestN (g.take (k + 1)) < (adv (g.take (k + 1)) 0).length := by unfold bestN; rw [ha] at hl ⊢; omega
  have hn := never_bound hok' (bestN (g.take (k + 1))) hb
  have el : (g.take (k + 1)).length = k + 1 := by simp; omega
  rw [ha] at hn
  refine ⟨hp, ?_, ?_⟩
  · rw [bestW, if_pos hp]; exact hn.1
  · rw [bestW, if_pos hp]
    have := hn.2
    rw [el, er_take g (k + 1) (k + 1) (Nat.le_refl _)] at this
    rw [el]
    exact this
theorem cost_at {xs : List Int} {o u : Int} (hC : CountsOK xs o u) (a : Option Addr) (c p : Nat) (hp : p ≤ 100) (W : World) (h : IntsAt W a xs) :
    Calls Try.prog 26 #[.slice a xs.length c, .int .i64 o, .int .i64 u, .int .i64 p] W fun e w' => e = .returned (.tuple #[.int .i64 (costN xs o u p), .int .i64 0]) ∧ W = w' := by
  have hP : PortOK xs o u p := ⟨hC, by omega, by omega⟩
  have := Cost_any xs a c o u p W h
  rw [costR, portE_ok hP, if_pos rfl] at this
  exact this
theorem best_at {xs : List Int} {o u : Int} (hC : CountsOK xs o u) (a : Option Addr) (c p : Nat) (hp : p ≤ 100) (W : World) (h : IntsAt W a xs) :
    Calls Try.prog 22 #[.slice a xs.length c, .int .i64 o, .int .i64 u, .int .i64 p] W fun e w' => e = .returned (.tuple #[.bool (costN xs o u p == costN xs o u (qBest xs o u)), .int .i64 0]) ∧ W = w' := by
  have hP : PortOK xs o u p := ⟨hC, by omega, by omega⟩
  have := IsBest_any xs a c o u p W h
  rw [bestR, portE_ok hP, if_pos rfl] at this
  exact this
theorem quant_at {xs : List Int} {o u : Int} (hC : CountsOK xs o u) (a : Option Addr) (c : Nat) (W : World) (h : IntsAt W a xs) :
    Calls Try.prog 20 #[.slice a xs.length c, .int .i64 o, .int .i64 u] W fun e w' => e = .returned (.tuple #[.int .i64 (qBest xs o u), .int .i64 0]) ∧ W = w' := by
  have := Quantity_any xs a c o u W h
  rw [quantR, countE_ok hC, if_pos rfl] at this
  exact this
theorem quant_no {xs : List Int} {o u : Int} (hC : ¬ CountsOK xs o u) (a : Option Addr) (c : Nat) (W : World) (h : IntsAt W a xs) :
    Calls Try.prog 20 #[.slice a xs.length c, .int .i64 o, .int .i64 u] W fun e w' => e = .returned (.tuple #[.int .i64 0, .int .i64 1]) ∧ W = w' := by
  have := Quantity_any xs a c o u W h
  rw [quantR, countE_no hC, if_neg (by decide)] at this
  exact this
end Go.Proofs.Ytedgndangamkaaa
