/- What 'TopShares' counts with: plain laws. -/
import Derived.Test.YthankdfjkmfokaaKnown
import Derived.Test.YthankdfjkmfokaaLawProves
import Derived.Test.YthankdfjkmfokaaLawSome
import Derived.Test.YthankdfjkmfokaaLawBest
import Derived.Test.YthankdfjkmfokaaLawDivisors
import Derived.Test.YthankdfjkmfokaaCloseLaw
import Derived.Test.YthankdfjkmfokaaRem
namespace Go.Proofs.Ythankdfjkmfokaa
open Go.RowKit
set_option linter.unusedSimpArgs false
set_option linter.unusedVariables false

structure BoxAt (H : Nat) (n kd : Int) (v : Value) (w : World) : Prop where
  c0 : w.cell? ⟨H, 0, none⟩ = some (.int .i64 n)
  c1 : w.cell? ⟨H, 1, none⟩ = some (.int .i64 kd)
  c2 : w.cell? ⟨H, 2, none⟩ = some v
  lt : H < w.heap.size
theorem box_new (W : World) (n kd : Int) (v : Value) : BoxAt W.heap.size n kd v (W.alloc (.cells #[.int .i64 n, .int .i64 kd, v] 54)) :=
  ⟨by simp, by simp, by simp, by simp⟩
theorem BoxAt.below {H : Nat} {n kd : Int} {v : Value} {w w' : World} (h : BoxAt H n kd v w) (hb : Below w.heap.size w w') : BoxAt H n kd v w' :=
  ⟨(hb.cell (p := ⟨H, 0, none⟩) h.lt).trans h.c0, (hb.cell (p := ⟨H, 1, none⟩) h.lt).trans h.c1, (hb.cell (p := ⟨H, 2, none⟩) h.lt).trans h.c2, Nat.lt_of_lt_of_le h.lt hb.size⟩
theorem BoxAt.draw {H : Nat} {n kd : Int} {v : Value} {w : World} (h : BoxAt H n kd v w) (k : Nat) : BoxAt H n kd v (w.drewN k) := h.below (below_drewN (Below.refl _ _) k)
/-- What the valid ones of the first k schools have. -/
def prt (ss D : List Int) : Nat → List Int
  | 0 => []
  | k + 1 => if 0 ≤ nth ss k ∧ nth ss k < D.length then prt ss D k ++ [nth D (nth ss k).toNat] else prt ss D k
def psm (ss D : List Int) : Nat → Int
  | 0 => 0
  | k + 1 => if 0 ≤ nth ss k ∧ nth ss k < D.length then psm ss D k + nth D (nth ss k).toNat else psm ss D k
theorem prt_yes (ss D : List Int) (k j : Nat) (hj : nth ss k = j) (h : j < D.length) :
    (prt ss D k).map (Value.int .i64) ++ [.int .i64 (nth D j)] = (prt ss D (k + 1)).map (Value.int .i64) ∧ (prt ss D k).length + 1 = (prt ss D (k + 1)).length ∧ psm ss D (k + 1) = psm ss D k + nth D j := by
  have hc : 0 ≤ nth ss k ∧ nth ss k < D.length := by omega
  rw [prt, psm, if_pos hc, if_pos hc, hj]
  simp
theorem prt_no (ss D : List Int) (k : Nat) (h : ¬ (0 ≤ nth ss k ∧ nth ss k < D.length)) : prt ss D (k + 1) = prt ss D k ∧ psm ss D (k + 1) = psm ss D k := by
  rw [prt, psm, if_neg h, if_neg h]
  exact ⟨rfl, rfl⟩
theorem prt_len (ss D : List Int) (k : Nat) : (prt ss D k).length ≤ k := by
  induction k with
  | zero => simp [prt]
  | succ k ih =>
    rw [prt]
    split
    · rw [List.length_append]; simp; omega
    · omega
theorem psm_bd (ss D : List Int) (M : Int) (hM : 0 ≤ M) (h : ∀ i, i < D.length → 0 ≤ nth D i ∧ nth D i ≤ M) (k : Nat) : 0 ≤ psm ss D k ∧ psm ss D k ≤ k * M := by
  induction k with
  | zero => simp [psm]
  | succ k ih =>
    have e : ((k + 1 : Nat) : Int) * M = k * M + M := by push_cast; rw [Int.add_mul]; omega
    rw [psm, e]
    split
    · have := h (nth ss k).toNat (by omega)
      omega
    · omega
theorem prt_sub {xs ss D : List Int} (hs : SchsOK xs ss) (hl : D.length = xs.length) (k : Nat) (hk : k ≤ ss.length) : prt ss D k = (sub D ss).take k ∧ psm ss D k = sumTo (nth (sub D ss)) k := by
  induction k with
  | zero => simp [prt, psm, sumTo]
  | succ k ih =>
    obtain ⟨i1, i2⟩ := ih (by omega)
    have he := hs.el k (by omega)
    have hc : 0 ≤ nth ss k ∧ nth ss k < D.length := by omega
    have h1 : k < (sub D ss).length := by rw [sub_len]; omega
    have h2 := sub_at D ss k (by omega)
    rw [prt, psm, if_pos hc, if_pos hc, i1, i2]
    refine ⟨?_, by simp only [sumTo]; rw [h2]⟩
    rw [List.take_succ_eq_append_getElem h1, ← h2]
    simp [nth, List.getD, h1]
theorem some_part {xs ss : List Int} {m : Nat} {kd : Int} (hd : DivOK xs kd m) (h : SomOK xs ss (psm ss (giv kd xs m) ss.length) kd) :
    somR xs ss (psm ss (giv kd xs m) ss.length) kd = prt ss (giv kd xs m) ss.length := by
  obtain ⟨e1, e2⟩ := prt_sub h.sch (giv_len kd xs m) ss.length (Nat.le_refl _)
  obtain ⟨k, hk, ht, he⟩ := some_sub kd h.ex.1 h.sch m
  have e3 : sumTo (nth (sub (giv kd xs m) ss)) ss.length = tot (sub (giv kd xs m) ss) := by unfold tot; rw [sub_len]
  rw [e3, ht] at e2
  rw [(som_yes h).2, divR_yes ((sub_div h.ex h.sch).2 h), e2, Int.toNat_natCast, ← he, e1, List.take_of_length_le (by rw [sub_len]; exact Nat.le_refl _)]
structure PairFacts (xs D : List Int) (i k : Nat) : Prop where
  more : nth xs i = nth xs k → nth D i ≤ nth D k
  close : nth xs k ≤ nth xs i → nth D k ≤ nth D i + 1
  i0 : 0 ≤ nth D i
  i1 : nth D i ≤ 1000
structure GivFacts (xs : List Int) (kd : Int) (m : Nat) (D : List Int) : Prop where
  len : D.length = xs.length
  hav : HavOK xs D kd
  fair : faiB xs D kd = true
  pair : ∀ i k, i < xs.length → k < i → PairFacts xs D i k
theorem giv_facts {xs : List Int} {kd : Int} {m : Nat} (hd : DivOK xs kd m) (hm : m ≤ 1000) : GivFacts xs kd m (giv kd xs m) := by
  have ho := hd.1.1
  have hok := giv_ok (kd := kd) ho m hm
  have sf := giv_fair kd ho m
  have hh : HavOK xs (giv kd xs m) kd := ⟨hd.1, hok⟩
  refine ⟨giv_len _ _ _, hh, faiB_yes hh (sf_fair sf), fun i k hi hk => ?_⟩
  have e := hok.el i (by rw [giv_len]; exact hi)
  exact ⟨fun he => first_more ho hok sf i k hi hk he, fun he => fair_close ho hok (sf_fair sf) i k hi (by omega) (by omega) he, e.1, e.2⟩
theorem dvrB_chk {xs ms : List Int} {kd : Int} (h : dvrB xs ms kd = true) : chkE xs ms kd (dvrN xs ms kd) (dvrD xs ms kd) = 0 := by
  by_cases hT : HavOK xs ms kd ∧ TopOK kd xs ms
  · exact dvr_chk hT.1 hT.2
  · rw [(dvr_no hT).1] at h
    cases h
end Go.Proofs.Ythankdfjkmfokaa
