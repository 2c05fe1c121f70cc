/- How the arguments of this seat's rows read in memory. -/
import Derived.Test.YtmllbemjcfkmjaaRows
import Derived.Test.YtmllbemjcfkmjaaPlainOut
import Derived.ProofKit
import Derived.OpenShut
import Derived.ChangeOld
import Derived.Below
import Derived.Lib.SmallJoins
import Derived.Deep.Matrix
import Derived.Deep.Grids
import Derived.Test.YtmllbemjcfkmjaaTab
namespace Go.Proofs.Ytmllbemjcfkmjaa
open Go.ChangeShapes Go.WideShapes Go.ChangeAt Go.RowKit Go.Joins Go.Deep

theorem Try.own : ownKnob Try.prog.godebug = none := by kernel_rfl
theorem Try.laidOut : laidOutB Try.prog = true := by kernel_rfl

section
variable {H : Type} {enc : TypeId × Value → H} {P : Program} {w : World}

theorem open_slice_of_ints_cap {r : Reach} {b0 : Nat} {t e : TypeId} {v : Value} {d : DataW H} {p : List MemPlace} (ht : P.underlying t = some (.slice e)) (he : P.underlying e = some (.int .i64)) (hc : P.cellsOf e = 1)
    (hv : Value.okWide P w r b0 t v) (h : DataW.Trod enc P w 0 (fun _ => true) true t v d p) :
    ∃ a xs cap, v = .slice a xs.length cap ∧ IntsAt w a xs ∧ xs.length ≤ cap ∧ cap ≤ maxLen ∧ ∀ i, i < xs.length → (Lit.int .i64 (nth xs i)).wf = true := by
  obtain ⟨a0, len0, cap0, rfl⟩ := okWide_slice ht hv
  obtain ⟨fuel, hf⟩ := h
  rcases open_ints ht he hc hf with ⟨hcs, _⟩ | ⟨x, l, c, zs, hcs, _, hl, hm, hz, _, hcell, hwz⟩
  · simp [Value.cells] at hcs
    obtain ⟨rfl, rfl, rfl⟩ := hcs
    exact ⟨none, [], 0, rfl, fun i hi => absurd hi (Nat.not_lt_zero _), Nat.zero_le _, Nat.zero_le _, fun i hi => absurd hi (Nat.not_lt_zero _)⟩
  · simp [Value.cells] at hcs
    obtain ⟨rfl, rfl, rfl⟩ := hcs
    have hz' : zs.length = cap0 := by simpa using hz
    refine ⟨some x, zs.take len0, cap0, by simp; omega, ?_, by simp; omega, hm, ?_⟩
    · intro i hi
      have hi' : i < len0 := by simp at hi; omega
      have hci := hcell i (by omega)
      obtain ⟨b, off, spot⟩ := x
      have hspot : spot = none := by
        by_cases h0 : i = 0
        · subst h0; simpa [Addr.add] using World.cell?_spot hci
        · have h00 := hcell 0 (by omega); simpa [Addr.add] using World.cell?_spot h00
      subst hspot
      have hci' : w.cell? ⟨b, off + i, none⟩ = some (.int .i64 (zs.getD i 0)) := by
        have e : (⟨b, off, none⟩ : Addr).add i = ⟨b, off + i, none⟩ := by unfold Addr.add; split <;> simp_all
        rw [← e]; exact hci
      refine ⟨b, off, rfl, World.block_lt_of_cell? w _ hci', ?_⟩
      rw [hci']
      simp [nth, List.getD, hi']
    · intro i hi
      have hi' : i < len0 := by simp at hi; omega
      refine hwz _ ?_
      have : nth (zs.take len0) i = zs[i]'(by omega) := by simp [nth, List.getD, hi', show i < zs.length by omega]
      rw [this]
      exact List.getElem_mem _

theorem open_slice_of_ints {r : Reach} {b0 : Nat} {t e : TypeId} {v : Value} {d : DataW H} {p : List MemPlace} (ht : P.underlying t = some (.slice e)) (he : P.underlying e = some (.int .i64)) (hc : P.cellsOf e = 1)
    (hv : Value.okWide P w r b0 t v) (h : DataW.Trod enc P w 0 (fun _ => true) true t v d p) :
    ∃ a xs cap, v = .slice a xs.length cap ∧ IntsAt w a xs ∧ xs.length ≤ maxLen ∧ ∀ i, i < xs.length → (Lit.int .i64 (nth xs i)).wf = true := by
  obtain ⟨a, xs, cap, e, h1, h2, h3, h4⟩ := open_slice_of_ints_cap ht he hc hv h
  exact ⟨a, xs, cap, e, h1, Nat.le_trans h2 h3, h4⟩
theorem bools_of {t e : TypeId} {fuel : Nat} {cs : List Value} {x : DataW H × List MemPlace} (ht : P.underlying t = some (.slice e)) (he : P.underlying e = some .bool) (hc : P.cellsOf e = 1)
    (h : DataW.trod enc P w 0 (fun _ => true) true fuel t cs = some x) :
    ∃ a bs cap, cs = [.slice a bs.length cap] ∧ BoolsAt w a bs ∧ bs.length ≤ cap ∧ cap ≤ maxLen := by
  rcases open_bools ht he hc h with ⟨rfl, _⟩ | ⟨a, len, cap, B, rfl, _, hl, hm, _, hcell⟩
  · exact ⟨none, [], 0, rfl, fun i hi => absurd hi (Nat.not_lt_zero _), Nat.zero_le _, Nat.zero_le _⟩
  · refine ⟨some a, (List.range len).map B, cap, by simp, ?_, by simpa using hl, hm⟩
    intro i hi
    have hi' : i < len := by simpa using hi
    obtain ⟨b, off, spot⟩ := a
    have hci := hcell 0 (by omega)
    have hspot : spot = none := by simpa [Addr.add] using World.cell?_spot hci
    subst hspot
    refine ⟨b, off, rfl, World.block_lt_of_cell? w _ hci, ?_⟩
    have := hcell i (by omega)
    rw [add_plain0] at this
    rw [this]
    simp [List.getD, hi']
theorem rows_of {t e q : TypeId} {fuel : Nat} {cs : List Value} {x : DataW H × List MemPlace} (ht : P.underlying t = some (.slice e)) (he : P.underlying e = some (.slice q)) (hq : P.underlying q = some (.int .i64)) (ce : P.cellsOf e = 1) (cq : P.cellsOf q = 1)
    (h : DataW.trod enc P w 0 (fun _ => true) true fuel t cs = some x) :
    ∃ (a : Option Addr) (nx : List (List Int)) (cap : Nat), cs = [.slice a nx.length cap] ∧ nx.length ≤ cap ∧ cap ≤ maxLen ∧
      ∀ j, j < nx.length → ∃ b off, a = some ⟨b, off, none⟩ ∧ b < w.heap.size ∧ ∃ ra rc, w.cell? ⟨b, off + j, none⟩ = some (.slice ra (nx.getD j []).length rc) ∧ (nx.getD j []).length ≤ rc ∧ rc ≤ maxLen ∧ IntsAt w ra (nx.getD j []) := by
  rcases open_int_rows ht he hq ce cq h with ⟨rfl, _⟩ | ⟨a, len, cap, A, L, C, Z, rfl, _, hl, hm, _, hx⟩
  · exact ⟨none, [], 0, rfl, Nat.zero_le _, Nat.zero_le _, fun i hi => absurd hi (Nat.not_lt_zero _)⟩
  · refine ⟨some a, (List.range len).map fun r => (Z r).take (L r), cap, by simp, by simpa using hl, hm, ?_⟩
    intro j hj
    have hj' : j < len := by simpa using hj
    obtain ⟨b, off, spot⟩ := a
    have hc0 := (hx 0 (by omega)).1
    have hspot : spot = none := by simpa [Addr.add] using World.cell?_spot hc0
    subst hspot
    obtain ⟨h1, h2, h3, h4, h5, h6, h7⟩ := hx j (by omega)
    rw [add_plain0] at h1
    have er : ((List.range len).map fun r => (Z r).take (L r)).getD j [] = (Z j).take (L j) := by simp [List.getD, hj']
    have el : ((Z j).take (L j)).length = L j := by simp; omega
    rw [er, el]
    refine ⟨b, off, rfl, World.block_lt_of_cell? w _ h1, A j, C j, h1, h2, h3, ?_⟩
    intro i hi
    rw [el] at hi
    cases hA : A j with
    | none => have := h6 hA; omega
    | some a' =>
      obtain ⟨_, hcell⟩ := h7 a' hA
      obtain ⟨b', off', spot'⟩ := a'
      have hci := hcell 0 (by omega)
      have hspot : spot' = none := by simpa [Addr.add] using World.cell?_spot hci
      subst hspot
      have hcc := hcell i (by omega)
      rw [add_plain0] at hcc
      refine ⟨b', off', rfl, World.block_lt_of_cell? w _ hcc, ?_⟩
      rw [hcc]
      simp [nth, List.getD, hi]
theorem open_mac {r : Reach} {b0 : Nat} {t i s e q bs bl : TypeId} {f0 f1 f2 : Field} {v : Value} {d : DataW H} {p : List MemPlace} (ht : P.underlying t = some (.struct #[f0, f1, f2])) (hone : oneCellFields P #[f0, f1, f2] = true) (hC : P.cellsOf t = 3)
    (e0 : f0.type = i) (e1 : f1.type = s) (e2 : f2.type = bs) (hi : P.underlying i = some (.int .i64)) (hs : P.underlying s = some (.slice e)) (he : P.underlying e = some (.slice q)) (hq : P.underlying q = some (.int .i64)) (ce : P.cellsOf e = 1) (cq : P.cellsOf q = 1)
    (hbs : P.underlying bs = some (.slice bl)) (hbl : P.underlying bl = some .bool) (cb : P.cellsOf bl = 1)
    (hv : Value.okWide P w r b0 t v) (h : DataW.Trod enc P w 0 (fun _ => true) true t v d p) :
    ∃ a cap a2 cap2 m, v = .agg #[.int .i64 m.L, .slice a m.nx.length cap, .slice a2 m.ac.length cap2] ∧ MacAt w a cap a2 cap2 m ∧ (Lit.int .i64 m.L).wf = true := by
  obtain ⟨c0, c1, c2, y0, y1, y2, k, rfl, rfl, rfl, hy0, hy1, hy2⟩ := open_agg3 ht hone hC hv h
  rw [e0] at hy0
  rw [e1] at hy1
  rw [e2] at hy2
  obtain ⟨x, q0, _, wx⟩ := DataW.trod_int hi hy0
  simp at q0
  subst q0
  obtain ⟨a, nx, cap, q1, h1, h2, h3⟩ := rows_of hs he hq ce cq hy1
  obtain ⟨a2, ac, cap2, q2, h4, h5, h6⟩ := bools_of hbs hbl cb hy2
  simp at q1 q2
  subst q1 q2
  exact ⟨a, cap, a2, cap2, ⟨x, nx, ac⟩, rfl, ⟨h1, h2, h5, h6, h4, h3⟩, wx⟩
theorem open_two_ints {r : Reach} {b0 : Nat} {t e : TypeId} {f0 f1 : Field} {v : Value} {d : DataW H} {p : List MemPlace} (ht : P.underlying t = some (.struct #[f0, f1])) (hone : oneCellFields P #[f0, f1] = true) (hC : P.cellsOf t = 2)
    (e0 : f0.type = e) (e1 : f1.type = e) (he : P.underlying e = some (.int .i64)) (hv : Value.okWide P w r b0 t v) (h : DataW.Trod enc P w 0 (fun _ => true) true t v d p) :
    ∃ x y, v = .agg #[.int .i64 x, .int .i64 y] ∧ (Lit.int .i64 x).wf = true ∧ (Lit.int .i64 y).wf = true := by
  obtain ⟨c0, c1, y0, y1, m, rfl, rfl, rfl, hy0, hy1⟩ := open_agg2 ht hone hC hv h
  rw [e0] at hy0
  rw [e1] at hy1
  obtain ⟨a, q0, rfl, wa⟩ := DataW.trod_int he hy0
  obtain ⟨b, q1, rfl, wb⟩ := DataW.trod_int he hy1
  simp at q0 q1
  subst q0 q1
  exact ⟨a, b, rfl, wa, wb⟩
end
set_option maxRecDepth 100000 in
theorem Try.open_machine {H : Type} {enc : TypeId × Value → H} {w : World} {r : Reach} {b0 : Nat} {v : Value} {d : DataW H} {p : List MemPlace}
    (hv : Value.okWide Try.prog w r b0 25 v) (h : DataW.Trod enc Try.prog w 0 (fun _ => true) true 25 v d p) :
    ∃ a cap a2 cap2 m, v = .agg #[.int .i64 m.L, .slice a m.nx.length cap, .slice a2 m.ac.length cap2] ∧ MacAt w a cap a2 cap2 m ∧ (Lit.int .i64 m.L).wf = true :=
  open_mac Try.underlying25 (by kernel_rfl) (by kernel_rfl) rfl rfl rfl Try.underlying3 Try.underlying22 Try.underlying33 Try.underlying3 (by kernel_rfl) (by kernel_rfl) Try.underlying23 Try.underlying4 (by kernel_rfl) hv h
theorem i64_bd {x : Int} (h : (Lit.int .i64 x).wf = true) : -9223372036854775808 ≤ x ∧ x ≤ 9223372036854775807 := by
  have := bounds_i64 h
  omega
end Go.Proofs.Ytmllbemjcfkmjaa
