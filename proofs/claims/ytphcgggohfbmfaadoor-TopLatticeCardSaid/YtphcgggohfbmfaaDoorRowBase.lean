/- How the arguments of this seat's rows read in memory. -/
import Derived.Test.YtphcgggohfbmfaaDoorRows
import Derived.Test.YtphcgggohfbmfaaDoorBase
import Derived.ProofKit
import Derived.OpenShut
import Derived.ChangeOld
import Derived.Below
import Derived.Lib.SmallJoins
namespace Go.Proofs.YtphcgggohfbmfaaDoor
open Go.ChangeShapes Go.WideShapes Go.ChangeAt Go.RowKit Go.Joins Go.Deep

theorem Tryd.own : ownKnob Tryd.prog.godebug = none := by kernel_rfl
theorem Tryd.laidOut : laidOutB Tryd.prog = true := by kernel_rfl

section
variable {H : Type} {enc : TypeId × Value → H} {P : Program} {w : World}

theorem open_slice_of_ints_cap {r : Reach} {b0 : Nat} {t e : TypeId} {v : Value} {d : DataW H} {p : List MemPlace} (ht : P.underlying t = some (.slice e)) (he : P.underlying e = some (.int .i64)) (hc : P.cellsOf e = 1)
    (hv : Value.okWide P w r b0 t v) (h : DataW.Trod enc P w 0 (fun _ => true) true t v d p) :
    ∃ a xs cap, v = .slice a xs.length cap ∧ IntsAt w a xs ∧ xs.length ≤ cap ∧ cap ≤ maxLen ∧ ∀ i, i < xs.length → (Lit.int .i64 (nth xs i)).wf = true := by
  obtain ⟨a0, len0, cap0, rfl⟩ := okWide_slice ht hv
  obtain ⟨fuel, hf⟩ := h
  rcases open_ints ht he hc hf with ⟨hcs, _⟩ | ⟨x, l, c, zs, hcs, _, hl, hm, hz, _, hcell, hwz⟩
  · simp [Value.cells] at hcs
    obtain ⟨rfl, rfl, rfl⟩ := hcs
    exact ⟨none, [], 0, rfl, fun i hi => absurd hi (Nat.not_lt_zero _), Nat.zero_le _, Nat.zero_le _, fun i hi => absurd hi (Nat.not_lt_zero _)⟩
  · simp [Value.cells] at hcs
    obtain ⟨rfl, rfl, rfl⟩ := hcs
    have hz' : zs.length = cap0 := by simpa using hz
    refine ⟨some x, zs.take len0, cap0, by simp; omega, ?_, by simp; omega, hm, ?_⟩
    · intro i hi
      have hi' : i < len0 := by simp at hi; omega
      have hci := hcell i (by omega)
      obtain ⟨b, off, spot⟩ := x
      have hspot : spot = none := by
        by_cases h0 : i = 0
        · subst h0; simpa [Addr.add] using World.cell?_spot hci
        · have h00 := hcell 0 (by omega); simpa [Addr.add] using World.cell?_spot h00
      subst hspot
      have hci' : w.cell? ⟨b, off + i, none⟩ = some (.int .i64 (zs.getD i 0)) := by
        have e : (⟨b, off, none⟩ : Addr).add i = ⟨b, off + i, none⟩ := by unfold Addr.add; split <;> simp_all
        rw [← e]; exact hci
      refine ⟨b, off, rfl, World.block_lt_of_cell? w _ hci', ?_⟩
      rw [hci']
      simp [nth, List.getD, hi']
    · intro i hi
      have hi' : i < len0 := by simp at hi; omega
      refine hwz _ ?_
      have : nth (zs.take len0) i = zs[i]'(by omega) := by simp [nth, List.getD, hi', show i < zs.length by omega]
      rw [this]
      exact List.getElem_mem _

theorem open_slice_of_ints {r : Reach} {b0 : Nat} {t e : TypeId} {v : Value} {d : DataW H} {p : List MemPlace} (ht : P.underlying t = some (.slice e)) (he : P.underlying e = some (.int .i64)) (hc : P.cellsOf e = 1)
    (hv : Value.okWide P w r b0 t v) (h : DataW.Trod enc P w 0 (fun _ => true) true t v d p) :
    ∃ a xs cap, v = .slice a xs.length cap ∧ IntsAt w a xs ∧ xs.length ≤ maxLen ∧ ∀ i, i < xs.length → (Lit.int .i64 (nth xs i)).wf = true := by
  obtain ⟨a, xs, cap, e, h1, h2, h3, h4⟩ := open_slice_of_ints_cap ht he hc hv h
  exact ⟨a, xs, cap, e, h1, Nat.le_trans h2 h3, h4⟩
theorem open_two_ints {r : Reach} {b0 : Nat} {t e : TypeId} {f0 f1 : Field} {v : Value} {d : DataW H} {p : List MemPlace} (ht : P.underlying t = some (.struct #[f0, f1])) (hone : oneCellFields P #[f0, f1] = true) (hC : P.cellsOf t = 2)
    (e0 : f0.type = e) (e1 : f1.type = e) (he : P.underlying e = some (.int .i64)) (hv : Value.okWide P w r b0 t v) (h : DataW.Trod enc P w 0 (fun _ => true) true t v d p) :
    ∃ x y, v = .agg #[.int .i64 x, .int .i64 y] ∧ (Lit.int .i64 x).wf = true ∧ (Lit.int .i64 y).wf = true := by
  obtain ⟨c0, c1, y0, y1, m, rfl, rfl, rfl, hy0, hy1⟩ := open_agg2 ht hone hC hv h
  rw [e0] at hy0
  rw [e1] at hy1
  obtain ⟨a, q0, rfl, wa⟩ := DataW.trod_int he hy0
  obtain ⟨b, q1, rfl, wb⟩ := DataW.trod_int he hy1
  simp at q0 q1
  subst q0 q1
  exact ⟨a, b, rfl, wa, wb⟩
end
theorem i64_bd {x : Int} (h : (Lit.int .i64 x).wf = true) : -9223372036854775808 ≤ x ∧ x ≤ 9223372036854775807 := by
  have := bounds_i64 h
  omega
end Go.Proofs.YtphcgggohfbmfaaDoor
