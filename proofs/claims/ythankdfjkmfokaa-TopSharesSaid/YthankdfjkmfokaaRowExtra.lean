/- A struct of two numbers and a list of numbers, opened. -/
import Derived.Test.YthankdfjkmfokaaRowBase
namespace Go.Proofs.Ythankdfjkmfokaa
open Go.ChangeShapes Go.WideShapes Go.ChangeAt Go.RowKit Go.Joins Go.Deep
set_option linter.unusedVariables false
variable {H : Type} {enc : TypeId × Value → H} {P : Program} {w : World}
theorem open_ints_cell {n : Nat} {t e : TypeId} {v : Value} {y : DataW H × List MemPlace} (ht : P.underlying t = some (.slice e)) (he : P.underlying e = some (.int .i64)) (hc : P.cellsOf e = 1)
    (h : DataW.trod enc P w 0 (fun _ => true) true n t [v] = some y) :
    ∃ a xs cap, v = .slice a xs.length cap ∧ IntsAt w a xs ∧ xs.length ≤ maxLen := by
  rcases open_ints ht he hc h with ⟨hcs, _⟩ | ⟨x, l, c, zs, hcs, _, hl, hm, hz, _, hcell, hwz⟩
  · simp at hcs
    subst hcs
    exact ⟨none, [], 0, rfl, fun i hi => absurd hi (Nat.not_lt_zero _), Nat.zero_le _⟩
  · simp at hcs
    subst hcs
    have hz' : zs.length = c := by simpa using hz
    refine ⟨some x, zs.take l, c, by simp; omega, ?_, by simp; omega⟩
    intro i hi
    have hi' : i < l := by simp at hi; omega
    have hci := hcell i (by omega)
    obtain ⟨b, off, spot⟩ := x
    have hspot : spot = none := by
      by_cases h0 : i = 0
      · subst h0; simpa [Addr.add] using World.cell?_spot hci
      · have h00 := hcell 0 (by omega); simpa [Addr.add] using World.cell?_spot h00
    subst hspot
    have hci' : w.cell? ⟨b, off + i, none⟩ = some (.int .i64 (zs.getD i 0)) := by
      have e : (⟨b, off, none⟩ : Addr).add i = ⟨b, off + i, none⟩ := by unfold Addr.add; split <;> simp_all
      rw [← e]; exact hci
    refine ⟨b, off, rfl, World.block_lt_of_cell? w _ hci', ?_⟩
    rw [hci']
    simp [nth, List.getD, hi']
theorem open_two_list {r : Reach} {b0 : Nat} {t e s : TypeId} {f0 f1 f2 : Field} {v : Value} {d : DataW H} {p : List MemPlace} (ht : P.underlying t = some (.struct #[f0, f1, f2])) (hone : oneCellFields P #[f0, f1, f2] = true) (hC : P.cellsOf t = 3)
    (e0 : f0.type = e) (e1 : f1.type = e) (e2 : f2.type = s) (he : P.underlying e = some (.int .i64)) (hs : P.underlying s = some (.slice e)) (hc : P.cellsOf e = 1) (hv : Value.okWide P w r b0 t v) (h : DataW.Trod enc P w 0 (fun _ => true) true t v d p) :
    ∃ x y a xs cap, v = .agg #[.int .i64 x, .int .i64 y, .slice a xs.length cap] ∧ IntsAt w a xs ∧ xs.length ≤ maxLen := by
  obtain ⟨c0, c1, c2, y0, y1, y2, m, rfl, rfl, rfl, hy0, hy1, hy2⟩ := open_agg3 ht hone hC hv h
  rw [e0] at hy0
  rw [e1] at hy1
  rw [e2] at hy2
  obtain ⟨x, q0, _, _⟩ := DataW.trod_int he hy0
  obtain ⟨y, q1, _, _⟩ := DataW.trod_int he hy1
  simp at q0 q1
  subst q0 q1
  obtain ⟨a, xs, cap, rfl, h1, h2⟩ := open_ints_cell hs he hc hy2
  exact ⟨x, y, a, xs, cap, rfl, h1, h2⟩
end Go.Proofs.Ythankdfjkmfokaa
