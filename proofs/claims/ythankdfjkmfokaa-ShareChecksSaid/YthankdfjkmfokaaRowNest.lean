/- A struct of a number and a struct of two numbers, opened. -/
import Derived.Test.YthankdfjkmfokaaRowBase
namespace Go.RowKit
open Go.ChangeShapes Go.WideShapes Go.ChangeAt Go.Joins
set_option linter.unusedVariables false
variable {H : Type} {enc : TypeId × Value → H} {P : Program} {w : World}
theorem open_one_two {r : Reach} {b0 : Nat} {t e s : TypeId} {f0 f1 g0 g1 : Field} {v : Value} {d : DataW H} {p : List MemPlace} (ht : P.underlying t = some (.struct #[f0, f1])) (hs : P.underlying s = some (.struct #[g0, g1])) (hC : P.cellsOf t = 3)
    (e0 : f0.type = e) (o0 : f0.offset = 0) (e1 : f1.type = s) (o1 : f1.offset = 1) (a0 : g0.type = e) (u0 : g0.offset = 0) (a1 : g1.type = e) (u1 : g1.offset = 1) (he : P.underlying e = some (.int .i64)) (hc : P.cellsOf e = 1) (hc2 : P.cellsOf s = 2)
    (hv : Value.okWide P w r b0 t v) (h : DataW.Trod enc P w 0 (fun _ => true) true t v d p) :
    ∃ x y z, v = .agg #[.int .i64 x, .int .i64 y, .int .i64 z] := by
  obtain ⟨cs, rfl, hsz⟩ := okWide_struct ht hv
  obtain ⟨c0, c1, c2, rfl⟩ := array3 (hsz.trans hC)
  obtain ⟨fuel, hf⟩ := h
  obtain ⟨y0, y1, n, hx, _, h0, h1⟩ := trod_struct2 ht hf
  rw [e0, o0, hc] at h0
  rw [e1, o1, hc2] at h1
  obtain ⟨x, hx0, _, _⟩ := DataW.trod_int he h0
  obtain ⟨z0, z1, n', _, _, k0, k1⟩ := trod_struct2 hs h1
  rw [a0, u0, hc] at k0
  rw [a1, u1, hc] at k1
  obtain ⟨y, hy0, _, _⟩ := DataW.trod_int he k0
  obtain ⟨z, hz0, _, _⟩ := DataW.trod_int he k1
  simp [Value.cells] at hx0 hy0 hz0
  subst hx0 hy0 hz0
  exact ⟨x, y, z, rfl⟩
end Go.RowKit
