/- More kinds of arguments of this seat's rows: structs of three or seven numbers, and of a number, a list and a number. -/
import Derived.Test.YtmllbemjcfkmjaaRowBase
namespace Go.Proofs.Ytmllbemjcfkmjaa
open Go.ChangeShapes Go.WideShapes Go.ChangeAt Go.RowKit Go.Joins Go.Deep

section
variable {H : Type} {enc : TypeId × Value → H} {P : Program} {w : World}
theorem open_three_ints {r : Reach} {b0 : Nat} {t e : TypeId} {f0 f1 f2 : Field} {v : Value} {d : DataW H} {p : List MemPlace} (ht : P.underlying t = some (.struct #[f0, f1, f2])) (hone : oneCellFields P #[f0, f1, f2] = true) (hC : P.cellsOf t = 3)
    (e0 : f0.type = e) (e1 : f1.type = e) (e2 : f2.type = e) (he : P.underlying e = some (.int .i64)) (hv : Value.okWide P w r b0 t v) (h : DataW.Trod enc P w 0 (fun _ => true) true t v d p) :
    ∃ x y z, v = .agg #[.int .i64 x, .int .i64 y, .int .i64 z] ∧ (Lit.int .i64 x).wf = true ∧ (Lit.int .i64 y).wf = true ∧ (Lit.int .i64 z).wf = true := by
  obtain ⟨c0, c1, c2, y0, y1, y2, m, rfl, rfl, rfl, hy0, hy1, hy2⟩ := open_agg3 ht hone hC hv h
  rw [e0] at hy0
  rw [e1] at hy1
  rw [e2] at hy2
  obtain ⟨a, q0, rfl, wa⟩ := DataW.trod_int he hy0
  obtain ⟨b, q1, rfl, wb⟩ := DataW.trod_int he hy1
  obtain ⟨c, q2, rfl, wc⟩ := DataW.trod_int he hy2
  simp at q0 q1 q2
  subst q0 q1 q2
  exact ⟨a, b, c, rfl, wa, wb, wc⟩
theorem ints_of {t e : TypeId} {fuel : Nat} {cs : List Value} {x : DataW H × List MemPlace} (ht : P.underlying t = some (.slice e)) (he : P.underlying e = some (.int .i64)) (hc : P.cellsOf e = 1)
    (h : DataW.trod enc P w 0 (fun _ => true) true fuel t cs = some x) :
    ∃ a xs cap, cs = [.slice a xs.length cap] ∧ IntsAt w a xs ∧ xs.length ≤ cap ∧ cap ≤ maxLen ∧ ∀ i, i < xs.length → (Lit.int .i64 (nth xs i)).wf = true := by
  rcases open_ints ht he hc h with ⟨rfl, _⟩ | ⟨x, len0, cap0, zs, rfl, _, hl, hm, hz, _, hcell, hwz⟩
  · exact ⟨none, [], 0, rfl, fun i hi => absurd hi (Nat.not_lt_zero _), Nat.zero_le _, Nat.zero_le _, fun i hi => absurd hi (Nat.not_lt_zero _)⟩
  · have hz' : zs.length = cap0 := by simpa using hz
    refine ⟨some x, zs.take len0, cap0, by simp; omega, ?_, by simp; omega, hm, ?_⟩
    · intro i hi
      have hi' : i < len0 := by simp at hi; omega
      have hci := hcell i (by omega)
      obtain ⟨b, off, spot⟩ := x
      have hspot : spot = none := by
        by_cases h0 : i = 0
        · subst h0; simpa [Addr.add] using World.cell?_spot hci
        · have h00 := hcell 0 (by omega); simpa [Addr.add] using World.cell?_spot h00
      subst hspot
      have hci' : w.cell? ⟨b, off + i, none⟩ = some (.int .i64 (zs.getD i 0)) := by
        have e : (⟨b, off, none⟩ : Addr).add i = ⟨b, off + i, none⟩ := by unfold Addr.add; split <;> simp_all
        rw [← e]; exact hci
      refine ⟨b, off, rfl, World.block_lt_of_cell? w _ hci', ?_⟩
      rw [hci']
      simp [nth, List.getD, hi']
    · intro i hi
      have hi' : i < len0 := by simp at hi; omega
      refine hwz _ ?_
      have : nth (zs.take len0) i = zs[i]'(by omega) := by simp [nth, List.getD, hi', show i < zs.length by omega]
      rw [this]
      exact List.getElem_mem _

theorem open_score {r : Reach} {b0 : Nat} {t e s : TypeId} {f0 f1 f2 : Field} {v : Value} {d : DataW H} {p : List MemPlace} (ht : P.underlying t = some (.struct #[f0, f1, f2])) (hone : oneCellFields P #[f0, f1, f2] = true) (hC : P.cellsOf t = 3)
    (e0 : f0.type = e) (e1 : f1.type = s) (e2 : f2.type = e) (he : P.underlying e = some (.int .i64)) (hs : P.underlying s = some (.slice e)) (ce : P.cellsOf e = 1) (hv : Value.okWide P w r b0 t v) (h : DataW.Trod enc P w 0 (fun _ => true) true t v d p) :
    ∃ x a xs cap z, v = .agg #[.int .i64 x, .slice a xs.length cap, .int .i64 z] ∧ (Lit.int .i64 x).wf = true ∧ (Lit.int .i64 z).wf = true ∧ IntsAt w a xs ∧ xs.length ≤ cap ∧ cap ≤ maxLen ∧ ∀ i, i < xs.length → (Lit.int .i64 (nth xs i)).wf = true := by
  obtain ⟨c0, c1, c2, y0, y1, y2, m, rfl, rfl, rfl, hy0, hy1, hy2⟩ := open_agg3 ht hone hC hv h
  rw [e0] at hy0
  rw [e1] at hy1
  rw [e2] at hy2
  obtain ⟨a, q0, rfl, wa⟩ := DataW.trod_int he hy0
  obtain ⟨b, xs, cap, q1, h1, h2, h3, h4⟩ := ints_of hs he ce hy1
  obtain ⟨c, q2, rfl, wc⟩ := DataW.trod_int he hy2
  simp at q0 q1 q2
  subst q0 q1 q2
  exact ⟨a, b, xs, cap, c, rfl, wa, wc, h1, h2, h3, h4⟩
theorem array7 {α : Type} {cs : Array α} (h : cs.size = 7) : ∃ c0 c1 c2 c3 c4 c5 c6, cs = #[c0, c1, c2, c3, c4, c5, c6] := by
  obtain ⟨l⟩ := cs
  match l, h with
  | [c0, c1, c2, c3, c4, c5, c6], _ => exact ⟨c0, c1, c2, c3, c4, c5, c6, rfl⟩
theorem open_seven_ints {r : Reach} {b0 : Nat} {t e : TypeId} {fs : Array Field} {v : Value} {d : DataW H} {p : List MemPlace} (ht : P.underlying t = some (.struct fs)) (h7 : fs.size = 7) (hone : oneCellFields P fs = true) (hC : P.cellsOf t = 7)
    (hf : ∀ (i : Nat) (f : Field), fs[i]? = some f → f.type = e) (he : P.underlying e = some (.int .i64)) (hv : Value.okWide P w r b0 t v) (h : DataW.Trod enc P w 0 (fun _ => true) true t v d p) :
    ∃ x0 x1 x2 x3 x4 x5 x6, v = .agg #[.int .i64 x0, .int .i64 x1, .int .i64 x2, .int .i64 x3, .int .i64 x4, .int .i64 x5, .int .i64 x6] ∧ (Lit.int .i64 x5).wf = true ∧ (Lit.int .i64 x6).wf = true := by
  obtain ⟨cs, rfl, hsz⟩ := okWide_struct ht hv
  obtain ⟨c0, c1, c2, c3, c4, c5, c6, rfl⟩ := array7 (hsz.trans hC)
  obtain ⟨fuel, hfu⟩ := h
  obtain ⟨xs, n, _, _, _, hxl, hx⟩ := DataW.trod_struct ht hfu
  have one : ∀ (i : Nat) (c : Value), i < 7 → [c0, c1, c2, c3, c4, c5, c6][i]? = some c → ∃ x, c = .int .i64 x ∧ (Lit.int .i64 x).wf = true := by
    intro i c hi hc
    obtain ⟨f, hfi⟩ : ∃ f, fs[i]? = some f := ⟨_, Array.getElem?_eq_getElem (by omega)⟩
    obtain ⟨o, k⟩ := hone_of hone i f hfi
    have h1 := hx i f hfi
    obtain ⟨y, hy⟩ : ∃ y, xs[i]? = some y := ⟨_, List.getElem?_eq_getElem (by omega)⟩
    have hcell : (((Value.agg #[c0, c1, c2, c3, c4, c5, c6]).cells.toList.drop f.offset).take (P.cellsOf f.type)) = [c] := by
      rw [o, k]
      show ([c0, c1, c2, c3, c4, c5, c6].drop i).take 1 = [c]
      rw [List.take_one, List.head?_drop, hc]
      rfl
    rw [hcell, hf i f hfi, hy] at h1
    obtain ⟨a, q, _, wa⟩ := DataW.trod_int he h1
    simp at q
    exact ⟨a, q, wa⟩
  obtain ⟨x0, rfl, _⟩ := one 0 _ (by omega) rfl
  obtain ⟨x1, rfl, _⟩ := one 1 _ (by omega) rfl
  obtain ⟨x2, rfl, _⟩ := one 2 _ (by omega) rfl
  obtain ⟨x3, rfl, _⟩ := one 3 _ (by omega) rfl
  obtain ⟨x4, rfl, _⟩ := one 4 _ (by omega) rfl
  obtain ⟨x5, rfl, w5⟩ := one 5 _ (by omega) rfl
  obtain ⟨x6, rfl, w6⟩ := one 6 _ (by omega) rfl
  exact ⟨x0, x1, x2, x3, x4, x5, x6, rfl, w5, w6⟩
end
end Go.Proofs.Ytmllbemjcfkmjaa
