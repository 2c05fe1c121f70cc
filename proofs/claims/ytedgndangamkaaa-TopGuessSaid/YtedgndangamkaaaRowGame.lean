/- How a game and a list of truth values read in memory, as arguments. -/
import Derived.Test.YtedgndangamkaaaRowBase
import Derived.Test.YtedgndangamkaaaGame
import Derived.Deep.Grids
import Derived.Deep.SlicePairs
namespace Go.Proofs.Ytedgndangamkaaa
open Go.ChangeShapes Go.WideShapes Go.ChangeAt Go.RowKit Go.Joins Go.Deep
set_option linter.unusedSimpArgs false
set_option linter.unusedVariables false

section
variable {H : Type} {enc : TypeId × Value → H} {P : Program} {w : World}
theorem add_plain (b off i : Nat) : (⟨b, off, none⟩ : Addr).add i = ⟨b, off + i, none⟩ := by unfold Addr.add; split <;> simp_all

theorem bools_of {t e : TypeId} {fuel : Nat} {cs : List Value} {x : DataW H × List MemPlace} (ht : P.underlying t = some (.slice e)) (he : P.underlying e = some .bool) (hc : P.cellsOf e = 1)
    (h : DataW.trod enc P w 0 (fun _ => true) true fuel t cs = some x) :
    ∃ a bs cap, cs = [.slice a bs.length cap] ∧ BoolsAt w a bs ∧ bs.length ≤ cap ∧ cap ≤ maxLen := by
  rcases open_bools ht he hc h with ⟨rfl, _⟩ | ⟨a, len, cap, B, rfl, _, hl, hm, _, hcell⟩
  · exact ⟨none, [], 0, rfl, fun i hi => absurd hi (Nat.not_lt_zero _), Nat.zero_le _, Nat.zero_le _⟩
  · refine ⟨some a, (List.range len).map B, cap, by simp, ?_, by simpa using hl, hm⟩
    intro i hi
    have hi' : i < len := by simpa using hi
    obtain ⟨b, off, spot⟩ := a
    have hci := hcell 0 (by omega)
    have hspot : spot = none := by simpa [Addr.add] using World.cell?_spot hci
    subst hspot
    refine ⟨b, off, rfl, World.block_lt_of_cell? w _ hci, ?_⟩
    have := hcell i (by omega)
    rw [add_plain] at this
    rw [this]
    simp [bth, List.getD, hi']

theorem open_slice_of_bools {r : Reach} {b0 : Nat} {t e : TypeId} {v : Value} {d : DataW H} {p : List MemPlace} (ht : P.underlying t = some (.slice e)) (he : P.underlying e = some .bool) (hc : P.cellsOf e = 1)
    (hv : Value.okWide P w r b0 t v) (h : DataW.Trod enc P w 0 (fun _ => true) true t v d p) :
    ∃ a bs cap, v = .slice a bs.length cap ∧ BoolsAt w a bs ∧ bs.length ≤ cap ∧ cap ≤ maxLen := by
  obtain ⟨a0, len0, cap0, rfl⟩ := okWide_slice ht hv
  obtain ⟨fuel, hf⟩ := h
  obtain ⟨a, bs, cap, e1, h1, h2, h3⟩ := bools_of ht he hc hf
  simp [Value.cells] at e1
  obtain ⟨rfl, rfl, rfl⟩ := e1
  exact ⟨_, bs, _, rfl, h1, h2, h3⟩

theorem open_game {r : Reach} {b0 : Nat} {t e l : TypeId} {f0 f1 : Field} {v : Value} {d : DataW H} {p : List MemPlace} (ht : P.underlying t = some (.slice e)) (he : P.underlying e = some (.struct #[f0, f1]))
    (ce : P.cellsOf e = 2) (o0 : f0.offset = 0) (o1 : f1.offset = 1) (c0 : P.cellsOf f0.type = 1) (c1 : P.cellsOf f1.type = 1) (h0 : P.underlying f0.type = some (.slice l)) (hl : P.underlying l = some .bool) (hlc : P.cellsOf l = 1) (h1 : P.underlying f1.type = some .bool)
    (hv : Value.okWide P w r b0 t v) (h : DataW.Trod enc P w 0 (fun _ => true) true t v d p) :
    ∃ a g cap, v = .slice a g.length cap ∧ GameAt w a g ∧ g.length ≤ cap ∧ cap ≤ maxLen := by
  obtain ⟨a0, len0, cap0, rfl⟩ := okWide_slice ht hv
  obtain ⟨fuel, hf⟩ := h
  rcases open_slice_pairs ht he ce o0 o1 c0 c1 hf with ⟨hcs, _⟩ | ⟨a, len, cap, m, n, V0, V1, D0, D1, P0, P1, hcs, _, hl1, hm, hmm, _, hx⟩
  · simp [Value.cells] at hcs
    obtain ⟨rfl, rfl, rfl⟩ := hcs
    exact ⟨none, [], 0, rfl, fun i hi => absurd hi (Nat.not_lt_zero _), Nat.zero_le _, Nat.zero_le _⟩
  · simp [Value.cells] at hcs
    obtain ⟨rfl, rfl, rfl⟩ := hcs
    simp only [if_true] at hmm
    subst hmm
    have key : ∀ i : Nat, ∃ q : Rd, i < m → ∃ aa c, V0 i = .slice aa q.adv.length c ∧ V1 i = .bool q.came ∧ BoolsAt w aa q.adv ∧ q.adv.length ≤ c ∧ c ≤ maxLen := by
      intro i
      by_cases hi : i < m
      · obtain ⟨_, _, t0, t1⟩ := hx i hi
        obtain ⟨aa, bs, c, e1, k1, k2, k3⟩ := bools_of h0 hl hlc t0
        obtain ⟨b, e2, _⟩ := DataW.trod_bool h1 t1
        exact ⟨⟨bs, b⟩, fun _ => ⟨aa, c, by simpa using e1, by simpa using e2, k1, k2, k3⟩⟩
      · exact ⟨⟨[], false⟩, fun h => absurd h hi⟩
    obtain ⟨f, hfq⟩ := Classical.axiomOfChoice key
    refine ⟨some a, (List.range len0).map f, m, by simp, ?_, by simpa using hl1, hm⟩
    intro i hi
    have hi' : i < len0 := by simpa using hi
    obtain ⟨b, off, spot⟩ := a
    have hci := (hx 0 (by omega)).1
    have hspot : spot = none := by simpa [Addr.add] using World.cell?_spot hci
    subst hspot
    obtain ⟨aa, c, e1, e2, k1, k2, k3⟩ := hfq i (by omega)
    have er : rd ((List.range len0).map f) i = f i := by simp [rd, List.getD, hi']
    obtain ⟨g1, g2, _, _⟩ := hx i (by omega)
    rw [add_plain] at g1 g2
    refine ⟨b, off, aa, c, rfl, World.block_lt_of_cell? w _ hci, ?_, ?_, ?_, ?_, k3⟩
    · rw [adv, er, g1, e1]
    · rw [came, er, ← e2, ← g2]
      rfl
    · rw [adv, er]; exact k1
    · rw [adv, er]; exact k2
end
theorem Try.open_rounds {H : Type} {enc : TypeId × Value → H} {w : World} {r : Reach} {b0 : Nat} {v : Value} {d : DataW H} {p : List MemPlace}
    (hv : Value.okWide Try.prog w r b0 42 v) (h : DataW.Trod enc Try.prog w 0 (fun _ => true) true 42 v d p) :
    ∃ a g cap, v = .slice a g.length cap ∧ GameAt w a g ∧ g.length ≤ cap ∧ cap ≤ maxLen :=
  open_game Try.underlying42 Try.underlying49 (by kernel_rfl) rfl rfl (by kernel_rfl) (by kernel_rfl) Try.underlying47 Try.underlying4 (by kernel_rfl) Try.underlying4 hv h
end Go.Proofs.Ytedgndangamkaaa
