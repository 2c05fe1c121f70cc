/- A machine as it lies in memory, whoever laid it; what it must be; its language. -/
import Derived.Test.YtmllbemjcfkmjaaPlainOut
namespace Go.Proofs.Ytmllbemjcfkmjaa
open Go.RowKit Go.Maps
set_option linter.unusedSimpArgs false
set_option linter.unusedVariables false

structure Mac where
  L : Int
  nx : List (List Int)
  ac : List Bool
def BoolsAt (w : World) (a : Option Addr) (bs : List Bool) : Prop :=
  ∀ i, i < bs.length → ∃ b off, a = some ⟨b, off, none⟩ ∧ b < w.heap.size ∧ w.cell? ⟨b, off + i, none⟩ = some (.bool (bs.getD i false))
theorem BoolsAt.below {w w' : World} {a : Option Addr} {bs : List Bool} (h : BoolsAt w a bs) (hb : Below w.heap.size w w') : BoolsAt w' a bs := by
  intro i hi
  obtain ⟨b, off, e, hlt, hc⟩ := h i hi
  exact ⟨b, off, e, Nat.lt_of_lt_of_le hlt hb.size, by rw [hb.cell (p := ⟨b, off + i, none⟩) hlt]; exact hc⟩
def rowOf (m : Mac) (j : Nat) : List Int := m.nx.getD j []
structure MacAt (w : World) (a : Option Addr) (cap : Nat) (a2 : Option Addr) (cap2 : Nat) (m : Mac) : Prop where
  l1 : m.nx.length ≤ cap
  c1 : cap ≤ maxLen
  l2 : m.ac.length ≤ cap2
  c2 : cap2 ≤ maxLen
  ac : BoolsAt w a2 m.ac
  nx : ∀ j, j < m.nx.length → ∃ b off, a = some ⟨b, off, none⟩ ∧ b < w.heap.size ∧ ∃ ra rc, w.cell? ⟨b, off + j, none⟩ = some (.slice ra (rowOf m j).length rc) ∧ (rowOf m j).length ≤ rc ∧ rc ≤ maxLen ∧ IntsAt w ra (rowOf m j)
theorem MacAt.below {w w' : World} {a a2 : Option Addr} {cap cap2 : Nat} {m : Mac} (h : MacAt w a cap a2 cap2 m) (hb : Below w.heap.size w w') : MacAt w' a cap a2 cap2 m := by
  refine ⟨h.l1, h.c1, h.l2, h.c2, h.ac.below hb, fun j hj => ?_⟩
  obtain ⟨b, off, e, hlt, ra, rc, hc, h1, h2, h3⟩ := h.nx j hj
  exact ⟨b, off, e, Nat.lt_of_lt_of_le hlt hb.size, ra, rc, by rw [hb.cell (p := ⟨b, off + j, none⟩) hlt]; exact hc, h1, h2, h3.below hb⟩
/-- The machine of a list of languages. -/
noncomputable def macOf (L : Nat) (F : List Lang) : Mac := ⟨L, canNext L F, canAcc F⟩
theorem own_bools {w : World} {B : Nat} {t : TypeId} {v : Value} {bs : List Bool} (h : w.ownsRow B t 1 v bs.length (bs.map Value.bool)) : ∃ a cap, v = .slice a bs.length cap ∧ BoolsAt w a bs ∧ bs.length ≤ cap ∧ cap ≤ maxLen := by
  obtain ⟨_, h2⟩ := h
  rcases h2 with ⟨rfl, h0⟩ | ⟨gb, cap, cur, rfl, hb, hg, hn, hcm, hcs, htake⟩
  · refine ⟨none, 0, by rw [h0], fun i hi => by omega, by omega, Nat.zero_le _⟩
  · refine ⟨some ⟨gb, 0, none⟩, cap, rfl, fun i hi => ⟨gb, 0, rfl, (Array.getElem?_eq_some_iff.1 hg).1, ?_⟩, hn, hcm⟩
    rw [cell_of_row w gb (0 + i) cur t (0, 0) hg, Nat.zero_add]
    have e : (cur.toList.take (bs.length * 1))[i]? = (bs.map Value.bool)[i]? := by rw [htake]
    rw [List.getElem?_take, if_pos (by omega)] at e
    rw [← Array.getElem?_toList, e]
    simp [List.getD, hi]
theorem MachAt.mac {w : World} {base L : Nat} {F : List Lang} {vn vb : Value} (h : MachAt w base L F vn vb) : ∃ a cap a2 cap2, vn = .slice a F.length cap ∧ vb = .slice a2 F.length cap2 ∧ MacAt w a cap a2 cap2 (macOf L F) := by
  obtain ⟨Q, h1, h2, h3⟩ := h
  have e3 : (canAcc F).length = F.length := by simp [canAcc]
  have e1 : (canNext L F).length = F.length := by simp [canNext]
  rw [← e3] at h3
  obtain ⟨a2, cap2, rfl, hB, b1, b2⟩ := own_bools h3
  rcases h1.2 with ⟨rfl, h0⟩ | ⟨gb, cap, cur, rfl, hb, hg, hn, hcm, hcs, htake⟩
  · refine ⟨none, 0, a2, cap2, by rw [h0], by rw [e3], ⟨by show (canNext L F).length ≤ 0; omega, Nat.zero_le _, b1, b2, hB, fun j hj => ?_⟩⟩
    have : j < (canNext L F).length := hj
    omega
  · refine ⟨some ⟨gb, 0, none⟩, cap, a2, cap2, rfl, by rw [e3], ⟨by show (canNext L F).length ≤ cap; omega, hcm, b1, b2, hB, fun j hj => ?_⟩⟩
    have hj' : j < F.length := by have : j < (canNext L F).length := hj; omega
    have hl : (rowOf (macOf L F) j).length = L := by
      show ((canNext L F).getD j []).length = L
      simp [canNext, List.getD, hj', canRow]
    have hr := h2 j hj'
    have e : ((canNext L F).getD j []) = rowOf (macOf L F) j := rfl
    rw [e] at hr
    generalize rowOf (macOf L F) j = xs at hr hl ⊢
    subst hl
    obtain ⟨ra, rc, er, hI, r1, r2⟩ := own_ints hr
    refine ⟨gb, 0, rfl, (Array.getElem?_eq_some_iff.1 hg).1, ra, rc, ?_, r1, r2, hI⟩
    rw [cell_of_row w gb (0 + j) cur 33 (0, 0) hg, Nat.zero_add]
    have e : (cur.toList.take (F.length * 1))[j]? = ((List.range F.length).map Q)[j]? := by rw [htake]
    rw [List.getElem?_take, if_pos (by omega)] at e
    rw [← Array.getElem?_toList, e, List.getElem?_map, List.getElem?_range hj', Option.map_some, er]
end Go.Proofs.Ytmllbemjcfkmjaa
