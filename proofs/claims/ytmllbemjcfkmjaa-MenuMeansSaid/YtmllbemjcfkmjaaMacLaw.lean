/- What a machine must be, and its language; plainly. -/
import Derived.Test.YtmllbemjcfkmjaaMac
namespace Go.Proofs.Ytmllbemjcfkmjaa
open Go.RowKit Go.Maps
set_option linter.unusedSimpArgs false
set_option linter.unusedVariables false

def stepM (m : Mac) (s : Int) (a : Nat) : Int := nth (rowOf m s.toNat) a
def accM (m : Mac) (s : Int) : Bool := m.ac.getD s.toNat false
structure MacOK (m : Mac) : Prop where
  l1 : 1 ≤ m.L
  l6 : m.L ≤ 6
  n1 : 1 ≤ m.nx.length
  n64 : m.nx.length ≤ 64
  ac : m.ac.length = m.nx.length
  len : ∀ j, j < m.nx.length → ((rowOf m j).length : Int) = m.L
  el : ∀ j, j < m.nx.length → ∀ a, a < (rowOf m j).length → 0 ≤ nth (rowOf m j) a ∧ nth (rowOf m j) a < m.nx.length
noncomputable def macL (m : Mac) : Nat := m.L.toNat
noncomputable def langM (m : Mac) : Lang := laA (macL m) (stepM m) (accM m) 0
theorem mac_auto {m : Mac} (h : MacOK m) : AutoOK (macL m) (stepM m) 0 m.nx.length := by
  have h1 := h.l1
  have h6 := h.l6
  have hn := h.n1
  have hn64 := h.n64
  refine ⟨by unfold macL; omega, by unfold macL; omega, by omega, by omega, by omega, by omega, fun s hs hs2 a ha => ?_⟩
  have hj : s.toNat < m.nx.length := by omega
  have hl := h.len s.toNat hj
  exact h.el s.toNat hj a (by unfold macL at ha; omega)
open Classical in
/-- 0: it is good; 4: too large; 1: bad. -/
noncomputable def valE (m : Mac) : Int := if m.L < 1 ∨ 6 < m.L then 1 else if 64 < m.nx.length then 4 else if MacOK m then 0 else 1
theorem valE_ok {m : Mac} (h : MacOK m) : valE m = 0 := by
  unfold valE
  rw [if_neg (by have := h.l1; have := h.l6; omega), if_neg (by have := h.n64; omega), if_pos h]
theorem valE_zero {m : Mac} : valE m = 0 ↔ MacOK m := by
  constructor
  · intro h
    unfold valE at h
    split at h
    · cases h
    · split at h
      · cases h
      · split at h
        · assumption
        · cases h
  · exact valE_ok
end Go.Proofs.Ytmllbemjcfkmjaa
