/- 'Large' and 'long': what they return. -/
import Derived.Test.YtmllbemjcfkmjaaTab
namespace Go.Proofs.Ytmllbemjcfkmjaa
open Go.RowKit
set_option linter.unusedSimpArgs false
set_option linter.unusedVariables false

structure SmallM (m : Mac) : Prop where
  n : m.nx.length ≤ 200
  a : m.ac.length ≤ 400
  r : ∀ j, j < m.nx.length → (rowOf m j).length ≤ 50
open Classical in
noncomputable def lrgB (m : Mac) : Bool := if SmallM m then false else true
theorem lrg_yes {m : Mac} (h : ¬ SmallM m) : lrgB m = true := by unfold lrgB; rw [if_neg h]
theorem lrg_no {m : Mac} (h : SmallM m) : lrgB m = false := by unfold lrgB; rw [if_pos h]
theorem lrg_of {m : Mac} (h : lrgB m = false) : SmallM m := by
  by_cases hs : SmallM m
  · exact hs
  · rw [lrg_yes hs] at h; cases h
def lngB (xs : List Int) : Bool := decide (200 < xs.length)
theorem long_any (xs : List Int) (a : Option Addr) (cap : Nat) (W : World) (hl : xs.length ≤ maxLen) :
    Calls Try.prog 24 #[.slice a xs.length cap] W fun e w' => e = .returned (.bool (lngB xs)) ∧ W = w' := by
  unfold maxLen at hl
  by_cases h : 200 < xs.length
  · have R : Hid (lngB xs = true) := hid (decide_eq_true h)
    go_enter Try.func24, Try.ntmps24
    go_wp2_with fail
    go_ret
    exact ⟨by rw [R.out]; simp; omega, rfl⟩
  · have R : Hid (lngB xs = false) := hid (decide_eq_false h)
    go_enter Try.func24, Try.ntmps24
    go_wp2_with fail
    go_ret
    exact ⟨by rw [R.out]; simp; omega, rfl⟩
set_option maxRecDepth 100000 in
set_option maxHeartbeats 1000000 in
theorem Large_any (m : Mac) (a a2 : Option Addr) (cap cap2 : Nat) (W : World) (hM : MacAt W a cap a2 cap2 m) :
    Calls Try.prog 18 #[.agg #[.int .i64 m.L, .slice a m.nx.length cap, .slice a2 m.ac.length cap2]] W fun e w' => e = .returned (.bool (lrgB m)) ∧ Below W.heap.size W w' := by
  have hb0 := below_alloc W (.cells #[.int .i64 m.L, .slice a m.nx.length cap, .slice a2 m.ac.length cap2] 25)
  by_cases h1 : 200 < m.nx.length
  · have R := hid (lrg_yes (m := m) fun h => by have := h.n; omega)
    have d1 : decide ((200 : Int) < (m.nx.length : Int)) = true := decide_eq_true (by omega)
    have d2 : decide (200 < m.nx.length) = true := decide_eq_true (by omega)
    go_enter Try.func18, Try.ntmps18
    go_wp2_with fail
    go_ret
    exact ⟨by rw [R.out]; rfl, hb0⟩
  have d1 : decide ((200 : Int) < (m.nx.length : Int)) = false := decide_eq_false (by omega)
  have d2 : decide (200 < m.nx.length) = false := decide_eq_false (by omega)
  by_cases h2 : 400 < m.ac.length
  · have R := hid (lrg_yes (m := m) fun h => by have := h.a; omega)
    have d3 : decide ((400 : Int) < (m.ac.length : Int)) = true := decide_eq_true (by omega)
    have d4 : decide (400 < m.ac.length) = true := decide_eq_true (by omega)
    go_enter Try.func18, Try.ntmps18
    go_wp2_with fail
    go_ret
    exact ⟨by rw [R.out]; rfl, hb0⟩
  have d3 : decide ((400 : Int) < (m.ac.length : Int)) = false := decide_eq_false (by omega)
  have d4 : decide (400 < m.ac.length) = false := decide_eq_false (by omega)
  have HM := hid (hM.below hb0)
  have HB := hid hb0
  clear hM hb0
  go_enter Try.func18, Try.ntmps18
  go_wp2_with fail
  clear d1 d2 d3 d4
  go_loop [3] (fun v3 => ∃ k : Nat, k ≤ m.nx.length ∧ v3 = .int .i64 k ∧ Hid (∀ j, j < k → (rowOf m j).length ≤ 50)) (fun v3 => m.nx.length - (intOf v3).toNat)
  case atStart => exact ⟨0, by omega, rfl, hid fun j hj => by omega⟩
  case round =>
    obtain ⟨k, hk, rfl, HE⟩ := hrel
    by_cases hlt : k < m.nx.length
    · obtain ⟨b, off, rfl, hbl, ra, rc, hc, r1, r2, _⟩ := HM.out.nx k hlt
      have i2 : (k : Int) < (m.nx.length : Int) := by omega
      unfold maxLen at r2
      by_cases h5 : 50 < (rowOf m k).length
      · have R := hid (lrg_yes (m := m) fun h => by have := h.r k hlt; omega)
        go_wp2_with fail
        go_ret
        exact ⟨by rw [R.out]; rfl, HB.out⟩
      · go_wp2_with fail
        go_round
        case rel => exact ⟨k + 1, by omega, by go_num, hid fun i hi => by
          by_cases e : i = k
          · subst e; omega
          · exact HE.out i (by omega)⟩
        case measure => simp [intOf]; omega
    · obtain rfl : k = m.nx.length := by omega
      have R := hid (lrg_no (m := m) ⟨by omega, by omega, HE.out⟩)
      go_wp2_with fail
      go_ret
      exact ⟨by rw [R.out]; rfl, HB.out⟩
end Go.Proofs.Ytmllbemjcfkmjaa
