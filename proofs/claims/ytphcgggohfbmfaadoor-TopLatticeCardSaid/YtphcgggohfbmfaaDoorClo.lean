/- The two tests of a row. -/
import Derived.Test.YtphcgggohfbmfaaDoorHas
namespace Go.Proofs.YtphcgggohfbmfaaDoor
open Go.RowKit Go.Maps
set_option linter.unusedSimpArgs false
set_option linter.unusedVariables false

def badR (d : Nat) (r : Int) : Bool := decide (r < 0) || decide (((2 ^ d : Nat) : Int) ≤ r)
def noneR (m : Nat) (r : Int) : Bool := decide (r.toNat &&& m = 0)
set_option maxRecDepth 100000 in
theorem bad_any (d : Nat) (hd : d ≤ 8) (r : Int) (H : Nat) (w : World) (hc : w.cell? ⟨H, 0, none⟩ = some (.int .i64 (d : Nat))) (hl : H < w.heap.size) :
    Calls Tryd.prog 16 #[.int .i64 r, .pointer (some ⟨H, 0, none⟩)] w fun e w' => e = .returned (.bool (badR d r)) ∧ Below w.heap.size w w' := by
  have hsh := shl_nat d hd
  have i1 : (0 : Int) ≤ (d : Int) := by omega
  by_cases h0 : r < 0
  · have R : Hid (badR d r = true) := hid (by unfold badR; rw [decide_eq_true h0]; rfl)
    go_enter Tryd.func16, Tryd.ntmps16
    go_wp2_with fail
    go_ret
    exact ⟨by rw [R.out]; rfl, Below.refl _ _⟩
  · by_cases h2 : ((2 ^ d : Nat) : Int) ≤ r
    · have R : Hid (badR d r = true) := hid (by unfold badR; rw [decide_eq_true h2, Bool.or_true])
      have h3 : (2 : Int) ^ d ≤ r := by have : ((2 ^ d : Nat) : Int) = (2 : Int) ^ d := by simp
                                        rw [← this]; exact h2
      have hsh2 : wrap64 ((2 : Int) ^ d) = (2 : Int) ^ d := by rw [hsh]; simp
      clear h2 hsh
      go_enter Tryd.func16, Tryd.ntmps16
      go_wp2_with fail
      go_ret
      exact ⟨by rw [R.out]; simp [h3], Below.refl _ _⟩
    · have R : Hid (badR d r = false) := hid (by unfold badR; rw [decide_eq_false h0, decide_eq_false h2]; rfl)
      have h3 : ¬ (2 : Int) ^ d ≤ r := by have : ((2 ^ d : Nat) : Int) = (2 : Int) ^ d := by simp
                                          rw [← this]; exact h2
      have hsh2 : wrap64 ((2 : Int) ^ d) = (2 : Int) ^ d := by rw [hsh]; simp
      clear h2 hsh
      go_enter Tryd.func16, Tryd.ntmps16
      go_wp2_with fail
      go_ret
      exact ⟨by rw [R.out]; simp [h3], Below.refl _ _⟩
set_option maxRecDepth 100000 in
theorem none_any (m : Nat) (hm : m < 256) (r : Int) (h0 : 0 ≤ r) (h1 : r < 256) (H : Nat) (w : World) (hc : w.cell? ⟨H, 0, none⟩ = some (.int .i64 (m : Nat))) (hl : H < w.heap.size) :
    Calls Tryd.prog 17 #[.int .i64 r, .pointer (some ⟨H, 0, none⟩)] w fun e w' => e = .returned (.bool (noneR m r)) ∧ Below w.heap.size w w' := by
  obtain ⟨n, rfl⟩ : ∃ n : Nat, r = n := ⟨r.toNat, by omega⟩
  have hb := bits_and_nat n m (by omega) (by omega)
  have R : Hid (noneR m (n : Int) = decide (n &&& m = 0)) := hid (by unfold noneR; rw [Int.toNat_natCast])
  generalize n &&& m = q at *
  go_enter Tryd.func17, Tryd.ntmps17
  go_wp2_with fail
  go_ret
  refine ⟨?_, Below.refl _ _⟩
  rw [R.out]
  by_cases hq : q = 0 <;> simp [hq]
end Go.Proofs.YtphcgggohfbmfaaDoor
