/- The place of the lowest bit, by the library's table. -/
import Derived.Test.YtphcgggohfbmfaaDoorMem
import Derived.Test.YtphcgggohfbmfaaDoorPl
import Derived.Shelf.Spec.TrailingZeros
namespace Go.Proofs.YtphcgggohfbmfaaDoor
open Go.RowKit
set_option linter.unusedSimpArgs false
set_option linter.unusedVariables false

/-- The library's table lies in its variable. -/
def Tab64 (w : World) : Prop := TabAt 1 Lib.deBruijn64tab w
set_option maxRecDepth 100000 in
set_option maxHeartbeats 1000000 in
theorem tz64_core (x k idx : Nat) (w : World) (hx0 : ((x : Int) == 0) = false)
    (key : IntKind.u64.wrap (bits BinOp.and IntKind.u64 (x : Int) (IntKind.u64.wrap (-(x : Int))) * 285870213051353865) / 288230376151711744 = (idx : Int))
    (hi : idx < 64) (hk : k < 64) (hcell : w.cell? ⟨1, idx, none⟩ = some (.int .u8 k)) :
    Calls Tryd.prog 21 #[.int .u64 x] w fun e w' => e = .returned (.int .i64 k) ∧ w' = w := by
  go_enter Tryd.func21, Tryd.ntmps21
  go_wp2_with (simp only [key])
  go_ret
  exact ⟨rfl, rfl⟩
theorem tz64_any (x : Nat) (hx : x < 18446744073709551616) (hx0 : x ≠ 0) (w : World) (hT : Tab64 w) :
    Calls Tryd.prog 21 #[.int .u64 x] w fun e w' => e = .returned (.int .i64 (Lib.ctz 64 x : Nat)) ∧ w' = w := by
  obtain ⟨hlow, hk⟩ := Lib.lowest_bit 64 x hx0 hx
  obtain ⟨hi, htab⟩ := Lib.deBruijn64_at _ hk
  have hcell := hT _ hi
  rw [htab] at hcell
  exact tz64_core x _ _ w (by simp; omega) (tz64_key x _ hx hx0 hlow) hi hk hcell
set_option maxRecDepth 100000 in
theorem tz_any (x : Nat) (hx : x < 18446744073709551616) (hx0 : x ≠ 0) (w : World) (hT : Tab64 w) :
    Calls Tryd.prog 18 #[.int .u64 x] w fun e w' => e = .returned (.int .i64 (Lib.ctz 64 x : Nat)) ∧ w' = w := by
  have hC := hid (tz64_any x hx hx0 w hT)
  have hw : IntKind.u64.wrap (x : Int) = (x : Int) := by rw [IntKind.wrap_u64]; omega
  clear hT
  go_enter Tryd.func18, Tryd.ntmps18
  go_wp2_with fail
  refine hC.out.mono ?_
  rintro e w1 ⟨rfl, rfl⟩
  go_wp2_with fail
  go_ret
  exact ⟨rfl, rfl⟩
/-- The place of the lowest bit, of the small sets. -/
theorem ctz_small : ∀ x : Fin 256, x.1 ≠ 0 → Lib.ctz 64 x.1 < 8 ∧ x.1.testBit (Lib.ctz 64 x.1) = true ∧ mems x.1 = Lib.ctz 64 x.1 :: mems (x.1 &&& (x.1 - 1)) ∧ x.1 &&& (x.1 - 1) < x.1 := by decide +kernel
end Go.Proofs.YtphcgggohfbmfaaDoor
