/- 'Dishes' and 'Children', asked of a right table with a right set. -/
import Derived.Test.YtphcgggohfbmfaaDoorValid
namespace Go.Proofs.YtphcgggohfbmfaaDoor
open Go.RowKit Go.Maps
set_option linter.unusedSimpArgs false
set_option linter.unusedVariables false

set_option maxRecDepth 100000 in
theorem dishes_any (xs : List Int) (d c : Nat) (hv : valE xs (d : Int) = 0) (hc : c < 2 ^ xs.length) (a : Option Addr) (cap : Nat) (W : World) (hI : IntsAt W a xs) (hT : TabW W) :
    Calls Tryd.prog 13 #[.slice a xs.length cap, .int .i64 (d : Nat), .int .i64 (c : Nat)] W fun e w' => e = .returned (.tuple #[.int .i64 (eatN (rowN xs) d c : Nat), .int .i64 0]) ∧ Below W.heap.size W w' := by
  have hk := (val_ok hv).2
  rw [Int.toNat_natCast] at hk
  have hV := val_any xs (d : Int) a cap W hI
  rw [hv] at hV
  have HV := hid hV
  have HC := hid (fun w hb => eaten_any xs d c hk hc a cap w (hI.below hb) (hT.below hT.lt hb hb.size))
  have hsh := shl_nat xs.length hk.n8
  have i1 : ¬ (c : Int) < 0 := by omega
  have h3 : ¬ (2 : Int) ^ xs.length ≤ (c : Int) := by
    have : ((2 ^ xs.length : Nat) : Int) = (2 : Int) ^ xs.length := by simp
    rw [← this]; omega
  have hmin : min xs.length 64 = xs.length := by have := hk.n8; omega
  have hsh2 : wrap64 ((2 : Int) ^ min xs.length 64) = (2 : Int) ^ xs.length := by rw [hmin, hsh]; simp
  have i2 : decide ((c : Int) < 0) = false := decide_eq_false i1
  have h4 : decide ((2 : Int) ^ xs.length ≤ (c : Int)) = false := decide_eq_false h3
  clear hI hT hk hv hV hc hsh hmin
  go_enter Tryd.func13, Tryd.ntmps13
  go_wp2_with fail
  refine HV.out.mono ?_
  rintro e w1 ⟨rfl, hb⟩
  have HZ := hid hb
  clear hb HV
  go_wp2_with fail
  refine (HC.out w1 HZ.out).mono ?_
  rintro e w2 ⟨rfl, hb⟩
  have HY := hid (HZ.out.trans (hb.mono HZ.out.size))
  clear hb HC
  go_wp2_with fail
  go_ret2
  exact ⟨rfl, HY.out⟩
set_option maxRecDepth 100000 in
theorem children_any (xs : List Int) (d m : Nat) (hv : valE xs (d : Int) = 0) (hc : m < 2 ^ d) (a : Option Addr) (cap : Nat) (W : World) (hI : IntsAt W a xs) :
    Calls Tryd.prog 14 #[.slice a xs.length cap, .int .i64 (d : Nat), .int .i64 (m : Nat)] W fun e w' => e = .returned (.tuple #[.int .i64 (etrN (rowN xs) m xs.length : Nat), .int .i64 0]) ∧ Below W.heap.size W w' := by
  have hk := (val_ok hv).2
  rw [Int.toNat_natCast] at hk
  have hV := val_any xs (d : Int) a cap W hI
  rw [hv] at hV
  have HV := hid hV
  have HC := hid (fun w hb => eaters_any xs d m hk (Nat.lt_of_lt_of_le hc (by have := Nat.pow_le_pow_right (n := 2) (by omega) hk.d8; simpa using this)) a cap w (hI.below hb))
  have hsh := shl_nat d hk.d8
  have i1 : ¬ (m : Int) < 0 := by omega
  have h3 : ¬ (2 : Int) ^ d ≤ (m : Int) := by
    have : ((2 ^ d : Nat) : Int) = (2 : Int) ^ d := by simp
    rw [← this]; omega
  have hmin : min d 64 = d := by have := hk.d8; omega
  have hsh2 : wrap64 ((2 : Int) ^ min d 64) = (2 : Int) ^ d := by rw [hmin, hsh]; simp
  have i2 : decide ((m : Int) < 0) = false := decide_eq_false i1
  have h4 : decide ((2 : Int) ^ d ≤ (m : Int)) = false := decide_eq_false h3
  clear hI hk hv hV hc hsh hmin
  go_enter Tryd.func14, Tryd.ntmps14
  go_wp2_with fail
  refine HV.out.mono ?_
  rintro e w1 ⟨rfl, hb⟩
  have HZ := hid hb
  clear hb HV
  go_wp2_with fail
  refine (HC.out w1 HZ.out).mono ?_
  rintro e w2 ⟨rfl, hb⟩
  have HY := hid (HZ.out.trans (hb.mono HZ.out.size))
  clear hb HC
  go_wp2_with fail
  go_ret2
  exact ⟨rfl, HY.out⟩
end Go.Proofs.YtphcgggohfbmfaaDoor
