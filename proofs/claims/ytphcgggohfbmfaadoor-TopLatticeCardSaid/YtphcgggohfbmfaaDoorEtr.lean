/- Who can eat all of a set. -/
import Derived.Test.YtphcgggohfbmfaaDoorEat
namespace Go.Proofs.YtphcgggohfbmfaaDoor
open Go.RowKit Go.Maps
set_option linter.unusedSimpArgs false
set_option linter.unusedVariables false

def butN (a b : Nat) : Nat := a &&& (2 ^ 64 - (b + 1))
theorem but_N (a b j : Nat) (ha : a < 256) (hb : b < 256) : (butN a b).testBit j = true ↔ a.testBit j = true ∧ ¬ b.testBit j = true := by
  unfold butN
  rw [Nat.testBit_and, Bool.and_eq_true, Nat.testBit_two_pow_sub_succ (by omega), Bool.and_eq_true, decide_eq_true_iff, Bool.not_eq_true', Bool.not_eq_true]
  constructor
  · rintro ⟨h1, _, h2⟩; exact ⟨h1, h2⟩
  · rintro ⟨h1, h2⟩; exact ⟨h1, by have := bit_lt (k := 8) ha h1; omega, h2⟩
theorem butN_le (a b : Nat) : butN a b ≤ a := Nat.and_le_left
theorem bits_but_nat (a b : Nat) (ha : a < 256) (hb : b < 256) : bits .andNot .i64 (a : Int) (b : Int) = ((butN a b : Nat) : Int) := by
  have hx := butN_le a b
  have h1 : (BitVec.ofInt 64 (a : Int)).toNat = a := by
    rw [BitVec.ofInt_natCast, BitVec.toNat_ofNat]; exact Nat.mod_eq_of_lt (by omega)
  have h2 : (BitVec.ofInt 64 (b : Int)).toNat = b := by
    rw [BitVec.ofInt_natCast, BitVec.toNat_ofNat]; exact Nat.mod_eq_of_lt (by omega)
  show IntKind.i64.wrap ((BitVec.ofInt 64 (a : Int) &&& ~~~ BitVec.ofInt 64 (b : Int)).toNat : Int) = _
  rw [BitVec.toNat_and, BitVec.toNat_not, h1, h2, show 2 ^ 64 - 1 - b = 2 ^ 64 - (b + 1) by omega]
  show IntKind.i64.wrap ((butN a b : Nat) : Int) = _
  rw [IntKind.wrap_i64]
  omega
theorem butN_zero (a b : Nat) (ha : a < 256) (hb : b < 256) : butN a b = 0 ↔ ∀ j, j < 8 → a.testBit j = true → b.testBit j = true := by
  constructor
  · intro h j _ hj
    cases e : b.testBit j with
    | true => rfl
    | false =>
      have := (but_N a b j ha hb).2 ⟨hj, by rw [e]; decide⟩
      rw [h, Nat.zero_testBit] at this
      cases this
  · intro h
    refine eq_bits fun j => ?_
    rw [but_N a b j ha hb, Nat.zero_testBit]
    exact ⟨fun x => absurd (h j (bit_lt (k := 8) ha x.1) x.1) x.2, fun x => by cases x⟩
theorem etr_succ_yes {R : Nat → Nat} {m n : Nat} (h : butN m (R n) = 0) (hm : m < 256) (hr : R n < 256) : etrN R m (n + 1) = etrN R m n ||| 2 ^ n := by
  rw [etrN, if_pos ((butN_zero m (R n) hm hr).1 h)]
theorem etr_succ_no {R : Nat → Nat} {m n : Nat} (h : butN m (R n) ≠ 0) (hm : m < 256) (hr : R n < 256) : etrN R m (n + 1) = etrN R m n := by
  rw [etrN, if_neg fun x => h ((butN_zero m (R n) hm hr).2 x)]
theorem shl_nat (i : Nat) (h : i ≤ 8) : wrap64 ((2 : Int) ^ i) = ((2 ^ i : Nat) : Int) := by
  have key : ∀ d : Fin 9, wrap64 ((2 : Int) ^ d.1) = ((2 ^ d.1 : Nat) : Int) := by decide +kernel
  exact key ⟨i, by omega⟩
set_option maxRecDepth 100000 in
set_option maxHeartbeats 2000000 in
theorem eaters_any (xs : List Int) (d m : Nat) (hk : TblOK xs d) (hm : m < 256) (a : Option Addr) (cap : Nat) (W : World) (hI : IntsAt W a xs) :
    Calls Tryd.prog 12 #[.slice a xs.length cap, .int .i64 (m : Nat)] W fun e w' => e = .returned (.int .i64 (etrN (rowN xs) m xs.length : Nat)) ∧ Below W.heap.size W w' := by
  have HK := hid hk
  have HI := hid hI
  have hn8 := hk.n8
  have d8 := hk.d8
  clear hI hk
  go_enter Tryd.func12, Tryd.ntmps12
  go_wp2_with fail
  go_loopw [5, 6, 7, 10] (fun v5 v6 v7 v10 w' => ∃ (j : Nat), v10 = .int .i64 (j : Nat) ∧ j ≤ xs.length ∧ v5 = natV (etrN (rowN xs) m j) ∧ Below W.heap.size W w') (fun _ _ _ v10 _ => xs.length - intOfV v10)
  case atStart => exact ⟨0, rfl, by omega, rfl, Below.refl _ _⟩
  case round =>
    obtain ⟨j, rfl, hj, rfl, hb⟩ := hrel
    by_cases hlt : j < xs.length
    · have hv := HK.out.el j hlt
      have hpow : 2 ^ d ≤ 256 := by have := Nat.pow_le_pow_right (n := 2) (by omega) d8; simpa using this
      obtain ⟨b1, o1, rfl, hb1, c1⟩ := HI.out.below hb j hlt
      have e1 : nth xs j = ((rowN xs j : Nat) : Int) := by unfold rowN; omega
      rw [e1] at c1
      have hr8 : rowN xs j < 256 := by omega
      have hY := hid (etr_succ_yes (R := rowN xs) (m := m) (n := j))
      have hN := hid (etr_succ_no (R := rowN xs) (m := m) (n := j))
      have hM : etrN (rowN xs) m j < 256 := Nat.lt_of_lt_of_le (etr_lt (rowN xs) m j) (by have := Nat.pow_le_pow_right (n := 2) (by omega) (show j ≤ 8 by omega); simpa using this)
      have hp8 : 2 ^ j < 256 := by have := Nat.pow_lt_pow_right (a := 2) (by omega) (show j < 8 by omega); simpa using this
      have hbut := bits_but_nat m (rowN xs j) hm hr8
      have hor := bits_or_nat (etrN (rowN xs) m j) (2 ^ j) hM hp8
      have hsh := shl_nat j (by omega)
      have i3 : (0 : Int) ≤ (j : Int) := by omega
      have i4 : (j : Int) < (xs.length : Int) := by omega
      have HBr := hid hb
      have Hlt := hid hlt
      generalize rowN xs j = r at *
      clear e1 hv hb hlt hpow
      by_cases h0 : butN m r = 0
      · rw [h0] at hbut
        have hY := hid (hY.out h0 hm hr8)
        clear h0 hN
        generalize etrN (rowN xs) m j = M at *
        have hor2 : bits BinOp.or IntKind.i64 (M : Int) ((2 : Int) ^ j) = ((M ||| 2 ^ j : Nat) : Int) := by rw [← hor]; simp
        clear hor
        unfold natV
        go_wp2_with (fail)
        go_roundw
        case rel => exact ⟨j + 1, by go_num, Hlt.out, by rw [hY.out], HBr.out⟩
        case measure => have := Hlt.out; simp [intOfV] <;> omega
      · have hN2 := hid (hN.out h0 hm hr8)
        clear hN hY hor hsh hp8
        have hne : (((butN m r : Nat) : Int) == 0) = false := by simp; omega
        clear h0
        generalize butN m r = q at *
        generalize etrN (rowN xs) m j = M at *
        unfold natV
        go_wp2_with (fail)
        go_roundw
        case rel => exact ⟨j + 1, by go_num, Hlt.out, by rw [hN2.out], HBr.out⟩
        case measure => have := Hlt.out; simp [intOfV] <;> omega
    · have hj2 : j = xs.length := by omega
      have HE : Hid (etrN (rowN xs) m j = etrN (rowN xs) m xs.length) := hid (by rw [hj2])
      have i4 : ¬ (j : Int) < (xs.length : Int) := by omega
      have HBr := hid hb
      clear hj2 hb
      generalize etrN (rowN xs) m j = M at *
      unfold natV
      go_wp2_with fail
      go_ret
      exact ⟨by rw [← HE.out]; rfl, HBr.out⟩
end Go.Proofs.YtphcgggohfbmfaaDoor
