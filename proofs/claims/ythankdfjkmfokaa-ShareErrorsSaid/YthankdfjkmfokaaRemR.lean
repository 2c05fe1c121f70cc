/- 'Remainders', 'Loses' and the document's: what they return. -/
import Derived.Test.YthankdfjkmfokaaRRem
namespace Go.Proofs.Ythankdfjkmfokaa
open Go.RowKit
set_option linter.unusedSimpArgs false
set_option linter.unusedVariables false

def RemOK (xs : List Int) (n : Int) : Prop := OrdOK xs ∧ NumOK n
noncomputable def remE (xs : List Int) (n : Int) : Int := e01 (RemOK xs n)
open Classical in
noncomputable def remR (xs : List Int) (n : Int) : List Int := if RemOK xs n then remL xs n else []
theorem rem_yes {xs : List Int} {n : Int} (h : RemOK xs n) : remE xs n = 0 ∧ remR xs n = remL xs n := ⟨e01_yes h, by rw [remR, if_pos h]⟩
theorem rem_no {xs : List Int} {n : Int} (h : ¬ RemOK xs n) : remE xs n = 1 ∧ remR xs n = [] := ⟨e01_no h, by rw [remR, if_neg h]⟩
def losL (A B : List Int) : Nat → List Int
  | 0 => []
  | k + 1 => if nth B k < nth A k then losL A B k ++ [(k : Int)] else losL A B k
theorem losL_yes (A B : List Int) (k : Nat) (h : nth B k < nth A k) : (losL A B k).map (Value.int .i64) ++ [.int .i64 (k : Int)] = (losL A B (k + 1)).map (Value.int .i64) ∧ (losL A B k).length + 1 = (losL A B (k + 1)).length := by rw [losL, if_pos h]; simp
theorem losL_no (A B : List Int) (k : Nat) (h : ¬ nth B k < nth A k) : losL A B (k + 1) = losL A B k := by rw [losL, if_neg h]
theorem losL_len (A B : List Int) (k : Nat) : (losL A B k).length ≤ k := by
  induction k with
  | zero => simp [losL]
  | succ k ih =>
    rw [losL]
    split
    · rw [List.length_append]; simp; omega
    · omega
structure LosOK (xs : List Int) (n : Int) : Prop where
  o : OrdOK xs
  lo : 0 ≤ n
  hi : n ≤ 999
noncomputable def losE (xs : List Int) (n : Int) : Int := e01 (LosOK xs n)
open Classical in
noncomputable def losR (xs : List Int) (n : Int) : List Int := if LosOK xs n then losL (remL xs n) (remL xs (n + 1)) xs.length else []
theorem los_yes {xs : List Int} {n : Int} (h : LosOK xs n) : losE xs n = 0 ∧ losR xs n = losL (remL xs n) (remL xs (n + 1)) xs.length := ⟨e01_yes h, by rw [losR, if_pos h]⟩
theorem los_no {xs : List Int} {n : Int} (h : ¬ LosOK xs n) : losE xs n = 1 ∧ losR xs n = [] := ⟨e01_no h, by rw [losR, if_neg h]⟩

set_option maxRecDepth 100000 in
set_option maxHeartbeats 1000000 in
theorem Remainders_any (xs : List Int) (a : Option Addr) (cap : Nat) (n : Int) (W : World) (h1 : IntsAt W a xs) (hm : xs.length ≤ maxLen) :
    Calls Try.prog 47 #[.slice a xs.length cap, .int .i64 n] W (IntsE (remR xs n) (remE xs n) W) := by
  have Hv := Validate_any xs a cap W h1 hm
  by_cases ho : OrdOK xs
  · rw [e01_yes ho] at Hv
    have HV := hid Hv
    clear Hv
    by_cases hn : NumOK n
    · have R := hid (rem_yes ⟨ho, hn⟩)
      have Hn := number_any n W
      rw [e01_yes hn] at Hn
      have HN := hid Hn
      have HR := hid (remainders_any xs a cap n W h1 ho hn)
      clear ho hn Hn
      go_enter Try.func47, Try.ntmps47
      go_wp2_with fail
      refine HV.out.mono ?_; rintro e w' ⟨rfl, rfl⟩
      go_wp2_with fail
      refine HN.out.mono ?_; rintro e w' ⟨rfl, rfl⟩
      go_wp2_with fail
      refine HR.out.mono ?_; rintro e w1 ⟨a1, c1, rfl, g1, hb1, l1, m1⟩
      go_wp2_with fail
      go_ret2
      exact ⟨a1, c1, by rw [R.out.1, R.out.2]; rfl, by rw [R.out.2]; exact g1, hb1, by rw [R.out.2]; exact l1, m1⟩
    · have R := hid (rem_no (xs := xs) (n := n) fun h => hn h.2)
      have Hn := number_any n W
      rw [e01_no hn] at Hn
      have HN := hid Hn
      clear ho hn Hn
      go_enter Try.func47, Try.ntmps47
      go_wp2_with fail
      refine HV.out.mono ?_; rintro e w' ⟨rfl, rfl⟩
      go_wp2_with fail
      refine HN.out.mono ?_; rintro e w' ⟨rfl, rfl⟩
      go_wp2_with fail
      go_ret2
      exact ⟨none, 0, by rw [R.out.1, R.out.2]; rfl, by rw [R.out.2]; exact fun i hi => absurd hi (Nat.not_lt_zero i), Below.refl _ _, by rw [R.out.2]; exact Nat.le_refl _, Nat.zero_le _⟩
  · rw [e01_no ho] at Hv
    have HV := hid Hv
    have R := hid (rem_no (xs := xs) (n := n) fun h => ho h.1)
    clear ho Hv
    go_enter Try.func47, Try.ntmps47
    go_wp2_with fail
    refine HV.out.mono ?_; rintro e w' ⟨rfl, rfl⟩
    go_wp2_with fail
    go_ret2
    exact ⟨none, 0, by rw [R.out.1, R.out.2]; rfl, by rw [R.out.2]; exact fun i hi => absurd hi (Nat.not_lt_zero i), Below.refl _ _, by rw [R.out.2]; exact Nat.le_refl _, Nat.zero_le _⟩

set_option maxRecDepth 100000 in
set_option maxHeartbeats 1000000 in
theorem rRemainders_any (xs : List Int) (a : Option Addr) (cap : Nat) (n : Int) (W : World) (h1 : IntsAt W a xs) (hm : xs.length ≤ maxLen) :
    Calls Try.prog 48 #[.slice a xs.length cap, .int .i64 n] W (IntsE (remR xs n) (remE xs n) W) := by
  have Hv := rValidate_any xs a cap W h1 hm
  by_cases ho : OrdOK xs
  · rw [e01_yes ho] at Hv
    have HV := hid Hv
    clear Hv
    by_cases hn : NumOK n
    · have R := hid (rem_yes ⟨ho, hn⟩)
      have Hn := countOK_any n W
      rw [numB_yes hn] at Hn
      have HN := hid Hn
      have HR := hid (rremainders_any xs a cap n W h1 ho hn)
      clear ho hn Hn
      go_enter Try.func48, Try.ntmps48
      go_wp2_with fail
      refine HV.out.mono ?_; rintro e w' ⟨rfl, rfl⟩
      go_wp2_with fail
      refine HN.out.mono ?_; rintro e w' ⟨rfl, rfl⟩
      go_wp2_with fail
      refine HR.out.mono ?_; rintro e w1 ⟨a1, c1, rfl, g1, hb1, l1, m1⟩
      go_wp2_with fail
      go_ret2
      exact ⟨a1, c1, by rw [R.out.1, R.out.2]; rfl, by rw [R.out.2]; exact g1, hb1, by rw [R.out.2]; exact l1, m1⟩
    · have R := hid (rem_no (xs := xs) (n := n) fun h => hn h.2)
      have Hn := countOK_any n W
      rw [numB_no hn] at Hn
      have HN := hid Hn
      clear ho hn Hn
      go_enter Try.func48, Try.ntmps48
      go_wp2_with fail
      refine HV.out.mono ?_; rintro e w' ⟨rfl, rfl⟩
      go_wp2_with fail
      refine HN.out.mono ?_; rintro e w' ⟨rfl, rfl⟩
      go_wp2_with fail
      go_ret2
      exact ⟨none, 0, by rw [R.out.1, R.out.2]; rfl, by rw [R.out.2]; exact fun i hi => absurd hi (Nat.not_lt_zero i), Below.refl _ _, by rw [R.out.2]; exact Nat.le_refl _, Nat.zero_le _⟩
  · rw [e01_no ho] at Hv
    have HV := hid Hv
    have R := hid (rem_no (xs := xs) (n := n) fun h => ho h.1)
    clear ho Hv
    go_enter Try.func48, Try.ntmps48
    go_wp2_with fail
    refine HV.out.mono ?_; rintro e w' ⟨rfl, rfl⟩
    go_wp2_with fail
    go_ret2
    exact ⟨none, 0, by rw [R.out.1, R.out.2]; rfl, by rw [R.out.2]; exact fun i hi => absurd hi (Nat.not_lt_zero i), Below.refl _ _, by rw [R.out.2]; exact Nat.le_refl _, Nat.zero_le _⟩
end Go.Proofs.Ythankdfjkmfokaa
