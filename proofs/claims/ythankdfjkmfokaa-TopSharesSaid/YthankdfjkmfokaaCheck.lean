/- The checks of orders, kinds, numbers and meals: what they return. -/
import Derived.Test.YthankdfjkmfokaaCmp
namespace Go.Proofs.Ythankdfjkmfokaa
open Go.RowKit
set_option linter.unusedSimpArgs false
set_option linter.unusedVariables false

/-! ### plain -/
structure OrdOK (xs : List Int) : Prop where
  l1 : 1 ≤ xs.length
  l8 : xs.length ≤ 8
  el : ∀ i, i < xs.length → 1 ≤ nth xs i ∧ nth xs i ≤ 1000000
def NumOK (n : Int) : Prop := 0 ≤ n ∧ n ≤ 1000
structure MealsOK (xs ms : List Int) : Prop where
  len : ms.length = xs.length
  el : ∀ i, i < ms.length → 0 ≤ nth ms i ∧ nth ms i ≤ 1000
open Classical in
noncomputable def e01 (p : Prop) : Int := if p then 0 else 1
theorem e01_yes {p : Prop} (h : p) : e01 p = 0 := by simp [e01, h]
theorem e01_no {p : Prop} (h : ¬ p) : e01 p = 1 := by simp [e01, h]

/-! ### within, number -/
theorem within_any (n lo hi : Int) (w : World) :
    Calls Try.prog 57 #[.int .i64 n, .int .i64 lo, .int .i64 hi] w fun e w' => e = .returned (.bool (decide (lo ≤ n) && decide (n ≤ hi))) ∧ w = w' := by
  by_cases h1 : lo ≤ n
  · by_cases h2 : n ≤ hi
    · go_enter Try.func57, Try.ntmps57
      go_wp2
      go_ret
      exact ⟨by simp [h1, h2], rfl⟩
    · go_enter Try.func57, Try.ntmps57
      go_wp2
      go_ret
      exact ⟨by simp [h1, h2], rfl⟩
  · go_enter Try.func57, Try.ntmps57
    go_wp2
    go_ret
    exact ⟨by simp; omega, rfl⟩
theorem within_yes (n lo hi : Int) (w : World) (h1 : lo ≤ n) (h2 : n ≤ hi) :
    Calls Try.prog 57 #[.int .i64 n, .int .i64 lo, .int .i64 hi] w fun e w' => e = .returned (.bool true) ∧ w = w' :=
  (within_any n lo hi w).mono fun e w' ⟨he, hw⟩ => ⟨by rw [he]; simp [h1, h2], hw⟩
theorem within_no (n lo hi : Int) (w : World) (h : n < lo ∨ hi < n) :
    Calls Try.prog 57 #[.int .i64 n, .int .i64 lo, .int .i64 hi] w fun e w' => e = .returned (.bool false) ∧ w = w' :=
  (within_any n lo hi w).mono fun e w' ⟨he, hw⟩ => ⟨by
    rw [he]
    have : (decide (lo ≤ n) && decide (n ≤ hi)) = false := by
      rw [Bool.and_eq_false_iff, decide_eq_false_iff_not, decide_eq_false_iff_not]; omega
    rw [this], hw⟩
theorem number_any (n : Int) (W : World) : Calls Try.prog 53 #[.int .i64 n] W fun e w' => e = .returned (.int .i64 (e01 (NumOK n))) ∧ W = w' := by
  by_cases h : NumOK n
  · rw [e01_yes h]
    go_enter Try.func53, Try.ntmps53
    go_wp2_with fail
    refine (within_yes _ _ _ _ h.1 h.2).mono ?_; rintro e w' ⟨rfl, rfl⟩
    go_wp2_with fail
    go_ret
    exact ⟨rfl, rfl⟩
  · rw [e01_no h]
    have h' : n < 0 ∨ 1000 < n := by unfold NumOK at h; omega
    clear h
    go_enter Try.func53, Try.ntmps53
    go_wp2_with fail
    refine (within_no _ _ _ _ h').mono ?_; rintro e w' ⟨rfl, rfl⟩
    go_wp2_with fail
    go_ret
    exact ⟨rfl, rfl⟩

/-! ### slices.ContainsFunc -/
def outB (lo hi x : Int) : Bool := !(decide (lo ≤ x) && decide (x ≤ hi))
theorem clos59 (x : Int) (W : World) : Calls Try.prog 59 #[.int .i64 x] W fun e w' => e = .returned (.bool (outB 1 1000000 x)) ∧ W = w' := by
  go_enter Try.func59, Try.ntmps59
  go_wp2_with fail
  refine (within_any _ _ _ _).mono ?_; rintro e w' ⟨rfl, rfl⟩
  go_wp2_with fail
  go_ret
  exact ⟨by simp [outB], rfl⟩
theorem clos86 (x : Int) (W : World) : Calls Try.prog 86 #[.int .i64 x] W fun e w' => e = .returned (.bool (outB 0 1000 x)) ∧ W = w' := by
  go_enter Try.func86, Try.ntmps86
  go_wp2_with fail
  refine (within_any _ _ _ _).mono ?_; rintro e w' ⟨rfl, rfl⟩
  go_wp2_with fail
  go_ret
  exact ⟨by simp [outB], rfl⟩
def IdxPost (p : Int → Bool) (xs : List Int) (W : World) (e : Ending) (w' : World) : Prop :=
  W = w' ∧ ((∃ k : Nat, k < xs.length ∧ e = .returned (.int .i64 k) ∧ p (nth xs k) = true) ∨ (e = .returned (.int .i64 (-1)) ∧ ∀ j, j < xs.length → p (nth xs j) = false))
set_option maxHeartbeats 1000000 in
theorem indexFunc_any (F : Nat) (p : Int → Bool) (hF : (F = 59 ∧ p = outB 1 1000000) ∨ (F = 86 ∧ p = outB 0 1000)) (xs : List Int) (a : Option Addr) (cap : Nat) (W : World) (hI : IntsAt W a xs) (hl : xs.length ≤ 1000) :
    Calls Try.prog 85 #[.slice a xs.length cap, .func (.func F) #[] #[]] W (IdxPost p xs W) := by
  rcases hF with ⟨rfl, rfl⟩ | ⟨rfl, rfl⟩
  · go_enter Try.func85, Try.ntmps85
    go_wp2_with fail
    go_loop [5, 8] (fun v5 v8 => ∃ k : Nat, k ≤ xs.length ∧ v8 = .int .i64 k ∧ Hid (∀ j, j < k → outB 1 1000000 (nth xs j) = false)) (fun _ v8 => xs.length - (intOf v8).toNat)
    case atStart => exact ⟨0, by omega, rfl, hid fun j hj => by omega⟩
    case round =>
      obtain ⟨k, hk, rfl, hno⟩ := hrel
      by_cases hlt : k < xs.length
      · obtain ⟨b, off, rfl, hbl, c1⟩ := hI k hlt
        have Hc := hid (clos59 (nth xs k) W)
        cases hp : outB 1 1000000 (nth xs k)
        · rw [hp] at Hc
          go_wp2_with fail
          refine Hc.out.mono ?_; rintro e w2 ⟨rfl, rfl⟩
          go_wp2_with fail
          go_round
          case rel => exact ⟨k + 1, by omega, by go_num, hid fun j hj => by
            by_cases e : j = k
            · subst e; exact hp
            · exact hno.out j (by omega)⟩
          case measure => simp [intOf]; omega
        · rw [hp] at Hc
          go_wp2_with fail
          refine Hc.out.mono ?_; rintro e w2 ⟨rfl, rfl⟩
          go_wp2_with fail
          go_ret
          exact ⟨rfl, .inl ⟨k, hlt, rfl, hp⟩⟩
      · obtain rfl : k = xs.length := by omega
        go_wp2_with fail
        go_ret
        exact ⟨rfl, .inr ⟨rfl, hno.out⟩⟩
  · go_enter Try.func85, Try.ntmps85
    go_wp2_with fail
    go_loop [5, 8] (fun v5 v8 => ∃ k : Nat, k ≤ xs.length ∧ v8 = .int .i64 k ∧ Hid (∀ j, j < k → outB 0 1000 (nth xs j) = false)) (fun _ v8 => xs.length - (intOf v8).toNat)
    case atStart => exact ⟨0, by omega, rfl, hid fun j hj => by omega⟩
    case round =>
      obtain ⟨k, hk, rfl, hno⟩ := hrel
      by_cases hlt : k < xs.length
      · obtain ⟨b, off, rfl, hbl, c1⟩ := hI k hlt
        have Hc := hid (clos86 (nth xs k) W)
        cases hp : outB 0 1000 (nth xs k)
        · rw [hp] at Hc
          go_wp2_with fail
          refine Hc.out.mono ?_; rintro e w2 ⟨rfl, rfl⟩
          go_wp2_with fail
          go_round
          case rel => exact ⟨k + 1, by omega, by go_num, hid fun j hj => by
            by_cases e : j = k
            · subst e; exact hp
            · exact hno.out j (by omega)⟩
          case measure => simp [intOf]; omega
        · rw [hp] at Hc
          go_wp2_with fail
          refine Hc.out.mono ?_; rintro e w2 ⟨rfl, rfl⟩
          go_wp2_with fail
          go_ret
          exact ⟨rfl, .inl ⟨k, hlt, rfl, hp⟩⟩
      · obtain rfl : k = xs.length := by omega
        go_wp2_with fail
        go_ret
        exact ⟨rfl, .inr ⟨rfl, hno.out⟩⟩
def ConPost (p : Int → Bool) (xs : List Int) (W : World) (e : Ending) (w' : World) : Prop :=
  W = w' ∧ ∃ b : Bool, e = .returned (.bool b) ∧ (b = false ↔ ∀ j, j < xs.length → p (nth xs j) = false)
theorem contains_any (F : Nat) (p : Int → Bool) (hF : (F = 59 ∧ p = outB 1 1000000) ∨ (F = 86 ∧ p = outB 0 1000)) (xs : List Int) (a : Option Addr) (cap : Nat) (W : World) (hI : IntsAt W a xs) (hl : xs.length ≤ 1000) :
    Calls Try.prog 58 #[.slice a xs.length cap, .func (.func F) #[] #[]] W (ConPost p xs W) := by
  have Hi := hid (indexFunc_any F p hF xs a cap W hI hl)
  clear hF
  go_enter Try.func58, Try.ntmps58
  go_wp2_with fail
  refine Hi.out.mono ?_; rintro e w1 ⟨rfl, ⟨k, hk, rfl, hp⟩ | ⟨rfl, hno⟩⟩
  · have Hp := hid hp
    clear hp
    go_wp2_with fail
    go_ret
    exact ⟨rfl, true, rfl, ⟨(fun h => by cases h), (fun h => by have := h k hk; rw [Hp.out] at this; exact this)⟩⟩
  · have Hn := hid hno
    clear hno
    go_wp2_with fail
    go_ret
    exact ⟨rfl, false, rfl, ⟨fun _ => Hn.out, fun _ => rfl⟩⟩
end Go.Proofs.Ythankdfjkmfokaa
