/- The library's 'Max' and 'Index' on ints: what they return. -/
import Derived.Test.YthankdfjkmfokaaRemLaw
namespace Go.Proofs.Ythankdfjkmfokaa
open Go.RowKit
set_option linter.unusedSimpArgs false
set_option linter.unusedVariables false

theorem mxI_max (rs : List Int) (k : Nat) : (if nth rs (mxI rs k) < nth rs k then nth rs k else nth rs (mxI rs k)) = nth rs (mxI rs (k + 1)) := by
  by_cases h : nth rs (mxI rs k) < nth rs k
  · rw [mxI_yes rs k h, if_pos h]
  · rw [mxI_no rs k h, if_neg h]
theorem Max_any (xs : List Int) (a : Option Addr) (cap : Nat) (W : World) (hI : IntsAt W a xs) (h1 : 1 ≤ xs.length) (hm : xs.length ≤ 1000) :
    Calls Try.prog 91 #[.slice a xs.length cap] W fun e w' => e = .returned (.int .i64 (nth xs (mxI xs xs.length))) ∧ W = w' := by
  obtain ⟨b0, off0, rfl, hb0, c0⟩ := hI 0 h1
  have hl : decide ((xs.length : Int) < 1) = false := decide_eq_false (by omega)
  have i0 : (0 : Int) < (xs.length : Int) := by omega
  have i0' : 0 < xs.length := h1
  rw [Nat.add_zero] at c0
  go_enter Try.func91, Try.ntmps91
  go_wp2
  go_loop [3, 4] (fun v3 v4 => ∃ k : Nat, 1 ≤ k ∧ k ≤ xs.length ∧ v3 = .int .i64 (nth xs (mxI xs k)) ∧ v4 = .int .i64 k) (fun _ v4 => xs.length - (intOf v4).toNat)
  case atStart => exact ⟨1, by omega, h1, by rw [mxI_one], rfl⟩
  case round =>
    obtain ⟨k, hk1, hk, rfl, rfl⟩ := hrel
    by_cases hlt : k < xs.length
    · obtain ⟨b, off, e, hbl, c1⟩ := hI k hlt
      cases e
      have HM := hid (mxI_max xs k)
      go_wp2
      go_round
      case rel => exact ⟨k + 1, by omega, by omega, by rw [← HM.out], by go_num⟩
      case measure => simp [intOf]; omega
    · obtain rfl : k = xs.length := by omega
      go_wp2
      go_ret
      exact ⟨rfl, rfl⟩
theorem Index_any (xs : List Int) (m : Int) (j : Nat) (a : Option Addr) (cap : Nat) (W : World) (hI : IntsAt W a xs) (hj : j < xs.length) (he : nth xs j = m) (hf : ∀ i, i < j → nth xs i ≠ m) (hm : xs.length ≤ 1000) :
    Calls Try.prog 90 #[.slice a xs.length cap, .int .i64 m] W fun e w' => e = .returned (.int .i64 j) ∧ W = w' := by
  have HF := hid hf
  have HE := hid he
  clear hf he
  go_enter Try.func90, Try.ntmps90
  go_wp2
  go_loop [5, 8] (fun v5 v8 => ∃ k : Nat, k ≤ j ∧ v8 = .int .i64 k) (fun _ v8 => xs.length - (intOf v8).toNat)
  case atStart => exact ⟨0, by omega, rfl⟩
  case round =>
    obtain ⟨k, hk, rfl⟩ := hrel
    have hlt : k < xs.length := by omega
    obtain ⟨b, off, rfl, hbl, c1⟩ := hI k hlt
    by_cases hkj : k = j
    · subst hkj
      rw [HE.out] at c1
      have hs : (m == m) = true := by simp
      go_wp2
      go_ret
      exact ⟨rfl, rfl⟩
    · have hne : (m == nth xs k) = false := beq_eq_false_iff_ne.2 fun h => HF.out k (by omega) h.symm
      go_wp2
      go_round
      case rel => exact ⟨k + 1, by omega, by go_num⟩
      case measure => simp [intOf]; omega
end Go.Proofs.Ythankdfjkmfokaa
