/- The document's 'IsFair': what it returns. -/
import Derived.Test.YthankdfjkmfokaaFairLaw
namespace Go.Proofs.Ythankdfjkmfokaa
open Go.RowKit
set_option linter.unusedSimpArgs false
set_option linter.unusedVariables false

/-- The size of the last claim of school i against the next claim of school k. -/
def lnAt (kd : Int) (xs ms : List Int) (i k : Nat) : Int := szC (nth xs i) (stp kd (nth ms i - 1)) (nth xs k) (stp kd (nth ms k))
def FairAt (kd : Int) (xs ms : List Int) (i k : Nat) : Prop := i ≠ k → 0 < nth ms i → 0 ≤ lnAt kd xs ms i k
def FairOK (kd : Int) (xs ms : List Int) : Prop := ∀ i, i < xs.length → ∀ k, k < xs.length → FairAt kd xs ms i k
open Classical in
noncomputable def faiB (xs ms : List Int) (kd : Int) : Bool := decide (HavOK xs ms kd ∧ FairOK kd xs ms)
theorem faiB_yes {xs ms : List Int} {kd : Int} (h : HavOK xs ms kd) (h2 : FairOK kd xs ms) : faiB xs ms kd = true := by simp [faiB, h, h2]
theorem faiB_not {xs ms : List Int} {kd : Int} (h2 : ¬ FairOK kd xs ms) : faiB xs ms kd = false := by simp [faiB, h2]
theorem faiB_no {xs ms : List Int} {kd : Int} (h : ¬ HavOK xs ms kd) : faiB xs ms kd = false := by simp [faiB, h]
theorem fair_more {P : Nat → Prop} {k : Nat} (h : ∀ i, i < k → P i) (hk : P k) : ∀ i, i < k + 1 → P i := by
  intro i hi
  by_cases e : i = k
  · subst e; exact hk
  · exact h i (by omega)
theorem sf_fair {kd : Int} {xs ms : List Int} (h : SF kd xs ms) : FairOK kd xs ms := fun i hi k hk hne hp => gt_ge (h i k hi hk hne hp)

set_option maxRecDepth 100000 in
set_option maxHeartbeats 2000000 in
theorem rIsFair_any (xs ms : List Int) (a a2 : Option Addr) (cap cap2 : Nat) (kd : Int) (W : World) (h1 : IntsAt W a xs) (h2 : IntsAt W a2 ms) (hm : xs.length ≤ 1000) (hm2 : ms.length ≤ maxLen) :
    Calls Try.prog 34 #[.slice a xs.length cap, .slice a2 ms.length cap2, .int .i64 kd] W fun e w' => e = .returned (.tuple #[.bool (faiB xs ms kd), .int .i64 (havE xs ms kd)]) ∧ Below W.heap.size W w' := by
  have Ha := hid (have_E xs ms a a2 cap cap2 kd W h1 h2 hm hm2)
  by_cases h : HavOK xs ms kd
  · rw [havE_yes h] at Ha ⊢
    have HOK := hid h
    have Hlen := hid h.2.len
    have Hel := hid h.2.el
    have Hoel := hid h.1.1.el
    clear h
    go_enter Try.func34, Try.ntmps34
    go_wp2_with fail
    refine Ha.out.mono ?_; rintro e w' ⟨rfl, rfl⟩
    go_wp2_with fail
    go_loopw [9, 10] (fun v9 v10 w' => ∃ i n : Nat, i ≤ xs.length ∧ v9 = .int .i64 i ∧ (∀ i', i' < i → ∀ k, k < xs.length → FairAt kd xs ms i' k) ∧ w' = W.drewN n) (fun v9 _ _ => xs.length - (intOf v9).toNat)
    case atStart => exact ⟨0, 0, by omega, rfl, fun i hi => absurd hi (Nat.not_lt_zero i), rfl⟩
    case round =>
      obtain ⟨i, n, hi, rfl, hF, rfl⟩ := hrel
      have HF := hid hF
      clear hF
      by_cases hlt : i < xs.length
      · obtain ⟨b, off, rfl, hbl, c1⟩ := h1 i hlt
        obtain ⟨b2, off2, rfl, hbl2, d1⟩ := h2 i (by rw [Hlen.out]; exact hlt)
        have o1 := Hoel.out i hlt
        have m1 := Hel.out i (by rw [Hlen.out]; exact hlt)
        have i1 : (0 : Int) ≤ (i : Int) := by omega
        have i2 : (i : Int) < (xs.length : Int) := by omega
        have i3 : (i : Int) < (ms.length : Int) := by have := Hlen.out; omega
        go_wp2_with fail
        go_loopw [10] (fun v10 w' => ∃ k n : Nat, k ≤ xs.length ∧ v10 = .int .i64 k ∧ (∀ k', k' < k → FairAt kd xs ms i k') ∧ w' = W.drewN n) (fun v10 _ => xs.length - (intOf v10).toNat)
        case atStart => exact ⟨0, n, by omega, rfl, fun i hi => absurd hi (Nat.not_lt_zero i), rfl⟩
        case round =>
          obtain ⟨k, n, hk, rfl, hG, rfl⟩ := hrel
          have HG := hid hG
          clear hG
          by_cases hltk : k < xs.length
          · obtain ⟨b', off', e', _, c2⟩ := h1 k hltk
            cases e'
            obtain ⟨b2', off2', e2', _, d2⟩ := h2 k (by rw [Hlen.out]; exact hltk)
            cases e2'
            have o2 := Hoel.out k hltk
            have m2 := Hel.out k (by rw [Hlen.out]; exact hltk)
            have i4 : (0 : Int) ≤ (k : Int) := by omega
            have i5 : (k : Int) < (xs.length : Int) := by omega
            have i6 : (k : Int) < (ms.length : Int) := by have := Hlen.out; omega
            by_cases hik : i = k
            · have HN : Hid (FairAt kd xs ms i k) := hid fun h => absurd hik h
              have e1 : ((i : Int) != (k : Int)) = false := by simp [hik]
              clear hik
              go_wp2_with fail
              go_quiet (fail)
              go_wp2_with fail
              go_roundw
              case rel => exact ⟨k + 1, _, by omega, by go_num, fair_more HG.out HN.out, rfl⟩
              case measure => simp [intOf]; omega
            · have e1 : ((i : Int) != (k : Int)) = true := by simp; omega
              by_cases hp : 0 < nth ms i
              · have hpd : decide (0 < nth ms i) = true := decide_eq_true hp
                have hw1 : IntKind.i64.wrap (nth ms i - 1) = nth ms i - 1 := IntWalk.i64_in _ (by omega)
                have Hc : Hid (∀ w', Calls Try.prog 67 #[.int .i64 kd, .int .i64 (nth xs i), .int .i64 (nth ms i - 1), .int .i64 (nth xs k), .int .i64 (nth ms k)] w' fun e w2 => e = .returned (.int .i64 (lnAt kd xs ms i k)) ∧ w' = w2) := fun w' => rcompare_any kd _ _ _ _ w' o1.1 o1.2 o2.1 o2.2 (by omega) (by omega) m2.1 m2.2
                by_cases hz : lnAt kd xs ms i k < 0
                · have hzd : decide (lnAt kd xs ms i k < 0) = true := decide_eq_true hz
                  have R := hid (faiB_not (kd := kd) (xs := xs) (ms := ms) fun h => by have := h i hlt k hltk hik hp; omega)
                  clear hik hz
                  go_wp2_with fail
                  go_quiet ((go_at_call 67; exact quiet_two (Hc.out _)))
                  go_wp2_with fail
                  go_ret2
                  refine ⟨?_, below_drewN (below_drewN (Below.refl _ _) _) _⟩
                  rw [R.out]
                  rfl
                · have hzd : decide (lnAt kd xs ms i k < 0) = false := decide_eq_false hz
                  have HN : Hid (FairAt kd xs ms i k) := hid fun _ _ => by omega
                  clear hik hz
                  go_wp2_with fail
                  go_quiet ((go_at_call 67; exact quiet_two (Hc.out _)))
                  go_wp2_with fail
                  go_roundw
                  case rel => exact ⟨k + 1, _, by omega, by go_num, fair_more HG.out HN.out, rfl⟩
                  case measure => simp [intOf]; omega
              · have hpd : decide (0 < nth ms i) = false := decide_eq_false hp
                have HN : Hid (FairAt kd xs ms i k) := hid fun _ h => absurd h hp
                clear hik
                go_wp2_with fail
                go_quiet (fail)
                go_wp2_with fail
                go_roundw
                case rel => exact ⟨k + 1, _, by omega, by go_num, fair_more HG.out HN.out, rfl⟩
                case measure => simp [intOf]; omega
          · obtain rfl : k = xs.length := by omega
            go_wp2_with fail
            go_roundw
            case rel => exact ⟨i + 1, _, by omega, by go_num, fair_more HF.out HG.out, rfl⟩
            case measure => simp [intOf]; omega
      · obtain rfl : i = xs.length := by omega
        have R := hid (faiB_yes HOK.out HF.out)
        go_wp2_with fail
        go_ret2
        refine ⟨?_, below_drewN (Below.refl _ _) _⟩
        rw [R.out]
        rfl
  · rw [havE_no h] at Ha ⊢
    rw [faiB_no h]
    clear h
    go_enter Try.func34, Try.ntmps34
    go_wp2_with fail
    refine Ha.out.mono ?_; rintro e w' ⟨rfl, rfl⟩
    go_wp2_with fail
    go_ret2
    exact ⟨rfl, Below.refl _ _⟩
end Go.Proofs.Ythankdfjkmfokaa
