/- 'Long' and 'sameBools', 'SameInts' of the statements: what they return. -/
import Derived.Test.YtedgndangamkaaaGame
namespace Go.Proofs.Ytedgndangamkaaa
open Go.RowKit
set_option linter.unusedSimpArgs false
set_option linter.unusedVariables false

def LongE (g : List Rd) (W : World) (e : Ending) (w' : World) : Prop := ∃ b, e = .returned (.bool b) ∧ W = w' ∧ (b = false → g.length ≤ 60)
theorem Long_any (g : List Rd) (a : Option Addr) (cap : Nat) (W : World) (hG : GameAt W a g) (hm : g.length ≤ maxLen) :
    Calls Try.prog 34 #[.slice a g.length cap] W (LongE g W) := by
  unfold maxLen at hm
  go_enter Try.func34, Try.ntmps34
  go_wp2
  go_loop [3] (fun v3 => ∃ k : Nat, k ≤ g.length ∧ v3 = .int .i64 k) (fun v3 => g.length - (intOf v3).toNat)
  case atStart => exact ⟨0, by omega, rfl⟩
  case round =>
    obtain ⟨k, hk, rfl⟩ := hrel
    by_cases hlt : k < g.length
    · obtain ⟨b, off, aa, c, rfl, hbl, c1, c2, _, _, hcm⟩ := hG k hlt
      unfold maxLen at hcm
      by_cases h40 : 40 < (adv g k).length
      · go_wp2
        go_ret
        exact ⟨true, rfl, rfl, by intro h; cases h⟩
      · go_wp2
        go_round
        case rel => exact ⟨k + 1, by omega, by go_num⟩
        case measure => simp [intOf]; omega
    · have hk' : k = g.length := by omega
      subst hk'
      by_cases h60 : 60 < g.length
      · go_wp2
        go_ret
        exact ⟨true, by simp; omega, rfl, by intro h; cases h⟩
      · go_wp2
        go_ret
        exact ⟨false, by simp; omega, rfl, by intro _; omega⟩

theorem SameInts_any (xs : List Int) (a a2 : Option Addr) (cap cap2 : Nat) (W : World) (h1 : IntsAt W a xs) (h2 : IntsAt W a2 xs) (hm : xs.length ≤ maxLen) :
    Calls Try.prog 37 #[.slice a xs.length cap, .slice a2 xs.length cap2] W fun e w' => e = .returned (.bool true) ∧ Below W.heap.size W w' := by
  unfold maxLen at hm
  go_enter Try.func37, Try.ntmps37
  go_wp2
  go_loopw [5] (fun v5 w' => ∃ k : Nat, k ≤ xs.length ∧ v5 = .int .i64 k ∧ Below W.heap.size W w') (fun v5 _ => xs.length - (intOf v5).toNat)
  case atStart => exact ⟨0, by omega, rfl, Below.refl _ _⟩
  case round =>
    obtain ⟨k, hk, rfl, hb⟩ := hrel
    by_cases hlt : k < xs.length
    · obtain ⟨b, off, rfl, hbl, c1⟩ := (h1.below hb) k hlt
      obtain ⟨b', off', rfl, hbl', c2⟩ := (h2.below hb) k hlt
      have hself : (nth xs k != nth xs k) = false := by simp
      have hself2 : (nth xs k == nth xs k) = true := by simp
      go_wp2
      go_quiet (fail)
      go_wp2
      go_roundw
      case rel => exact ⟨k + 1, by omega, by go_num, below_drewN hb _⟩
      case measure => simp [intOf]; omega
    · have hk' : k = xs.length := by omega
      subst hk'
      go_wp2
      go_ret
      exact ⟨rfl, hb⟩

theorem sameBools_any (xs : List Bool) (a a2 : Option Addr) (cap cap2 : Nat) (W : World) (h1 : BoolsAt W a xs) (h2 : BoolsAt W a2 xs) (hm : xs.length ≤ maxLen) :
    Calls Try.prog 44 #[.slice a xs.length cap, .slice a2 xs.length cap2] W fun e w' => e = .returned (.bool true) ∧ Below W.heap.size W w' := by
  unfold maxLen at hm
  go_enter Try.func44, Try.ntmps44
  go_wp2
  go_loopw [5] (fun v5 w' => ∃ k : Nat, k ≤ xs.length ∧ v5 = .int .i64 k ∧ Below W.heap.size W w') (fun v5 _ => xs.length - (intOf v5).toNat)
  case atStart => exact ⟨0, by omega, rfl, Below.refl _ _⟩
  case round =>
    obtain ⟨k, hk, rfl, hb⟩ := hrel
    by_cases hlt : k < xs.length
    · obtain ⟨b, off, rfl, hbl, c1⟩ := (h1.below hb) k hlt
      obtain ⟨b', off', rfl, hbl', c2⟩ := (h2.below hb) k hlt
      have hself : (bth xs k != bth xs k) = false := by simp
      have hself2 : (bth xs k == bth xs k) = true := by simp
      go_wp2
      go_quiet (fail)
      go_wp2
      go_roundw
      case rel => exact ⟨k + 1, by omega, by go_num, below_drewN hb _⟩
      case measure => simp [intOf]; omega
    · have hk' : k = xs.length := by omega
      subst hk'
      go_wp2
      go_ret
      exact ⟨rfl, hb⟩
end Go.Proofs.Ytedgndangamkaaa
