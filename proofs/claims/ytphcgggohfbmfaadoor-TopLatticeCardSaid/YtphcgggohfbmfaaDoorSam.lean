/- 'SameInts' at equal lists; the menus of the known table. -/
import Derived.Test.YtphcgggohfbmfaaDoorPrd
namespace Go.Proofs.YtphcgggohfbmfaaDoor
open Go.RowKit Go.Maps
set_option linter.unusedSimpArgs false
set_option linter.unusedVariables false

theorem below_drewN' {a w : World} (h : Below a.heap.size a w) (n : Nat) : Below a.heap.size a (w.drewN n) := below_drewN h n
set_option maxRecDepth 100000 in
theorem same_any (xs : List Int) (a a2 : Option Addr) (cap cap2 : Nat) (W : World) (h1 : IntsAt W a xs) (h2 : IntsAt W a2 xs) (hm : xs.length ≤ maxLen) :
    Calls Tryd.prog 5 #[.slice a xs.length cap, .slice a2 xs.length cap2] W fun e w' => e = .returned (.bool true) ∧ Below W.heap.size W w' := by
  unfold maxLen at hm
  go_enter Tryd.func5, Tryd.ntmps5
  go_wp2_with fail
  go_loopw [5] (fun v5 w' => ∃ k : Nat, k ≤ xs.length ∧ v5 = .int .i64 (k : Nat) ∧ Below W.heap.size W w') (fun v5 _ => xs.length - intOfV v5)
  case atStart => exact ⟨0, by omega, rfl, Below.refl _ _⟩
  case round =>
    obtain ⟨k, hk, rfl, hb⟩ := hrel
    by_cases hlt : k < xs.length
    · obtain ⟨b, off, rfl, hbl, c1⟩ := (h1.below hb) k hlt
      obtain ⟨b', off', rfl, hbl', c2⟩ := (h2.below hb) k hlt
      have hself : (nth xs k != nth xs k) = false := by simp
      have hself2 : (nth xs k == nth xs k) = true := by simp
      have i1 : (0 : Int) ≤ (k : Int) := by omega
      have i2 : (k : Int) < (xs.length : Int) := by omega
      go_wp2_with fail
      go_quiet (fail)
      go_wp2_with fail
      go_roundw
      case rel => exact ⟨k + 1, by omega, by go_num, below_drewN hb _⟩
      case measure => simp [intOfV] <;> omega
    · have hk' : k = xs.length := by omega
      subst hk'
      go_wp2_with fail
      go_ret
      exact ⟨rfl, hb⟩
theorem val36 : valE [3, 6] ((3 : Nat) : Int) = 0 := by
  have hb : anyB (badR 3) [3, 6] = false := by
    rw [Bool.eq_false_iff]
    intro h
    obtain ⟨i, hi, hf⟩ := (any_iff _ _).1 h
    have : i = 0 ∨ i = 1 := by simp at hi; omega
    rcases this with rfl | rfl <;> simp [badR, nth] at hf
  unfold valE
  rw [if_neg (by omega), if_neg (by decide), Int.toNat_natCast, hb]
  rfl
theorem menus36 : menusN (rowN [3, 6]) 2 8 = [2, 5] := by decide +kernel
end Go.Proofs.YtphcgggohfbmfaaDoor
