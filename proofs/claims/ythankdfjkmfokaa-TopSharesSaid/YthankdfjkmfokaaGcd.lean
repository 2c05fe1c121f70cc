/- 'divisor', 'gcd', 'Fraction': what they return. -/
import Derived.Test.YthankdfjkmfokaaMem
namespace Go.Proofs.Ythankdfjkmfokaa
open Go.RowKit

def gc (x y : Nat) : Nat := Nat.gcd x y
theorem gc_step (x y : Nat) : gc y (x % y) = gc x y := by
  unfold gc
  rw [Nat.gcd_comm y (x % y), ← Nat.gcd_rec, Nat.gcd_comm]
theorem gc_zero (x : Nat) : gc x 0 = x := Nat.gcd_zero_right x
theorem quiet_eq {P : Program} {f : FuncId} {args : Array Value} {w : World} {n : Nat} {v : Value}
    (h : Calls P f args (w.drewN n) fun e w' => e = .returned v ∧ w.drewN n = w') : Calls P f args (w.drewN n) fun e w'' => e = .returned v ∧ ∃ m, w'' = w.drewN m :=
  h.mono fun _ _ ⟨he, hm⟩ => ⟨he, n, hm.symm⟩
theorem divisor_in (x y : Nat) (w : World) (hx : x ≤ 4611686018427387904) (hy : y ≤ 4611686018427387904) :
    Calls Try.prog 76 #[.int .i64 x, .int .i64 y] w fun e w' => e = .returned (.int .i64 (gc x y)) ∧ ∃ n, w' = w.drewN n := by
  go_enter Try.func76, Try.ntmps76
  go_wp2
  go_loopw [0, 1] (fun v0 v1 wr => ∃ a b : Nat, a ≤ 4611686018427387904 ∧ b ≤ 4611686018427387904 ∧ v0 = .int .i64 a ∧ v1 = .int .i64 b ∧ gc a b = gc x y ∧ ∃ n, wr = w.drewN n) (fun _ v1 _ => (intOf v1).toNat)
  case atStart => exact ⟨x, y, hx, hy, rfl, rfl, rfl, 0, rfl⟩
  case round =>
    obtain ⟨a, b, ha, hb, rfl, rfl, hg, n, rfl⟩ := hrel
    have Hg : Hid (gc a b = gc x y) := hg
    clear hg
    by_cases hz : b = 0
    · subst hz
      go_wp2
      have e : gc x y = a := by rw [← Hg.out, gc_zero]
      go_ret
      rw [e]
      exact ⟨rfl, n, rfl⟩
    · have hz' : ((b : Int) == 0) = false := by simp [hz]
      have hlt := Nat.mod_lt a (show 0 < b by omega)
      go_wp2
      go_quiet (fail)
      go_wp2
      go_roundw
      case rel => exact ⟨b, a % b, hb, by omega, rfl, by go_num, by rw [gc_step, Hg.out], _, by rw [World.drewN_drewN]⟩
      case measure => simp [intOf]; omega
theorem rgcd_in (x y : Nat) (w : World) (hx : x ≤ 4611686018427387904) (hy : y ≤ 4611686018427387904) :
    Calls Try.prog 79 #[.int .i64 x, .int .i64 y] w fun e w' => e = .returned (.int .i64 (gc x y)) ∧ w = w' := by
  go_enter Try.func79, Try.ntmps79
  go_wp2
  go_loop [0, 1] (fun v0 v1 => ∃ a b : Nat, a ≤ 4611686018427387904 ∧ b ≤ 4611686018427387904 ∧ v0 = .int .i64 a ∧ v1 = .int .i64 b ∧ gc a b = gc x y) (fun _ v1 => (intOf v1).toNat)
  case atStart => exact ⟨x, y, hx, hy, rfl, rfl, rfl⟩
  case round =>
    obtain ⟨a, b, ha, hb, rfl, rfl, hg⟩ := hrel
    have Hg : Hid (gc a b = gc x y) := hg
    clear hg
    by_cases hz : b = 0
    · subst hz
      go_wp2
      have e : gc x y = a := by rw [← Hg.out, gc_zero]
      go_ret
      rw [e]
      exact ⟨rfl, rfl⟩
    · have hz' : ((b : Int) == 0) = false := by simp [hz]
      have hlt := Nat.mod_lt a (show 0 < b by omega)
      go_wp2
      go_round
      case rel => exact ⟨b, a % b, hb, by omega, rfl, by go_num, by rw [gc_step, Hg.out]⟩
      case measure => simp [intOf]; omega
theorem gc_pos (x y : Nat) (hy : 0 < y) : 0 < gc x y := Nat.gcd_pos_of_pos_right x hy
theorem gc_le (x y : Nat) (hy : 0 < y) : gc x y ≤ y := Nat.gcd_le_right x hy
theorem div_bd (x g : Nat) (hx : x ≤ 4611686018427387904) : 0 ≤ (x : Int) / (g : Nat) ∧ (x : Int) / (g : Nat) ≤ 4611686018427387904 := by
  have h := Nat.div_le_self x g
  rw [← Int.natCast_ediv]
  generalize x / g = z at *
  omega
theorem rFraction_in (x y : Nat) (w : World) (hx : x ≤ 4611686018427387904) (hy : y ≤ 4611686018427387904) (hy0 : 0 < y) :
    Calls Try.prog 70 #[.int .i64 x, .int .i64 y] w fun e w' => e = .returned (.agg #[.int .i64 ((x : Int) / (gc x y : Nat)), .int .i64 ((y : Int) / (gc x y : Nat))]) ∧ Below w.heap.size w w' := by
  have hp := gc_pos x y hy0
  have hl := gc_le x y hy0
  have hz : ((gc x y : Int) == 0) = false := by simp; omega
  have d1 := div_bd x (gc x y) hx
  have d2 := div_bd y (gc x y) hy
  go_enter Try.func70, Try.ntmps70
  go_wp2_with fail
  refine (rgcd_in _ _ _ hx hy).mono ?_; rintro e w' ⟨rfl, rfl⟩
  go_wp2
  go_region
  go_wp2
  go_returns
  exact ⟨rfl, (below_alloc _ _).drew⟩

theorem fraction_in (x y : Nat) (w : World) (hx : x ≤ 4611686018427387904) (hy : y ≤ 4611686018427387904) (hy0 : 0 < y) :
    Calls Try.prog 68 #[.int .i64 x, .int .i64 y] w fun e w' => e = .returned (.agg #[.int .i64 ((x : Int) / (gc x y : Nat)), .int .i64 ((y : Int) / (gc x y : Nat))]) ∧ Below w.heap.size w w' := by
  have hp := gc_pos x y hy0
  have hl := gc_le x y hy0
  have hz : ((gc x y : Int) == 0) = false := by simp; omega
  have d1 := div_bd x (gc x y) hx
  have d2 := div_bd y (gc x y) hy
  go_enter Try.func68, Try.ntmps68
  go_wp2_with fail
  refine (divisor_in _ _ _ hx hy).mono ?_; rintro e w' ⟨rfl, n, rfl⟩
  go_wp2
  go_region
  go_wp2
  go_returns
  exact ⟨rfl, ((below_drewN (below_alloc _ _) (n + 1)).setCell (p := ⟨w.heap.size, 0, none⟩) (Nat.le_refl _) _).setCell (p := ⟨w.heap.size, 1, none⟩) (Nat.le_refl _) _⟩

/-- Lowest terms: dividing by the greatest common divisor changes nothing exactly if it is 1. -/
theorem low_iff (x y : Nat) (hy : 0 < y) : ((x : Int) / (gc x y : Nat) = x ∧ (y : Int) / (gc x y : Nat) = y) ↔ gc x y = 1 := by
  have hp := gc_pos x y hy
  constructor
  · intro ⟨_, h⟩
    rw [← Int.natCast_ediv] at h
    have h' : y / gc x y = y := by omega
    have e := Nat.div_mul_cancel (Nat.gcd_dvd_right x y)
    have e' : y / gc x y * gc x y = y := e
    rw [h'] at e'
    have : gc x y * y = 1 * y := by rw [Nat.mul_comm, e', Nat.one_mul]
    exact Nat.eq_of_mul_eq_mul_right hy this
  · intro h
    rw [h]
    simp
end Go.Proofs.Ythankdfjkmfokaa
