/- 'GuessTails' returns true: the walk. -/
import Derived.Test.YtedgndangamkaaaKnown
import Derived.Test.YtedgndangamkaaaTail
namespace Go.Proofs.Ytedgndangamkaaa
open Go.RowKit

theorem tailR_bd (x y : Int) : 0 ≤ tailR x y ∧ tailR x y ≤ 1099511627776 := by
  unfold tailR
  split
  · rename_i h
    exact tl_bd _ _ (by unfold TailOK at h; omega)
  · omega
theorem pow40 (n : Nat) (h : n ≤ 40) : (2 : Int) ^ n ≤ 1099511627776 ∧ 0 ≤ (2 : Int) ^ n := by
  have h3 : (2 : Nat) ^ n ≤ 2 ^ 40 := Nat.pow_le_pow_right (by omega) h
  have h4 : (2 : Nat) ^ 40 = 1099511627776 := by decide
  have h5 : ((2 ^ n : Nat) : Int) = (2 : Int) ^ n := by simp
  rw [h4] at h3
  rw [← h5]
  exact ⟨Int.ofNat_le.2 h3, Int.natCast_nonneg _⟩
theorem wrap_pow40 (n : Nat) (h : n ≤ 40) : wrap64 ((2 : Int) ^ n) = 2 ^ n := by
  have := pow40 n h
  exact w64 (by omega) (by omega)
theorem tailR_zero (n : Nat) (h : n ≤ 40) : tailR n 0 = 2 ^ n := by
  rw [tailR, if_pos (by unfold TailOK; omega)]
  simpa using tl_zero n
theorem tailR_self (x : Int) (h : 0 ≤ x) (h' : x ≤ 40) : tailR x x = 1 := by
  rw [tailR, if_pos (by unfold TailOK; omega)]
  exact tl_self _
theorem tailR_rec (x y : Int) (h1 : 0 < y) (h2 : y < x) (h3 : x ≤ 40) : tailR x y = tailR (x - 1) y + tailR (x - 1) (y - 1) := by
  rw [tailR, tailR, tailR, if_pos (by unfold TailOK; omega), if_pos (by unfold TailOK; omega), if_pos (by unfold TailOK; omega)]
  obtain ⟨n, rfl⟩ : ∃ n : Nat, x = (n : Int) + 1 := ⟨(x - 1).toNat, by omega⟩
  obtain ⟨w, rfl⟩ : ∃ w : Nat, y = (w : Int) + 1 := ⟨(y - 1).toNat, by omega⟩
  have k := tl_succ n w
  have e1 : ((n : Int) + 1).toNat = n + 1 := by omega
  have e2 : ((w : Int) + 1).toNat = w + 1 := by omega
  have e3 : ((n : Int) + 1 - 1).toNat = n := by omega
  have e4 : ((w : Int) + 1 - 1).toNat = w := by omega
  rw [e1, e2, e3, e4]
  exact k

set_option maxHeartbeats 1000000 in
theorem lawTails (W : World) (x : Int) (_wx : (Lit.int .i64 x).wf = true) (y : Int) (_wy : (Lit.int .i64 y).wf = true) :
    Calls Try.prog 5 #[.int .i64 x, .int .i64 y] W fun e w' => e = .returned (.bool true) ∧ Below W.heap.size W w' := by
  clear _wx _wy
  by_cases h : TailOK x y
  · have e0 := tailE_ok h
    obtain ⟨h1, h2, h3, h4⟩ := h
    by_cases hy : y = 0
    · subst hy
      obtain ⟨n, rfl⟩ := Int.eq_ofNat_of_zero_le h1
      have t0 := tailR_zero n (by omega)
      have t1 := wrap_pow40 n (by omega)
      by_cases hx : n = 0
      · subst hx
        have t2 : tailR 0 0 = 1 := by decide
        have e2 : tailE 0 0 = 0 := by decide
        clear t0 t1 e0
        go_enter Try.func5, Try.ntmps5
        go_wp2_with fail
        refine (Tail_any _ _ _).mono ?_; rintro e w' ⟨rfl, rfl⟩
        go_wp2_with fail
        refine (rTail_any _ _ _).mono ?_; rintro e w1 ⟨rfl, hb1⟩
        go_wp2_with fail
        refine (known_true _).mono ?_; rintro e w2 ⟨rfl, hb2⟩
        go_wp2
        go_ret
        exact ⟨rfl, hb1.trans (hb2.mono hb1.size)⟩
      · have hn : ((n : Int) == 0) = false := by simp [hx]
        have hn' : (0 == (n : Int)) = false := by simp; omega
        go_enter Try.func5, Try.ntmps5
        go_wp2_with fail
        refine (Tail_any _ _ _).mono ?_; rintro e w' ⟨rfl, rfl⟩
        go_wp2_with fail
        refine (rTail_any _ _ _).mono ?_; rintro e w1 ⟨rfl, hb1⟩
        go_wp2_with fail
        refine (known_true _).mono ?_; rintro e w2 ⟨rfl, hb2⟩
        go_wp2
        go_ret
        exact ⟨rfl, hb1.trans (hb2.mono hb1.size)⟩
    · have hy' : (y == 0) = false := by simp [hy]
      have hx' : (x == 0) = false := by simp; omega
      by_cases hxy : y = x
      · subst hxy
        have t0 := tailR_self y h1 h2
        go_enter Try.func5, Try.ntmps5
        go_wp2_with fail
        refine (Tail_any _ _ _).mono ?_; rintro e w' ⟨rfl, rfl⟩
        go_wp2_with fail
        refine (rTail_any _ _ _).mono ?_; rintro e w1 ⟨rfl, hb1⟩
        go_wp2_with fail
        refine (known_true _).mono ?_; rintro e w2 ⟨rfl, hb2⟩
        go_wp2
        go_ret
        exact ⟨rfl, hb1.trans (hb2.mono hb1.size)⟩
      · have hxy' : (y == x) = false := by simp [hxy]
        have t0 := tailR_rec x y (by omega) (by omega) h2
        have e1 : tailE (x - 1) y = 0 := tailE_ok (by unfold TailOK; omega)
        have e2 : tailE (x - 1) (y - 1) = 0 := tailE_ok (by unfold TailOK; omega)
        have b1 := tailR_bd (x - 1) y
        have b2 := tailR_bd (x - 1) (y - 1)
        go_enter Try.func5, Try.ntmps5
        go_wp2_with fail
        refine (Tail_any _ _ _).mono ?_; rintro e w' ⟨rfl, rfl⟩
        go_wp2_with fail
        refine (rTail_any _ _ _).mono ?_; rintro e w1 ⟨rfl, hb1⟩
        go_wp2_with fail
        refine (Tail_any _ _ _).mono ?_; rintro e w' ⟨rfl, rfl⟩
        go_wp2_with fail
        refine (Tail_any _ _ _).mono ?_; rintro e w' ⟨rfl, rfl⟩
        go_wp2_with fail
        refine (known_true _).mono ?_; rintro e w2 ⟨rfl, hb2⟩
        go_wp2
        go_ret
        exact ⟨rfl, hb1.trans (hb2.mono hb1.size)⟩
  · have e0 := tailE_no h
    go_enter Try.func5, Try.ntmps5
    go_wp2_with fail
    refine (Tail_any _ _ _).mono ?_; rintro e w' ⟨rfl, rfl⟩
    go_wp2_with fail
    refine (rTail_any _ _ _).mono ?_; rintro e w1 ⟨rfl, hb1⟩
    go_wp2_with fail
    refine (known_true _).mono ?_; rintro e w2 ⟨rfl, hb2⟩
    go_wp2
    go_ret
    exact ⟨rfl, hb1.trans (hb2.mono hb1.size)⟩
end Go.Proofs.Ytedgndangamkaaa
