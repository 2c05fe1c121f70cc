/- 'GuessWorse' returns true: the walk. -/
import Derived.Test.YtedgndangamkaaaKnown
import Derived.Test.YtedgndangamkaaaWorse
namespace Go.Proofs.Ytedgndangamkaaa
open Go.RowKit

/-- One more loss does not make a dish better. -/
theorem lost_more (x y n d : Int) (h : WorseOK x y n d) (k : lostB x y n d = true) : lostB x (y + 1) n d = true := by
  obtain ⟨x0, x1, y0, y1, ⟨d1, d2, n0, n1⟩, low⟩ := h
  unfold lostB at k ⊢
  simp only [decide_eq_true_eq] at k ⊢
  have e1 : (x + (y + 1)).toNat = (x + y).toNat + 1 := by omega
  have e2 : (y + 1).toNat = y.toNat + 1 := by omega
  rw [e1, e2, tl_succ, Int.pow_succ, Int.add_mul]
  have h1 := tl_mono (x + y).toNat y.toNat (y.toNat + 1) (by omega)
  have h2 := Int.mul_le_mul_of_nonneg_right h1 (show 0 ≤ d by omega)
  have e3 : n * (2 ^ (x + y).toNat * 2) = n * 2 ^ (x + y).toNat * 2 := (Int.mul_assoc _ _ _).symm
  rw [e3]
  omega
theorem worse_more (x y n d : Int) (h : worseR x y n d = true) (e : worseE x (y + 1) n d = 0) : worseR x (y + 1) n d = true := by
  by_cases h1 : WorseOK x y n d
  · by_cases h2 : WorseOK x (y + 1) n d
    · rw [worseR, if_pos h1] at h
      rw [worseR, if_pos h2]
      exact lost_more x y n d h1 h
    · rw [worseE, if_neg h2] at e
      cases e
  · rw [worseR, if_neg h1] at h
    cases h
theorem worseE_big (x y n d : Int) (h : 40 < y) : worseE x y n d = 1 := by
  rw [worseE, if_neg]
  intro k
  have := k.x0
  have := k.y1
  omega
set_option maxHeartbeats 1000000 in
theorem lawWorse (W : World) (x : Int) (_wx : (Lit.int .i64 x).wf = true) (y : Int) (_wy : (Lit.int .i64 y).wf = true) (n d : Int) (_wn : (Lit.int .i64 n).wf = true) (_wd : (Lit.int .i64 d).wf = true) :
    Calls Try.prog 8 #[.int .i64 x, .int .i64 y, .agg #[.int .i64 n, .int .i64 d]] W fun e w' => e = .returned (.bool true) ∧ Below W.heap.size W w' := by
  obtain ⟨z, hz⟩ : ∃ z, z = wrap64 (y + 1) := ⟨_, rfl⟩
  have key : worseR x y n d = true → worseE x z n d = 0 → worseR x z n d = true := by
    intro h e
    by_cases hy : y ≤ 1000 ∧ -1000 ≤ y
    · have : z = y + 1 := by rw [hz]; exact w64 (by omega) (by omega)
      rw [this] at e ⊢
      exact worse_more x y n d h e
    · rw [worseR] at h
      split at h
      · rename_i k
        have := k.y0
        have := k.y1
        have := k.x0
        omega
      · cases h
  have Hz := hid hz
  clear hz _wx _wy _wn _wd
  by_cases hr : worseR x y n d = true
  · by_cases he : worseE x z n d = 0
    · have hr2 := key hr he
      clear key
      go_enter Try.func8, Try.ntmps8
      go_wp2_with fail
      refine (Worse_any _ _ _ _ _).mono ?_; rintro e w1 ⟨rfl, hb1⟩
      obtain ⟨c0, c1, sz1, bl1⟩ := keep2_new hb1
      clear hb1
      go_wp2_with fail
      refine (rWorse_any _ _ _ _ _).mono ?_; rintro e w2 ⟨rfl, hb2⟩
      obtain ⟨d0, d1, sz2, bl2⟩ := keep2 ⟨c0, c1, sz1, bl1⟩ hb2
      clear hb2 c0 c1 sz1 bl1
      go_wp2_with fail
      rw [← Hz.out]
      refine (Worse_any _ _ _ _ _).mono ?_; rintro e w3 ⟨rfl, hb3⟩
      obtain ⟨e0, e1, sz3, bl3⟩ := keep2 ⟨d0, d1, sz2, bl2⟩ hb3
      clear hb3 d0 d1 sz2 bl2
      go_wp2_with fail
      refine (known_true _).mono ?_; rintro e w4 ⟨rfl, hb4⟩
      go_wp2
      go_ret
      exact ⟨rfl, bl3.trans (hb4.mono bl3.size)⟩
    · have he' : worseE x z n d = 1 := by unfold worseE at he ⊢; split at he <;> simp_all
      clear key he
      go_enter Try.func8, Try.ntmps8
      go_wp2_with fail
      refine (Worse_any _ _ _ _ _).mono ?_; rintro e w1 ⟨rfl, hb1⟩
      obtain ⟨c0, c1, sz1, bl1⟩ := keep2_new hb1
      clear hb1
      go_wp2_with fail
      refine (rWorse_any _ _ _ _ _).mono ?_; rintro e w2 ⟨rfl, hb2⟩
      obtain ⟨d0, d1, sz2, bl2⟩ := keep2 ⟨c0, c1, sz1, bl1⟩ hb2
      clear hb2 c0 c1 sz1 bl1
      go_wp2_with fail
      rw [← Hz.out]
      refine (Worse_any _ _ _ _ _).mono ?_; rintro e w3 ⟨rfl, hb3⟩
      obtain ⟨e0, e1, sz3, bl3⟩ := keep2 ⟨d0, d1, sz2, bl2⟩ hb3
      clear hb3 d0 d1 sz2 bl2
      go_wp2_with fail
      refine (known_true _).mono ?_; rintro e w4 ⟨rfl, hb4⟩
      go_wp2
      go_ret
      exact ⟨rfl, bl3.trans (hb4.mono bl3.size)⟩
  · have hr' : worseR x y n d = false := by simpa using hr
    clear key hr
    go_enter Try.func8, Try.ntmps8
    go_wp2_with fail
    refine (Worse_any _ _ _ _ _).mono ?_; rintro e w1 ⟨rfl, hb1⟩
    obtain ⟨c0, c1, sz1, bl1⟩ := keep2_new hb1
    clear hb1
    go_wp2_with fail
    refine (rWorse_any _ _ _ _ _).mono ?_; rintro e w2 ⟨rfl, hb2⟩
    obtain ⟨d0, d1, sz2, bl2⟩ := keep2 ⟨c0, c1, sz1, bl1⟩ hb2
    clear hb2 c0 c1 sz1 bl1
    go_wp2_with fail
    rw [← Hz.out]
    refine (Worse_any _ _ _ _ _).mono ?_; rintro e w3 ⟨rfl, hb3⟩
    obtain ⟨e0, e1, sz3, bl3⟩ := keep2 ⟨d0, d1, sz2, bl2⟩ hb3
    clear hb3 d0 d1 sz2 bl2
    go_wp2_with fail
    refine (known_true _).mono ?_; rintro e w4 ⟨rfl, hb4⟩
    go_wp2
    go_ret
    exact ⟨rfl, bl3.trans (hb4.mono bl3.size)⟩
end Go.Proofs.Ytedgndangamkaaa
