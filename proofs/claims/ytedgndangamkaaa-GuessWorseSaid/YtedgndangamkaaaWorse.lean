/- 'Worse' and the document's beside it: what they return. -/
import Derived.Test.YtedgndangamkaaaTail
import Derived.Test.YtedgndangamkaaaGcd
import Derived.Deep.RegionHeld3
import Derived.Deep.RegionWith
namespace Go.Proofs.Ytedgndangamkaaa
open Go.RowKit

structure LevelIn (n d : Int) : Prop where
  d1 : 1 ≤ d
  d2 : d ≤ 1000
  n0 : 0 ≤ n
  n1 : n ≤ d
structure WorseOK (x y n d : Int) : Prop where
  x0 : 0 ≤ x
  x1 : x ≤ 40
  y0 : 0 ≤ y
  y1 : y ≤ 40 - x
  lev : LevelIn n d
  low : gc n.toNat d.toNat = 1
/-- Whether a dish lost too often for chance. -/
def lostB (x y n d : Int) : Bool := decide (tl (x + y).toNat y.toNat * d ≤ n * 2 ^ (x + y).toNat)
open Classical in
noncomputable def worseR (x y n d : Int) : Bool := if WorseOK x y n d then lostB x y n d else false
open Classical in
noncomputable def worseE (x y n d : Int) : Int := if WorseOK x y n d then 0 else 1

theorem quiet_add_left {P : Program} {f : FuncId} {args : Array Value} {w : World} {a n : Nat} {v : Value}
    (h : Calls P f args (w.drewN (a + n)) fun e w' => e = .returned v ∧ w.drewN (a + n) = w') :
    Calls P f args (w.drewN (a + n)) fun e w'' => e = .returned v ∧ ∃ m, w'' = w.drewN (a + m) :=
  h.mono fun _ _ ⟨he, hm⟩ => ⟨he, n, hm.symm⟩
theorem pow_fact (k : Nat) (h : k ≤ 40) : 0 ≤ (2 : Int) ^ k ∧ (2 : Int) ^ k ≤ 1099511627776 := by
  have h3 : (2 : Nat) ^ k ≤ 2 ^ 40 := Nat.pow_le_pow_right (by omega) h
  have h4 : (2 : Nat) ^ 40 = 1099511627776 := by decide
  have h5 : ((2 ^ k : Nat) : Int) = (2 : Int) ^ k := by simp
  rw [h4] at h3
  rw [← h5]
  exact ⟨Int.natCast_nonneg _, Int.ofNat_le.2 h3⟩
theorem worse_in (x y n d : Int) (w : World) (h : WorseOK x y n d) :
    Calls Try.prog 30 #[.int .i64 x, .int .i64 y, .agg #[.int .i64 n, .int .i64 d]] w fun e w' => e = .returned (.tuple #[.bool (lostB x y n d), .int .i64 0]) ∧ Below w.heap.size w w' := by
  obtain ⟨x0, x1, y0, y1, ⟨d1, d2, n0, n1⟩, low⟩ := h
  obtain ⟨x, rfl⟩ := Int.eq_ofNat_of_zero_le x0
  obtain ⟨y, rfl⟩ := Int.eq_ofNat_of_zero_le y0
  obtain ⟨n, rfl⟩ := Int.eq_ofNat_of_zero_le n0
  obtain ⟨d, rfl⟩ := Int.eq_ofNat_of_zero_le (show 0 ≤ d by omega)
  simp only [Int.toNat_natCast] at low
  have Low := hid low
  clear low
  have hb := tl_bd (x + y) y (by omega)
  have hp := pow_fact (x + y) (by omega)
  have hm1 := mul_bd hb.1 hb.2 (show (0 : Int) ≤ d by omega) d2
  have hm2 := mul_bd n0 (show (n : Int) ≤ 1000 by omega) hp.1 hp.2
  have es : (x : Int) + y = ((x + y : Nat) : Int) := by omega
  have Es := hid es
  clear es
  go_enter Try.func30, Try.ntmps30
  go_wp2_with fail
  refine (within_yes _ _ _ _ (by omega) (by omega)).mono ?_; rintro e w' ⟨rfl, rfl⟩
  go_wp2_with fail
  refine (within_yes _ _ _ _ (by omega) (by omega)).mono ?_; rintro e w' ⟨rfl, rfl⟩
  go_wp2_with fail
  refine (within_yes _ _ _ _ (by omega) (by omega)).mono ?_; rintro e w' ⟨rfl, rfl⟩
  go_wp2_with fail
  refine (within_yes _ _ _ _ (by omega) (by omega)).mono ?_; rintro e w' ⟨rfl, rfl⟩
  go_wp2_with fail
  refine (divisor_in _ _ _ (by omega) (by omega)).mono ?_; rintro e w' ⟨rfl, nq, rfl⟩
  rw [Low.out]
  go_wp2_with fail
  have c1 : ∀ m, Calls Try.prog 62 #[.int .i64 ((x : Int) + y), .int .i64 y] ((w.alloc (.cells #[.int .i64 n, .int .i64 d] 36)).drewN m) fun e w' => e = .returned (.int .i64 (tl (x + y) y)) ∧ (w.alloc (.cells #[.int .i64 n, .int .i64 d] 36)).drewN m = w' := fun m => by
    rw [Es.out]; exact tail_in _ _ _ (by omega)
  have C1 := hid c1
  clear c1
  go_quiet ((go_at_call 62; exact quiet_add_left (C1.out _)))
  go_wp2
  have e : lostB x y n d = decide (tl (x + y) y * (d : Int) ≤ (n : Int) * 2 ^ (x + y)) := by
    unfold lostB
    rw [Es.out]; rfl
  go_ret2
  rw [e]
  exact ⟨rfl, below_drewN (below_drewN (below_alloc _ _) _) _⟩
theorem worse_no (x y n d : Int) (w : World) (h : ¬ WorseOK x y n d) :
    Calls Try.prog 30 #[.int .i64 x, .int .i64 y, .agg #[.int .i64 n, .int .i64 d]] w fun e w' => e = .returned (.tuple #[.bool false, .int .i64 1]) ∧ Below w.heap.size w w' := by
  by_cases hx : 0 ≤ x ∧ x ≤ 40
  · by_cases hy : 0 ≤ y ∧ y ≤ 40 - x
    · by_cases hd : 1 ≤ d ∧ d ≤ 1000
      · by_cases hn : 0 ≤ n ∧ n ≤ d
        · have hl : gc n.toNat d.toNat ≠ 1 := fun e => h ⟨hx.1, hx.2, hy.1, hy.2, ⟨hd.1, hd.2, hn.1, hn.2⟩, e⟩
          obtain ⟨n, rfl⟩ := Int.eq_ofNat_of_zero_le hn.1
          obtain ⟨d, rfl⟩ := Int.eq_ofNat_of_zero_le (show 0 ≤ d by omega)
          simp only [Int.toNat_natCast] at hl
          have hl' : ((gc n d : Int) == 1) = false := by simp; omega
          clear h hl
          go_enter Try.func30, Try.ntmps30
          go_wp2_with fail
          refine (within_yes _ _ _ _ (by omega) (by omega)).mono ?_; rintro e w' ⟨rfl, rfl⟩
          go_wp2_with fail
          refine (within_yes _ _ _ _ (by omega) (by omega)).mono ?_; rintro e w' ⟨rfl, rfl⟩
          go_wp2_with fail
          refine (within_yes _ _ _ _ (by omega) (by omega)).mono ?_; rintro e w' ⟨rfl, rfl⟩
          go_wp2_with fail
          refine (within_yes _ _ _ _ (by omega) (by omega)).mono ?_; rintro e w' ⟨rfl, rfl⟩
          go_wp2_with fail
          refine (divisor_in _ _ _ (by omega) (by omega)).mono ?_; rintro e w' ⟨rfl, nq, rfl⟩
          go_wp2
          go_ret2
          exact ⟨rfl, below_drewN (below_alloc _ _) _⟩
        · clear h
          go_enter Try.func30, Try.ntmps30
          go_wp2_with fail
          refine (within_yes _ _ _ _ (by omega) (by omega)).mono ?_; rintro e w' ⟨rfl, rfl⟩
          go_wp2_with fail
          refine (within_yes _ _ _ _ (by omega) (by omega)).mono ?_; rintro e w' ⟨rfl, rfl⟩
          go_wp2_with fail
          refine (within_yes _ _ _ _ (by omega) (by omega)).mono ?_; rintro e w' ⟨rfl, rfl⟩
          go_wp2_with fail
          refine (within_no _ _ _ _ (by omega)).mono ?_; rintro e w' ⟨rfl, rfl⟩
          go_wp2
          go_ret2
          exact ⟨rfl, below_alloc _ _⟩
      · clear h
        go_enter Try.func30, Try.ntmps30
        go_wp2_with fail
        refine (within_yes _ _ _ _ (by omega) (by omega)).mono ?_; rintro e w' ⟨rfl, rfl⟩
        go_wp2_with fail
        refine (within_yes _ _ _ _ (by omega) (by omega)).mono ?_; rintro e w' ⟨rfl, rfl⟩
        go_wp2_with fail
        refine (within_no _ _ _ _ (by omega)).mono ?_; rintro e w' ⟨rfl, rfl⟩
        go_wp2
        go_ret2
        exact ⟨rfl, below_alloc _ _⟩
    · clear h
      go_enter Try.func30, Try.ntmps30
      go_wp2_with fail
      refine (within_yes _ _ _ _ (by omega) (by omega)).mono ?_; rintro e w' ⟨rfl, rfl⟩
      go_wp2_with fail
      refine (within_no _ _ _ _ (by omega)).mono ?_; rintro e w' ⟨rfl, rfl⟩
      go_wp2
      go_ret2
      exact ⟨rfl, below_alloc _ _⟩
  · clear h
    go_enter Try.func30, Try.ntmps30
    go_wp2_with fail
    refine (within_no _ _ _ _ (by omega)).mono ?_; rintro e w' ⟨rfl, rfl⟩
    go_wp2
    go_ret2
    exact ⟨rfl, below_alloc _ _⟩
theorem Worse_any (x y n d : Int) (w : World) :
    Calls Try.prog 30 #[.int .i64 x, .int .i64 y, .agg #[.int .i64 n, .int .i64 d]] w fun e w' => e = .returned (.tuple #[.bool (worseR x y n d), .int .i64 (worseE x y n d)]) ∧ Below w.heap.size w w' := by
  by_cases h : WorseOK x y n d
  · rw [worseR, worseE, if_pos h, if_pos h]; exact worse_in x y n d w h
  · rw [worseR, worseE, if_neg h, if_neg h]; exact worse_no x y n d w h

/-! ### the document's -/
theorem iw {x : Int} (h1 : -4611686018427387904 ≤ x) (h2 : x ≤ 4611686018427387904) : IntKind.i64.wrap x = x := by
  rw [IntKind.wrap_i64]; omega
theorem rworse_in (x y n d : Int) (w : World) (h : WorseOK x y n d) :
    Calls Try.prog 31 #[.int .i64 x, .int .i64 y, .agg #[.int .i64 n, .int .i64 d]] w fun e w' => e = .returned (.tuple #[.bool (lostB x y n d), .int .i64 0]) ∧ Below w.heap.size w w' := by
  obtain ⟨x0, x1, y0, y1, ⟨d1, d2, n0, n1⟩, low⟩ := h
  obtain ⟨x, rfl⟩ := Int.eq_ofNat_of_zero_le x0
  obtain ⟨y, rfl⟩ := Int.eq_ofNat_of_zero_le y0
  obtain ⟨n, rfl⟩ := Int.eq_ofNat_of_zero_le n0
  obtain ⟨d, rfl⟩ := Int.eq_ofNat_of_zero_le (show 0 ≤ d by omega)
  simp only [Int.toNat_natCast] at low
  have Low := hid low
  clear low
  have hb := tl_bd (x + y) y (by omega)
  have hp := pow_fact (x + y) (by omega)
  have hm1 := mul_bd hb.1 hb.2 (show (0 : Int) ≤ d by omega) d2
  have hm2 := mul_bd n0 (show (n : Int) ≤ 1000 by omega) hp.1 hp.2
  have es : (x : Int) + y = ((x + y : Nat) : Int) := by omega
  have Es := hid es
  clear es
  have cf : ∀ W : World, Calls Try.prog 65 #[.int .i64 n, .int .i64 d] W fun e w' => e = .returned (.agg #[.int .i64 n, .int .i64 d]) ∧ Below W.heap.size W w' := fun W => by
    have k := fraction_in n d W (by omega) (by omega) (by omega)
    rw [Low.out] at k
    simpa using k
  have Cf := hid cf
  clear cf
  have g1 : decide ((d : Int) < 1) = false := by simp; omega
  have g2 : decide (1000 < (d : Int)) = false := by simp; omega
  have g3 : decide ((n : Int) < 0) = false := decide_eq_false (by omega)
  have g4 : decide (d < n) = false := decide_eq_false (by omega)
  go_enter Try.func31, Try.ntmps31
  go_wp2
  go_region_held3 (fun w' => w'.cell? ⟨w.heap.size, 0, none⟩ = some (.int .i64 n) ∧ w'.cell? ⟨w.heap.size, 1, none⟩ = some (.int .i64 d) ∧ w.heap.size < w'.heap.size ∧ Below w.heap.size w w') (first | exact ⟨by simp, by simp, by simp, (below_alloc _ _).drew⟩ | (exact keep2 (by assumption) (by assumption))) (first | (go_at_call 65; refine (Cf.out _).mono ?_; rintro e w1 ⟨rfl, hb1⟩))
  obtain ⟨s1, s2, s3, s4⟩ : w1.cell? ⟨w.heap.size, 0, none⟩ = some (.int .i64 n) ∧ w1.cell? ⟨w.heap.size, 1, none⟩ = some (.int .i64 d) ∧ w.heap.size < w1.heap.size ∧ Below w.heap.size w w1 := by assumption
  clear hb1
  go_wp2
  have ct : ∀ W : World, Calls Try.prog 63 #[.int .i64 ((x : Int) + y), .int .i64 y] W fun e w' => e = .returned (.int .i64 (tl (x + y) y)) ∧ Below W.heap.size W w' := fun W => by
    rw [Es.out]; exact rtail_in _ _ _ (by omega) (by omega)
  have Ct := hid ct
  clear ct
  go_region_held3 (fun w' => w'.cell? ⟨w.heap.size, 0, none⟩ = some (.int .i64 n) ∧ w'.cell? ⟨w.heap.size, 1, none⟩ = some (.int .i64 d) ∧ w.heap.size < w'.heap.size ∧ Below w.heap.size w w') (first | exact ⟨s1, s2, s3, s4.drew⟩ | exact keep2 (by assumption) (by assumption)) (first | (go_at_call 63; refine (Ct.out _).mono ?_; rintro e w2 ⟨rfl, hb2⟩))
  obtain ⟨t1, t2, t3, t4⟩ : w2.cell? ⟨w.heap.size, 0, none⟩ = some (.int .i64 n) ∧ w2.cell? ⟨w.heap.size, 1, none⟩ = some (.int .i64 d) ∧ w.heap.size < w2.heap.size ∧ Below w.heap.size w w2 := by assumption
  clear hb2
  go_wp2
  have e : decide (IntKind.i64.wrap (tl (x + y) y * (d : Int)) ≤ IntKind.i64.wrap ((n : Int) * 2 ^ ((x : Int) + y).toNat)) = lostB x y n d := by
    unfold lostB
    rw [Es.out, Int.toNat_natCast, Int.toNat_natCast, iw (by omega) (by omega), iw (by omega) (by omega)]
  go_ret2
  refine ⟨?_, t4⟩
  show Ending.returned (.tuple #[.bool (decide (IntKind.i64.wrap (tl (x + y) y * (d : Int)) ≤ IntKind.i64.wrap ((n : Int) * 2 ^ ((x : Int) + y).toNat))), .int .i64 0]) = _
  rw [e]
set_option maxHeartbeats 1000000 in
theorem rworse_low (x y n d : Nat) (w : World) (x1 : x ≤ 40) (y1 : (y : Int) ≤ 40 - x) (d1 : 1 ≤ d) (d2 : d ≤ 1000) (n1 : n ≤ d) (low : gc n d ≠ 1) :
    Calls Try.prog 31 #[.int .i64 x, .int .i64 y, .agg #[.int .i64 n, .int .i64 d]] w fun e w' => e = .returned (.tuple #[.bool false, .int .i64 1]) ∧ Below w.heap.size w w' := by
  obtain ⟨p, hp⟩ : ∃ p, p = (n : Int) / (gc n d : Nat) := ⟨_, rfl⟩
  obtain ⟨q, hq⟩ : ∃ q, q = (d : Int) / (gc n d : Nat) := ⟨_, rfl⟩
  have hne : ¬ (p = n ∧ q = d) := by rw [hp, hq]; exact fun h => low ((low_iff n d d1).1 h)
  have cf : ∀ W : World, Calls Try.prog 65 #[.int .i64 n, .int .i64 d] W fun e w' => e = .returned (.agg #[.int .i64 p, .int .i64 q]) ∧ Below W.heap.size W w' := fun W => by
    rw [hp, hq]
    exact fraction_in n d W (by omega) (by omega) (by omega)
  have Cf := hid cf
  clear cf hp hq low
  have g1 : decide ((d : Int) < 1) = false := decide_eq_false (by omega)
  have g2 : decide (1000 < (d : Int)) = false := decide_eq_false (by omega)
  have g3 : decide ((n : Int) < 0) = false := decide_eq_false (by omega)
  have g4 : decide (d < n) = false := decide_eq_false (by omega)
  by_cases hpn : p = n
  · subst hpn
    have hqd : (q == (d : Int)) = false := by
      rw [beq_eq_false_iff_ne]
      exact fun e => hne ⟨rfl, e⟩
    clear hne
    go_enter Try.func31, Try.ntmps31
    go_wp2
    go_region_held3 (fun w' => w'.cell? ⟨w.heap.size, 0, none⟩ = some (.int .i64 n) ∧ w'.cell? ⟨w.heap.size, 1, none⟩ = some (.int .i64 d) ∧ w.heap.size < w'.heap.size ∧ Below w.heap.size w w') (first | exact ⟨by simp, by simp, by simp, (below_alloc _ _).drew⟩ | (exact keep2 (by assumption) (by assumption))) (first | (go_at_call 65; refine (Cf.out _).mono ?_; rintro e w1 ⟨rfl, hb1⟩))
    obtain ⟨s1, s2, s3, s4⟩ : w1.cell? ⟨w.heap.size, 0, none⟩ = some (.int .i64 n) ∧ w1.cell? ⟨w.heap.size, 1, none⟩ = some (.int .i64 d) ∧ w.heap.size < w1.heap.size ∧ Below w.heap.size w w1 := by assumption
    clear hb1
    go_wp2
    go_ret2
    exact ⟨rfl, s4⟩
  · have hqd : (p == (n : Int)) = false := by
      rw [beq_eq_false_iff_ne]
      exact hpn
    clear hne hpn
    go_enter Try.func31, Try.ntmps31
    go_wp2
    go_region_held3 (fun w' => w'.cell? ⟨w.heap.size, 0, none⟩ = some (.int .i64 n) ∧ w'.cell? ⟨w.heap.size, 1, none⟩ = some (.int .i64 d) ∧ w.heap.size < w'.heap.size ∧ Below w.heap.size w w') (first | exact ⟨by simp, by simp, by simp, (below_alloc _ _).drew⟩ | (exact keep2 (by assumption) (by assumption))) (first | (go_at_call 65; refine (Cf.out _).mono ?_; rintro e w1 ⟨rfl, hb1⟩))
    obtain ⟨s1, s2, s3, s4⟩ : w1.cell? ⟨w.heap.size, 0, none⟩ = some (.int .i64 n) ∧ w1.cell? ⟨w.heap.size, 1, none⟩ = some (.int .i64 d) ∧ w.heap.size < w1.heap.size ∧ Below w.heap.size w w1 := by assumption
    clear hb1
    go_wp2
    go_ret2
    exact ⟨rfl, s4⟩
theorem rworse_no (x y n d : Int) (w : World) (h : ¬ WorseOK x y n d) :
    Calls Try.prog 31 #[.int .i64 x, .int .i64 y, .agg #[.int .i64 n, .int .i64 d]] w fun e w' => e = .returned (.tuple #[.bool false, .int .i64 1]) ∧ Below w.heap.size w w' := by
  by_cases hx : 0 ≤ x ∧ x ≤ 40
  · by_cases hy : 0 ≤ y ∧ y ≤ 40 - x
    · by_cases hd1 : 1 ≤ d
      · have g1 : decide ((d : Int) < 1) = false := decide_eq_false (by omega)
        by_cases hd2 : d ≤ 1000
        · have g2 : decide (1000 < (d : Int)) = false := decide_eq_false (by omega)
          by_cases hn0 : 0 ≤ n
          · have g3 : decide ((n : Int) < 0) = false := decide_eq_false (by omega)
            by_cases hn1 : n ≤ d
            · have hl : gc n.toNat d.toNat ≠ 1 := fun e => h ⟨hx.1, hx.2, hy.1, hy.2, ⟨hd1, hd2, hn0, hn1⟩, e⟩
              obtain ⟨n, rfl⟩ := Int.eq_ofNat_of_zero_le hn0
              obtain ⟨d, rfl⟩ := Int.eq_ofNat_of_zero_le (show 0 ≤ d by omega)
              obtain ⟨x, rfl⟩ := Int.eq_ofNat_of_zero_le hx.1
              obtain ⟨y, rfl⟩ := Int.eq_ofNat_of_zero_le hy.1
              exact rworse_low x y n d w (by omega) (by omega) (by omega) (by omega) (by omega) hl
            · have g4 : decide (d < n) = true := decide_eq_true (by omega)
              clear h
              go_enter Try.func31, Try.ntmps31
              go_wp2
              go_quiet (fail)
              go_wp2
              go_ret2
              exact ⟨rfl, below_drewN (below_alloc _ _) _⟩
          · have g3 : decide ((n : Int) < 0) = true := decide_eq_true (by omega)
            clear h
            go_enter Try.func31, Try.ntmps31
            go_wp2
            go_quiet (fail)
            go_wp2
            go_ret2
            exact ⟨rfl, below_drewN (below_alloc _ _) _⟩
        · have g2 : decide (1000 < (d : Int)) = true := decide_eq_true (by omega)
          clear h
          go_enter Try.func31, Try.ntmps31
          go_wp2
          go_quiet (fail)
          go_wp2
          go_ret2
          exact ⟨rfl, below_drewN (below_alloc _ _) _⟩
      · have g1 : decide ((d : Int) < 1) = true := decide_eq_true (by omega)
        clear h
        go_enter Try.func31, Try.ntmps31
        go_wp2
        go_quiet (fail)
        go_wp2
        go_ret2
        exact ⟨rfl, below_drewN (below_alloc _ _) _⟩
    · clear h
      by_cases hy0 : y < 0
      all_goals
        go_enter Try.func31, Try.ntmps31
        go_wp2
        go_ret2
        exact ⟨rfl, below_alloc _ _⟩
  · clear h
    by_cases hx0 : x < 0
    all_goals
      go_enter Try.func31, Try.ntmps31
      go_wp2
      go_ret2
      exact ⟨rfl, below_alloc _ _⟩
theorem rWorse_any (x y n d : Int) (w : World) :
    Calls Try.prog 31 #[.int .i64 x, .int .i64 y, .agg #[.int .i64 n, .int .i64 d]] w fun e w' => e = .returned (.tuple #[.bool (worseR x y n d), .int .i64 (worseE x y n d)]) ∧ Below w.heap.size w w' := by
  by_cases h : WorseOK x y n d
  · rw [worseR, worseE, if_pos h, if_pos h]; exact rworse_in x y n d w h
  · rw [worseR, worseE, if_neg h, if_neg h]; exact rworse_no x y n d w h
end Go.Proofs.Ytedgndangamkaaa
