/- The school with the greatest claim, plainly; the document's 'step', 'compare', 'claimer'. -/
import Derived.Test.YthankdfjkmfokaaMax
namespace Go.Proofs.Ythankdfjkmfokaa
open Go.RowKit
set_option linter.unusedSimpArgs false
set_option linter.unusedVariables false

theorem quiet_two {P : Program} {f : FuncId} {args : Array Value} {w : World} {a n : Nat} {v : Value}
    (h : Calls P f args (w.drewN (a + n)) fun e w' => e = .returned v ∧ w.drewN (a + n) = w') :
    Calls P f args (w.drewN (a + n)) fun e w'' => e = .returned v ∧ ∃ m, w'' = w.drewN (a + m) :=
  h.mono fun _ _ ⟨he, hm⟩ => ⟨he, n, hm.symm⟩
/-- The size of the claim of school i against that of school j. -/
def szAt (kd : Int) (xs ms : List Int) (i j : Nat) : Int := szC (nth xs i) (stp kd (nth ms i)) (nth xs j) (stp kd (nth ms j))
def topI (kd : Int) (xs ms : List Int) : Nat → Nat
  | 0 => 0
  | k + 1 => if 0 < szAt kd xs ms k (topI kd xs ms k) then k else topI kd xs ms k
theorem topI_yes (kd : Int) (xs ms : List Int) (k : Nat) (h : 0 < szAt kd xs ms k (topI kd xs ms k)) : topI kd xs ms (k + 1) = k := by rw [topI, if_pos h]
theorem topI_no (kd : Int) (xs ms : List Int) (k : Nat) (h : ¬ 0 < szAt kd xs ms k (topI kd xs ms k)) : topI kd xs ms (k + 1) = topI kd xs ms k := by rw [topI, if_neg h]
theorem topI_lt (kd : Int) (xs ms : List Int) (k : Nat) : topI kd xs ms k ≤ k - 1 := by
  induction k with
  | zero => exact Nat.le_refl _
  | succ k ih => rw [topI]; split <;> omega
theorem topI_one (kd : Int) (xs ms : List Int) : topI kd xs ms 1 = 0 := by rw [topI]; split <;> rfl
theorem cmpC_pos (v a w b : Int) (i j : Nat) (h : j < i) : 0 < cmpC v a i w b j ↔ 0 < szC v a w b := by
  have e : sg (j : Int) (i : Int) = -1 := by unfold sg; rw [if_pos (by omega)]
  unfold cmpC or2
  rw [e]
  split <;> omega
theorem cmpC_neg (v a w b : Int) (i j : Nat) (h : j < i) : cmpC v a i w b j < 0 ↔ szC v a w b ≤ 0 := by
  have e : sg (j : Int) (i : Int) = -1 := by unfold sg; rw [if_pos (by omega)]
  unfold cmpC or2
  rw [e]
  split <;> omega
theorem maxI_top (kd : Int) (xs ms : List Int) (n k : Nat) (hk : k ≤ n) : maxI (nextL kd xs ms n) k = topI kd xs ms k := by
  induction k with
  | zero => rfl
  | succ k ih =>
    have ih := ih (by omega)
    have ht := topI_lt kd xs ms k
    by_cases h0 : k = 0
    · subst h0; rw [maxI_one, topI_one]
    · rw [maxI, topI, ih]
      have : 0 < cmpAt (nextL kd xs ms n) k (topI kd xs ms k) ↔ 0 < szAt kd xs ms k (topI kd xs ms k) := by
        unfold cmpAt szAt
        rw [nextL_at kd xs ms n k (by omega), nextL_at kd xs ms n (topI kd xs ms k) (by omega)]
        exact cmpC_pos _ _ _ _ k (topI kd xs ms k) (by omega)
      by_cases hp : 0 < szAt kd xs ms k (topI kd xs ms k)
      · rw [if_pos hp, if_pos (this.2 hp)]
      · rw [if_neg hp, if_neg (fun h => hp (this.1 h))]
theorem next_ok {kd : Int} {xs ms : List Int} (ho : OrdOK xs) (hm : MealsOK xs ms) : ClaimsOK (nextL kd xs ms xs.length) := by
  intro i hi
  rw [nextL_len] at hi
  rw [nextL_at kd xs ms _ i hi]
  have h1 := ho.el i hi
  have h2 := hm.el i (by rw [hm.len]; exact hi)
  have h3 := stp_bd (kd := kd) h2.1 h2.2
  exact ⟨h1.1, h1.2, h3.1, h3.2⟩

/-! ### the document's -/
theorem rstep_any (kd k : Int) (W : World) (h0 : 0 ≤ k) (h1 : k ≤ 1000) : Calls Try.prog 77 #[.int .i64 kd, .int .i64 k] W fun e w' => e = .returned (.int .i64 (stp kd k)) ∧ W = w' := by
  by_cases hk0 : kd = 0
  · have e : stp kd k = k + 1 := by simp [stp, hk0]
    rw [e]
    have hb : (kd == 0) = true := by simp [hk0]
    clear hk0 e
    go_enter Try.func77, Try.ntmps77
    go_wp2_with fail
    go_ret
    exact ⟨rfl, rfl⟩
  · have hb : (kd == 0) = false := by simp [hk0]
    by_cases hk1 : kd = 1
    · have e : stp kd k = 2 * k + 1 := by simp [stp, hk1]
      rw [e]
      have hb1 : (kd == 1) = true := by simp [hk1]
      clear hk0 hk1 e
      go_enter Try.func77, Try.ntmps77
      go_wp2_with fail
      go_ret
      exact ⟨rfl, rfl⟩
    · have hb1 : (kd == 1) = false := by simp [hk1]
      have e : stp kd k = k := by simp [stp, hk0, hk1]
      rw [e]
      clear hk0 hk1 e
      go_enter Try.func77, Try.ntmps77
      go_wp2_with fail
      go_ret
      exact ⟨rfl, rfl⟩
theorem sg_ways (x y : Int) : sg x y = if x < y then -1 else if y < x then 1 else 0 := rfl
set_option maxHeartbeats 1000000 in
theorem rcompare_any (kd v k w l : Int) (W : World) (v0 : 1 ≤ v) (v1 : v ≤ 1000000) (w0 : 1 ≤ w) (w1 : w ≤ 1000000) (k0 : 0 ≤ k) (k1 : k ≤ 1000) (l0 : 0 ≤ l) (l1 : l ≤ 1000) :
    Calls Try.prog 67 #[.int .i64 kd, .int .i64 v, .int .i64 k, .int .i64 w, .int .i64 l] W fun e w' => e = .returned (.int .i64 (szC v (stp kd k) w (stp kd l))) ∧ W = w' := by
  have b1 := stp_bd (kd := kd) k0 k1
  have b2 := stp_bd (kd := kd) l0 l1
  have S1 := hid (rstep_any kd k W k0 k1)
  have S2 := hid (rstep_any kd l W l0 l1)
  generalize stp kd k = a at *
  generalize stp kd l = b at *
  have key : ∀ r : Int, szC v a w b = r → Calls Try.prog 67 #[.int .i64 kd, .int .i64 v, .int .i64 k, .int .i64 w, .int .i64 l] W (fun e w' => e = .returned (.int .i64 r) ∧ W = w') → Calls Try.prog 67 #[.int .i64 kd, .int .i64 v, .int .i64 k, .int .i64 w, .int .i64 l] W fun e w' => e = .returned (.int .i64 (szC v a w b)) ∧ W = w' := by
    intro r hr h; rw [hr]; exact h
  by_cases ha : a = 0
  · have ha1 : (a == 0) = true := by simp [ha]
    have ha2 : ¬ 0 < a := by omega
    by_cases hb : b = 0
    · have hb1 : (b == 0) = true := by simp [hb]
      have hb2 : ¬ 0 < b := by omega
      have e : szC v a w b = sg v w := by rw [sz_ways, if_pos ha, if_pos hb]
      by_cases h1 : v < w
      · refine key (-1) (by rw [e, sg, if_pos h1]) ?_
        clear key ha hb e
        go_enter Try.func67, Try.ntmps67
        go_wp2_with fail
        refine S1.out.mono ?_; rintro e w' ⟨rfl, rfl⟩
        go_wp2_with fail
        refine S2.out.mono ?_; rintro e w' ⟨rfl, rfl⟩
        go_wp2_with fail
        go_ret
        exact ⟨rfl, rfl⟩
      · by_cases h2 : w < v
        · refine key 1 (by rw [e, sg, if_neg h1, if_pos h2]) ?_
          clear key ha hb e
          go_enter Try.func67, Try.ntmps67
          go_wp2_with fail
          refine S1.out.mono ?_; rintro e w' ⟨rfl, rfl⟩
          go_wp2_with fail
          refine S2.out.mono ?_; rintro e w' ⟨rfl, rfl⟩
          go_wp2_with fail
          go_ret
          exact ⟨rfl, rfl⟩
        · refine key 0 (by rw [e, sg, if_neg h1, if_neg h2]) ?_
          clear key ha hb e
          go_enter Try.func67, Try.ntmps67
          go_wp2_with fail
          refine S1.out.mono ?_; rintro e w' ⟨rfl, rfl⟩
          go_wp2_with fail
          refine S2.out.mono ?_; rintro e w' ⟨rfl, rfl⟩
          go_wp2_with fail
          go_ret
          exact ⟨rfl, rfl⟩
    · have hb1 : (b == 0) = false := by simp [hb]
      have hb2 : 0 < b := by omega
      refine key 1 (by rw [sz_ways, if_pos ha, if_neg hb]) ?_
      clear key ha hb
      go_enter Try.func67, Try.ntmps67
      go_wp2_with fail
      refine S1.out.mono ?_; rintro e w' ⟨rfl, rfl⟩
      go_wp2_with fail
      refine S2.out.mono ?_; rintro e w' ⟨rfl, rfl⟩
      go_wp2_with fail
      go_ret
      exact ⟨rfl, rfl⟩
  · have ha1 : (a == 0) = false := by simp [ha]
    have ha2 : 0 < a := by omega
    by_cases hb : b = 0
    · have hb1 : (b == 0) = true := by simp [hb]
      refine key (-1) (by rw [sz_ways, if_neg ha, if_pos hb]) ?_
      clear key ha hb
      go_enter Try.func67, Try.ntmps67
      go_wp2_with fail
      refine S1.out.mono ?_; rintro e w' ⟨rfl, rfl⟩
      go_wp2_with fail
      refine S2.out.mono ?_; rintro e w' ⟨rfl, rfl⟩
      go_wp2_with fail
      go_ret
      exact ⟨rfl, rfl⟩
    · have hb1 : (b == 0) = false := by simp [hb]
      have e : szC v a w b = sg (v * b) (w * a) := by rw [sz_ways, if_neg ha, if_neg hb]
      have m1 := mul_in v0 v1 b2.1 b2.2
      have m2 := mul_in w0 w1 b1.1 b1.2
      by_cases h1 : v * b < w * a
      · refine key (-1) (by rw [e, sg, if_pos h1]) ?_
        clear key ha hb e
        go_enter Try.func67, Try.ntmps67
        go_wp2_with fail
        refine S1.out.mono ?_; rintro e w' ⟨rfl, rfl⟩
        go_wp2_with fail
        refine S2.out.mono ?_; rintro e w' ⟨rfl, rfl⟩
        go_wp2_with fail
        go_ret
        exact ⟨rfl, rfl⟩
      · by_cases h2 : w * a < v * b
        · refine key 1 (by rw [e, sg, if_neg h1, if_pos h2]) ?_
          clear key ha hb e
          go_enter Try.func67, Try.ntmps67
          go_wp2_with fail
          refine S1.out.mono ?_; rintro e w' ⟨rfl, rfl⟩
          go_wp2_with fail
          refine S2.out.mono ?_; rintro e w' ⟨rfl, rfl⟩
          go_wp2_with fail
          go_ret
          exact ⟨rfl, rfl⟩
        · refine key 0 (by rw [e, sg, if_neg h1, if_neg h2]) ?_
          clear key ha hb e
          go_enter Try.func67, Try.ntmps67
          go_wp2_with fail
          refine S1.out.mono ?_; rintro e w' ⟨rfl, rfl⟩
          go_wp2_with fail
          refine S2.out.mono ?_; rintro e w' ⟨rfl, rfl⟩
          go_wp2_with fail
          go_ret
          exact ⟨rfl, rfl⟩
set_option maxHeartbeats 1000000 in
theorem rclaimer_any (kd : Int) (xs ms : List Int) (a a2 : Option Addr) (cap cap2 : Nat) (W : World) (h1 : IntsAt W a xs) (h2 : IntsAt W a2 ms) (ho : OrdOK xs) (hm : MealsOK xs ms) :
    Calls Try.prog 73 #[.slice a xs.length cap, .slice a2 ms.length cap2, .int .i64 kd] W fun e w' => e = .returned (.int .i64 (topI kd xs ms xs.length : Nat)) ∧ ∃ n, w' = W.drewN n := by
  have hl1 := ho.l1
  have hl8 := ho.l8
  have Hlen := hid hm.len
  have Hel := hid hm.el
  have Hoel := hid ho.el
  clear hm ho
  go_enter Try.func73, Try.ntmps73
  go_wp2_with fail
  go_loopw [7, 8] (fun v7 v8 w' => ∃ k n : Nat, 1 ≤ k ∧ k ≤ xs.length ∧ v7 = .int .i64 (topI kd xs ms k : Nat) ∧ v8 = .int .i64 k ∧ w' = W.drewN n) (fun _ v8 _ => xs.length - (intOf v8).toNat)
  case atStart => exact ⟨1, 0, by omega, hl1, by rw [topI_one]; rfl, rfl, rfl⟩
  case round =>
    obtain ⟨k, n, hk1, hk, rfl, rfl, rfl⟩ := hrel
    have ht := topI_lt kd xs ms k
    by_cases hlt : k < xs.length
    · have htl : topI kd xs ms k < xs.length := by omega
      obtain ⟨b, off, rfl, hbl, c1⟩ := h1 k hlt
      obtain ⟨b', off', e', _, c2⟩ := h1 (topI kd xs ms k) htl
      cases e'
      obtain ⟨b2, off2, rfl, hbl2, d1⟩ := h2 k (by rw [Hlen.out]; exact hlt)
      obtain ⟨b2', off2', e2', _, d2⟩ := h2 (topI kd xs ms k) (by rw [Hlen.out]; exact htl)
      cases e2'
      have o1 := Hoel.out k hlt
      have o2 := Hoel.out _ htl
      have m1 := Hel.out k (by rw [Hlen.out]; exact hlt)
      have m2 := Hel.out (topI kd xs ms k) (by rw [Hlen.out]; exact htl)
      have i1 : (0 : Int) ≤ (k : Int) := by omega
      have i2 : (k : Int) < (xs.length : Int) := by omega
      have i3 : (k : Int) < (ms.length : Int) := by have := Hlen.out; omega
      have i4 : (0 : Int) ≤ ((topI kd xs ms k : Nat) : Int) := by omega
      have i5 : ((topI kd xs ms k : Nat) : Int) < (xs.length : Int) := by omega
      have i6 : ((topI kd xs ms k : Nat) : Int) < (ms.length : Int) := by have := Hlen.out; omega
      have Hc : Hid (∀ w', Calls Try.prog 67 #[.int .i64 kd, .int .i64 (nth xs k), .int .i64 (nth ms k), .int .i64 (nth xs (topI kd xs ms k)), .int .i64 (nth ms (topI kd xs ms k))] w' fun e w2 => e = .returned (.int .i64 (szAt kd xs ms k (topI kd xs ms k))) ∧ w' = w2) := fun w' => rcompare_any kd _ _ _ _ w' o1.1 o1.2 o2.1 o2.2 m1.1 m1.2 m2.1 m2.2
      by_cases hp : 0 < szAt kd xs ms k (topI kd xs ms k)
      · have S := hid (topI_yes kd xs ms k hp)
        go_wp2_with fail
        go_quiet ((go_at_call 67; exact quiet_two (Hc.out _)))
        go_wp2_with fail
        go_roundw
        case rel => exact ⟨k + 1, _, by omega, by omega, by rw [S.out], by go_num, rfl⟩
        case measure => simp [intOf]; omega
      · have S := hid (topI_no kd xs ms k hp)
        go_wp2_with fail
        go_quiet ((go_at_call 67; exact quiet_two (Hc.out _)))
        go_wp2_with fail
        go_roundw
        case rel => exact ⟨k + 1, _, by omega, by omega, by rw [S.out], by go_num, rfl⟩
        case measure => simp [intOf]; omega
    · obtain rfl : k = xs.length := by omega
      go_wp2_with fail
      go_ret
      exact ⟨rfl, n, rfl⟩
end Go.Proofs.Ythankdfjkmfokaa
