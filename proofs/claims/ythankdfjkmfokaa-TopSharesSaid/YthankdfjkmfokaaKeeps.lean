/- 'Keeps' and the document's: what they return. -/
import Derived.Test.YthankdfjkmfokaaClaims
namespace Go.Proofs.Ythankdfjkmfokaa
open Go.RowKit
set_option linter.unusedSimpArgs false
set_option linter.unusedVariables false

/-- The difference of meals and quota, times the sum of the orders. -/
def offD (xs ms : List Int) (i : Nat) : Int := nth ms i * tot xs - tot ms * nth xs i
structure KeepAt (xs ms : List Int) (i : Nat) : Prop where
  lo : -tot xs < offD xs ms i
  hi : offD xs ms i < tot xs
def KeepOK (xs ms : List Int) : Prop := ∀ i, i < xs.length → KeepAt xs ms i
open Classical in
noncomputable def kepB (xs ms : List Int) : Bool := decide (HavOK xs ms 0 ∧ KeepOK xs ms)
theorem kepB_yes {xs ms : List Int} (h : HavOK xs ms 0) (h2 : KeepOK xs ms) : kepB xs ms = true := by simp [kepB, h, h2]
theorem kepB_not {xs ms : List Int} (h2 : ¬ KeepOK xs ms) : kepB xs ms = false := by simp [kepB, h2]
theorem kepB_no {xs ms : List Int} (h : ¬ HavOK xs ms 0) : kepB xs ms = false := by simp [kepB, h]
theorem kind0 : KindOK 0 := .inl rfl
theorem sumTo_one (f : Nat → Int) (k : Nat) (h : ∀ d, d < k → 1 ≤ f d) : (k : Int) ≤ sumTo f k := by
  induction k with
  | zero => exact Int.le_refl _
  | succ k ih =>
    have h1 := ih fun d hd => h d (by omega)
    have h2 := h k (by omega)
    have e : sumTo f (k + 1) = sumTo f k + f k := rfl
    omega
theorem keep_more {xs ms : List Int} {k : Nat} (h : ∀ i, i < k → KeepAt xs ms i) (hk : KeepAt xs ms k) : ∀ i, i < k + 1 → KeepAt xs ms i := by
  intro i hi
  by_cases e : i = k
  · subst e; exact hk
  · exact h i (by omega)
theorem tot_ord {xs : List Int} (ho : OrdOK xs) : 1 ≤ tot xs ∧ tot xs ≤ 8000000 := by
  have h1 := sumTo_bd (nth xs) 1000000 xs.length fun d hd => by have := ho.el d hd; omega
  have h2 := sumTo_one (nth xs) xs.length fun d hd => (ho.el d hd).1
  have := ho.l1
  have := ho.l8
  unfold tot
  omega
theorem tot_meals {xs ms : List Int} (ho : OrdOK xs) (hm : MealsOK xs ms) : 0 ≤ tot ms ∧ tot ms ≤ 8000 := by
  have h1 := sumTo_bd (nth ms) 1000 ms.length fun d hd => hm.el d hd
  have := ho.l8
  have := hm.len
  unfold tot
  omega
theorem mul_bds {x y A B : Int} (hx0 : 0 ≤ x) (hx : x ≤ A) (hy0 : 0 ≤ y) (hy : y ≤ B) : 0 ≤ x * y ∧ x * y ≤ A * B :=
  ⟨Int.mul_nonneg hx0 hy0, Int.mul_le_mul hx hy hy0 (by omega)⟩
theorem off_bd {xs ms : List Int} (ho : OrdOK xs) (hm : MealsOK xs ms) (i : Nat) (hi : i < xs.length) :
    (0 ≤ nth ms i * tot xs ∧ nth ms i * tot xs ≤ 8000000000) ∧ (0 ≤ tot ms * nth xs i ∧ tot ms * nth xs i ≤ 8000000000) := by
  have h1 := tot_ord ho
  have h2 := tot_meals ho hm
  have h3 := ho.el i hi
  have h4 := hm.el i (by rw [hm.len]; exact hi)
  exact ⟨mul_bds h4.1 h4.2 (by omega) h1.2, mul_bds h2.1 h2.2 (by omega) h3.2⟩

set_option maxRecDepth 100000 in
set_option maxHeartbeats 1000000 in
theorem Keeps_any (xs ms : List Int) (a a2 : Option Addr) (cap cap2 : Nat) (W : World) (h1 : IntsAt W a xs) (h2 : IntsAt W a2 ms) (hm : xs.length ≤ 1000) (hm2 : ms.length ≤ maxLen) :
    Calls Try.prog 31 #[.slice a xs.length cap, .slice a2 ms.length cap2] W fun e w' => e = .returned (.tuple #[.bool (kepB xs ms), .int .i64 (havE xs ms 0)]) ∧ W = w' := by
  have Hv := hid (Validate_any xs a cap W h1 (by unfold maxLen; omega))
  have Hd := hid (dealt_any xs ms a a2 cap cap2 W h2 hm hm2)
  by_cases ho : OrdOK xs
  · rw [e01_yes ho] at Hv
    by_cases hmo : MealsOK xs ms
    · rw [e01_yes hmo] at Hd
      have hOK : HavOK xs ms 0 := ⟨⟨ho, kind0⟩, hmo⟩
      have HOK := hid hOK
      rw [havE_yes hOK]
      have T1 := hid (total61 ms a2 cap2 W h2 (hmo.small ho))
      have T2 := hid (total61 xs a cap W h1 ho.small)
      have ht := tot_ord ho
      have Hbd := hid (off_bd ho hmo)
      have Hlen := hid hmo.len
      clear hOK hmo ho
      go_enter Try.func31, Try.ntmps31
      go_wp2_with fail
      refine Hv.out.mono ?_; rintro e w' ⟨rfl, rfl⟩
      go_wp2_with fail
      refine Hd.out.mono ?_; rintro e w' ⟨rfl, rfl⟩
      go_wp2_with fail
      refine T1.out.mono ?_; rintro e w' ⟨rfl, rfl⟩
      go_wp2_with fail
      refine T2.out.mono ?_; rintro e w' ⟨rfl, rfl⟩
      go_wp2_with fail
      clear Hv Hd T1 T2
      go_loop [30] (fun v30 => ∃ k : Nat, k ≤ xs.length ∧ v30 = .int .i64 k ∧ ∀ i, i < k → KeepAt xs ms i) (fun v30 => xs.length - (intOf v30).toNat)
      case atStart => exact ⟨0, by omega, rfl, fun i hi => absurd hi (Nat.not_lt_zero i)⟩
      case round =>
        obtain ⟨k, hk, rfl, hK⟩ := hrel
        have HK := hid hK
        clear hK
        by_cases hlt : k < xs.length
        · obtain ⟨b, off, rfl, hbl, c1⟩ := h1 k hlt
          obtain ⟨b2, off2, rfl, hbl2, c2⟩ := h2 k (by rw [Hlen.out]; exact hlt)
          have hb := Hbd.out k hlt
          have i1 : (0 : Int) ≤ (k : Int) := by omega
          have i2 : (k : Int) < (xs.length : Int) := by omega
          have i3 : (k : Int) < (ms.length : Int) := by have := Hlen.out; omega
          have w1 : IntKind.i64.wrap (nth ms k * tot xs) = nth ms k * tot xs := IntWalk.i64_in _ (by omega)
          have w2 : IntKind.i64.wrap (tot ms * nth xs k) = tot ms * nth xs k := IntWalk.i64_in _ (by omega)
          have w3 : IntKind.i64.wrap (nth ms k * tot xs - tot ms * nth xs k) = nth ms k * tot xs - tot ms * nth xs k := IntWalk.i64_in _ (by omega)
          have w4 : IntKind.i64.wrap (1 - tot xs) = 1 - tot xs := IntWalk.i64_in _ (by omega)
          have w5 : IntKind.i64.wrap (tot xs - 1) = tot xs - 1 := IntWalk.i64_in _ (by omega)
          by_cases hkeep : KeepAt xs ms k
          · have Hw : Hid (Calls Try.prog 57 #[.int .i64 (nth ms k * tot xs - tot ms * nth xs k), .int .i64 (1 - tot xs), .int .i64 (tot xs - 1)] W fun e w' => e = .returned (.bool true) ∧ W = w') := hid (within_yes _ _ _ _ (by have := hkeep.lo; unfold offD at this; omega) (by have := hkeep.hi; unfold offD at this; omega))
            have HA := hid hkeep
            clear hkeep hb
            go_wp2_with fail
            refine Hw.out.mono ?_; rintro e w' ⟨rfl, rfl⟩
            go_wp2_with fail
            go_round
            case rel => exact ⟨k + 1, by omega, by go_num, keep_more HK.out HA.out⟩
            case measure => simp [intOf]; omega
          · have Hw : Hid (Calls Try.prog 57 #[.int .i64 (nth ms k * tot xs - tot ms * nth xs k), .int .i64 (1 - tot xs), .int .i64 (tot xs - 1)] W fun e w' => e = .returned (.bool false) ∧ W = w') := hid (within_no _ _ _ _ (by
              by_cases h : -tot xs < offD xs ms k
              · right
                have : ¬ offD xs ms k < tot xs := fun h' => hkeep ⟨h, h'⟩
                unfold offD at this; omega
              · left; unfold offD at h; omega))
            have R := hid (kepB_not (xs := xs) (ms := ms) fun h => hkeep (h k hlt))
            clear hkeep hb
            go_wp2_with fail
            refine Hw.out.mono ?_; rintro e w' ⟨rfl, rfl⟩
            go_wp2_with fail
            go_ret2
            refine ⟨?_, rfl⟩
            rw [R.out]
            rfl
        · obtain rfl : k = xs.length := by omega
          have R := hid (kepB_yes HOK.out HK.out)
          go_wp2_with fail
          go_ret2
          refine ⟨?_, rfl⟩
          rw [R.out]
          rfl
    · rw [e01_no hmo] at Hd
      have hno : ¬ HavOK xs ms 0 := fun h => hmo h.2
      rw [havE_no hno, kepB_no hno]
      clear hno hmo ho
      go_enter Try.func31, Try.ntmps31
      go_wp2_with fail
      refine Hv.out.mono ?_; rintro e w' ⟨rfl, rfl⟩
      go_wp2_with fail
      refine Hd.out.mono ?_; rintro e w' ⟨rfl, rfl⟩
      go_wp2_with fail
      go_ret2
      exact ⟨rfl, rfl⟩
  · rw [e01_no ho] at Hv
    have hno : ¬ HavOK xs ms 0 := fun h => ho h.1.1
    rw [havE_no hno, kepB_no hno]
    clear hno ho
    go_enter Try.func31, Try.ntmps31
    go_wp2_with fail
    refine Hv.out.mono ?_; rintro e w' ⟨rfl, rfl⟩
    go_wp2_with fail
    go_ret2
    exact ⟨rfl, rfl⟩
set_option maxRecDepth 100000 in
set_option maxHeartbeats 1000000 in
theorem rKeeps_any (xs ms : List Int) (a a2 : Option Addr) (cap cap2 : Nat) (W : World) (h1 : IntsAt W a xs) (h2 : IntsAt W a2 ms) (hm : xs.length ≤ 1000) (hm2 : ms.length ≤ maxLen) :
    Calls Try.prog 32 #[.slice a xs.length cap, .slice a2 ms.length cap2] W fun e w' => e = .returned (.tuple #[.bool (kepB xs ms), .int .i64 (havE xs ms 0)]) ∧ ∃ n, w' = W.drewN n := by
  have Ha := hid (have_E xs ms a a2 cap cap2 0 W h1 h2 hm hm2)
  by_cases hOK : HavOK xs ms 0
  · have HOK := hid hOK
    rw [havE_yes hOK] at Ha ⊢
    have ho := hOK.1.1
    have hmo := hOK.2
    have T1 := hid (sum63 ms a2 cap2 W h2 (hmo.small ho))
    have T2 := hid (sum63 xs a cap W h1 ho.small)
    have ht := tot_ord ho
    have Hbd := hid (off_bd ho hmo)
    have Hlen := hid hmo.len
    clear hOK hmo ho
    go_enter Try.func32, Try.ntmps32
    go_wp2_with fail
    refine Ha.out.mono ?_; rintro e w' ⟨rfl, rfl⟩
    go_wp2_with fail
    refine T1.out.mono ?_; rintro e w' ⟨rfl, rfl⟩
    go_wp2_with fail
    refine T2.out.mono ?_; rintro e w' ⟨rfl, rfl⟩
    go_wp2_with fail
    clear Ha T1 T2
    go_loopw [9] (fun v9 w' => ∃ k n : Nat, k ≤ xs.length ∧ v9 = .int .i64 k ∧ (∀ i, i < k → KeepAt xs ms i) ∧ w' = W.drewN n) (fun v9 _ => xs.length - (intOf v9).toNat)
    case atStart => exact ⟨0, 0, by omega, rfl, fun i hi => absurd hi (Nat.not_lt_zero i), rfl⟩
    case round =>
      obtain ⟨k, n, hk, rfl, hK, rfl⟩ := hrel
      have HK := hid hK
      clear hK
      by_cases hlt : k < xs.length
      · obtain ⟨b, off, rfl, hbl, c1⟩ := h1 k hlt
        obtain ⟨b2, off2, rfl, hbl2, c2⟩ := h2 k (by rw [Hlen.out]; exact hlt)
        have hb := Hbd.out k hlt
        have i1 : (0 : Int) ≤ (k : Int) := by omega
        have i2 : (k : Int) < (xs.length : Int) := by omega
        have i3 : (k : Int) < (ms.length : Int) := by have := Hlen.out; omega
        have w1 : IntKind.i64.wrap (nth ms k * tot xs) = nth ms k * tot xs := IntWalk.i64_in _ (by omega)
        have w2 : IntKind.i64.wrap (tot ms * nth xs k) = tot ms * nth xs k := IntWalk.i64_in _ (by omega)
        have w3 : IntKind.i64.wrap (nth ms k * tot xs - tot ms * nth xs k) = nth ms k * tot xs - tot ms * nth xs k := IntWalk.i64_in _ (by omega)
        have w4 : IntKind.i64.wrap (-tot xs) = -tot xs := IntWalk.i64_in _ (by omega)
        have hd : offD xs ms k = nth ms k * tot xs - tot ms * nth xs k := rfl
        by_cases hlo : -tot xs < offD xs ms k
        · have d1 : decide (nth ms k * tot xs - tot ms * nth xs k ≤ -tot xs) = false := decide_eq_false (by omega)
          by_cases hhi : offD xs ms k < tot xs
          · have d2 : decide (tot xs ≤ nth ms k * tot xs - tot ms * nth xs k) = false := decide_eq_false (by omega)
            have HA : Hid (KeepAt xs ms k) := hid ⟨hlo, hhi⟩
            clear hlo hhi hd hb
            go_wp2_with fail
            go_quiet (fail)
            go_wp2_with fail
            go_roundw
            case rel => exact ⟨k + 1, _, by omega, by go_num, keep_more HK.out HA.out, rfl⟩
            case measure => simp [intOf]; omega
          · have d2 : decide (tot xs ≤ nth ms k * tot xs - tot ms * nth xs k) = true := decide_eq_true (by omega)
            have R := hid (kepB_not (xs := xs) (ms := ms) fun h => hhi (h k hlt).hi)
            clear hlo hhi hd hb
            go_wp2_with fail
            go_quiet (fail)
            go_wp2_with fail
            go_ret2
            refine ⟨?_, _, rfl⟩
            rw [R.out]
            rfl
        · have d1 : decide (nth ms k * tot xs - tot ms * nth xs k ≤ -tot xs) = true := decide_eq_true (by omega)
          have R := hid (kepB_not (xs := xs) (ms := ms) fun h => hlo (h k hlt).lo)
          clear hlo hd hb
          go_wp2_with fail
          go_quiet (fail)
          go_wp2_with fail
          go_ret2
          refine ⟨?_, _, rfl⟩
          rw [R.out]
          rfl
      · obtain rfl : k = xs.length := by omega
        have R := hid (kepB_yes HOK.out HK.out)
        go_wp2_with fail
        go_ret2
        refine ⟨?_, n, rfl⟩
        rw [R.out]
        rfl
  · rw [havE_no hOK] at Ha ⊢
    rw [kepB_no hOK]
    clear hOK
    go_enter Try.func32, Try.ntmps32
    go_wp2_with fail
    refine Ha.out.mono ?_; rintro e w' ⟨rfl, rfl⟩
    go_wp2_with fail
    go_ret2
    exact ⟨rfl, 0, rfl⟩
end Go.Proofs.Ythankdfjkmfokaa
