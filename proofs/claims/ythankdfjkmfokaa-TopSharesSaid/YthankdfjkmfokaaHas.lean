/- The document's 'HasDivisor': what it returns. -/
import Derived.Test.YthankdfjkmfokaaDvLaw
namespace Go.Proofs.Ythankdfjkmfokaa
open Go.RowKit
set_option linter.unusedSimpArgs false
set_option linter.unusedVariables false

structure HasAt (kd : Int) (xs ms : List Int) (i : Nat) : Prop where
  pos : 0 < stp kd (nth ms i)
  dv : DvOK kd xs ms (nth xs i * fac kd) (stp kd (nth ms i))
def HasOK (kd : Int) (xs ms : List Int) : Prop := ∃ i, i < xs.length ∧ HasAt kd xs ms i
open Classical in
noncomputable def hasB (xs ms : List Int) (kd : Int) : Bool := decide (HavOK xs ms kd ∧ HasOK kd xs ms)
theorem hasB_yes {xs ms : List Int} {kd : Int} (h : HavOK xs ms kd) (h2 : HasOK kd xs ms) : hasB xs ms kd = true := by simp [hasB, h, h2]
theorem hasB_not {xs ms : List Int} {kd : Int} (h2 : ¬ HasOK kd xs ms) : hasB xs ms kd = false := by simp [hasB, h2]
theorem hasB_no {xs ms : List Int} {kd : Int} (h : ¬ HavOK xs ms kd) : hasB xs ms kd = false := by simp [hasB, h]
theorem has_none {kd : Int} {xs ms : List Int} (h : ∀ i, i < xs.length → ¬ HasAt kd xs ms i) : ¬ HasOK kd xs ms := fun ⟨i, hi, hh⟩ => h i hi hh
theorem claim_rat {kd v s : Int} (v1 : 1 ≤ v) (v2 : v ≤ 1000000) (s1 : 1 ≤ s) (s2 : s ≤ 2001) : RatOK (frN (v * fac kd) s) (frD (v * fac kd) s) := by
  have f := fac_bd kd
  have h1 := mul_bds (show 0 ≤ v by omega) v2 (show 0 ≤ fac kd by omega) f.2
  have h2 : 1 ≤ v * fac kd := Int.mul_pos (by omega) (by omega)
  have h3 := fr_low h2 s1
  exact ⟨by omega, by omega, by omega, by omega⟩

set_option maxRecDepth 100000 in
set_option maxHeartbeats 4000000 in
theorem HasDivisor_any (xs ms : List Int) (a a2 : Option Addr) (cap cap2 : Nat) (kd : Int) (W : World) (h1 : IntsAt W a xs) (h2 : IntsAt W a2 ms) (hm : xs.length ≤ 1000) (hm2 : ms.length ≤ maxLen) :
    Calls Try.prog 43 #[.slice a xs.length cap, .slice a2 ms.length cap2, .int .i64 kd] W fun e w' => e = .returned (.tuple #[.bool (hasB xs ms kd), .int .i64 (havE xs ms kd)]) ∧ Below W.heap.size W w' := by
  have Ha := hid (have_E xs ms a a2 cap cap2 kd W h1 h2 hm hm2)
  by_cases h : HavOK xs ms kd
  · rw [havE_yes h] at Ha ⊢
    have HOK := hid h
    have HO := hid h.1.1
    have HM := hid h.2
    have Hlen := hid h.2.len
    have Hel := hid h.2.el
    have Hoel := hid h.1.1.el
    clear h
    by_cases hk : kd = 1
    · have hkb : (kd == 1) = true := by simp [hk]
      have fk : fac kd = 2 := by unfold fac; rw [if_pos hk]
      clear hk
      go_enter Try.func43, Try.ntmps43
      go_wp2_with fail
      refine Ha.out.mono ?_; rintro e w' ⟨rfl, rfl⟩
      go_wp2_with fail
      go_loopw [10, 11] (fun v10 v11 w' => ∃ i : Nat, i ≤ xs.length ∧ v10 = .int .i64 i ∧ (∀ i', i' < i → ¬ HasAt kd xs ms i') ∧ Below W.heap.size W w') (fun v10 _ _ => xs.length - (intOf v10).toNat)
      case atStart => exact ⟨0, by omega, rfl, fun i hi => absurd hi (Nat.not_lt_zero i), Below.refl _ _⟩
      case round =>
        obtain ⟨i, hi, rfl, hN, hb⟩ := hrel
        have HN := hid hN
        clear hN
        by_cases hlt : i < xs.length
        · obtain ⟨b, off, e1, hbl, c1⟩ := (h1.below hb) i hlt
          obtain ⟨b2, off2, e2, hbl2, d1⟩ := (h2.below hb) i (by rw [Hlen.out]; exact hlt)
          subst e1
          subst e2
          have o1 := Hoel.out i hlt
          have m1 := Hel.out i (by rw [Hlen.out]; exact hlt)
          have i1 : (0 : Int) ≤ (i : Int) := by omega
          have i2 : (i : Int) < (xs.length : Int) := by omega
          have i3 : (i : Int) < (ms.length : Int) := by have := Hlen.out; omega
          have sb := stp_bd (kd := kd) m1.1 m1.2
          have S1 := hid (rstep_any kd (nth ms i) wr m1.1 m1.2)
          by_cases hp : 0 < stp kd (nth ms i)
          · have HAt : Hid (HasAt kd xs ms i ↔ DvOK kd xs ms (frN (nth xs i * fac kd) (stp kd (nth ms i))) (frD (nth xs i * fac kd) (stp kd (nth ms i)))) := hid ⟨fun h => (dv_fr (Int.mul_nonneg (by omega) (by have := fac_bd kd; omega)) (by omega)).2 h.dv, fun h => ⟨hp, (dv_fr (Int.mul_nonneg (by omega) (by have := fac_bd kd; omega)) (by omega)).1 h⟩⟩
            have HR := hid (claim_rat (kd := kd) o1.1 o1.2 (show 1 ≤ stp kd (nth ms i) by omega) sb.2)
            have HF := hid (rFraction_any (nth xs i * fac kd) (stp kd (nth ms i)) wr (Int.mul_nonneg (by omega) (by have := fac_bd kd; omega)) (by rw [fk]; omega) (by omega) (by omega))
            have HD := hid (fun w h h' => rdivides_any kd xs ms (frN (nth xs i * fac kd) (stp kd (nth ms i))) (frD (nth xs i * fac kd) (stp kd (nth ms i))) (some ⟨b, off, none⟩) (some ⟨b2, off2, none⟩) cap cap2 w h h' HO.out HM.out HR.out)
            have HI := hid (h1.below hb)
            have HI2 := hid (h2.below hb)
            have hpd : decide (0 < stp kd (nth ms i)) = true := decide_eq_true hp
            have w1 : IntKind.i64.wrap (nth xs i * 2) = nth xs i * 2 := by rw [IntWalk.i64_in _ (by omega)]
            by_cases hd : DvOK kd xs ms (frN (nth xs i * fac kd) (stp kd (nth ms i))) (frD (nth xs i * fac kd) (stp kd (nth ms i)))
            · rw [dvB_yes hd] at HD
              have R := hid (hasB_yes HOK.out ⟨i, hlt, HAt.out.2 hd⟩)
              clear hd HAt HR
              rw [fk] at HF HD
              generalize stp kd (nth ms i) = s at *
              generalize frN (nth xs i * 2) s = A at *
              generalize frD (nth xs i * 2) s = B at *
              clear sb m1
              go_wp2_with fail
              refine S1.out.mono ?_; rintro e w' ⟨rfl, rfl⟩
              go_wp2_with fail
              refine HF.out.mono ?_; rintro e w3 ⟨rfl, hb3⟩
              have hbz := hb.trans (hb3.mono hb.size)
              go_wp2_with fail
              refine (HD.out _ (HI.out.below hb3) (HI2.out.below hb3)).mono ?_; rintro e w4 ⟨rfl, hb4⟩
              go_wp2_with fail
              go_ret2
              refine ⟨?_, hbz.trans (hb4.mono hbz.size)⟩
              rw [R.out]
              rfl
            · rw [dvB_no hd] at HD
              have HNo : Hid (¬ HasAt kd xs ms i) := hid fun h => hd (HAt.out.1 h)
              clear hd HAt HR
              rw [fk] at HF HD
              generalize stp kd (nth ms i) = s at *
              generalize frN (nth xs i * 2) s = A at *
              generalize frD (nth xs i * 2) s = B at *
              clear sb m1
              go_wp2_with fail
              refine S1.out.mono ?_; rintro e w' ⟨rfl, rfl⟩
              go_wp2_with fail
              refine HF.out.mono ?_; rintro e w3 ⟨rfl, hb3⟩
              have hbz := hb.trans (hb3.mono hb.size)
              go_wp2_with fail
              refine (HD.out _ (HI.out.below hb3) (HI2.out.below hb3)).mono ?_; rintro e w4 ⟨rfl, hb4⟩
              go_wp2_with fail
              go_roundw
              case rel => exact ⟨i + 1, by omega, by go_num, fair_more HN.out HNo.out, hbz.trans (hb4.mono hbz.size)⟩
              case measure => simp [intOf]; omega
          · have HNo : Hid (¬ HasAt kd xs ms i) := hid fun h => hp h.pos
            have hpd : decide (0 < stp kd (nth ms i)) = false := decide_eq_false hp
            generalize stp kd (nth ms i) = s at *
            clear sb m1 hp
            go_wp2_with fail
            refine S1.out.mono ?_; rintro e w' ⟨rfl, rfl⟩
            go_wp2_with fail
            go_roundw
            case rel => exact ⟨i + 1, by omega, by go_num, fair_more HN.out HNo.out, hb⟩
            case measure => simp [intOf]; omega
        · obtain rfl : i = xs.length := by omega
          have R := hid (hasB_not (has_none HN.out))
          go_wp2_with fail
          go_ret2
          refine ⟨?_, hb⟩
          rw [R.out]
          rfl
    · have hkb : (kd == 1) = false := by simp [hk]
      have fk : fac kd = 1 := by unfold fac; rw [if_neg hk]
      clear hk
      go_enter Try.func43, Try.ntmps43
      go_wp2_with fail
      refine Ha.out.mono ?_; rintro e w' ⟨rfl, rfl⟩
      go_wp2_with fail
      go_loopw [10, 11] (fun v10 v11 w' => ∃ i : Nat, i ≤ xs.length ∧ v10 = .int .i64 i ∧ (∀ i', i' < i → ¬ HasAt kd xs ms i') ∧ Below W.heap.size W w') (fun v10 _ _ => xs.length - (intOf v10).toNat)
      case atStart => exact ⟨0, by omega, rfl, fun i hi => absurd hi (Nat.not_lt_zero i), Below.refl _ _⟩
      case round =>
        obtain ⟨i, hi, rfl, hN, hb⟩ := hrel
        have HN := hid hN
        clear hN
        by_cases hlt : i < xs.length
        · obtain ⟨b, off, e1, hbl, c1⟩ := (h1.below hb) i hlt
          obtain ⟨b2, off2, e2, hbl2, d1⟩ := (h2.below hb) i (by rw [Hlen.out]; exact hlt)
          subst e1
          subst e2
          have o1 := Hoel.out i hlt
          have m1 := Hel.out i (by rw [Hlen.out]; exact hlt)
          have i1 : (0 : Int) ≤ (i : Int) := by omega
          have i2 : (i : Int) < (xs.length : Int) := by omega
          have i3 : (i : Int) < (ms.length : Int) := by have := Hlen.out; omega
          have sb := stp_bd (kd := kd) m1.1 m1.2
          have S1 := hid (rstep_any kd (nth ms i) wr m1.1 m1.2)
          by_cases hp : 0 < stp kd (nth ms i)
          · have HAt : Hid (HasAt kd xs ms i ↔ DvOK kd xs ms (frN (nth xs i * fac kd) (stp kd (nth ms i))) (frD (nth xs i * fac kd) (stp kd (nth ms i)))) := hid ⟨fun h => (dv_fr (Int.mul_nonneg (by omega) (by have := fac_bd kd; omega)) (by omega)).2 h.dv, fun h => ⟨hp, (dv_fr (Int.mul_nonneg (by omega) (by have := fac_bd kd; omega)) (by omega)).1 h⟩⟩
            have HR := hid (claim_rat (kd := kd) o1.1 o1.2 (show 1 ≤ stp kd (nth ms i) by omega) sb.2)
            have HF := hid (rFraction_any (nth xs i * fac kd) (stp kd (nth ms i)) wr (Int.mul_nonneg (by omega) (by have := fac_bd kd; omega)) (by rw [fk]; omega) (by omega) (by omega))
            have HD := hid (fun w h h' => rdivides_any kd xs ms (frN (nth xs i * fac kd) (stp kd (nth ms i))) (frD (nth xs i * fac kd) (stp kd (nth ms i))) (some ⟨b, off, none⟩) (some ⟨b2, off2, none⟩) cap cap2 w h h' HO.out HM.out HR.out)
            have HI := hid (h1.below hb)
            have HI2 := hid (h2.below hb)
            have hpd : decide (0 < stp kd (nth ms i)) = true := decide_eq_true hp
            have w1 : IntKind.i64.wrap (nth xs i) = nth xs i := IntWalk.i64_in _ (by omega)
            by_cases hd : DvOK kd xs ms (frN (nth xs i * fac kd) (stp kd (nth ms i))) (frD (nth xs i * fac kd) (stp kd (nth ms i)))
            · rw [dvB_yes hd] at HD
              have R := hid (hasB_yes HOK.out ⟨i, hlt, HAt.out.2 hd⟩)
              clear hd HAt HR
              rw [fk] at HF HD
              simp only [Int.mul_one] at HF HD
              generalize stp kd (nth ms i) = s at *
              generalize frN (nth xs i) s = A at *
              generalize frD (nth xs i) s = B at *
              clear sb m1
              go_wp2_with fail
              refine S1.out.mono ?_; rintro e w' ⟨rfl, rfl⟩
              go_wp2_with fail
              refine HF.out.mono ?_; rintro e w3 ⟨rfl, hb3⟩
              have hbz := hb.trans (hb3.mono hb.size)
              go_wp2_with fail
              refine (HD.out _ (HI.out.below hb3) (HI2.out.below hb3)).mono ?_; rintro e w4 ⟨rfl, hb4⟩
              go_wp2_with fail
              go_ret2
              refine ⟨?_, hbz.trans (hb4.mono hbz.size)⟩
              rw [R.out]
              rfl
            · rw [dvB_no hd] at HD
              have HNo : Hid (¬ HasAt kd xs ms i) := hid fun h => hd (HAt.out.1 h)
              clear hd HAt HR
              rw [fk] at HF HD
              simp only [Int.mul_one] at HF HD
              generalize stp kd (nth ms i) = s at *
              generalize frN (nth xs i) s = A at *
              generalize frD (nth xs i) s = B at *
              clear sb m1
              go_wp2_with fail
              refine S1.out.mono ?_; rintro e w' ⟨rfl, rfl⟩
              go_wp2_with fail
              refine HF.out.mono ?_; rintro e w3 ⟨rfl, hb3⟩
              have hbz := hb.trans (hb3.mono hb.size)
              go_wp2_with fail
              refine (HD.out _ (HI.out.below hb3) (HI2.out.below hb3)).mono ?_; rintro e w4 ⟨rfl, hb4⟩
              go_wp2_with fail
              go_roundw
              case rel => exact ⟨i + 1, by omega, by go_num, fair_more HN.out HNo.out, hbz.trans (hb4.mono hbz.size)⟩
              case measure => simp [intOf]; omega
          · have HNo : Hid (¬ HasAt kd xs ms i) := hid fun h => hp h.pos
            have hpd : decide (0 < stp kd (nth ms i)) = false := decide_eq_false hp
            generalize stp kd (nth ms i) = s at *
            clear sb m1 hp
            go_wp2_with fail
            refine S1.out.mono ?_; rintro e w' ⟨rfl, rfl⟩
            go_wp2_with fail
            go_roundw
            case rel => exact ⟨i + 1, by omega, by go_num, fair_more HN.out HNo.out, hb⟩
            case measure => simp [intOf]; omega
        · obtain rfl : i = xs.length := by omega
          have R := hid (hasB_not (has_none HN.out))
          go_wp2_with fail
          go_ret2
          refine ⟨?_, hb⟩
          rw [R.out]
          rfl
  · rw [havE_no h] at Ha ⊢
    rw [hasB_no h]
    clear h
    go_enter Try.func43, Try.ntmps43
    go_wp2_with fail
    refine Ha.out.mono ?_; rintro e w' ⟨rfl, rfl⟩
    go_wp2_with fail
    go_ret2
    exact ⟨rfl, Below.refl _ _⟩
end Go.Proofs.Ythankdfjkmfokaa
