/- 'Error' and the document's: what they return. -/
import Derived.Test.YthankdfjkmfokaaRemLaw
import Derived.Test.YthankdfjkmfokaaPCheck
import Derived.Test.YthankdfjkmfokaaQuota
namespace Go.Proofs.Ythankdfjkmfokaa
open Go.RowKit
set_option linter.unusedSimpArgs false
set_option linter.unusedVariables false

open Classical in
noncomputable def errN (xs ms : List Int) : Int := if HavOK xs ms 0 then frN (offT xs ms) (tot xs) else 0
open Classical in
noncomputable def errD (xs ms : List Int) : Int := if HavOK xs ms 0 then frD (offT xs ms) (tot xs) else 0
theorem err_yes {xs ms : List Int} (h : HavOK xs ms 0) : errN xs ms = frN (offT xs ms) (tot xs) ∧ errD xs ms = frD (offT xs ms) (tot xs) ∧ havE xs ms 0 = 0 := ⟨by rw [errN, if_pos h], by rw [errD, if_pos h], havE_yes h⟩
theorem err_no {xs ms : List Int} (h : ¬ HavOK xs ms 0) : errN xs ms = 0 ∧ errD xs ms = 0 ∧ havE xs ms 0 = 1 := ⟨by rw [errN, if_neg h], by rw [errD, if_neg h], havE_no h⟩
def offS (xs ms : List Int) (k : Nat) : Int := sumTo (fun i => absI (offD xs ms i)) k
theorem offS_bd {xs ms : List Int} (ho : OrdOK xs) (hm : MealsOK xs ms) (k : Nat) (hk : k ≤ xs.length) : 0 ≤ offS xs ms k ∧ offS xs ms k ≤ 64000000000 := by
  have h := sumTo_bd (fun i => absI (offD xs ms i)) 8000000000 k fun d hd => by
    have := off_bd ho hm d (by omega)
    show 0 ≤ absI (offD xs ms d) ∧ absI (offD xs ms d) ≤ _
    unfold absI offD
    split <;> omega
  have := ho.l8
  unfold offS
  omega

set_option maxRecDepth 100000 in
set_option maxHeartbeats 2000000 in
theorem Error_any (xs ms : List Int) (a a2 : Option Addr) (cap cap2 : Nat) (W : World) (h1 : IntsAt W a xs) (h2 : IntsAt W a2 ms) (hm : xs.length ≤ 1000) (hm2 : ms.length ≤ maxLen) :
    Calls Try.prog 45 #[.slice a xs.length cap, .slice a2 ms.length cap2] W fun e w' => e = .returned (.tuple #[.agg #[.int .i64 (errN xs ms), .int .i64 (errD xs ms)], .int .i64 (havE xs ms 0)]) ∧ Below W.heap.size W w' := by
  have hbA : Below W.heap.size W (W.alloc (.cells #[.int .i64 0, .int .i64 0] 44)) := below_alloc _ _
  have h1A := h1.below hbA
  have h2A := h2.below hbA
  have hr := rat_cells W (W.alloc (.cells #[.int .i64 0, .int .i64 0] 44)) (Below.refl _ _)
  have Hv := hid (Validate_any xs a cap (W.alloc (.cells #[.int .i64 0, .int .i64 0] 44)) h1A (by unfold maxLen; omega))
  have Hd := hid (dealt_any xs ms a a2 cap cap2 (W.alloc (.cells #[.int .i64 0, .int .i64 0] 44)) h2A hm hm2)
  by_cases ho : OrdOK xs
  · rw [e01_yes ho] at Hv
    by_cases hmo : MealsOK xs ms
    · rw [e01_yes hmo] at Hd
      have R := hid (err_yes ⟨⟨ho, kind0⟩, hmo⟩)
      have T1 := hid (total61 ms a2 cap2 (W.alloc (.cells #[.int .i64 0, .int .i64 0] 44)) h2A (hmo.small ho))
      have T2 := hid (total61 xs a cap (W.alloc (.cells #[.int .i64 0, .int .i64 0] 44)) h1A ho.small)
      have ht := tot_ord ho
      have Hbd := hid (off_bd ho hmo)
      have HS := hid (fun k hk => offS_bd ho hmo k hk)
      have Hlen := hid hmo.len
      have hl8 := ho.l8
      have HoT : Hid (offT xs ms = offS xs ms xs.length) := hid rfl
      clear hmo ho hr
      go_enter Try.func45, Try.ntmps45
      go_wp2_with fail
      refine Hv.out.mono ?_; rintro e w' ⟨rfl, rfl⟩
      go_wp2_with fail
      refine Hd.out.mono ?_; rintro e w' ⟨rfl, rfl⟩
      go_wp2_with fail
      refine T1.out.mono ?_; rintro e w' ⟨rfl, rfl⟩
      go_wp2_with fail
      refine T2.out.mono ?_; rintro e w' ⟨rfl, rfl⟩
      go_wp2_with fail
      clear Hv Hd T1 T2
      go_loop [10, 11, 12, 13, 33] (fun v10 v11 v12 v13 v33 => ∃ k : Nat, k ≤ xs.length ∧ v33 = .int .i64 k ∧ v10 = .int .i64 (offS xs ms k)) (fun _ _ _ _ v33 => xs.length - (intOf v33).toNat)
      case atStart => exact ⟨0, by omega, rfl, rfl⟩
      case round =>
        obtain ⟨k, hk, rfl, rfl⟩ := hrel
        have s0 := (HS.out k hk).1
        have s1 := (HS.out k hk).2
        by_cases hlt : k < xs.length
        · obtain ⟨b, off, rfl, hbl, c1⟩ := h1A k hlt
          obtain ⟨b2, off2, rfl, hbl2, c2⟩ := h2A k (by rw [Hlen.out]; exact hlt)
          have hb := Hbd.out k hlt
          have i1 : (0 : Int) ≤ (k : Int) := by omega
          have i2 : (k : Int) < (xs.length : Int) := by omega
          have i3 : (k : Int) < (ms.length : Int) := by have := Hlen.out; omega
          have w1 : IntKind.i64.wrap (nth ms k * tot xs) = nth ms k * tot xs := IntWalk.i64_in _ (by omega)
          have w2 : IntKind.i64.wrap (tot ms * nth xs k) = tot ms * nth xs k := IntWalk.i64_in _ (by omega)
          have hd : nth ms k * tot xs - tot ms * nth xs k = offD xs ms k := rfl
          have d0 : -8000000000 ≤ offD xs ms k := by rw [← hd]; omega
          have d1 : offD xs ms k ≤ 8000000000 := by rw [← hd]; omega
          have HN : Hid (offS xs ms (k + 1) = offS xs ms k + absI (offD xs ms k)) := hid rfl
          have HD := hid hd
          have x0 := hb.1.1
          have x1 := hb.1.2
          have x2 := hb.2.1
          have x3 := hb.2.2
          clear hb hd
          generalize offS xs ms k = S at *
          by_cases hneg : nth ms k * tot xs - tot ms * nth xs k < 0
          · have e1 : decide (nth ms k * tot xs - tot ms * nth xs k < -(nth ms k * tot xs - tot ms * nth xs k)) = true := decide_eq_true (by omega)
            have e1' : nth ms k * tot xs - tot ms * nth xs k < -(nth ms k * tot xs - tot ms * nth xs k) := by omega
            have HE : Hid (absI (offD xs ms k) = -(nth ms k * tot xs - tot ms * nth xs k)) := hid (by rw [← HD.out]; unfold absI; rw [if_pos hneg])
            clear hneg
            go_wp2_with fail
            go_round
            case rel => exact ⟨k + 1, by omega, by go_num, by rw [HN.out, HE.out]⟩
            case measure => simp [intOf]; omega
          · have e1 : decide (nth ms k * tot xs - tot ms * nth xs k < -(nth ms k * tot xs - tot ms * nth xs k)) = false := decide_eq_false (by omega)
            have e1' : ¬ nth ms k * tot xs - tot ms * nth xs k < -(nth ms k * tot xs - tot ms * nth xs k) := by omega
            have HE : Hid (absI (offD xs ms k) = nth ms k * tot xs - tot ms * nth xs k) := hid (by rw [← HD.out]; unfold absI; rw [if_neg hneg])
            clear hneg
            go_wp2_with fail
            go_round
            case rel => exact ⟨k + 1, by omega, by go_num, by rw [HN.out, HE.out]⟩
            case measure => simp [intOf]; omega
        · obtain rfl : k = xs.length := by omega
          have Hf := hid (fraction_any (offS xs ms xs.length) (tot xs) (W.alloc (.cells #[.int .i64 0, .int .i64 0] 44)) s0 (by omega) ht.1 (by omega))
          rw [HoT.out] at R
          generalize offS xs ms xs.length = S at *
          go_wp2_with fail
          refine Hf.out.mono ?_; rintro e w2 ⟨rfl, hb2⟩
          have hr := rat_cells W w2 hb2
          have hbz := hbA.trans (hb2.mono hbA.size)
          have q0 := hr.cell (i := 0) (by omega)
          have q1 := hr.cell (i := 1) (by omega)
          have f0 := hr.frozen 0
          have f1 := hr.frozen 1
          have s1 := (hr.set 0 (.int .i64 (frN S (tot xs)))).set 1 (.int .i64 (frD S (tot xs)))
          have o0 := s1.cell (i := 0) (by omega)
          have o1 := s1.cell (i := 1) (by omega)
          simp only [if_true, if_false, show (0 : Nat) ≠ 1 by omega, ite_true, ite_false] at o0 o1
          clear s1 hr
          clear hb2 Hf
          generalize frN S (tot xs) = N at *
          generalize frD S (tot xs) = D at *
          go_wp2_with fail
          refine bodyPost_ret (v := .tuple #[.agg #[.int .i64 N, .int .i64 D], .int .i64 0]) (by simp [results, Try.results45, go_sem, o0, o1]) rfl ⟨by rw [R.out.1, R.out.2.1, R.out.2.2], ?_⟩
          exact (hbz.setCell (p := ⟨W.heap.size, 0, none⟩) (Nat.le_refl _) _).setCell (p := ⟨W.heap.size, 1, none⟩) (Nat.le_refl _) _
    · rw [e01_no hmo] at Hd
      have R := hid (err_no (xs := xs) (ms := ms) fun h => hmo h.2)
      clear ho hmo
      have q0 := hr.cell (i := 0) (by omega)
      have q1 := hr.cell (i := 1) (by omega)
      have f0 := hr.frozen 0
      have f1 := hr.frozen 1
      have s1 := (hr.set 0 (.int .i64 0)).set 1 (.int .i64 0)
      have o0 := s1.cell (i := 0) (by omega)
      have o1 := s1.cell (i := 1) (by omega)
      simp only [if_true, if_false, show (0 : Nat) ≠ 1 by omega, ite_true, ite_false] at o0 o1
      clear s1 hr
      go_enter Try.func45, Try.ntmps45
      go_wp2_with fail
      refine Hv.out.mono ?_; rintro e w' ⟨rfl, rfl⟩
      go_wp2_with fail
      refine Hd.out.mono ?_; rintro e w' ⟨rfl, rfl⟩
      go_wp2_with fail
      refine bodyPost_ret (v := .tuple #[.agg #[.int .i64 0, .int .i64 0], .int .i64 1]) (by simp [results, Try.results45, go_sem]) rfl ⟨by rw [R.out.1, R.out.2.1, R.out.2.2], ?_⟩
      first | exact hbA | exact (hbA.setCell (p := ⟨W.heap.size, 0, none⟩) (Nat.le_refl _) _).setCell (p := ⟨W.heap.size, 1, none⟩) (Nat.le_refl _) _
  · rw [e01_no ho] at Hv
    have R := hid (err_no (xs := xs) (ms := ms) fun h => ho h.1.1)
    clear ho hr
    go_enter Try.func45, Try.ntmps45
    go_wp2_with fail
    refine Hv.out.mono ?_; rintro e w' ⟨rfl, rfl⟩
    go_wp2_with fail
    refine bodyPost_ret (v := .tuple #[.agg #[.int .i64 0, .int .i64 0], .int .i64 1]) (by simp [results, Try.results45, go_sem]) rfl ⟨by rw [R.out.1, R.out.2.1, R.out.2.2], ?_⟩
    first | exact hbA | exact (hbA.setCell (p := ⟨W.heap.size, 0, none⟩) (Nat.le_refl _) _).setCell (p := ⟨W.heap.size, 1, none⟩) (Nat.le_refl _) _

set_option maxRecDepth 100000 in
set_option maxHeartbeats 2000000 in
theorem off_any (xs ms : List Int) (a a2 : Option Addr) (cap cap2 : Nat) (W : World) (h1 : IntsAt W a xs) (h2 : IntsAt W a2 ms) (hm : xs.length ≤ 1000) (hm2 : ms.length ≤ maxLen) (hOK : HavOK xs ms 0) :
    Calls Try.prog 80 #[.slice a xs.length cap, .slice a2 ms.length cap2] W fun e w' => e = .returned (.int .i64 (offT xs ms)) ∧ ∃ n, w' = W.drewN n := by
  have ho := hOK.1.1
  have hmo := hOK.2
  have T1 := hid (sum63 ms a2 cap2 W h2 (hmo.small ho))
  have T2 := hid (sum63 xs a cap W h1 ho.small)
  have ht := tot_ord ho
  have Hbd := hid (off_bd ho hmo)
  have HS := hid (fun k hk => offS_bd ho hmo k hk)
  have Hlen := hid hmo.len
  have hl8 := ho.l8
  rw [show offT xs ms = offS xs ms xs.length from rfl]
  clear hOK hmo ho
  go_enter Try.func80, Try.ntmps80
  go_wp2_with fail
  refine T1.out.mono ?_; rintro e w' ⟨rfl, rfl⟩
  go_wp2_with fail
  refine T2.out.mono ?_; rintro e w' ⟨rfl, rfl⟩
  go_wp2_with fail
  clear T1 T2
  go_loopw [7, 8, 9] (fun v7 v8 v9 w' => ∃ k n : Nat, k ≤ xs.length ∧ v8 = .int .i64 k ∧ v7 = .int .i64 (offS xs ms k) ∧ w' = W.drewN n) (fun _ v8 _ _ => xs.length - (intOf v8).toNat)
  case atStart => exact ⟨0, 0, by omega, rfl, rfl, rfl⟩
  case round =>
    obtain ⟨k, n, hk, rfl, rfl, rfl⟩ := hrel
    have s0 := (HS.out k hk).1
    have s1 := (HS.out k hk).2
    by_cases hlt : k < xs.length
    · obtain ⟨b, off, rfl, hbl, c1⟩ := h1 k hlt
      obtain ⟨b2, off2, rfl, hbl2, c2⟩ := h2 k (by rw [Hlen.out]; exact hlt)
      have hb := Hbd.out k hlt
      have i1 : (0 : Int) ≤ (k : Int) := by omega
      have i2 : (k : Int) < (xs.length : Int) := by omega
      have i3 : (k : Int) < (ms.length : Int) := by have := Hlen.out; omega
      have w1 : IntKind.i64.wrap (nth ms k * tot xs) = nth ms k * tot xs := IntWalk.i64_in _ (by omega)
      have w2 : IntKind.i64.wrap (tot ms * nth xs k) = tot ms * nth xs k := IntWalk.i64_in _ (by omega)
      have hd : nth ms k * tot xs - tot ms * nth xs k = offD xs ms k := rfl
      have w3 : IntKind.i64.wrap (nth ms k * tot xs - tot ms * nth xs k) = nth ms k * tot xs - tot ms * nth xs k := IntWalk.i64_in _ (by omega)
      have HN : Hid (offS xs ms (k + 1) = offS xs ms k + absI (offD xs ms k)) := hid rfl
      have HD := hid hd
      have x0 := hb.1.1
      have x1 := hb.1.2
      have x2 := hb.2.1
      have x3 := hb.2.2
      clear hb hd
      generalize offS xs ms k = S at *
      by_cases hneg : nth ms k * tot xs - tot ms * nth xs k < 0
      · have e1 : decide (nth ms k * tot xs - tot ms * nth xs k < 0) = true := decide_eq_true hneg
        have HE : Hid (absI (offD xs ms k) = -(nth ms k * tot xs - tot ms * nth xs k)) := hid (by rw [← HD.out]; unfold absI; rw [if_pos hneg])
        have y0 : 0 ≤ -(nth ms k * tot xs - tot ms * nth xs k) := by omega
        have y1 : -(nth ms k * tot xs - tot ms * nth xs k) ≤ 8000000000 := by omega
        go_wp2_with fail
        go_quiet (fail)
        go_wp2_with fail
        go_roundw
        case rel => exact ⟨k + 1, _, by omega, by go_num, by rw [HN.out, HE.out], rfl⟩
        case measure => simp [intOf]; omega
      · have e1 : decide (nth ms k * tot xs - tot ms * nth xs k < 0) = false := decide_eq_false hneg
        have HE : Hid (absI (offD xs ms k) = nth ms k * tot xs - tot ms * nth xs k) := hid (by rw [← HD.out]; unfold absI; rw [if_neg hneg])
        have y0 : 0 ≤ nth ms k * tot xs - tot ms * nth xs k := by omega
        have y1 : nth ms k * tot xs - tot ms * nth xs k ≤ 8000000000 := by omega
        go_wp2_with fail
        go_quiet (fail)
        go_wp2_with fail
        go_roundw
        case rel => exact ⟨k + 1, _, by omega, by go_num, by rw [HN.out, HE.out], rfl⟩
        case measure => simp [intOf]; omega
    · obtain rfl : k = xs.length := by omega
      go_wp2_with fail
      go_ret
      exact ⟨rfl, n, rfl⟩
set_option maxRecDepth 100000 in
set_option maxHeartbeats 2000000 in
theorem rError_any (xs ms : List Int) (a a2 : Option Addr) (cap cap2 : Nat) (W : World) (h1 : IntsAt W a xs) (h2 : IntsAt W a2 ms) (hm : xs.length ≤ 1000) (hm2 : ms.length ≤ maxLen) :
    Calls Try.prog 46 #[.slice a xs.length cap, .slice a2 ms.length cap2] W fun e w' => e = .returned (.tuple #[.agg #[.int .i64 (errN xs ms), .int .i64 (errD xs ms)], .int .i64 (havE xs ms 0)]) ∧ Below W.heap.size W w' := by
  have hbA : Below W.heap.size W (W.alloc (.cells #[.int .i64 0, .int .i64 0] 44)) := below_alloc _ _
  have h1A := h1.below hbA
  have h2A := h2.below hbA
  have Ha := hid (have_E xs ms a a2 cap cap2 0 (W.alloc (.cells #[.int .i64 0, .int .i64 0] 44)) h1A h2A hm hm2)
  by_cases hOK : HavOK xs ms 0
  · rw [havE_yes hOK] at Ha
    have R := hid (err_yes hOK)
    have HO := hid (off_any xs ms a a2 cap cap2 (W.alloc (.cells #[.int .i64 0, .int .i64 0] 44)) h1A h2A hm hm2 hOK)
    have ht := tot_ord hOK.1.1
    have HT := hid (fun w h => sum63 xs a cap w h hOK.1.1.small)
    have hS := offS_bd hOK.1.1 hOK.2 xs.length (Nat.le_refl _)
    have HoT : offT xs ms = offS xs ms xs.length := rfl
    rw [← HoT] at hS
    have Hf := hid (fun w => rFraction_any (offT xs ms) (tot xs) w hS.1 (by omega) ht.1 (by omega))
    clear hOK HoT hS
    generalize offT xs ms = S at *
    go_enter Try.func46, Try.ntmps46
    go_wp2_with fail
    refine Ha.out.mono ?_; rintro e w' ⟨rfl, rfl⟩
    go_wp2_with fail
    refine HO.out.mono ?_; rintro e w' ⟨rfl, n, rfl⟩
    go_wp2_with fail
    refine (HT.out ((W.alloc (.cells #[.int .i64 0, .int .i64 0] 44)).drewN n) (h1A.below (below_drewN (Below.refl _ _) n))).mono ?_; rintro e w' ⟨rfl, rfl⟩
    go_wp2_with fail
    refine (Hf.out ((W.alloc (.cells #[.int .i64 0, .int .i64 0] 44)).drewN n)).mono ?_; rintro e w2 ⟨rfl, hb2⟩
    have hb2' := undrewN3 hb2
    have hr := rat_cells W w2 hb2'
    have hbz := hbA.trans (hb2'.mono hbA.size)
    have q0 := hr.cell (i := 0) (by omega)
    have q1 := hr.cell (i := 1) (by omega)
    have f0 := hr.frozen 0
    have f1 := hr.frozen 1
    have s1 := (hr.set 0 (.int .i64 (frN S (tot xs)))).set 1 (.int .i64 (frD S (tot xs)))
    have o0 := s1.cell (i := 0) (by omega)
    have o1 := s1.cell (i := 1) (by omega)
    simp only [if_true, if_false, show (0 : Nat) ≠ 1 by omega, ite_true, ite_false] at o0 o1
    clear s1 hr
    clear hb2 hb2' Hf HT HO
    generalize frN S (tot xs) = N at *
    generalize frD S (tot xs) = D at *
    go_wp2_with fail
    refine bodyPost_ret (v := .tuple #[.agg #[.int .i64 N, .int .i64 D], .int .i64 0]) (by simp [results, Try.results46, go_sem, o0, o1]) rfl ⟨by rw [R.out.1, R.out.2.1, R.out.2.2], ?_⟩
    exact (hbz.setCell (p := ⟨W.heap.size, 0, none⟩) (Nat.le_refl _) _).setCell (p := ⟨W.heap.size, 1, none⟩) (Nat.le_refl _) _
  · rw [havE_no hOK] at Ha
    have R := hid (err_no hOK)
    clear hOK
    go_enter Try.func46, Try.ntmps46
    go_wp2_with fail
    refine Ha.out.mono ?_; rintro e w' ⟨rfl, rfl⟩
    go_wp2_with fail
    refine bodyPost_ret (v := .tuple #[.agg #[.int .i64 0, .int .i64 0], .int .i64 1]) (by simp [results, Try.results46, go_sem]) rfl ⟨by rw [R.out.1, R.out.2.1, R.out.2.2], ?_⟩
    first | exact hbA | exact (hbA.setCell (p := ⟨W.heap.size, 0, none⟩) (Nat.le_refl _) _).setCell (p := ⟨W.heap.size, 1, none⟩) (Nat.le_refl _) _
end Go.Proofs.Ythankdfjkmfokaa
