/- 'divides' and the document's: what they return. -/
import Derived.Test.YthankdfjkmfokaaFair
import Derived.Test.YthankdfjkmfokaaKeeps
namespace Go.Proofs.Ythankdfjkmfokaa
open Go.RowKit
set_option linter.unusedSimpArgs false
set_option linter.unusedVariables false

structure DvNext (kd : Int) (xs ms : List Int) (N D : Int) (i : Nat) : Prop where
  le : nth xs i * fac kd * D ≤ stp kd (nth ms i) * N
structure DvLast (kd : Int) (xs ms : List Int) (N D : Int) (i : Nat) : Prop where
  le : 0 < nth ms i → stp kd (nth ms i - 1) * N ≤ nth xs i * fac kd * D
structure DvAt (kd : Int) (xs ms : List Int) (N D : Int) (i : Nat) : Prop where
  next : DvNext kd xs ms N D i
  last : DvLast kd xs ms N D i
def DvOK (kd : Int) (xs ms : List Int) (N D : Int) : Prop := ∀ i, i < xs.length → DvAt kd xs ms N D i
open Classical in
noncomputable def dvB (kd : Int) (xs ms : List Int) (N D : Int) : Bool := decide (DvOK kd xs ms N D)
theorem dvB_yes {kd : Int} {xs ms : List Int} {N D : Int} (h : DvOK kd xs ms N D) : dvB kd xs ms N D = true := by simp [dvB, h]
theorem dvB_no {kd : Int} {xs ms : List Int} {N D : Int} (h : ¬ DvOK kd xs ms N D) : dvB kd xs ms N D = false := by simp [dvB, h]
theorem fac_bd (kd : Int) : 1 ≤ fac kd ∧ fac kd ≤ 2 := by unfold fac; split <;> omega
structure RatOK (N D : Int) : Prop where
  n0 : 0 ≤ N
  n1 : N ≤ 1000000000
  d0 : 0 ≤ D
  d1 : D ≤ 1000000000
theorem dv_left {kd v D : Int} (v0 : 1 ≤ v) (v1 : v ≤ 1000000) (d0 : 0 ≤ D) (d1 : D ≤ 1000000000) : (0 ≤ v * fac kd ∧ v * fac kd ≤ 2000000) ∧ (0 ≤ v * fac kd * D ∧ v * fac kd * D ≤ 2000000000000000) := by
  have f := fac_bd kd
  have h1 := mul_bds (show 0 ≤ v by omega) v1 (show 0 ≤ fac kd by omega) f.2
  exact ⟨h1, mul_bds h1.1 h1.2 d0 d1⟩
theorem dv_right {kd m N : Int} (m0 : 0 ≤ m) (m1 : m ≤ 1000) (n0 : 0 ≤ N) (n1 : N ≤ 1000000000) : 0 ≤ stp kd m * N ∧ stp kd m * N ≤ 2001000000000 := by
  have f := stp_bd (kd := kd) m0 m1
  exact mul_bds f.1 f.2 n0 n1

set_option maxRecDepth 100000 in
set_option maxHeartbeats 4000000 in
theorem rdivides_any (kd : Int) (xs ms : List Int) (N D : Int) (a a2 : Option Addr) (cap cap2 : Nat) (W : World) (h1 : IntsAt W a xs) (h2 : IntsAt W a2 ms) (ho : OrdOK xs) (hm : MealsOK xs ms) (hr : RatOK N D) :
    Calls Try.prog 78 #[.slice a xs.length cap, .slice a2 ms.length cap2, .int .i64 kd, .agg #[.int .i64 N, .int .i64 D]] W fun e w' => e = .returned (.bool (dvB kd xs ms N D)) ∧ Below W.heap.size W w' := by
  have hbA : Below W.heap.size W (W.alloc (.cells #[.int .i64 N, .int .i64 D] 44)) := below_alloc _ _
  have hIA := h1.below hbA
  have h2A := h2.below hbA
  have hl8 := ho.l8
  have Hlen := hid hm.len
  have Hel := hid hm.el
  have Hoel := hid ho.el
  clear hm ho h1 h2
  by_cases hk : kd = 1
  · have hkb : (kd == 1) = true := by simp [hk]
    have fk : fac kd = 2 := by unfold fac; rw [if_pos hk]
    clear hk
    go_enter Try.func78, Try.ntmps78
    go_wp2_with fail
    go_loopw [10, 11] (fun v10 v11 w' => ∃ i n : Nat, i ≤ xs.length ∧ v10 = .int .i64 i ∧ (∀ i', i' < i → DvAt kd xs ms N D i') ∧ w' = (W.alloc (.cells #[.int .i64 N, .int .i64 D] 44)).drewN n) (fun v10 _ _ => xs.length - (intOf v10).toNat)
    case atStart => exact ⟨0, 0, by omega, rfl, fun i hi => absurd hi (Nat.not_lt_zero i), rfl⟩
    case round =>
      obtain ⟨i, n, hi, rfl, hF, rfl⟩ := hrel
      have HF := hid hF
      clear hF
      by_cases hlt : i < xs.length
      · obtain ⟨b, off, rfl, hbl, c1⟩ := hIA i hlt
        obtain ⟨b2, off2, rfl, hbl2, d1⟩ := h2A i (by rw [Hlen.out]; exact hlt)
        have o1 := Hoel.out i hlt
        have m1 := Hel.out i (by rw [Hlen.out]; exact hlt)
        have i1 : (0 : Int) ≤ (i : Int) := by omega
        have i2 : (i : Int) < (xs.length : Int) := by omega
        have i3 : (i : Int) < (ms.length : Int) := by have := Hlen.out; omega
        have L := dv_left (kd := kd) (v := nth xs i) (D := D) o1.1 o1.2 hr.d0 hr.d1
        have Rn := dv_right (kd := kd) (m := nth ms i) (N := N) m1.1 m1.2 hr.n0 hr.n1
        have Nx := hid (fun (x : nth xs i * fac kd * D ≤ stp kd (nth ms i) * N) => DvNext.mk (kd := kd) (xs := xs) (ms := ms) (N := N) (D := D) (i := i) x)
        have Nn := hid (fun (h : DvOK kd xs ms N D) => (h i hlt).next.le)
        have Nl := hid (fun (h : DvOK kd xs ms N D) => (h i hlt).last.le)
        have S1 : Hid (∀ k, k = nth ms i ∨ (0 < nth ms i ∧ k = nth ms i - 1) → ∀ w, Calls Try.prog 77 #[.int .i64 kd, .int .i64 k] w fun e w' => e = .returned (.int .i64 (stp kd k)) ∧ w = w') := hid (fun k h w => rstep_any kd k w (by omega) (by omega))
        rw [fk] at L Nx Nn Nl
        have La := hid (fun (x : 0 < nth ms i → stp kd (nth ms i - 1) * N ≤ nth xs i * fac kd * D) => DvLast.mk (kd := kd) (xs := xs) (ms := ms) (N := N) (D := D) (i := i) x)
        rw [fk] at La
        have w1 : IntKind.i64.wrap (nth xs i * 2) = nth xs i * 2 := IntWalk.i64_in _ (by omega)
        have w2 : IntKind.i64.wrap (nth xs i * 2 * D) = nth xs i * 2 * D := IntWalk.i64_in _ (by omega)
        have w3 : IntKind.i64.wrap (stp kd (nth ms i) * N) = stp kd (nth ms i) * N := IntWalk.i64_in _ (by omega)
        have w4 : IntKind.i64.wrap (nth ms i - 1) = nth ms i - 1 := IntWalk.i64_in _ (by omega)
        by_cases hp : 0 < nth ms i
        · have hpd : decide (0 < nth ms i) = true := decide_eq_true hp
          have Rl := dv_right (kd := kd) (m := nth ms i - 1) (N := N) (by omega) (by omega) hr.n0 hr.n1
          have HP := hid hp
          have w5 : IntKind.i64.wrap (stp kd (nth ms i - 1) * N) = stp kd (nth ms i - 1) * N := IntWalk.i64_in _ (by omega)
          by_cases hz : nth xs i * 2 * D < stp kd (nth ms i - 1) * N
          · have hzd : decide (nth xs i * 2 * D < stp kd (nth ms i - 1) * N) = true := decide_eq_true hz
            have R := hid (dvB_no fun h => by have := Nl.out h hp; omega)
            clear hz L Rn Rl o1 m1
            go_wp2_with fail
            go_quiet (fail)
            go_wp2_with fail
            go_quiet ((go_at_call 77; exact quiet_two (S1.out _ (.inr ⟨HP.out, rfl⟩) _)))
            go_wp2_with fail
            go_ret
            rw [R.out]
            exact ⟨rfl, below_drewN (below_drewN (below_drewN hbA _) _) _⟩
          · have hzd : decide (nth xs i * 2 * D < stp kd (nth ms i - 1) * N) = false := decide_eq_false hz
            by_cases hy : stp kd (nth ms i) * N < nth xs i * 2 * D
            · have hyd : decide (stp kd (nth ms i) * N < nth xs i * 2 * D) = true := decide_eq_true hy
              have R := hid (dvB_no fun h => by have := Nn.out h; omega)
              clear hz hy L Rn Rl o1 m1
              go_wp2_with fail
              go_quiet (fail)
              go_wp2_with fail
              go_quiet ((go_at_call 77; exact quiet_two (S1.out _ (by first | exact .inl rfl | exact .inr ⟨HP.out, rfl⟩) _)))
              go_wp2_with fail
              go_ret
              rw [R.out]
              exact ⟨rfl, below_drewN (below_drewN (below_drewN hbA _) _) _⟩
            · have hyd : decide (stp kd (nth ms i) * N < nth xs i * 2 * D) = false := decide_eq_false hy
              have HN : Hid (DvAt kd xs ms N D i) := hid ⟨Nx.out (by omega), La.out fun _ => by omega⟩
              clear hz hy L Rn Rl o1 m1
              go_wp2_with fail
              go_quiet (fail)
              go_wp2_with fail
              go_quiet ((go_at_call 77; exact quiet_two (S1.out _ (by first | exact .inl rfl | exact .inr ⟨HP.out, rfl⟩) _)))
              go_wp2_with fail
              go_roundw
              case rel => exact ⟨i + 1, _, by omega, by go_num, fair_more HF.out HN.out, by first | rfl | (rw [World.drewN_drewN]; rfl) | (rw [World.drewN_drewN, World.drewN_drewN])⟩
              case measure => simp [intOf]; omega
        · have hpd : decide (0 < nth ms i) = false := decide_eq_false hp
          by_cases hy : stp kd (nth ms i) * N < nth xs i * 2 * D
          · have hyd : decide (stp kd (nth ms i) * N < nth xs i * 2 * D) = true := decide_eq_true hy
            have R := hid (dvB_no fun h => by have := Nn.out h; omega)
            clear hy L Rn o1 m1
            go_wp2_with fail
            go_quiet (fail)
            go_wp2_with fail
            go_quiet ((go_at_call 77; exact quiet_two (S1.out _ (.inl rfl) _)))
            go_wp2_with fail
            go_ret
            rw [R.out]
            exact ⟨rfl, below_drewN (below_drewN (below_drewN hbA _) _) _⟩
          · have hyd : decide (stp kd (nth ms i) * N < nth xs i * 2 * D) = false := decide_eq_false hy
            have HN : Hid (DvAt kd xs ms N D i) := hid ⟨Nx.out (by omega), La.out fun h => absurd h hp⟩
            clear hy L Rn o1 m1
            go_wp2_with fail
            go_quiet (fail)
            go_wp2_with fail
            go_quiet ((go_at_call 77; exact quiet_two (S1.out _ (.inl rfl) _)))
            go_wp2_with fail
            go_roundw
            case rel => exact ⟨i + 1, _, by omega, by go_num, fair_more HF.out HN.out, by first | rfl | (rw [World.drewN_drewN]; rfl) | (rw [World.drewN_drewN, World.drewN_drewN])⟩
            case measure => simp [intOf]; omega
      · obtain rfl : i = xs.length := by omega
        have R := hid (dvB_yes HF.out)
        go_wp2_with fail
        go_ret
        rw [R.out]
        exact ⟨rfl, below_drewN hbA _⟩
  · have hkb : (kd == 1) = false := by simp [hk]
    have fk : fac kd = 1 := by unfold fac; rw [if_neg hk]
    clear hk
    go_enter Try.func78, Try.ntmps78
    go_wp2_with fail
    go_loopw [10, 11] (fun v10 v11 w' => ∃ i n : Nat, i ≤ xs.length ∧ v10 = .int .i64 i ∧ (∀ i', i' < i → DvAt kd xs ms N D i') ∧ w' = (W.alloc (.cells #[.int .i64 N, .int .i64 D] 44)).drewN n) (fun v10 _ _ => xs.length - (intOf v10).toNat)
    case atStart => exact ⟨0, 0, by omega, rfl, fun i hi => absurd hi (Nat.not_lt_zero i), rfl⟩
    case round =>
      obtain ⟨i, n, hi, rfl, hF, rfl⟩ := hrel
      have HF := hid hF
      clear hF
      by_cases hlt : i < xs.length
      · obtain ⟨b, off, rfl, hbl, c1⟩ := hIA i hlt
        obtain ⟨b2, off2, rfl, hbl2, d1⟩ := h2A i (by rw [Hlen.out]; exact hlt)
        have o1 := Hoel.out i hlt
        have m1 := Hel.out i (by rw [Hlen.out]; exact hlt)
        have i1 : (0 : Int) ≤ (i : Int) := by omega
        have i2 : (i : Int) < (xs.length : Int) := by omega
        have i3 : (i : Int) < (ms.length : Int) := by have := Hlen.out; omega
        have L := dv_left (kd := kd) (v := nth xs i) (D := D) o1.1 o1.2 hr.d0 hr.d1
        have Rn := dv_right (kd := kd) (m := nth ms i) (N := N) m1.1 m1.2 hr.n0 hr.n1
        have Nx := hid (fun (x : nth xs i * fac kd * D ≤ stp kd (nth ms i) * N) => DvNext.mk (kd := kd) (xs := xs) (ms := ms) (N := N) (D := D) (i := i) x)
        have Nn := hid (fun (h : DvOK kd xs ms N D) => (h i hlt).next.le)
        have Nl := hid (fun (h : DvOK kd xs ms N D) => (h i hlt).last.le)
        have S1 : Hid (∀ k, k = nth ms i ∨ (0 < nth ms i ∧ k = nth ms i - 1) → ∀ w, Calls Try.prog 77 #[.int .i64 kd, .int .i64 k] w fun e w' => e = .returned (.int .i64 (stp kd k)) ∧ w = w') := hid (fun k h w => rstep_any kd k w (by omega) (by omega))
        rw [fk] at L Nx Nn Nl
        have La := hid (fun (x : 0 < nth ms i → stp kd (nth ms i - 1) * N ≤ nth xs i * fac kd * D) => DvLast.mk (kd := kd) (xs := xs) (ms := ms) (N := N) (D := D) (i := i) x)
        rw [fk] at La
        simp only [Int.mul_one] at L Nx Nn Nl La
        have w1 : IntKind.i64.wrap (nth xs i) = nth xs i := IntWalk.i64_in _ (by omega)
        have w2 : IntKind.i64.wrap (nth xs i * D) = nth xs i * D := IntWalk.i64_in _ (by omega)
        have w3 : IntKind.i64.wrap (stp kd (nth ms i) * N) = stp kd (nth ms i) * N := IntWalk.i64_in _ (by omega)
        have w4 : IntKind.i64.wrap (nth ms i - 1) = nth ms i - 1 := IntWalk.i64_in _ (by omega)
        by_cases hp : 0 < nth ms i
        · have hpd : decide (0 < nth ms i) = true := decide_eq_true hp
          have Rl := dv_right (kd := kd) (m := nth ms i - 1) (N := N) (by omega) (by omega) hr.n0 hr.n1
          have HP := hid hp
          have w5 : IntKind.i64.wrap (stp kd (nth ms i - 1) * N) = stp kd (nth ms i - 1) * N := IntWalk.i64_in _ (by omega)
          by_cases hz : nth xs i * D < stp kd (nth ms i - 1) * N
          · have hzd : decide (nth xs i * D < stp kd (nth ms i - 1) * N) = true := decide_eq_true hz
            have R := hid (dvB_no fun h => by have := Nl.out h hp; omega)
            clear hz L Rn Rl o1 m1
            go_wp2_with fail
            go_quiet (fail)
            go_wp2_with fail
            go_quiet ((go_at_call 77; exact quiet_two (S1.out _ (.inr ⟨HP.out, rfl⟩) _)))
            go_wp2_with fail
            go_ret
            rw [R.out]
            exact ⟨rfl, below_drewN (below_drewN (below_drewN hbA _) _) _⟩
          · have hzd : decide (nth xs i * D < stp kd (nth ms i - 1) * N) = false := decide_eq_false hz
            by_cases hy : stp kd (nth ms i) * N < nth xs i * D
            · have hyd : decide (stp kd (nth ms i) * N < nth xs i * D) = true := decide_eq_true hy
              have R := hid (dvB_no fun h => by have := Nn.out h; omega)
              clear hz hy L Rn Rl o1 m1
              go_wp2_with fail
              go_quiet (fail)
              go_wp2_with fail
              go_quiet ((go_at_call 77; exact quiet_two (S1.out _ (by first | exact .inl rfl | exact .inr ⟨HP.out, rfl⟩) _)))
              go_wp2_with fail
              go_ret
              rw [R.out]
              exact ⟨rfl, below_drewN (below_drewN (below_drewN hbA _) _) _⟩
            · have hyd : decide (stp kd (nth ms i) * N < nth xs i * D) = false := decide_eq_false hy
              have HN : Hid (DvAt kd xs ms N D i) := hid ⟨Nx.out (by omega), La.out fun _ => by omega⟩
              clear hz hy L Rn Rl o1 m1
              go_wp2_with fail
              go_quiet (fail)
              go_wp2_with fail
              go_quiet ((go_at_call 77; exact quiet_two (S1.out _ (by first | exact .inl rfl | exact .inr ⟨HP.out, rfl⟩) _)))
              go_wp2_with fail
              go_roundw
              case rel => exact ⟨i + 1, _, by omega, by go_num, fair_more HF.out HN.out, by first | rfl | (rw [World.drewN_drewN]; rfl) | (rw [World.drewN_drewN, World.drewN_drewN])⟩
              case measure => simp [intOf]; omega
        · have hpd : decide (0 < nth ms i) = false := decide_eq_false hp
          by_cases hy : stp kd (nth ms i) * N < nth xs i * D
          · have hyd : decide (stp kd (nth ms i) * N < nth xs i * D) = true := decide_eq_true hy
            have R := hid (dvB_no fun h => by have := Nn.out h; omega)
            clear hy L Rn o1 m1
            go_wp2_with fail
            go_quiet (fail)
            go_wp2_with fail
            go_quiet ((go_at_call 77; exact quiet_two (S1.out _ (.inl rfl) _)))
            go_wp2_with fail
            go_ret
            rw [R.out]
            exact ⟨rfl, below_drewN (below_drewN (below_drewN hbA _) _) _⟩
          · have hyd : decide (stp kd (nth ms i) * N < nth xs i * D) = false := decide_eq_false hy
            have HN : Hid (DvAt kd xs ms N D i) := hid ⟨Nx.out (by omega), La.out fun h => absurd h hp⟩
            clear hy L Rn o1 m1
            go_wp2_with fail
            go_quiet (fail)
            go_wp2_with fail
            go_quiet ((go_at_call 77; exact quiet_two (S1.out _ (.inl rfl) _)))
            go_wp2_with fail
            go_roundw
            case rel => exact ⟨i + 1, _, by omega, by go_num, fair_more HF.out HN.out, by first | rfl | (rw [World.drewN_drewN]; rfl) | (rw [World.drewN_drewN, World.drewN_drewN])⟩
            case measure => simp [intOf]; omega
      · obtain rfl : i = xs.length := by omega
        have R := hid (dvB_yes HF.out)
        go_wp2_with fail
        go_ret
        rw [R.out]
        exact ⟨rfl, below_drewN hbA _⟩
end Go.Proofs.Ythankdfjkmfokaa
