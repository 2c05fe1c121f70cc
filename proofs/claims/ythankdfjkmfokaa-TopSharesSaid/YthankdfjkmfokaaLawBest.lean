/- 'ShareBest' returns true: the walk. -/
import Derived.Test.YthankdfjkmfokaaKnown
import Derived.Test.YthankdfjkmfokaaBest
import Derived.Test.YthankdfjkmfokaaBestLaw
import Derived.Test.YthankdfjkmfokaaPCheck
import Derived.Test.YthankdfjkmfokaaLawDivides
namespace Go.Proofs.Ythankdfjkmfokaa
open Go.RowKit
set_option linter.unusedSimpArgs false
set_option linter.unusedVariables false
theorem quiet_draw {P : Program} {f : FuncId} {args : Array Value} {w : World} {a n : Nat} {v : Value}
    (h : Calls P f args (w.drewN (a + n)) fun e w' => e = .returned v ∧ ∃ m, w' = (w.drewN (a + n)).drewN m) :
    Calls P f args (w.drewN (a + n)) fun e w'' => e = .returned v ∧ ∃ m, w'' = w.drewN (a + m) :=
  h.mono fun _ _ ⟨he, m, hm⟩ => ⟨he, n + m, by rw [hm, World.drewN_drewN, Nat.add_assoc]⟩
theorem SameInts_quiet (xs : List Int) (a a2 : Option Addr) (cap cap2 : Nat) (W : World) (h1 : IntsAt W a xs) (h2 : IntsAt W a2 xs) (hm : xs.length ≤ maxLen) :
    Calls Try.prog 25 #[.slice a xs.length cap, .slice a2 xs.length cap2] W fun e w' => e = .returned (.bool true) ∧ ∃ n, w' = W.drewN n := by
  unfold maxLen at hm
  go_enter Try.func25, Try.ntmps25
  go_wp2
  go_loopw [5] (fun v5 w' => ∃ k n : Nat, k ≤ xs.length ∧ v5 = .int .i64 k ∧ w' = W.drewN n) (fun v5 _ => xs.length - (intOf v5).toNat)
  case atStart => exact ⟨0, 0, by omega, rfl, rfl⟩
  case round =>
    obtain ⟨k, n, hk, rfl, rfl⟩ := hrel
    by_cases hlt : k < xs.length
    · obtain ⟨b, off, rfl, hbl, c1⟩ := h1 k hlt
      obtain ⟨b', off', rfl, hbl', c2⟩ := h2 k hlt
      have hself : (nth xs k != nth xs k) = false := by simp
      have hself2 : (nth xs k == nth xs k) = true := by simp
      go_wp2
      go_quiet (fail)
      go_wp2
      go_roundw
      case rel => exact ⟨k + 1, _, by omega, by go_num, rfl⟩
      case measure => simp [intOf]; omega
    · have hk' : k = xs.length := by omega
      subst hk'
      go_wp2
      go_ret
      exact ⟨rfl, n, rfl⟩
theorem total26_some (xs : List Int) (a : Option Addr) (cap : Nat) (W : World) (hI : IntsAt W a xs) (hm : xs.length ≤ 1000) :
    Calls Try.prog 26 #[.slice a xs.length cap] W fun e w' => (∃ s, e = .returned (.int .i64 s)) ∧ W = w' := by
  go_enter Try.func26, Try.ntmps26
  go_wp2
  go_loop [3, 4] (fun v3 v4 => ∃ (k : Nat) (s : Int), k ≤ xs.length ∧ v3 = .int .i64 s ∧ v4 = .int .i64 k) (fun _ v4 => xs.length - (intOf v4).toNat)
  case atStart => exact ⟨0, 0, by omega, rfl, rfl⟩
  case round =>
    obtain ⟨k, s, hk, rfl, rfl⟩ := hrel
    by_cases hlt : k < xs.length
    · obtain ⟨b, off, rfl, hbl, c1⟩ := hI k hlt
      go_wp2
      go_round
      case rel => exact ⟨k + 1, _, by omega, rfl, by go_num⟩
      case measure => simp [intOf]; omega
    · obtain rfl : k = xs.length := by omega
      go_wp2
      go_ret
      exact ⟨⟨s, rfl⟩, rfl⟩
theorem up_all {xs ms : List Int} (ho : OrdOK xs) (hm : MealsOK xs ms) (hf : FairOK 2 xs ms) (i : Nat) (hi : i < xs.length) (hn : 0 ≤ tot ms) : (nth ms i - 1) * tot xs < tot ms * nth xs i := by
  by_cases hp : 0 < nth ms i
  · exact up_keeps ho hm hf i hi hp
  · have mi := hm.el i (by rw [hm.len]; exact hi)
    have e : nth ms i = 0 := by omega
    have t1 := (tot_ord ho).1
    have oi := ho.el i hi
    have := Int.mul_nonneg hn (show 0 ≤ nth xs i by omega)
    rw [e]
    omega
theorem row3_new (w : World) (x y z : Value) (f : Nat → Value) (h0 : f 0 = x) (h1 : f 1 = y) (h2 : f 2 = z) : (w.alloc (.cells #[x, y, z] 34)).rowIs w.heap.size 34 3 f := by
  refine World.rowIs_alloc w #[x, y, z] 34 _ fun i hi => ?_
  have : i = 0 ∨ i = 1 ∨ i = 2 := by simp at hi; omega
  rcases this with rfl | rfl | rfl
  · simp [h0]
  · simp [h1]
  · simp [h2]
structure BestFacts (xs : List Int) (n : Int) (i : Nat) : Prop where
  d0 : 0 ≤ nth (divR xs 0 n) i
  d1 : nth (divR xs 0 n) i ≤ 1000
  u0 : 0 ≤ nth (divR xs 2 n) i
  u1 : nth (divR xs 2 n) i ≤ 1000
  dl : n * nth xs i / tot xs ≤ nth (divR xs 0 n) i
  ul : (nth (divR xs 2 n) i - 1) * tot xs < n * nth xs i
theorem best_facts {xs : List Int} {n : Int} (h : DivOK xs 0 n) (i : Nat) (hi : i < xs.length) : BestFacts xs n i := by
  have ho := h.1.1
  have h2 := best_kind h (show 2 < 3 by omega)
  have n1 := num_nat h.2
  have m0 := giv_ok (kd := 0) ho n.toNat n1.2
  have m2 := giv_ok (kd := 2) ho n.toNat n1.2
  have f0 := sf_fair (giv_fair 0 ho n.toNat)
  have f2 := sf_fair (giv_fair 2 ho n.toNat)
  have t0 := giv_tot (kd := 0) ho.l1 n.toNat
  have t2 := giv_tot (kd := 2) ho.l1 n.toNat
  have k0 := down_keeps ho m0 f0 i hi
  have k2 := up_all ho m2 f2 i hi (by rw [t2]; omega)
  rw [t0, ← n1.1] at k0
  rw [t2, ← n1.1] at k2
  have e0 := m0.el i (by rw [m0.len]; exact hi)
  have e2 := m2.el i (by rw [m2.len]; exact hi)
  have d2 : divR xs 2 n = giv 2 xs n.toNat := divR_yes h2
  exact ⟨by rw [divR_yes h]; exact e0.1, by rw [divR_yes h]; exact e0.2, by rw [d2]; exact e2.1, by rw [d2]; exact e2.2, by rw [divR_yes h]; exact k0, by rw [d2]; exact k2⟩

set_option maxRecDepth 100000 in
set_option maxHeartbeats 4000000 in
theorem lawBest (W : World) (a : Option Addr) (xs : List Int) (cap : Nat) (hI : IntsAt W a xs) (hm : xs.length ≤ maxLen) (_hw : ∀ i, i < xs.length → (Lit.int .i64 (nth xs i)).wf = true)
    (n : Int) (_wn : (Lit.int .i64 n).wf = true) :
    Calls Try.prog 4 #[.slice a xs.length cap, .int .i64 n] W fun e w' => e = .returned (.bool true) ∧ Below W.heap.size W w' := by
  clear _hw _wn
  have HL := hid (fun W => Long_any xs a cap W hm)
  by_cases h60 : 60 < xs.length
  · rw [decide_eq_true h60] at HL
    go_enter Try.func4, Try.ntmps4
    go_wp2_with fail
    refine (HL.out _).mono ?_; rintro e w1 ⟨rfl, rfl⟩
    go_wp2_with fail
    refine (known_true _).mono ?_; rintro e w' ⟨rfl, hb⟩
    go_wp2_with fail
    go_ret
    exact ⟨rfl, hb⟩
  · rw [decide_eq_false h60] at HL
    have hx1 : xs.length ≤ 1000 := by omega
    go_enter Try.func4, Try.ntmps4
    go_wp2_with fail
    refine (HL.out _).mono ?_; rintro e w1 ⟨rfl, rfl⟩
    go_wp2_with fail
    refine (Best_any xs a cap n _ hI hm).mono ?_; rintro e w1 ⟨A, C, rfl, hA, hb1⟩
    have hbA := hb1.alloc hb1.size (.cells #[.slice (A 0) (divR xs 0 n).length (C 0), .slice (A 1) (divR xs 1 n).length (C 1), .slice (A 2) (divR xs 2 n).length (C 2)] 34)
    have r5 := row3_new w1 (.slice (A 0) (divR xs 0 n).length (C 0)) (.slice (A 1) (divR xs 1 n).length (C 1)) (.slice (A 2) (divR xs 2 n).length (C 2)) (bestF xs n A C 3) (bestF_in (by omega)) (bestF_in (by omega)) (bestF_in (by omega))
    have hA1 : AllBest (w1.alloc (.cells #[.slice (A 0) (divR xs 0 n).length (C 0), .slice (A 1) (divR xs 1 n).length (C 1), .slice (A 2) (divR xs 2 n).length (C 2)] 34)) xs n A 3 := fun j hj => (hA j hj).below (below_alloc _ _)
    go_wp2_with fail
    refine (rBest_any xs a cap n _ (hI.below hbA) hm).mono ?_; rintro e w2 ⟨A2, C2, rfl, hA2, hb2⟩
    have r5' := r5.of_block (hb2.block _ r5.lt)
    have hbz := hbA.trans (hb2.mono hbA.size)
    have hbV := hbz.alloc hbz.size (.cells #[.slice (A2 0) (divR xs 0 n).length (C2 0), .slice (A2 1) (divR xs 1 n).length (C2 1), .slice (A2 2) (divR xs 2 n).length (C2 2)] 34)
    have r7 := row3_new w2 (.slice (A2 0) (divR xs 0 n).length (C2 0)) (.slice (A2 1) (divR xs 1 n).length (C2 1)) (.slice (A2 2) (divR xs 2 n).length (C2 2)) (bestF xs n A2 C2 3) (bestF_in (by omega)) (bestF_in (by omega)) (bestF_in (by omega))
    have r5V := r5'.alloc (.cells #[.slice (A2 0) (divR xs 0 n).length (C2 0), .slice (A2 1) (divR xs 1 n).length (C2 1), .slice (A2 2) (divR xs 2 n).length (C2 2)] 34)
    have hAV : AllBest (w2.alloc (.cells #[.slice (A2 0) (divR xs 0 n).length (C2 0), .slice (A2 1) (divR xs 1 n).length (C2 1), .slice (A2 2) (divR xs 2 n).length (C2 2)] 34)) xs n A 3 := fun j hj => ((hA1 j hj).below hb2).below (below_alloc _ _)
    have hA2V : AllBest (w2.alloc (.cells #[.slice (A2 0) (divR xs 0 n).length (C2 0), .slice (A2 1) (divR xs 1 n).length (C2 1), .slice (A2 2) (divR xs 2 n).length (C2 2)] 34)) xs n A2 3 := fun j hj => (hA2 j hj).below (below_alloc _ _)
    have hIV := hI.below hbV
    clear r5 r5' hA hA1 hA2 hb1 hb2 hbA hbz HL
    have Hmax := hid (fun k => divR_max xs k n)
    go_wp2_with fail
    generalize hV : w2.alloc (.cells #[.slice (A2 0) (divR xs 0 n).length (C2 0), .slice (A2 1) (divR xs 1 n).length (C2 1), .slice (A2 2) (divR xs 2 n).length (C2 2)] 34) = V at *
    clear hV
    generalize w1.heap.size = H5 at *
    generalize w2.heap.size = H7 at *
    go_loopw [9] (fun v9 w' => ∃ k m : Nat, k ≤ 3 ∧ v9 = .int .i64 k ∧ w' = V.drewN m) (fun v9 _ => 3 - (intOf v9).toNat)
    case atStart => exact ⟨0, 0, by omega, rfl, rfl⟩
    case round =>
      obtain ⟨k, m, hk, rfl, rfl⟩ := hrel
      by_cases hlt : k < 3
      · have i1 : (0 : Int) ≤ (k : Int) := by omega
        have i2 : (k : Int) < 3 := by omega
        have c5 := r5V.cell hlt
        have c7 := r7.cell hlt
        rw [bestF_in hlt] at c5 c7
        have HS := hid (fun w h h' => SameInts_quiet (divR xs k n) (A k) (A2 k) (C k) (C2 k) w h h' (Hmax.out k))
        have h1 := hAV k hlt
        have h2 := hA2V k hlt
        have HI := hid (And.intro h1 h2)
        clear h1 h2
        generalize divR xs k n = D at *
        go_wp2_with fail
        go_quiet ((go_at_call 25; exact quiet_draw (HS.out _ (HI.out.1.below (below_drewN (Below.refl _ _) _)) (HI.out.2.below (below_drewN (Below.refl _ _) _)))))
        go_wp2_with fail
        go_roundw
        case rel => exact ⟨k + 1, _, by omega, by go_num, rfl⟩
        case measure => simp [intOf]; omega
      · obtain rfl : k = 3 := by omega
        by_cases hOK : DivOK xs 0 n
        · have HF := hid (fun i hi => best_facts hOK i hi)
          have E := (num_nat hOK.2)
          have hl0 : (divR xs 0 n).length = xs.length := by rw [divR_yes hOK, giv_len]
          have d0 := r5V.cell (i := 0) (by omega)
          have d2 := r5V.cell (i := 2) (by omega)
          rw [bestF_in (by omega)] at d0 d2
          change _ = some (Value.slice (A 0) (divR xs 0 n).length (C 0)) at d0
          change _ = some (Value.slice (A 2) (divR xs 2 n).length (C 2)) at d2
          have hl2 : (divR xs 2 n).length = xs.length := by
            have d2 : divR xs 2 n = giv 2 xs n.toNat := divR_yes (best_kind hOK (show 2 < 3 by omega))
            rw [d2, giv_len]
          rw [hl0] at d0
          rw [hl2] at d2
          have HA0 : Hid (∀ i, i < xs.length → ∃ b off, A 0 = some ⟨b, off, none⟩ ∧ V.cell? ⟨b, off + i, none⟩ = some (.int .i64 (nth (divR xs 0 n) i))) := hid fun i hi => by
            obtain ⟨b, off, e, _, c⟩ := hAV 0 (by omega) i (by rw [show ((0 : Nat) : Int) = 0 from rfl, hl0]; exact hi)
            exact ⟨b, off, e, c⟩
          have HA2 : Hid (∀ i, i < xs.length → ∃ b off, A 2 = some ⟨b, off, none⟩ ∧ V.cell? ⟨b, off + i, none⟩ = some (.int .i64 (nth (divR xs 2 n) i))) := hid fun i hi => by
            obtain ⟨b, off, e, _, c⟩ := hAV 2 (by omega) i (by rw [show ((2 : Nat) : Int) = 2 from rfl, hl2]; exact hi)
            exact ⟨b, off, e, c⟩
          have ho := hOK.1.1
          have HO := hid ho.el
          have ht := tot_ord ho
          have HT := hid (total26 xs a cap (V.drewN m) (hIV.below (below_drewN (Below.refl _ _) m)) ho.small)
          have hn0 := hOK.2.1
          have hn1 := hOK.2.2
          have hl8 := ho.l8
          clear hOK E hl0 hl2 r5V r7 hAV hA2V ho Hmax
          go_wp2_with fail
          refine HT.out.mono ?_; rintro e w' ⟨rfl, rfl⟩
          clear HT
          go_wp2_with fail
          go_loopw [11] (fun v11 w' => ∃ i k : Nat, i ≤ xs.length ∧ v11 = .int .i64 i ∧ w' = V.drewN k) (fun v11 _ => xs.length - (intOf v11).toNat)
          case atStart => exact ⟨0, m, by omega, rfl, rfl⟩
          case round =>
            obtain ⟨i, k, hi, rfl, rfl⟩ := hrel
            by_cases hlt2 : i < xs.length
            · have i1 : (0 : Int) ≤ (i : Int) := by omega
              have i2 : (i : Int) < (xs.length : Int) := by omega
              obtain ⟨b, off, e0, c0⟩ := HA0.out i hlt2
              obtain ⟨b2, off2, e2, c2⟩ := HA2.out i hlt2
              obtain ⟨b3, off3, e3, _, c3⟩ := hIV i hlt2
              rw [e0] at d0
              rw [e2] at d2
              subst e3
              have o1 := HO.out i hlt2
              have F := HF.out i hlt2
              have p1 := mul_bds hn0 hn1 (show 0 ≤ nth xs i by omega) o1.2
              have F1 := F.d0
              have F2 := F.d1
              have F3 := F.u0
              have F4 := F.u1
              have L1 : decide (nth (divR xs 0 n) i < n * nth xs i / tot xs) = false := decide_eq_false (by have := F.dl; omega)
              have L2 : decide (n * nth xs i ≤ (nth (divR xs 2 n) i - 1) * tot xs) = false := decide_eq_false (by have := F.ul; omega)
              clear F
              have w1 : IntKind.i64.wrap (n * nth xs i) = n * nth xs i := IntWalk.i64_in _ (by omega)
              have w2 : IntKind.i64.wrap (nth (divR xs 2 n) i - 1) = nth (divR xs 2 n) i - 1 := IntWalk.i64_in _ (by omega)
              have p2 := mul_bds (show 0 ≤ nth (divR xs 2 n) i by omega) F4 (show 0 ≤ tot xs by omega) ht.2
              have e5 : (nth (divR xs 2 n) i - 1) * tot xs = nth (divR xs 2 n) i * tot xs - tot xs := by rw [Int.sub_mul, Int.one_mul]
              have w3 : IntKind.i64.wrap ((nth (divR xs 2 n) i - 1) * tot xs) = (nth (divR xs 2 n) i - 1) * tot xs := IntWalk.i64_in _ (by omega)
              clear e5 p2
              generalize nth (divR xs 0 n) i = D at *
              generalize nth (divR xs 2 n) i = U at *
              generalize nth xs i = X at *
              go_wp2_with fail
              go_quiet (fail)
              go_wp2_with fail
              go_roundw
              case rel => exact ⟨i + 1, _, by omega, by go_num, rfl⟩
              case measure => simp [intOf]; omega
            · obtain rfl : i = xs.length := by omega
              go_wp2_with fail
              refine (known_true _).mono ?_; rintro e w' ⟨rfl, hb⟩
              go_wp2_with fail
              go_ret
              exact ⟨rfl, hbV.trans ((undrewN3 hb).mono hbV.size)⟩
        · have hno := divR_no hOK
          have d0 := r5V.cell (i := 0) (by omega)
          rw [bestF_in (by omega)] at d0
          change _ = some (Value.slice (A 0) (divR xs 0 n).length (C 0)) at d0
          rw [hno] at d0
          have HT := hid (total26_some xs a cap (V.drewN m) (hIV.below (below_drewN (Below.refl _ _) m)) hx1)
          clear hno hOK r5V r7 hAV hA2V Hmax
          go_wp2_with fail
          refine HT.out.mono ?_; rintro e w' ⟨⟨s, rfl⟩, rfl⟩
          clear HT
          go_wp2_with fail
          refine wp_loop_rounds 1 ?_
          rw [rounds_succ]
          go_wp2_with fail
          refine (known_true _).mono ?_; rintro e w' ⟨rfl, hb⟩
          go_wp2_with fail
          go_ret
          exact ⟨rfl, hbV.trans ((undrewN3 hb).mono hbV.size)⟩
end Go.Proofs.Ythankdfjkmfokaa
