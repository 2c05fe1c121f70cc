/- The document's 'Check': what it returns. -/
import Derived.Test.YthankdfjkmfokaaDvp
import Derived.Test.YthankdfjkmfokaaGcd
namespace Go.Proofs.Ythankdfjkmfokaa
open Go.RowKit
set_option linter.unusedSimpArgs false
set_option linter.unusedVariables false

structure LowOK (N D : Int) : Prop where
  n0 : 1 ≤ N
  n1 : N ≤ 1000000000
  d0 : 1 ≤ D
  d1 : D ≤ 1000000000
  g : gc N.toNat D.toNat = 1
open Classical in
noncomputable def chkE (xs ms : List Int) (kd N D : Int) : Int := if HavOK xs ms kd ∧ LowOK N D then (if DvOK kd xs ms N D then 0 else 8) else 1
theorem chk_no {xs ms : List Int} {kd N D : Int} (h : ¬ (HavOK xs ms kd ∧ LowOK N D)) : chkE xs ms kd N D = 1 := by rw [chkE, if_neg h]
theorem chk_yes {xs ms : List Int} {kd N D : Int} (h : HavOK xs ms kd ∧ LowOK N D) (h2 : DvOK kd xs ms N D) : chkE xs ms kd N D = 0 := by rw [chkE, if_pos h, if_pos h2]
theorem chk_8 {xs ms : List Int} {kd N D : Int} (h : HavOK xs ms kd ∧ LowOK N D) (h2 : ¬ DvOK kd xs ms N D) : chkE xs ms kd N D = 8 := by rw [chkE, if_pos h, if_neg h2]

set_option maxRecDepth 100000 in
set_option maxHeartbeats 2000000 in
theorem rCheck_any (xs ms : List Int) (a a2 : Option Addr) (cap cap2 : Nat) (kd N D : Int) (W : World) (h1 : IntsAt W a xs) (h2 : IntsAt W a2 ms) (hm : xs.length ≤ 1000) (hm2 : ms.length ≤ maxLen) :
    Calls Try.prog 44 #[.slice a xs.length cap, .slice a2 ms.length cap2, .int .i64 kd, .agg #[.int .i64 N, .int .i64 D]] W fun e w' => e = .returned (.int .i64 (chkE xs ms kd N D)) ∧ Below W.heap.size W w' := by
  have hbA : Below W.heap.size W (W.alloc (.cells #[.int .i64 N, .int .i64 D] 44)) := below_alloc _ _
  have hIA := h1.below hbA
  have h2A := h2.below hbA
  have Ha := hid (have_E xs ms a a2 cap cap2 kd (W.alloc (.cells #[.int .i64 N, .int .i64 D] 44)) hIA h2A hm hm2)
  by_cases h : HavOK xs ms kd
  · rw [havE_yes h] at Ha
    by_cases n0 : N < 1
    · have d1 : decide (N < 1) = true := decide_eq_true n0
      have R := hid (chk_no (xs := xs) (ms := ms) (kd := kd) (N := N) (D := D) fun h => by have := h.2.n0; omega)
      clear n0 h
      go_enter Try.func44, Try.ntmps44
      go_wp2_with fail
      refine Ha.out.mono ?_; rintro e w' ⟨rfl, rfl⟩
      go_wp2_with fail
      go_ret
      rw [R.out]
      exact ⟨rfl, hbA⟩
    · have d1 : decide (N < 1) = false := decide_eq_false n0
      by_cases n1 : 1000000000 < N
      · have d2 : decide (1000000000 < N) = true := decide_eq_true n1
        have R := hid (chk_no (xs := xs) (ms := ms) (kd := kd) (N := N) (D := D) fun h => by have := h.2.n1; omega)
        clear n0 n1 h
        go_enter Try.func44, Try.ntmps44
        go_wp2_with fail
        refine Ha.out.mono ?_; rintro e w' ⟨rfl, rfl⟩
        go_wp2_with fail
        go_ret
        rw [R.out]
        exact ⟨rfl, hbA⟩
      · have d2 : decide (1000000000 < N) = false := decide_eq_false n1
        by_cases e0 : D < 1
        · have d3 : decide (D < 1) = true := decide_eq_true e0
          have R := hid (chk_no (xs := xs) (ms := ms) (kd := kd) (N := N) (D := D) fun h => by have := h.2.d0; omega)
          clear n0 n1 e0 h
          go_enter Try.func44, Try.ntmps44
          go_wp2_with fail
          refine Ha.out.mono ?_; rintro e w' ⟨rfl, rfl⟩
          go_wp2_with fail
          go_ret
          rw [R.out]
          exact ⟨rfl, hbA⟩
        · have d3 : decide (D < 1) = false := decide_eq_false e0
          by_cases e1 : 1000000000 < D
          · have d4 : decide (1000000000 < D) = true := decide_eq_true e1
            have R := hid (chk_no (xs := xs) (ms := ms) (kd := kd) (N := N) (D := D) fun h => by have := h.2.d1; omega)
            clear n0 n1 e0 e1 h
            go_enter Try.func44, Try.ntmps44
            go_wp2_with fail
            refine Ha.out.mono ?_; rintro e w' ⟨rfl, rfl⟩
            go_wp2_with fail
            go_ret
            rw [R.out]
            exact ⟨rfl, hbA⟩
          · have d4 : decide (1000000000 < D) = false := decide_eq_false e1
            have Hg := rgcd_in N.toNat D.toNat (W.alloc (.cells #[.int .i64 N, .int .i64 D] 44)) (by omega) (by omega)
            rw [Int.toNat_of_nonneg (by omega : 0 ≤ N), Int.toNat_of_nonneg (by omega : 0 ≤ D)] at Hg
            have HG := hid Hg
            clear Hg
            by_cases g1 : gc N.toNat D.toNat = 1
            · rw [g1] at HG
              have hLow : HavOK xs ms kd ∧ LowOK N D := ⟨h, by omega, by omega, by omega, by omega, g1⟩
              have HD := hid (rdivides_any kd xs ms N D a a2 cap cap2 (W.alloc (.cells #[.int .i64 N, .int .i64 D] 44)) hIA h2A h.1.1 h.2 ⟨by omega, by omega, by omega, by omega⟩)
              by_cases hd : DvOK kd xs ms N D
              · rw [dvB_yes hd] at HD
                have R := hid (chk_yes hLow hd)
                clear n0 n1 e0 e1 g1 hLow hd h
                go_enter Try.func44, Try.ntmps44
                go_wp2_with fail
                refine Ha.out.mono ?_; rintro e w' ⟨rfl, rfl⟩
                go_wp2_with fail
                refine HG.out.mono ?_; rintro e w' ⟨rfl, rfl⟩
                go_wp2_with fail
                refine HD.out.mono ?_; rintro e w2 ⟨rfl, hb2⟩
                go_wp2_with fail
                go_ret
                rw [R.out]
                exact ⟨rfl, hbA.trans (hb2.mono hbA.size)⟩
              · rw [dvB_no hd] at HD
                have R := hid (chk_8 hLow hd)
                clear n0 n1 e0 e1 g1 hLow hd h
                go_enter Try.func44, Try.ntmps44
                go_wp2_with fail
                refine Ha.out.mono ?_; rintro e w' ⟨rfl, rfl⟩
                go_wp2_with fail
                refine HG.out.mono ?_; rintro e w' ⟨rfl, rfl⟩
                go_wp2_with fail
                refine HD.out.mono ?_; rintro e w2 ⟨rfl, hb2⟩
                go_wp2_with fail
                go_ret
                rw [R.out]
                exact ⟨rfl, hbA.trans (hb2.mono hbA.size)⟩
            · have R := hid (chk_no (xs := xs) (ms := ms) (kd := kd) (N := N) (D := D) fun h => g1 h.2.g)
              have d5 : (((gc N.toNat D.toNat : Nat) : Int) != 1) = true := by simp; omega
              generalize gc N.toNat D.toNat = g at *
              clear n0 n1 e0 e1 g1 h
              go_enter Try.func44, Try.ntmps44
              go_wp2_with fail
              refine Ha.out.mono ?_; rintro e w' ⟨rfl, rfl⟩
              go_wp2_with fail
              refine HG.out.mono ?_; rintro e w' ⟨rfl, rfl⟩
              go_wp2_with fail
              go_ret
              rw [R.out]
              exact ⟨rfl, hbA⟩
  · rw [havE_no h] at Ha
    have R := hid (chk_no (xs := xs) (ms := ms) (kd := kd) (N := N) (D := D) fun h => absurd h.1 ‹¬ HavOK xs ms kd›)
    clear h
    go_enter Try.func44, Try.ntmps44
    go_wp2_with fail
    refine Ha.out.mono ?_; rintro e w' ⟨rfl, rfl⟩
    go_wp2_with fail
    go_ret
    rw [R.out]
    exact ⟨rfl, hbA⟩
end Go.Proofs.Ythankdfjkmfokaa
