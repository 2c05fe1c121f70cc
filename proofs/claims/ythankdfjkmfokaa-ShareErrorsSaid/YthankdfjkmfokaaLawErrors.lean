/- 'ShareErrors' returns true: the walk. -/
import Derived.Test.YthankdfjkmfokaaKnown
import Derived.Test.YthankdfjkmfokaaErr
import Derived.Test.YthankdfjkmfokaaLawRemainders
import Derived.Test.YthankdfjkmfokaaDvLaw
namespace Go.Proofs.Ythankdfjkmfokaa
open Go.RowKit
set_option linter.unusedSimpArgs false
set_option linter.unusedVariables false
theorem fr_le {A C S : Int} (hC : 0 ≤ C) (hCA : C ≤ A) (hS : 1 ≤ S) : frN C S * frD A S ≤ frN A S * frD C S := by
  obtain ⟨g1, e1, e2⟩ := fr_mul (show 0 ≤ A by omega) hS
  obtain ⟨g2, e3, e4⟩ := fr_mul hC hS
  generalize ((gc A.toNat S.toNat : Nat) : Int) = g at *
  generalize ((gc C.toNat S.toNat : Nat) : Int) = h at *
  have hgh : 0 < g * h := Int.mul_pos (by omega) (by omega)
  refine Int.le_of_mul_le_mul_right (a := g * h) ?_ hgh
  have l : frN C S * frD A S * (g * h) = (frN C S * h) * (frD A S * g) := by ac_rfl
  have r : frN A S * frD C S * (g * h) = (frN A S * g) * (frD C S * h) := by ac_rfl
  rw [l, r, e1, e2, e3, e4]
  exact Int.mul_le_mul_of_nonneg_right hCA (by omega)
theorem fr_top {x y M : Int} (hx : 0 ≤ x) (hM : x ≤ M) (hy : 1 ≤ y) : 0 ≤ frN x y ∧ frN x y ≤ M ∧ 0 ≤ frD x y ∧ frD x y ≤ y := by
  obtain ⟨g1, e1, e2⟩ := fr_mul hx hy
  generalize ((gc x.toNat y.toNat : Nat) : Int) = g at *
  have p1 : 0 ≤ frN x y := by
    refine Classical.byContradiction fun h => ?_
    have := Int.mul_neg_of_neg_of_pos (show frN x y < 0 by omega) (show 0 < g by omega)
    omega
  have p2 : 0 ≤ frD x y := by
    refine Classical.byContradiction fun h => ?_
    have := Int.mul_neg_of_neg_of_pos (show frD x y < 0 by omega) (show 0 < g by omega)
    omega
  have q1 := Int.mul_le_mul_of_nonneg_left g1 p1
  have q2 := Int.mul_le_mul_of_nonneg_left g1 p2
  omega
structure NearFacts (xs ms D : List Int) : Prop where
  t0 : 0 ≤ tot ms
  r : RemOK xs (tot ms)
  d : HavOK xs D 0
  an0 : 0 ≤ errN xs ms
  an1 : errN xs ms ≤ 64000000000
  ad0 : 0 ≤ errD xs ms
  ad1 : errD xs ms ≤ 8000000
  cn0 : 0 ≤ errN xs D
  cn1 : errN xs D ≤ 64000000000
  cd0 : 0 ≤ errD xs D
  cd1 : errD xs D ≤ 8000000
  le : errN xs D * errD xs ms ≤ errN xs ms * errD xs D
theorem near_facts {xs ms : List Int} (h : HavOK xs ms 0) (hn : tot ms ≤ 1000) : NearFacts xs ms (remR xs (tot ms)) := by
  have ho := h.1.1
  have tm := tot_meals ho h.2
  have hN : NumOK (tot ms) := ⟨tm.1, hn⟩
  have hd : HavOK xs (remL xs (tot ms)) 0 := ⟨⟨ho, kind0⟩, rem_ok ho hN⟩
  have tx := tot_ord ho
  have b1 := offS_bd ho h.2 xs.length (Nat.le_refl _)
  have b2 := offS_bd ho hd.2 xs.length (Nat.le_refl _)
  have near := rem_near ho h.2.len
  obtain ⟨a1, a2, _⟩ := err_yes h
  obtain ⟨c1, c2, _⟩ := err_yes hd
  have e1 : offS xs ms xs.length = offT xs ms := rfl
  have e2 : offS xs (remL xs (tot ms)) xs.length = offT xs (remL xs (tot ms)) := rfl
  rw [e1] at b1
  rw [e2] at b2
  have p1 := fr_top b1.1 b1.2 tx.1
  have p2 := fr_top b2.1 b2.2 tx.1
  rw [(rem_yes ⟨ho, hN⟩).2]
  refine ⟨tm.1, ⟨ho, hN⟩, hd, ?_, ?_, ?_, ?_, ?_, ?_, ?_, ?_, ?_⟩
  all_goals first | (rw [a1, a2, c1, c2]; exact fr_le b2.1 near tx.1) | (rw [a1]; omega) | (rw [a2]; omega) | (rw [c1]; omega) | (rw [c2]; omega)

set_option maxRecDepth 100000 in
set_option maxHeartbeats 4000000 in
theorem lawErrors (W : World) (a : Option Addr) (xs : List Int) (cap : Nat) (hI : IntsAt W a xs) (hm : xs.length ≤ maxLen) (_hw : ∀ i, i < xs.length → (Lit.int .i64 (nth xs i)).wf = true)
    (a2 : Option Addr) (ms : List Int) (cap2 : Nat) (h2 : IntsAt W a2 ms) (hm2 : ms.length ≤ maxLen) (_hw2 : ∀ i, i < ms.length → (Lit.int .i64 (nth ms i)).wf = true) :
    Calls Try.prog 15 #[.slice a xs.length cap, .slice a2 ms.length cap2] W fun e w' => e = .returned (.bool true) ∧ Below W.heap.size W w' := by
  clear _hw _hw2
  have HL := hid (fun W => Long_any xs a cap W hm)
  have HL2 := hid (fun W => Long_any ms a2 cap2 W hm2)
  by_cases h60 : 60 < xs.length
  · rw [decide_eq_true h60] at HL
    go_enter Try.func15, Try.ntmps15
    go_wp2_with fail
    refine (HL.out _).mono ?_; rintro e w1 ⟨rfl, rfl⟩
    go_wp2_with fail
    refine (known_true _).mono ?_; rintro e w' ⟨rfl, hb⟩
    go_wp2_with fail
    go_ret
    exact ⟨rfl, hb⟩
  · rw [decide_eq_false h60] at HL
    by_cases h61 : 60 < ms.length
    · rw [decide_eq_true h61] at HL2
      go_enter Try.func15, Try.ntmps15
      go_wp2_with fail
      refine (HL.out _).mono ?_; rintro e w1 ⟨rfl, rfl⟩
      go_wp2_with fail
      refine (HL2.out _).mono ?_; rintro e w1 ⟨rfl, rfl⟩
      go_wp2_with fail
      refine (known_true _).mono ?_; rintro e w' ⟨rfl, hb⟩
      go_wp2_with fail
      go_ret
      exact ⟨rfl, hb⟩
    · rw [decide_eq_false h61] at HL2
      have hx1 : xs.length ≤ 1000 := by omega
      have HE := hid (fun w h h' => Error_any xs ms a a2 cap cap2 w h h' hx1 hm2)
      have HR := hid (fun w h h' => rError_any xs ms a a2 cap cap2 w h h' hx1 hm2)
      go_enter Try.func15, Try.ntmps15
      go_wp2_with fail
      refine (HL.out _).mono ?_; rintro e w1 ⟨rfl, rfl⟩
      go_wp2_with fail
      refine (HL2.out _).mono ?_; rintro e w1 ⟨rfl, rfl⟩
      go_wp2_with fail
      refine (HE.out _ hI h2).mono ?_; rintro e w1 ⟨rfl, hb1⟩
      have hbA := hb1.alloc hb1.size (.cells #[.int .i64 (errN xs ms), .int .i64 (errD xs ms)] 44)
      go_wp2_with fail
      refine (HR.out _ (hI.below hbA) (h2.below hbA)).mono ?_; rintro e w2 ⟨rfl, hb2⟩
      have k0 : w2.cell? ⟨w1.heap.size, 0, none⟩ = some (.int .i64 (errN xs ms)) := (hb2.cell (p := ⟨w1.heap.size, 0, none⟩) (by simp)).trans (by simp)
      have k1 : w2.cell? ⟨w1.heap.size, 1, none⟩ = some (.int .i64 (errD xs ms)) := (hb2.cell (p := ⟨w1.heap.size, 1, none⟩) (by simp)).trans (by simp)
      have ks : w1.heap.size < w2.heap.size := by have := hb2.size; simp at this; omega
      have hbz := hbA.trans (hb2.mono hbA.size)
      have hbz2 := hbz.alloc hbz.size (.cells #[.int .i64 (errN xs ms), .int .i64 (errD xs ms)] 44)
      have k3 := ((below_alloc w2 (.cells #[.int .i64 (errN xs ms), .int .i64 (errD xs ms)] 44)).cell (p := ⟨w1.heap.size, 0, none⟩) ks).trans k0
      have k4 := ((below_alloc w2 (.cells #[.int .i64 (errN xs ms), .int .i64 (errD xs ms)] 44)).cell (p := ⟨w1.heap.size, 1, none⟩) ks).trans k1
      have ks2 : w1.heap.size < (w2.alloc (.cells #[.int .i64 (errN xs ms), .int .i64 (errD xs ms)] 44)).heap.size := by simp; omega
      clear HL HL2 hb1 hb2 hbA hbz k0 k1 ks HE HR
      by_cases hOK : HavOK xs ms 0
      · have E := havE_yes hOK
        have T := total26 ms a2 cap2 (w2.alloc (.cells #[.int .i64 (errN xs ms), .int .i64 (errD xs ms)] 44)) (h2.below hbz2) (hOK.2.small hOK.1.1)
        have HT := hid T
        clear T
        rw [E]
        have tm := tot_meals hOK.1.1 hOK.2
        by_cases hn : tot ms ≤ 1000
        · have hnd : decide (1000 < tot ms) = false := decide_eq_false (by omega)
          have F := near_facts hOK hn
          have R1 := Remainders_any xs a cap (tot ms) (w2.alloc (.cells #[.int .i64 (errN xs ms), .int .i64 (errD xs ms)] 44)) (hI.below hbz2) hm
          rw [(rem_yes F.r).1] at R1
          have HR1 := hid R1
          have HE := hid (fun w ad cd h h' => Error_any xs (remR xs (tot ms)) a ad cap cd w h h' hx1 (by have := remR_max xs (tot ms); unfold maxLen; omega))
          rw [havE_yes F.d] at HE
          have an0 := F.an0
          have an1 := F.an1
          have ad0 := F.ad0
          have ad1 := F.ad1
          have cn0 := F.cn0
          have cn1 := F.cn1
          have cd0 := F.cd0
          have cd1 := F.cd1
          have m1 := mul_bds cn0 cn1 ad0 ad1
          have m2 := mul_bds an0 an1 cd0 cd1
          have hle : decide (errN xs (remR xs (tot ms)) * errD xs ms ≤ errN xs ms * errD xs (remR xs (tot ms))) = true := decide_eq_true F.le
          have hle' := F.le
          clear F R1 hOK E hn
          generalize errN xs (remR xs (tot ms)) = CN at *
          generalize errD xs (remR xs (tot ms)) = CD at *
          generalize remR xs (tot ms) = Q at *
          generalize tot ms = t at *
          generalize errN xs ms = AN at *
          generalize errD xs ms = AD at *
          go_wp2_with fail
          refine HT.out.mono ?_; rintro e w' ⟨rfl, rfl⟩
          go_wp2_with fail
          refine HT.out.mono ?_; rintro e w' ⟨rfl, rfl⟩
          go_wp2_with fail
          refine HR1.out.mono ?_; rintro e w3 ⟨a3, c3, rfl, g3, hb3, _, _⟩
          have hz3 := hbz2.trans (hb3.mono hbz2.size)
          have p3 := (hb3.cell (p := ⟨w1.heap.size, 0, none⟩) ks2).trans k3
          have p4 := (hb3.cell (p := ⟨w1.heap.size, 1, none⟩) ks2).trans k4
          have ps := Nat.lt_of_lt_of_le ks2 hb3.size
          clear k3 k4 ks2 hb3 hbz2 HR1 HT
          go_wp2_with fail
          refine (HE.out w3 a3 c3 (hI.below hz3) g3).mono ?_; rintro e w4 ⟨rfl, hb4⟩
          have hz4 := hz3.trans (hb4.mono hz3.size)
          have hz5 := hz4.alloc hz4.size (.cells #[.int .i64 CN, .int .i64 CD] 44)
          have q3 := (hb4.cell (p := ⟨w1.heap.size, 0, none⟩) ps).trans p3
          have q4 := (hb4.cell (p := ⟨w1.heap.size, 1, none⟩) ps).trans p4
          have qs := Nat.lt_of_lt_of_le ps hb4.size
          have r3 := ((below_alloc w4 (.cells #[.int .i64 CN, .int .i64 CD] 44)).cell (p := ⟨w1.heap.size, 0, none⟩) qs).trans q3
          have r4 := ((below_alloc w4 (.cells #[.int .i64 CN, .int .i64 CD] 44)).cell (p := ⟨w1.heap.size, 1, none⟩) qs).trans q4
          clear p3 p4 ps hb4 hz3 HE q3 q4 qs g3
          go_wp2_with fail
          refine (known_true _).mono ?_; rintro e w' ⟨rfl, hb⟩
          go_wp2_with fail
          go_ret
          exact ⟨rfl, hz5.trans (hb.mono hz5.size)⟩
        · have hnd : decide (1000 < tot ms) = true := decide_eq_true (by omega)
          clear hOK E hn
          generalize tot ms = t at *
          generalize errN xs ms = AN at *
          generalize errD xs ms = AD at *
          go_wp2_with fail
          refine HT.out.mono ?_; rintro e w' ⟨rfl, rfl⟩
          go_wp2_with fail
          refine (known_true _).mono ?_; rintro e w' ⟨rfl, hb⟩
          go_wp2_with fail
          go_ret
          exact ⟨rfl, hbz2.trans (hb.mono hbz2.size)⟩
      · have E := havE_no hOK
        rw [E]
        clear hOK E
        generalize errN xs ms = AN at *
        generalize errD xs ms = AD at *
        go_wp2_with fail
        refine (known_true _).mono ?_; rintro e w' ⟨rfl, hb⟩
        go_wp2_with fail
        go_ret
        exact ⟨rfl, hbz2.trans (hb.mono hbz2.size)⟩
end Go.Proofs.Ythankdfjkmfokaa
