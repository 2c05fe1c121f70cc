/- 'ShareDivisors' returns true: the walk. -/
import Derived.Test.YthankdfjkmfokaaKnown
import Derived.Test.YthankdfjkmfokaaPDiv
namespace Go.Proofs.Ythankdfjkmfokaa
open Go.RowKit
set_option linter.unusedSimpArgs false
set_option linter.unusedVariables false
theorem has_dvr (xs ms : List Int) (kd : Int) : hasB xs ms kd = dvrB xs ms kd := by
  unfold hasB dvrB
  exact decide_eq_decide.2 ⟨fun h => ⟨h.1, (has_top h.1.1.1 h.1.2).1 h.2⟩, fun h => ⟨h.1, (has_top h.1.1.1 h.1.2).2 h.2⟩⟩
theorem dvr_chk {xs ms : List Int} {kd : Int} (h : HavOK xs ms kd) (h2 : TopOK kd xs ms) : chkE xs ms kd (dvrN xs ms kd) (dvrD xs ms kd) = 0 := by
  obtain ⟨_, h3, h4⟩ := dvr_yes h h2
  have hc := top_lt (kd := kd) (ms := ms) h.1.1
  have oc := h.1.1.el _ hc
  have mc := h.2.el _ (show topI kd xs ms xs.length < ms.length by rw [h.2.len]; exact hc)
  have sc := stp_bd (kd := kd) mc.1 mc.2
  have hf := fac_bd kd
  have hp := h2.pos
  have hmul := mul_bds (show 0 ≤ nth xs (topI kd xs ms xs.length) by omega) oc.2 (show 0 ≤ fac kd by omega) hf.2
  have p1 : 1 ≤ nth xs (topI kd xs ms xs.length) * fac kd := Int.mul_pos (by omega) (by omega)
  have fl := fr_low p1 hp
  rw [h3, h4]
  exact chk_yes ⟨h, fl.1, by omega, fl.2.2.1, by omega, fl.2.2.2.2⟩ ((dv_fr hmul.1 hp).2 h2.dv)

set_option maxRecDepth 100000 in
set_option maxHeartbeats 1000000 in
theorem lawDivisors (W : World) (a : Option Addr) (xs : List Int) (cap : Nat) (hI : IntsAt W a xs) (hm : xs.length ≤ maxLen) (_hw : ∀ i, i < xs.length → (Lit.int .i64 (nth xs i)).wf = true)
    (a2 : Option Addr) (ms : List Int) (cap2 : Nat) (h2 : IntsAt W a2 ms) (hm2 : ms.length ≤ maxLen) (_hw2 : ∀ i, i < ms.length → (Lit.int .i64 (nth ms i)).wf = true) (kd : Int) (_wk : (Lit.int .i64 kd).wf = true) :
    Calls Try.prog 12 #[.slice a xs.length cap, .slice a2 ms.length cap2, .int .i64 kd] W fun e w' => e = .returned (.bool true) ∧ Below W.heap.size W w' := by
  clear _hw _hw2 _wk
  have HL := hid (fun W => Long_any xs a cap W hm)
  have HL2 := hid (fun W => Long_any ms a2 cap2 W hm2)
  by_cases h60 : 60 < xs.length
  · rw [decide_eq_true h60] at HL
    go_enter Try.func12, Try.ntmps12
    go_wp2_with fail
    refine (HL.out _).mono ?_; rintro e w1 ⟨rfl, rfl⟩
    go_wp2_with fail
    refine (known_true _).mono ?_; rintro e w' ⟨rfl, hb⟩
    go_wp2_with fail
    go_ret
    exact ⟨rfl, hb⟩
  · rw [decide_eq_false h60] at HL
    by_cases h61 : 60 < ms.length
    · rw [decide_eq_true h61] at HL2
      go_enter Try.func12, Try.ntmps12
      go_wp2_with fail
      refine (HL.out _).mono ?_; rintro e w1 ⟨rfl, rfl⟩
      go_wp2_with fail
      refine (HL2.out _).mono ?_; rintro e w1 ⟨rfl, rfl⟩
      go_wp2_with fail
      refine (known_true _).mono ?_; rintro e w' ⟨rfl, hb⟩
      go_wp2_with fail
      go_ret
      exact ⟨rfl, hb⟩
    · rw [decide_eq_false h61] at HL2
      have hx1 : xs.length ≤ 1000 := by omega
      have HD := hid (Divisor_any xs ms a a2 cap cap2 kd W hI h2 hx1 hm2)
      have HH := hid (fun w h h' => HasDivisor_any xs ms a a2 cap cap2 kd w h h' hx1 hm2)
      rw [has_dvr] at HH
      by_cases hT : HavOK xs ms kd ∧ TopOK kd xs ms
      · have B := (dvr_yes hT.1 hT.2).1
        have E0 := havE_yes hT.1
        have C0 := dvr_chk hT.1 hT.2
        rw [B, E0] at HD HH
        have HC := hid (fun w h h' => rCheck_any xs ms a a2 cap cap2 kd (dvrN xs ms kd) (dvrD xs ms kd) w h h' hx1 hm2)
        rw [C0] at HC
        clear hT B E0 C0
        generalize dvrN xs ms kd = N at *
        generalize dvrD xs ms kd = D at *
        go_enter Try.func12, Try.ntmps12
        go_wp2_with fail
        refine (HL.out _).mono ?_; rintro e w1 ⟨rfl, rfl⟩
        go_wp2_with fail
        refine (HL2.out _).mono ?_; rintro e w1 ⟨rfl, rfl⟩
        go_wp2_with fail
        refine HD.out.mono ?_; rintro e w1 ⟨rfl, hb1⟩
        have hbA := hb1.alloc hb1.size (.cells #[.int .i64 N, .int .i64 D] 44)
        go_wp2_with fail
        refine (HH.out _ (hI.below hbA) (h2.below hbA)).mono ?_; rintro e w2 ⟨rfl, hb2⟩
        have k0 : w2.cell? ⟨w1.heap.size, 0, none⟩ = some (.int .i64 N) := (hb2.cell (p := ⟨w1.heap.size, 0, none⟩) (by simp)).trans (by simp)
        have k1 : w2.cell? ⟨w1.heap.size, 1, none⟩ = some (.int .i64 D) := (hb2.cell (p := ⟨w1.heap.size, 1, none⟩) (by simp)).trans (by simp)
        have hbz := hbA.trans (hb2.mono hbA.size)
        clear hb1 hb2 hbA HL HL2 HD HH
        go_wp2_with fail
        refine (HC.out _ (hI.below hbz) (h2.below hbz)).mono ?_; rintro e w3 ⟨rfl, hb3⟩
        have hbz3 := hbz.trans (hb3.mono hbz.size)
        clear k0 k1 hb3
        go_wp2_with fail
        refine (known_true _).mono ?_; rintro e w' ⟨rfl, hb⟩
        go_wp2_with fail
        go_ret
        exact ⟨rfl, hbz3.trans (hb.mono hbz3.size)⟩
      · obtain ⟨B, N0, D0⟩ := dvr_no hT
        rw [B] at HH
        rw [B, N0, D0] at HD
        clear hT B N0 D0
        generalize havE xs ms kd = E at *
        go_enter Try.func12, Try.ntmps12
        go_wp2_with fail
        refine (HL.out _).mono ?_; rintro e w1 ⟨rfl, rfl⟩
        go_wp2_with fail
        refine (HL2.out _).mono ?_; rintro e w1 ⟨rfl, rfl⟩
        go_wp2_with fail
        refine HD.out.mono ?_; rintro e w1 ⟨rfl, hb1⟩
        have hbA := hb1.alloc hb1.size (.cells #[.int .i64 0, .int .i64 0] 44)
        go_wp2_with fail
        refine (HH.out _ (hI.below hbA) (h2.below hbA)).mono ?_; rintro e w2 ⟨rfl, hb2⟩
        have k0 : w2.cell? ⟨w1.heap.size, 0, none⟩ = some (.int .i64 0) := (hb2.cell (p := ⟨w1.heap.size, 0, none⟩) (by simp)).trans (by simp)
        have k1 : w2.cell? ⟨w1.heap.size, 1, none⟩ = some (.int .i64 0) := (hb2.cell (p := ⟨w1.heap.size, 1, none⟩) (by simp)).trans (by simp)
        have hbz := hbA.trans (hb2.mono hbA.size)
        clear hb1 hb2 hbA HL HL2 HD HH
        go_wp2_with fail
        refine (known_true _).mono ?_; rintro e w' ⟨rfl, hb⟩
        go_wp2_with fail
        go_ret
        exact ⟨rfl, hbz.trans (hb.mono hbz.size)⟩
end Go.Proofs.Ythankdfjkmfokaa
