/- 'ShareDivides' returns true: the walk. -/
import Derived.Test.YthankdfjkmfokaaKnown
import Derived.Test.YthankdfjkmfokaaQuietB
namespace Go.Proofs.Ythankdfjkmfokaa
open Go.RowKit Go.Sort
set_option linter.unusedSimpArgs false
set_option linter.unusedVariables false

theorem divR_max (xs : List Int) (kd n : Int) : (divR xs kd n).length ≤ maxLen := by
  unfold divR maxLen
  split
  · rename_i h
    have := h.1.1.l8
    rw [giv_len]; omega
  · simp
theorem ordR_max (xs : List Int) (kd n : Int) : (ordR xs kd n).length ≤ maxLen := by
  unfold ordR maxLen
  split
  · rename_i h
    have := num_nat h.2
    rw [gord_len]; omega
  · simp
theorem giv_small {kd : Int} {xs : List Int} (ho : OrdOK xs) (j : Nat) (hj : j ≤ 1000) : Small (giv kd xs j) := (giv_ok ho j hj).small ho
theorem small_nil : Small [] := ⟨by decide, fun i hi => absurd hi (Nat.not_lt_zero i)⟩
set_option maxRecDepth 100000 in
set_option maxHeartbeats 1000000 in
theorem lawDivides (W : World) (a : Option Addr) (xs : List Int) (cap : Nat) (hI : IntsAt W a xs) (hm : xs.length ≤ maxLen) (_hw : ∀ i, i < xs.length → (Lit.int .i64 (nth xs i)).wf = true) (n kd : Int) (_wn : (Lit.int .i64 n).wf = true) (_wk : (Lit.int .i64 kd).wf = true) :
    Calls Try.prog 3 #[.slice a xs.length cap, .agg #[.int .i64 n, .int .i64 kd]] W fun e w' => e = .returned (.bool true) ∧ Below W.heap.size W w' := by
  clear _hw _wn _wk
  have hbB : Below W.heap.size W (W.alloc (.cells #[.int .i64 n, .int .i64 kd] 24)) := below_alloc _ _
  by_cases h60 : 60 < xs.length
  · have HL := hid (Long_any xs a cap (W.alloc (.cells #[.int .i64 n, .int .i64 kd] 24)) hm)
    rw [decide_eq_true h60] at HL
    go_enter Try.func3, Try.ntmps3
    go_wp2_with fail
    refine HL.out.mono ?_; rintro e w1 ⟨rfl, rfl⟩
    go_wp2_with fail
    refine (known_true _).mono ?_; rintro e w' ⟨rfl, hb⟩
    go_wp2_with fail
    go_ret
    exact ⟨rfl, hbB.trans (hb.mono (by simp))⟩
  · have HL := hid (Long_any xs a cap (W.alloc (.cells #[.int .i64 n, .int .i64 kd] 24)) hm)
    rw [decide_eq_false h60] at HL
    go_enter Try.func3, Try.ntmps3
    go_wp2_with fail
    refine HL.out.mono ?_; rintro e w1 ⟨rfl, rfl⟩
    go_wp2_with fail
    refine (Divide_any xs a cap n kd _ (hI.below hbB) hm).mono ?_; rintro e w1 ⟨a1, c1, rfl, h1, hb1, _, _⟩
    have k0 : w1.cell? ⟨W.heap.size, 0, none⟩ = some (.int .i64 n) := (hb1.cell (p := ⟨W.heap.size, 0, none⟩) (by simp)).trans (by simp)
    have k1 : w1.cell? ⟨W.heap.size, 1, none⟩ = some (.int .i64 kd) := (hb1.cell (p := ⟨W.heap.size, 1, none⟩) (by simp)).trans (by simp)
    have hbz1 := hbB.trans (hb1.mono hbB.size)
    have hs1 : W.heap.size < w1.heap.size := by have := hb1.size; simp at this; omega
    go_wp2_with fail
    refine (rDivide_any xs a cap n kd _ (hI.below hbz1) hm).mono ?_; rintro e w2 ⟨a2, c2, rfl, h2, hb2, _, _⟩
    have l0 := (hb2.cell (p := ⟨W.heap.size, 0, none⟩) hs1).trans k0
    have l1 := (hb2.cell (p := ⟨W.heap.size, 1, none⟩) hs1).trans k1
    have hbz2 := hbz1.trans (hb2.mono hbz1.size)
    have hs2 := Nat.lt_of_lt_of_le hs1 hb2.size
    have h12 := h1.below hb2
    clear k0 k1 h1
    go_wp2_with fail
    refine (Order_any xs a cap n kd _ (hI.below hbz2) hm).mono ?_; rintro e w3 ⟨a3, c3, rfl, h3, hb3, _, _⟩
    have m0 := (hb3.cell (p := ⟨W.heap.size, 0, none⟩) hs2).trans l0
    have m1 := (hb3.cell (p := ⟨W.heap.size, 1, none⟩) hs2).trans l1
    have hbz3 := hbz2.trans (hb3.mono hbz2.size)
    have hs3 := Nat.lt_of_lt_of_le hs2 hb3.size
    have h13 := h12.below hb3
    have h23 := h2.below hb3
    clear l0 l1 h12 h2
    go_wp2_with fail
    refine (rOrder_any xs a cap n kd _ (hI.below hbz3) hm).mono ?_; rintro e w4 ⟨a4, c4, rfl, h4, hb4, _, _⟩
    have q0 := (hb4.cell (p := ⟨W.heap.size, 0, none⟩) hs3).trans m0
    have hbz4 := hbz3.trans (hb4.mono hbz3.size)
    have h14 := h13.below hb4
    have h24 := h23.below hb4
    have h34 := h3.below hb4
    have hI4 := hI.below hbz4
    clear m0 m1 h13 h23 h3 hb1 hb2 hb3 hb4 hbz1 hbz2 hbz3 hs1 hs2 hs3 hbB
    have hq0 := cell_regrown q0
    by_cases hOK : DivOK xs kd n
    · have E := hid (divE_yes hOK)
      have hlo : (((ordR xs kd n).length : Int) == n) = true := by
        have := num_nat hOK.2
        rw [ordR_yes hOK, gord_len]; exact beq_iff_eq.2 this.1.symm
      have htot : (tot (divR xs kd n) == n) = true := by
        have := num_nat hOK.2
        rw [divR_yes hOK, giv_tot hOK.1.1.l1]; exact beq_iff_eq.2 this.1.symm
      have Hsm : Hid (Small (divR xs kd n)) := hid (by rw [divR_yes hOK]; exact giv_small hOK.1.1 _ (num_nat hOK.2).2)
      have hom : (ordR xs kd n).length ≤ 9223372036854775807 := by have := ordR_max xs kd n; unfold maxLen at this; omega
      have hdm := divR_max xs kd n
      have hol := ordR_max xs kd n
      rw [E.out]
      clear hOK E
      generalize divR xs kd n = D at *
      generalize ordR xs kd n = O at *
      have Hdm := hid hdm
      have Hol := hid hol
      clear hdm hol
      go_wp2_with fail
      refine wp_region_quiet_below (by kernel_rfl) (by kernel_rfl) ?_
      refine Qt.out ?_
      iterate 47 (refine qt_want (by kernel_rfl) (fun K hK => ?_); go_simp; first | (refine hK _ ?_; clear hK K) | (apply Exists.intro; refine ⟨fun p => ?_, hK _ ?_⟩; (first | (go_at_call 23; exact regrown_same (Validate_any xs a cap _ (ints_regrown hI4 p.d p.os) hm)) | (go_at_call 24; exact regrown_same (rValidate_any xs a cap _ (ints_regrown hI4 p.d p.os) hm)) | (go_at_call 26; exact regrown_same (total26 D _ _ _ (ints_regrown h14 p.d p.os) Hsm.out)) | (go_at_call 18; exact Calls.regrown_of (known_true _)) | (go_at_call_of 25 (Value.slice a1 D.length c1); exact Calls.regrown_of (SameInts_any D _ _ _ _ _ (ints_regrown h14 p.d p.os) (ints_regrown h24 p.d p.os) Hdm.out)) | (go_at_call_of 25 (Value.slice a3 O.length c3); exact Calls.regrown_of (SameInts_any O _ _ _ _ _ (ints_regrown h34 p.d p.os) (ints_regrown h4 p.d p.os) Hol.out))); clear hK K))
      refine qt_nil ?_
      intro _ hw'
      obtain ⟨p, hw''⟩ := hw'
      subst hw''
      go_wp2_with fail
      go_ret
      exact ⟨rfl, hbz4.trans ((below_regrown w4 _ _).mono hbz4.size)⟩
    · have E := hid (divE_no hOK)
      rw [E.out]
      rw [divR_no hOK] at h14 h24 ⊢
      rw [ordR_no hOK] at h34 h4 ⊢
      clear hOK E
      go_wp2_with fail
      refine wp_region_quiet_below (by kernel_rfl) (by kernel_rfl) ?_
      refine Qt.out ?_
      iterate 29 (refine qt_want (by kernel_rfl) (fun K hK => ?_); go_simp; first | (refine hK _ ?_; clear hK K) | (apply Exists.intro; refine ⟨fun p => ?_, hK _ ?_⟩; (first | (go_at_call 23; exact regrown_same (Validate_any xs a cap _ (ints_regrown hI4 p.d p.os) hm)) | (go_at_call 24; exact regrown_same (rValidate_any xs a cap _ (ints_regrown hI4 p.d p.os) hm)) | (go_at_call 26; exact regrown_same (total26 [] _ _ _ (ints_regrown h14 p.d p.os) small_nil)) | (go_at_call 18; exact Calls.regrown_of (known_true _)) | (go_at_call_of 25 (Value.slice a1 0 c1); exact Calls.regrown_of (SameInts_any [] _ _ _ _ _ (ints_regrown h14 p.d p.os) (ints_regrown h24 p.d p.os) (by decide))) | (go_at_call_of 25 (Value.slice a3 0 c3); exact Calls.regrown_of (SameInts_any [] _ _ _ _ _ (ints_regrown h34 p.d p.os) (ints_regrown h4 p.d p.os) (by decide)))); clear hK K))
      iterate 12 (refine qt_skip (by kernel_rfl) ?_)
      iterate 6 (refine qt_want (by kernel_rfl) (fun K hK => ?_); go_simp; first | (refine hK _ ?_; clear hK K) | (apply Exists.intro; refine ⟨fun p => ?_, hK _ ?_⟩; (first | (go_at_call 23; exact regrown_same (Validate_any xs a cap _ (ints_regrown hI4 p.d p.os) hm)) | (go_at_call 24; exact regrown_same (rValidate_any xs a cap _ (ints_regrown hI4 p.d p.os) hm)) | (go_at_call 26; exact regrown_same (total26 [] _ _ _ (ints_regrown h14 p.d p.os) small_nil)) | (go_at_call 18; exact Calls.regrown_of (known_true _)) | (go_at_call_of 25 (Value.slice a1 0 c1); exact Calls.regrown_of (SameInts_any [] _ _ _ _ _ (ints_regrown h14 p.d p.os) (ints_regrown h24 p.d p.os) (by decide))) | (go_at_call_of 25 (Value.slice a3 0 c3); exact Calls.regrown_of (SameInts_any [] _ _ _ _ _ (ints_regrown h34 p.d p.os) (ints_regrown h4 p.d p.os) (by decide)))); clear hK K))
      refine qt_nil ?_
      intro _ hw'
      obtain ⟨p, hw''⟩ := hw'
      subst hw''
      go_wp2_with fail
      go_ret
      exact ⟨rfl, hbz4.trans ((below_regrown w4 _ _).mono hbz4.size)⟩
end Go.Proofs.Ythankdfjkmfokaa
