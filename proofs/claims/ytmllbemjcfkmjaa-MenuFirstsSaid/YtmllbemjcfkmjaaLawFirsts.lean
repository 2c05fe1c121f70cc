/- 'MenuFirsts' returns true, whatever the word and the number. -/
import Derived.Test.YtmllbemjcfkmjaaRFirst
import Derived.Test.YtmllbemjcfkmjaaRound
import Derived.Test.YtmllbemjcfkmjaaFront
import Derived.Test.YtmllbemjcfkmjaaKnown
import Derived.BigQuiet
namespace Go.Proofs.Ytmllbemjcfkmjaa
open Go.RowKit Go.Maps
set_option linter.unusedSimpArgs false
set_option linter.unusedVariables false

set_option maxRecDepth 100000 in
set_option maxHeartbeats 2000000 in
theorem lawFirsts (W : World) (a : Option Addr) (xs : List Int) (cap : Nat) (hI : IntsAt W a xs) (hc : xs.length ≤ cap) (hcm : cap ≤ maxLen) (hwf : ∀ i, i < xs.length → (Lit.int .i64 (nth xs i)).wf = true) (z : Int) (wz : (Lit.int .i64 z).wf = true) :
    Calls Try.prog 16 #[.slice a xs.length cap, .int .i64 z] W fun e w' => e = .returned (.bool true) ∧ Below W.heap.size W w' := by
  clear hwf
  obtain ⟨i0, hi0, hz0, hz1, hz2⟩ := info_parts info3
  have Hk := hid known_true
  have HL := hid (long_any xs a cap W (Nat.le_trans hc hcm))
  have HI := hid hI
  clear hI
  cases hg : lngB xs
  · rw [hg] at HL
    have hl2 : xs.length ≤ 200 := by unfold lngB at hg; have := of_decide_eq_false hg; omega
    clear hg
    have hlr : (frsR xs).length ≤ 200 := by
      unfold frsR
      split
      · rw [bestF_len xs _ (Nat.le_refl _)]; exact hl2
      · exact Nat.zero_le _
    have Hlr := hid hlr
    clear hlr
    go_enter Try.func16, Try.ntmps16
    go_wp2_with fail
    refine HL.out.mono ?_; rintro e w1 ⟨rfl, rfl⟩
    have hb1 := Below.refl W.heap.size W
    have HB1 := hid hb1
    have HF := hid (First_any xs a cap W (HI.out.below hb1) (Nat.le_trans hc hcm) hc hcm)
    clear hb1 HL
    go_wp2_with fail
    refine HF.out.mono ?_; rintro e w2 ⟨a2, c2, rfl, hI2, hb2, k1, k2⟩
    have HB2 := hid (HB1.out.trans (hb2.mono HB1.out.size))
    have HI2 := hid hI2
    have HF := hid (rFirst_any xs a cap w2 (HI.out.below HB2.out) (Nat.le_trans hc hcm) hc hcm)
    clear hb2 HB1 hI2
    go_wp2_with fail
    refine HF.out.mono ?_; rintro e w3 ⟨a3, c3, rfl, hI3, hb3, k3, k4⟩
    have HB3 := hid (HB2.out.trans (hb3.mono HB2.out.size))
    have HI2 := hid (HI2.out.below hb3)
    have HI3 := hid hI3
    have HS := hid (SameInts_any (frsR xs) a2 a3 c2 c3 w3 HI2.out HI3.out (by have := Hlr.out; unfold maxLen; omega))
    clear hb3 HB2 hI3 HF
    have e3 : (wrdE 6 xs != wrdE 6 xs) = false := by simp
    have e4 : (wrdE 6 xs == wrdE 6 xs) = true := beq_self_eq_true _
    by_cases hE : wrdE 6 xs = 0
    · rw [hE]
      clear e3 e4
      by_cases hn : xs.length = 0
      · have n1 : ((xs.length : Int) == 0) = true := beq_iff_eq.2 (by omega)
        have n2 : (xs.length == 0) = true := beq_iff_eq.2 hn
        have Hn := hid hn
        clear hn
        go_wp2_with fail
        refine HS.out.mono ?_; rintro e w4 ⟨rfl, hb4⟩
        have HB4 := hid (HB3.out.trans (hb4.mono HB3.out.size))
        clear hb4 HB3 HS
        go_wp2_with fail
        refine (Hk.out _).mono ?_; rintro e wk ⟨rfl, hbk⟩
        have hz2 := HB4.out.trans (hbk.mono HB4.out.size)
        clear hbk
        go_wp2_with fail
        go_ret
        exact ⟨rfl, hz2⟩

      · have n1 : ((xs.length : Int) == 0) = false := beq_eq_false_iff_ne.2 (by omega)
        have n2 : (xs.length == 0) = false := beq_eq_false_iff_ne.2 hn
        have hpos : 0 < xs.length := by omega
        have hok := wrdE_zero.1 hE
        have Hok := hid hok
        have h20 := hok.l20
        obtain ⟨b, off, rfl, hbl⟩ := HI.out.addr hpos
        clear hn hok hE
        go_wp2_with fail
        refine HS.out.mono ?_; rintro e w4 ⟨rfl, hb4⟩
        have HB4 := hid (HB3.out.trans (hb4.mono HB3.out.size))
        have HI4 := hid (HI2.out.below hb4)
        clear hb4 HB3 HS HI2 HI3
        go_wp2_with fail
        obtain ⟨i, hi, he⟩ : ∃ i : Nat, i < xs.length ∧ wrap64 ((IntKind.u64.wrap z).tmod (xs.length : Int)) = (i : Int) := by
          have e0 : IntKind.u64.wrap z = z % 18446744073709551616 := by simp [IntKind.wrap, IntKind.signed, IntKind.bits]
          have g0 : 0 ≤ z % 18446744073709551616 := by omega
          rw [e0, Int.tmod_eq_emod_of_nonneg g0]
          have g1 := Int.emod_nonneg (z % 18446744073709551616) (show (xs.length : Int) ≠ 0 by omega)
          have g2 := Int.emod_lt_of_pos (z % 18446744073709551616) (show (0 : Int) < (xs.length : Int) by omega)
          refine ⟨(z % 18446744073709551616 % (xs.length : Int)).toNat, by omega, ?_⟩
          rw [w64 (by omega) (by omega)]
          omega
        rw [he]
        clear he wz
        have j0 : (0 : Int) ≤ (i : Int) := by omega
        have j1 : (i : Int) ≤ (xs.length : Int) := by omega
        have j2 : (i : Int) < (xs.length : Int) := by omega
        have j3 : (i : Int) ≤ (cap : Int) := by omega
        have j4 : (xs.length : Int) ≤ (cap : Int) := by omega
        have HD := hid (HI.out.drop i)
        have HT := hid (HI.out.take i)
        have HR := hid (frs_rot Hok.out hi)
        refine wp_region_but_f (fun _ => True) 9 (by kernel_rfl) ?_
        intro Z0 hZ0
        have hZb : Below W.heap.size W Z0 := by rw [hZ0]; exact HB4.out.drew
        have HZ := hid hZb
        have HB0 : Hid (IntsAt Z0 a2 (frsR xs)) := by rw [hZ0]; exact HI4
        clear hZ0 hZb HB4 HI4 HF
        refine but_take (i := 1) (v := (.slice (some ⟨b, off, none⟩) xs.length cap)) rfl (by kernel_rfl) (by kernel_rfl) (by kernel_rfl) (by kernel_rfl) (fun _ _ _ h => h) (Or.inl ⟨by rfl, ?hy⟩) trivial ?_
        case hy => intro w hSw; (try dsimp only at hSw); go_simp; (try (intro hh; omega))
        try simp only [Act.put, List.setIfInBounds_toArray, List.set_cons_zero, List.set_cons_succ]
        refine but_take (i := 2) (v := (.int .i64 (i : Nat))) rfl (by kernel_rfl) (by kernel_rfl) (by kernel_rfl) (by kernel_rfl) (fun _ _ _ h => h) (Or.inl ⟨by rfl, ?hy⟩) trivial ?_
        case hy => intro w hSw; (try dsimp only at hSw); go_simp; (try (intro hh; omega))
        try simp only [Act.put, List.setIfInBounds_toArray, List.set_cons_zero, List.set_cons_succ]
        refine but_take (i := 3) (v := (.slice (some ⟨b, off + i, none⟩) (xs.length - i) (cap - i))) rfl (by kernel_rfl) (by kernel_rfl) (by kernel_rfl) (by kernel_rfl) (fun _ _ _ h => h) (Or.inl ⟨by rfl, ?hy⟩) trivial ?_
        case hy => intro w hSw; (try dsimp only at hSw); go_simp; (try (intro hh; omega))
        try simp only [Act.put, List.setIfInBounds_toArray, List.set_cons_zero, List.set_cons_succ]
        refine but_take (i := 5) (v := (.slice (some ⟨b, off, none⟩) xs.length cap)) rfl (by kernel_rfl) (by kernel_rfl) (by kernel_rfl) (by kernel_rfl) (fun _ _ _ h => h) (Or.inl ⟨by rfl, ?hy⟩) trivial ?_
        case hy => intro w hSw; (try dsimp only at hSw); go_simp; (try (intro hh; omega))
        try simp only [Act.put, List.setIfInBounds_toArray, List.set_cons_zero, List.set_cons_succ]
        refine but_take (i := 6) (v := (.int .i64 (i : Nat))) rfl (by kernel_rfl) (by kernel_rfl) (by kernel_rfl) (by kernel_rfl) (fun _ _ _ h => h) (Or.inl ⟨by rfl, ?hy⟩) trivial ?_
        case hy => intro w hSw; (try dsimp only at hSw); go_simp; (try (intro hh; omega))
        try simp only [Act.put, List.setIfInBounds_toArray, List.set_cons_zero, List.set_cons_succ]
        refine but_take (i := 7) (v := (.slice (some ⟨b, off, none⟩) i cap)) rfl (by kernel_rfl) (by kernel_rfl) (by kernel_rfl) (by kernel_rfl) (fun _ _ _ h => h) (Or.inl ⟨by rfl, ?hy⟩) trivial ?_
        case hy => intro w hSw; (try dsimp only at hSw); go_simp; (try (intro hh; omega))
        try simp only [Act.put, List.setIfInBounds_toArray, List.set_cons_zero, List.set_cons_succ]
        refine but_one (i := 0) (by kernel_rfl) ?_
        refine wpOp_one rfl (by rfl) (fun K' hK => ?_)
        go_simp
        refine hK _ _ ⟨fun _ => trivial, ?_⟩
        clear hK K'
        have hba := below_alloc Z0 (.cells #[] 3)
        have hZa := HZ.out.trans (hba.mono HZ.out.size)
        have hEm := World.ownsRow_lit (base := Z0.heap.size) (e := 3) (size := 1) Z0 #[] 0 (Nat.le_refl _) (by unfold maxLen; omega) rfl
        try simp only [Act.put, List.setIfInBounds_toArray, List.set_cons_zero, List.set_cons_succ]
        refine but_one (i := 4) (by kernel_rfl) ?_
        refine wpOp_one rfl (by rfl) (fun K' hK => ?_)
        refine wp_app_src _ _ _ (by rfl) Z0.heap.size 3 i0 (.int .i64 0) 8 Try.underlying33 hi0 hz0 hz1 hz2 rfl _ 0 [] (by rfl) (hEm) (some ⟨b, off + i, none⟩) (xs.length - i) (cap - i) ((xs.drop i).map (Value.int .i64)) (by rfl) (by simp) (by have hh := ints_src1 (HD.out.below hZa); rw [show (xs.drop i).length = xs.length - i by simp] at hh; exact hh) (ints_one _) (by unfold maxLen; omega) (by omega) (by simp) ?_
        intro v3 w3 hown3 hgrow3 hat3
        rw [Nat.zero_add, List.nil_append] at hown3
        obtain ⟨a3, k3, e3⟩ := row_shp hown3
        subst e3
        have hb3 : Below Z0.heap.size Z0 w3 := hba.grown hgrow3 (by simp) (fun g hg => by have hg' : some Z0.heap.size = some g := hg; cases hg'; exact Nat.le_refl _)
        have hZ3 := HZ.out.trans (hb3.mono HZ.out.size)
        refine hK _ _ ⟨fun _ => trivial, ?_⟩
        clear hK K' hEm hgrow3 hat3 hZa hba
        try simp only [Act.put, List.setIfInBounds_toArray, List.set_cons_zero, List.set_cons_succ]
        refine but_one (i := 8) (by kernel_rfl) ?_
        refine wpOp_one rfl (by rfl) (fun K' hK => ?_)
        refine wp_app_src _ _ _ (by rfl) Z0.heap.size 3 i0 (.int .i64 0) 8 Try.underlying33 hi0 hz0 hz1 hz2 rfl _ (xs.length - i) ((xs.drop i).map (Value.int .i64)) (by rfl) (hown3) (some ⟨b, off, none⟩) i cap ((xs.take i).map (Value.int .i64)) (by rfl) (by simp; omega) (by have hh := ints_src1 (HT.out.below hZ3); rw [show (xs.take i).length = i by simp; omega] at hh; exact hh) (ints_one _) (by unfold maxLen; omega) (by omega) (hb3.size) ?_
        intro v4 w4 hown4 hgrow4 hat4
        have hb4 : Below Z0.heap.size Z0 w4 := hb3.grown hgrow4 hb3.size fun g hg => (hown3.lt g hg).1
        have hZ4 := HZ.out.trans (hb4.mono HZ.out.size)
        rw [← List.map_append, show xs.length - i + i = (xs.drop i ++ xs.take i).length by simp; omega] at hown4
        obtain ⟨at4, ct4, e4, hI4, q1, q2⟩ := own_ints hown4
        subst e4
        have hlr : (xs.drop i ++ xs.take i).length = xs.length := rot_len xs i (by omega)
        rw [hlr] at q1
        have HI4 : Hid (IntsAt w4 at4 (rot xs i)) := hid hI4
        have HB4 := hid (HB0.out.below hb4)
        have HW4 := hid hZ4
        rw [hlr]
        refine hK _ _ ⟨fun _ => trivial, ?_⟩
        clear hK K' hown3 hown4 hgrow4 hat4 hb3 hb4 hZ3 hZ4 hI4 HZ HB0 hlr
        try simp only [Act.put, List.setIfInBounds_toArray, List.set_cons_zero, List.set_cons_succ]
        refine but_one (i := 9) (by kernel_rfl) ?_
        refine wpOp_one rfl (by rfl) (fun K hK => ?_)
        go_simp
        refine hK _ _ ⟨fun h => absurd rfl h, but_done (by kernel_rfl) ?_ _⟩
        clear hK K
        try simp only [Act.put, List.setIfInBounds_toArray, List.set_cons_zero, List.set_cons_succ]
        have hF := First_any (rot xs i) at4 ct4 w4 HI4.out (by rw [rot_len xs i (by omega)]; unfold maxLen; omega) (by rw [rot_len xs i (by omega)]; exact q1) q2
        rw [HR.out.1, HR.out.2, rot_len xs i (by omega)] at hF
        have HF := hid hF
        clear hF
        go_wp2_with fail
        refine HF.out.mono ?_; rintro e w5 ⟨a5, c5, rfl, hI5, hb5, k5, k6⟩
        have HB5 := hid (HW4.out.trans (hb5.mono HW4.out.size))
        have HI5 := hid hI5
        have HI2 := hid (HB4.out.below hb5)
        have HS := hid (SameInts_any (frsR xs) a5 a2 c5 c2 w5 HI5.out HI2.out (by have := Hlr.out; unfold maxLen; omega))
        clear hb5 HW4 hI5 HF HB4 HI4
        go_wp2_with fail
        refine HS.out.mono ?_; rintro e w6 ⟨rfl, hb6⟩
        have HB6 := hid (HB5.out.trans (hb6.mono HB5.out.size))
        clear hb6 HB5 HS HI5 HI2
        go_wp2_with fail
        refine (Hk.out _).mono ?_; rintro e wk ⟨rfl, hbk⟩
        have hz2 := HB6.out.trans (hbk.mono HB6.out.size)
        clear hbk
        go_wp2_with fail
        go_ret
        exact ⟨rfl, hz2⟩
    · have d1 : (wrdE 6 xs == 0) = false := beq_eq_false_iff_ne.2 hE
      have d2 : (wrdE 6 xs != 0) = true := by rw [bne, d1]; rfl
      clear hE
      generalize wrdE 6 xs = ev at *
      go_wp2_with fail
      refine HS.out.mono ?_; rintro e w4 ⟨rfl, hb4⟩
      have HB4 := hid (HB3.out.trans (hb4.mono HB3.out.size))
      clear hb4 HB3 HS
      go_wp2_with fail
      refine (Hk.out _).mono ?_; rintro e wk ⟨rfl, hbk⟩
      have hz2 := HB4.out.trans (hbk.mono HB4.out.size)
      clear hbk
      go_wp2_with fail
      go_ret
      exact ⟨rfl, hz2⟩

  · rw [hg] at HL
    go_enter Try.func16, Try.ntmps16
    go_wp2_with fail
    refine HL.out.mono ?_; rintro e w1 ⟨rfl, rfl⟩
    have hb1 := Below.refl W.heap.size W
    have HB1 := hid hb1
    clear hb1
    go_wp2_with fail
    refine (Hk.out _).mono ?_; rintro e wk ⟨rfl, hbk⟩
    have hz2 := HB1.out.trans (hbk.mono HB1.out.size)
    clear hbk
    go_wp2_with fail
    go_ret
    exact ⟨rfl, hz2⟩
end Go.Proofs.Ytmllbemjcfkmjaa
