/- 'MenuAccepts' returns true, whatever the machine and the word. -/
import Derived.Test.YtmllbemjcfkmjaaRound
import Derived.Test.YtmllbemjcfkmjaaFront
import Derived.Test.YtmllbemjcfkmjaaKnown
namespace Go.Proofs.Ytmllbemjcfkmjaa
open Go.RowKit Go.Sort
set_option linter.unusedSimpArgs false
set_option linter.unusedVariables false

set_option maxRecDepth 100000 in
set_option maxHeartbeats 1000000 in
theorem lawAccepts (W : World) (m : Mac) (a a2 : Option Addr) (cap cap2 : Nat) (hM : MacAt W a cap a2 cap2 m) (ax : Option Addr) (xs : List Int) (cx : Nat) (hI : IntsAt W ax xs) (hlc : xs.length ≤ cx) (hcm : cx ≤ maxLen) (hwf : ∀ i, i < xs.length → (Lit.int .i64 (nth xs i)).wf = true) :
    Calls Try.prog 4 #[.agg #[.int .i64 m.L, .slice a m.nx.length cap, .slice a2 m.ac.length cap2], .slice ax xs.length cx] W fun e w' => e = .returned (.bool true) ∧ Below W.heap.size W w' := by
  have hl : xs.length ≤ maxLen := Nat.le_trans hlc hcm
  clear hwf
  have hb0 := below_alloc W (.cells #[.int .i64 m.L, .slice a m.nx.length cap, .slice a2 m.ac.length cap2] 25)
  have HM := hid (hM.below hb0)
  have HI := hid (hI.below hb0)
  have HL := hid (Large_any m a a2 cap cap2 (W.alloc (.cells #[.int .i64 m.L, .slice a m.nx.length cap, .slice a2 m.ac.length cap2] 25)) HM.out)
  have HB := hid hb0
  have Hl := hid hl
  have Hk := hid known_true
  clear hM hI hb0 hlc hcm
  cases hL : lrgB m
  · rw [hL] at HL
    clear hL
    cases hN : lngB xs
    · have HN := hid (fun w => long_any xs ax cx w hl)
      rw [hN] at HN
      clear hN hl
      go_enter Try.func4, Try.ntmps4
      go_wp2_with fail
      refine HL.out.mono ?_; rintro e w1 ⟨rfl, hb1⟩
      go_wp2_with fail
      refine (HN.out _).mono ?_; rintro e w1' ⟨rfl, rfl⟩
      have hX := box_at (B := W.heap.size + 1) (by simpa using hb1) rfl
      have x0 := hX.c0
      have x1 := hX.c1
      have x2 := hX.c2
      have xl := hX.lt
      have HM1 := hid (HM.out.below hb1)
      have HI1 := hid (HI.out.below hb1)
      have HB1 := hid (HB.out.trans (hb1.mono HB.out.size))
      have HA := hid (Accepts_any m a a2 cap cap2 xs ax cx w1 HM1.out HI1.out Hl.out)
      clear hX hb1
      go_wp2_with fail
      refine HA.out.mono ?_; rintro e w2 ⟨rfl, hb2⟩
      have y0 := (hb2.cell (p := ⟨W.heap.size, 0, none⟩) xl).trans x0
      have y1 := (hb2.cell (p := ⟨W.heap.size, 1, none⟩) xl).trans x1
      have y2 := (hb2.cell (p := ⟨W.heap.size, 2, none⟩) xl).trans x2
      have yl : W.heap.size < w2.heap.size := by have := hb2.size; omega
      have HM2 := hid (HM1.out.below hb2)
      have HI2 := hid (HI1.out.below hb2)
      have HB2 := hid (HB1.out.trans (hb2.mono HB1.out.size))
      have HR := hid (rAccepts_any m a a2 cap cap2 xs ax cx w2 HM2.out HI2.out Hl.out)
      clear hb2 x0 x1 x2 xl
      go_wp2_with fail
      refine HR.out.mono ?_; rintro e w3 ⟨rfl, hb3⟩
      have q0 := cell_regrown ((hb3.cell (p := ⟨W.heap.size, 0, none⟩) yl).trans y0)
      have q1 := cell_regrown ((hb3.cell (p := ⟨W.heap.size, 1, none⟩) yl).trans y1)
      have q2 := cell_regrown ((hb3.cell (p := ⟨W.heap.size, 2, none⟩) yl).trans y2)
      have HM3 := hid (HM2.out.below hb3)
      have HB3 := hid (HB2.out.trans (hb3.mono HB2.out.size))
      clear hb3 y0 y1 y2 yl
      generalize accB m xs = bb at *
      generalize wodE m xs = ee at *
      generalize hV : valE m = vv at *
      have HV := hid hV
      clear hV
      have eb : (bb == bb) = true := beq_self_eq_true _
      have ev : (vv == vv) = true := beq_self_eq_true _
      have ee' : (ee == ee) = true := beq_self_eq_true _
      go_wp2_with fail
      refine wp_region_quiet_below (by kernel_rfl) (by kernel_rfl) ?_
      refine Qt.out ?_
      iterate 19 (refine qt_want (by kernel_rfl) (fun K hK => ?_); go_simp; first | (refine hK _ ?_; clear hK K) | (apply Exists.intro; refine ⟨fun p => ?_, hK _ ?_⟩; (first | (go_at_call 27; exact Calls.regrown_of (HV.out ▸ Validate_any m a a2 cap cap2 _ (HM3.out.below (below_regrown w3 p.d p.os)))) | (go_at_call 28; exact Calls.regrown_of (HV.out ▸ rValidate_any m a a2 cap cap2 _ (HM3.out.below (below_regrown w3 p.d p.os)))) | (go_at_call 19; exact Calls.regrown_of (Hk.out _))); clear hK K))
      refine qt_nil ?_
      intro _ hw'
      obtain ⟨p, hw''⟩ := hw'
      subst hw''
      go_wp2_with fail
      go_ret
      exact ⟨rfl, HB3.out.trans ((below_regrown w3 _ _).mono HB3.out.size)⟩
    · have HN := hid (fun w => long_any xs ax cx w hl)
      rw [hN] at HN
      clear hN hl
      go_enter Try.func4, Try.ntmps4
      go_wp2_with fail
      refine HL.out.mono ?_; rintro e w1 ⟨rfl, hb1⟩
      have hz := HB.out.trans (hb1.mono HB.out.size)
      clear hb1
      go_wp2_with fail
      refine (HN.out _).mono ?_; rintro e w1' ⟨rfl, rfl⟩
      go_wp2_with fail
      refine (Hk.out _).mono ?_; rintro e w2 ⟨rfl, hb2⟩
      have hz2 := hz.trans (hb2.mono hz.size)
      clear hb2
      go_wp2_with fail
      go_ret
      exact ⟨rfl, hz2⟩
  · rw [hL] at HL
    clear hL hl
    go_enter Try.func4, Try.ntmps4
    go_wp2_with fail
    refine HL.out.mono ?_; rintro e w1 ⟨rfl, hb1⟩
    have hz := HB.out.trans (hb1.mono HB.out.size)
    clear hb1
    go_wp2_with fail
    refine (Hk.out _).mono ?_; rintro e w2 ⟨rfl, hb2⟩
    have hz2 := hz.trans (hb2.mono hz.size)
    clear hb2
    go_wp2_with fail
    go_ret
    exact ⟨rfl, hz2⟩
end Go.Proofs.Ytmllbemjcfkmjaa
