/- 'MenuRanks' returns true, whatever the machine and the word. -/
import Derived.Test.YtmllbemjcfkmjaaRank
import Derived.Test.YtmllbemjcfkmjaaRound
import Derived.Test.YtmllbemjcfkmjaaFront
import Derived.Test.YtmllbemjcfkmjaaKnown
namespace Go.Proofs.Ytmllbemjcfkmjaa
open Go.RowKit Go.Sort
set_option linter.unusedSimpArgs false
set_option linter.unusedVariables false

set_option maxRecDepth 100000 in
set_option maxHeartbeats 2000000 in
theorem lawRanks (W : World) (m : Mac) (a a2 : Option Addr) (cap cap2 : Nat) (hM : MacAt W a cap a2 cap2 m) (ax : Option Addr) (xs : List Int) (cx : Nat) (hI : IntsAt W ax xs) (hlc : xs.length ≤ cx) (hcm : cx ≤ maxLen) (hwf : ∀ i, i < xs.length → (Lit.int .i64 (nth xs i)).wf = true) :
    Calls Try.prog 5 #[.agg #[.int .i64 m.L, .slice a m.nx.length cap, .slice a2 m.ac.length cap2], .slice ax xs.length cx] W fun e w' => e = .returned (.bool true) ∧ Below W.heap.size W w' := by
  have hl : xs.length ≤ maxLen := Nat.le_trans hlc hcm
  clear hwf
  have hb0 := below_alloc W (.cells #[.int .i64 m.L, .slice a m.nx.length cap, .slice a2 m.ac.length cap2] 25)
  have HM := hid (hM.below hb0)
  have HI := hid (hI.below hb0)
  have HL := hid (Large_any m a a2 cap cap2 (W.alloc (.cells #[.int .i64 m.L, .slice a m.nx.length cap, .slice a2 m.ac.length cap2] 25)) HM.out)
  have HB := hid hb0
  have Hl := hid hl
  have Hk := hid known_true
  have Hlc := hid hlc
  have Hcm := hid hcm
  clear hM hI hb0 hlc hcm
  cases hL : lrgB m
  · rw [hL] at HL
    clear hL
    cases hN : lngB xs
    · have HN := hid (fun w => long_any xs ax cx w hl)
      rw [hN] at HN
      clear hN hl
      go_enter Try.func5, Try.ntmps5
      go_wp2_with fail
      refine HL.out.mono ?_; rintro e w1 ⟨rfl, hb1⟩
      go_wp2_with fail
      refine (HN.out _).mono ?_; rintro e w1' ⟨rfl, rfl⟩
      have hX := box_at (B := W.heap.size + 1) (by simpa using hb1) rfl
      have x0 := hX.c0
      have x1 := hX.c1
      have x2 := hX.c2
      have xl := hX.lt
      have HM1 := hid (HM.out.below hb1)
      have HI1 := hid (HI.out.below hb1)
      have HB1 := hid (HB.out.trans (hb1.mono HB.out.size))
      have HA := hid (Rank_any m a a2 cap cap2 xs ax cx w1 HM1.out HI1.out Hl.out)
      clear hX hb1
      go_wp2_with fail
      refine HA.out.mono ?_; rintro e w2 ⟨rfl, hb2⟩
      have y0 := (hb2.cell (p := ⟨W.heap.size, 0, none⟩) xl).trans x0
      have y1 := (hb2.cell (p := ⟨W.heap.size, 1, none⟩) xl).trans x1
      have y2 := (hb2.cell (p := ⟨W.heap.size, 2, none⟩) xl).trans x2
      have yl : W.heap.size < w2.heap.size := by have := hb2.size; omega
      have HM2 := hid (HM1.out.below hb2)
      have HI2 := hid (HI1.out.below hb2)
      have HB2 := hid (HB1.out.trans (hb2.mono HB1.out.size))
      have HR := hid (rRank_any m a a2 cap cap2 xs ax cx w2 HM2.out HI2.out Hlc.out Hcm.out)
      clear hb2 x0 x1 x2 xl
      go_wp2_with fail
      refine HR.out.mono ?_; rintro e w3 ⟨rfl, hb3⟩
      have q0 := (hb3.cell (p := ⟨W.heap.size, 0, none⟩) yl).trans y0
      have q1 := (hb3.cell (p := ⟨W.heap.size, 1, none⟩) yl).trans y1
      have q2 := (hb3.cell (p := ⟨W.heap.size, 2, none⟩) yl).trans y2
      have ql : W.heap.size < w3.heap.size := by have := hb3.size; omega
      have HM3 := hid (HM2.out.below hb3)
      have HI3 := hid (HI2.out.below hb3)
      have HB3 := hid (HB2.out.trans (hb3.mono HB2.out.size))
      clear hb3 y0 y1 y2 yl
      by_cases hE : rnkE m xs = 0
      · have HU := hid (Unrank_any m a a2 cap cap2 (xs.length : Int) (rnkN m xs) w3 HM3.out)
        have hU := unk_rnk hE
        rw [hU.1, hU.2] at HU
        rw [hE]
        clear hU hE
        generalize rnkN m xs = rv at *
        have e1 : (rv != rv) = false := by simp
        have e2 : (rv == rv) = true := beq_self_eq_true _
        go_wp2_with fail
        refine HU.out.mono ?_
        rintro e w4 ⟨au, cu, rfl, hIu, hb4, _, _⟩
        have HS := hid (SameInts_any xs au ax cu cx w4 hIu (HI3.out.below hb4) Hl.out)
        have HB4 := hid (HB3.out.trans (hb4.mono HB3.out.size))
        clear hIu hb4
        go_wp2_with fail
        refine HS.out.mono ?_; rintro e w5 ⟨rfl, hb5⟩
        have HB5 := hid (HB4.out.trans (hb5.mono HB4.out.size))
        clear hb5
        go_wp2_with fail
        refine (Hk.out _).mono ?_; rintro e w6 ⟨rfl, hb6⟩
        have hz := HB5.out.trans (hb6.mono HB5.out.size)
        clear hb6
        go_wp2_with fail
        go_ret
        exact ⟨rfl, hz⟩
      · have d1 : (rnkE m xs == 0) = false := beq_eq_false_iff_ne.2 hE
        have d2 : (rnkE m xs != 0) = true := by rw [bne, d1]; rfl
        clear hE
        generalize rnkN m xs = rv at *
        generalize rnkE m xs = ev at *
        have e1 : (rv != rv) = false := by simp
        have e2 : (rv == rv) = true := beq_self_eq_true _
        have e3 : (ev != ev) = false := by simp
        have e4 : (ev == ev) = true := beq_self_eq_true _
        go_wp2_with fail
        refine (Hk.out _).mono ?_; rintro e w6 ⟨rfl, hb6⟩
        have hz := HB3.out.trans (hb6.mono HB3.out.size)
        clear hb6
        go_wp2_with fail
        go_ret
        exact ⟨rfl, hz⟩
    · have HN := hid (fun w => long_any xs ax cx w hl)
      rw [hN] at HN
      clear hN hl
      go_enter Try.func5, Try.ntmps5
      go_wp2_with fail
      refine HL.out.mono ?_; rintro e w1 ⟨rfl, hb1⟩
      go_wp2_with fail
      refine (HN.out _).mono ?_; rintro e w1' ⟨rfl, rfl⟩
      have hz := HB.out.trans (hb1.mono HB.out.size)
      clear hb1
      go_wp2_with fail
      refine (Hk.out _).mono ?_; rintro e wk ⟨rfl, hbk⟩
      have hz2 := hz.trans (hbk.mono hz.size)
      clear hbk
      go_wp2_with fail
      go_ret
      exact ⟨rfl, hz2⟩
  · rw [hL] at HL
    clear hL hl
    go_enter Try.func5, Try.ntmps5
    go_wp2_with fail
    refine HL.out.mono ?_; rintro e w1 ⟨rfl, hb1⟩
    have hz := HB.out.trans (hb1.mono HB.out.size)
    clear hb1
    go_wp2_with fail
    refine (Hk.out _).mono ?_; rintro e wk ⟨rfl, hbk⟩
    have hz2 := hz.trans (hbk.mono hz.size)
    clear hbk
    go_wp2_with fail
    go_ret
    exact ⟨rfl, hz2⟩
end Go.Proofs.Ytmllbemjcfkmjaa
