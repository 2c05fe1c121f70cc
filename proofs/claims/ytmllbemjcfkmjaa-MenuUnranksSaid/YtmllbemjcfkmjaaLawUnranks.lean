/- 'MenuUnranks' returns true, whatever the machine and the numbers. -/
import Derived.Test.YtmllbemjcfkmjaaRank
import Derived.Test.YtmllbemjcfkmjaaRound
import Derived.Test.YtmllbemjcfkmjaaFront
import Derived.Test.YtmllbemjcfkmjaaKnown
namespace Go.Proofs.Ytmllbemjcfkmjaa
open Go.RowKit Go.Sort
set_option linter.unusedSimpArgs false
set_option linter.unusedVariables false

theorem unk_bad2 {m : Mac} {n r : Int} (h : unkE m n r ≠ 0) : unkR m n r = [] := by unfold unkR; rw [if_neg h]
theorem unkR_len {m : Mac} {n r : Int} : (unkR m n r).length ≤ 20 := by
  by_cases h : unkE m n r = 0
  · obtain ⟨h1, h2, h3⟩ := unkE_zero.1 h
    obtain ⟨_, n0, n20⟩ := sizE_zero.1 h1
    rw [(unk_ok h1 h2 h3).2, unr_len]
    omega
  · rw [unk_bad2 h]; exact Nat.zero_le _
set_option maxRecDepth 100000 in
set_option maxHeartbeats 2000000 in
theorem lawUnranks (W : World) (m : Mac) (a a2 : Option Addr) (cap cap2 : Nat) (hM : MacAt W a cap a2 cap2 m) (n r : Int) (wn : (Lit.int .i64 n).wf = true) (wr : (Lit.int .i64 r).wf = true) :
    Calls Try.prog 6 #[.agg #[.int .i64 m.L, .slice a m.nx.length cap, .slice a2 m.ac.length cap2], .agg #[.int .i64 n, .int .i64 r]] W fun e w' => e = .returned (.bool true) ∧ Below W.heap.size W w' := by
  clear wn wr
  have hb0 : Below W.heap.size W ((W.alloc (.cells #[.int .i64 m.L, .slice a m.nx.length cap, .slice a2 m.ac.length cap2] 25)).alloc (.cells #[.int .i64 n, .int .i64 r] 45)) := (below_alloc W _).alloc (by simp) _
  have HM := hid (hM.below hb0)
  have HL := hid (Large_any m a a2 cap cap2 ((W.alloc (.cells #[.int .i64 m.L, .slice a m.nx.length cap, .slice a2 m.ac.length cap2] 25)).alloc (.cells #[.int .i64 n, .int .i64 r] 45)) HM.out)
  have HB := hid hb0
  have Hk := hid known_true
  clear hM hb0
  cases hL : lrgB m
  · rw [hL] at HL
    clear hL
    go_enter Try.func6, Try.ntmps6
    go_wp2_with fail
    refine HL.out.mono ?_; rintro e w1 ⟨rfl, hb1⟩
    have x0 : w1.cell? ⟨W.heap.size, 0, none⟩ = some (.int .i64 m.L) := by rw [hb1.cell (p := ⟨W.heap.size, 0, none⟩) (by simp; omega)]; simp
    have x1 : w1.cell? ⟨W.heap.size, 1, none⟩ = some (.slice a m.nx.length cap) := by rw [hb1.cell (p := ⟨W.heap.size, 1, none⟩) (by simp; omega)]; simp
    have x2 : w1.cell? ⟨W.heap.size, 2, none⟩ = some (.slice a2 m.ac.length cap2) := by rw [hb1.cell (p := ⟨W.heap.size, 2, none⟩) (by simp; omega)]; simp
    have x3 : w1.cell? ⟨W.heap.size + 1, 0, none⟩ = some (.int .i64 n) := by rw [hb1.cell (p := ⟨W.heap.size + 1, 0, none⟩) (by simp)]; simp
    have x4 : w1.cell? ⟨W.heap.size + 1, 1, none⟩ = some (.int .i64 r) := by rw [hb1.cell (p := ⟨W.heap.size + 1, 1, none⟩) (by simp)]; simp
    have xl : W.heap.size + 1 < w1.heap.size := by have := hb1.size; simp at this; omega
    have xl' : W.heap.size < w1.heap.size := by omega
    have HM1 := hid (HM.out.below hb1)
    have HB1 := hid (HB.out.trans (hb1.mono HB.out.size))
    have HA := hid (Unrank_any m a a2 cap cap2 n r w1 HM1.out)
    clear hb1
    go_wp2_with fail
    refine HA.out.mono ?_; rintro e w2 ⟨u1, c1, rfl, hI1, hb2, _, _⟩
    have y0 := (hb2.cell (p := ⟨W.heap.size, 0, none⟩) xl').trans x0
    have y1 := (hb2.cell (p := ⟨W.heap.size, 1, none⟩) xl').trans x1
    have y2 := (hb2.cell (p := ⟨W.heap.size, 2, none⟩) xl').trans x2
    have y3 := (hb2.cell (p := ⟨W.heap.size + 1, 0, none⟩) xl).trans x3
    have y4 := (hb2.cell (p := ⟨W.heap.size + 1, 1, none⟩) xl).trans x4
    have yl : W.heap.size + 1 < w2.heap.size := by have := hb2.size; omega
    have yl' : W.heap.size < w2.heap.size := by omega
    have HM2 := hid (HM1.out.below hb2)
    have HB2 := hid (HB1.out.trans (hb2.mono HB1.out.size))
    have HR := hid (rUnrank_any m a a2 cap cap2 n r w2 HM2.out)
    have HI2 := hid hI1
    clear hb2 x0 x1 x2 x3 x4 xl hI1 xl'
    go_wp2_with fail
    refine HR.out.mono ?_; rintro e w3 ⟨u2, c2, rfl, hI2, hb3, _, _⟩
    have q0 := (hb3.cell (p := ⟨W.heap.size, 0, none⟩) yl').trans y0
    have q1 := (hb3.cell (p := ⟨W.heap.size, 1, none⟩) yl').trans y1
    have q2 := (hb3.cell (p := ⟨W.heap.size, 2, none⟩) yl').trans y2
    have q3 := (hb3.cell (p := ⟨W.heap.size + 1, 0, none⟩) yl).trans y3
    have q4 := (hb3.cell (p := ⟨W.heap.size + 1, 1, none⟩) yl).trans y4
    have ql : W.heap.size + 1 < w3.heap.size := by have := hb3.size; omega
    have ql' : W.heap.size < w3.heap.size := by omega
    have HM3 := hid (HM2.out.below hb3)
    have HI3 := hid (HI2.out.below hb3)
    have HJ3 := hid hI2
    have HB3 := hid (HB2.out.trans (hb3.mono HB2.out.size))
    have Hu20 := hid (unkR_len (m := m) (n := n) (r := r))
    have HS := hid (fun w (hw : Below w3.heap.size w3 w) => SameInts_any (unkR m n r) u1 u2 c1 c2 w (HI3.out.below hw) (HJ3.out.below hw) (by have := Hu20.out; unfold maxLen; omega))
    clear hb3 y0 y1 y2 y3 y4 yl yl' hI2
    by_cases hE : unkE m n r = 0
    · have HRK := hid (rnk_unk hE)
      rw [hE]
      clear hE
      go_wp2_with fail
      refine (HS.out _ (Below.refl _ _)).mono ?_; rintro e w4 ⟨rfl, hb4⟩
      have z0 := (hb4.cell (p := ⟨W.heap.size, 0, none⟩) ql').trans q0
      have z1 := (hb4.cell (p := ⟨W.heap.size, 1, none⟩) ql').trans q1
      have z2 := (hb4.cell (p := ⟨W.heap.size, 2, none⟩) ql').trans q2
      have z4 := (hb4.cell (p := ⟨W.heap.size + 1, 1, none⟩) ql).trans q4
      have zl : W.heap.size + 1 < w4.heap.size := by have := hb4.size; omega
      have HM4 := hid (HM3.out.below hb4)
      have HI4 := hid (HI3.out.below hb4)
      have HB4 := hid (HB3.out.trans (hb4.mono HB3.out.size))
      have HRA := Rank_any m a a2 cap cap2 (unkR m n r) u1 c1 w4 HM4.out HI4.out (by have := Hu20.out; unfold maxLen; omega)
      rw [HRK.out.1, HRK.out.2] at HRA
      have HRA := hid HRA
      clear hb4 q0 q1 q2 q3 q4 ql ql'
      go_wp2_with fail
      refine HRA.out.mono ?_; rintro e w5 ⟨rfl, hb5⟩
      have t4 := (hb5.cell (p := ⟨W.heap.size + 1, 1, none⟩) zl).trans z4
      have tl : W.heap.size + 1 < w5.heap.size := by have := hb5.size; omega
      have HB5 := hid (HB4.out.trans (hb5.mono HB4.out.size))
      have er : (r == r) = true := beq_self_eq_true _
      clear hb5 z0 z1 z2 z4 zl
      go_wp2_with fail
      refine (Hk.out _).mono ?_; rintro e w6 ⟨rfl, hb6⟩
      have hz := HB5.out.trans (hb6.mono HB5.out.size)
      clear hb6
      go_wp2_with fail
      go_ret
      exact ⟨rfl, hz⟩
    · have d1 : (unkE m n r == 0) = false := beq_eq_false_iff_ne.2 hE
      have d2 : (unkE m n r != 0) = true := by rw [bne, d1]; rfl
      have hnil := unk_bad2 hE
      rw [hnil] at HS ⊢
      clear hE hnil
      generalize unkE m n r = ev at *
      have e3 : (ev != ev) = false := by simp
      have e4 : (ev == ev) = true := beq_self_eq_true _
      go_wp2_with fail
      refine (HS.out _ (Below.refl _ _)).mono ?_; rintro e w4 ⟨rfl, hb4⟩
      have HB4 := hid (HB3.out.trans (hb4.mono HB3.out.size))
      clear hb4
      go_wp2_with fail
      refine (Hk.out _).mono ?_; rintro e w6 ⟨rfl, hb6⟩
      have hz := HB4.out.trans (hb6.mono HB4.out.size)
      clear hb6
      go_wp2_with fail
      go_ret
      exact ⟨rfl, hz⟩
  · rw [hL] at HL
    clear hL
    go_enter Try.func6, Try.ntmps6
    go_wp2_with fail
    refine HL.out.mono ?_; rintro e w1 ⟨rfl, hb1⟩
    have hz := HB.out.trans (hb1.mono HB.out.size)
    clear hb1
    go_wp2_with fail
    refine (Hk.out _).mono ?_; rintro e wk ⟨rfl, hbk⟩
    have hz2 := hz.trans (hbk.mono hz.size)
    clear hbk
    go_wp2_with fail
    go_ret
    exact ⟨rfl, hz2⟩
end Go.Proofs.Ytmllbemjcfkmjaa
