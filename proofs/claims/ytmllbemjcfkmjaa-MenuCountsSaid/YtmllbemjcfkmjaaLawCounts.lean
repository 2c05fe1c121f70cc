/- 'MenuCounts' returns true, whatever the machines and the number. -/
import Derived.Test.YtmllbemjcfkmjaaRank
import Derived.Test.YtmllbemjcfkmjaaGenOne
import Derived.Test.YtmllbemjcfkmjaaFront
import Derived.Test.YtmllbemjcfkmjaaKnown
namespace Go.Proofs.Ytmllbemjcfkmjaa
open Go.RowKit Go.Sort
set_option linter.unusedSimpArgs false
set_option linter.unusedVariables false

set_option maxRecDepth 100000 in
set_option maxHeartbeats 4000000 in
theorem lawCounts (W : World) (m : Mac) (a a2 : Option Addr) (cap cap2 : Nat) (hM : MacAt W a cap a2 cap2 m) (k : Mac) (b b2 : Option Addr) (dap dap2 : Nat) (hK : MacAt W b dap b2 dap2 k) (n : Int) (wn : (Lit.int .i64 n).wf = true) :
    Calls Try.prog 9 #[.agg #[.int .i64 m.L, .slice a m.nx.length cap, .slice a2 m.ac.length cap2], .agg #[.int .i64 k.L, .slice b k.nx.length dap, .slice b2 k.ac.length dap2], .int .i64 n] W fun e w' => e = .returned (.bool true) ∧ Below W.heap.size W w' := by
  clear wn
  have hb0 : Below W.heap.size W ((W.alloc (.cells #[.int .i64 m.L, .slice a m.nx.length cap, .slice a2 m.ac.length cap2] 25)).alloc (.cells #[.int .i64 k.L, .slice b k.nx.length dap, .slice b2 k.ac.length dap2] 25)) := (below_alloc W _).alloc (by simp) _
  have HM0 := hid (hM.below hb0)
  have HK0 := hid (hK.below hb0)
  have HB0 := hid hb0
  have HX0 : Hid (BoxAt W.heap.size ((W.alloc (.cells #[.int .i64 m.L, .slice a m.nx.length cap, .slice a2 m.ac.length cap2] 25)).alloc (.cells #[.int .i64 k.L, .slice b k.nx.length dap, .slice b2 k.ac.length dap2] 25)) (.int .i64 m.L) (.slice a m.nx.length cap) (.slice a2 m.ac.length cap2)) := hid (box_fst (Below.refl _ _) rfl)
  have HY0 : Hid (BoxAt (W.heap.size + 1) ((W.alloc (.cells #[.int .i64 m.L, .slice a m.nx.length cap, .slice a2 m.ac.length cap2] 25)).alloc (.cells #[.int .i64 k.L, .slice b k.nx.length dap, .slice b2 k.ac.length dap2] 25)) (.int .i64 k.L) (.slice b k.nx.length dap) (.slice b2 k.ac.length dap2)) := hid (box_snd (Below.refl _ _) rfl)
  have HL := hid (Large_any m a a2 cap cap2 ((W.alloc (.cells #[.int .i64 m.L, .slice a m.nx.length cap, .slice a2 m.ac.length cap2] 25)).alloc (.cells #[.int .i64 k.L, .slice b k.nx.length dap, .slice b2 k.ac.length dap2] 25)) HM0.out)
  have Hk := hid known_true
  clear hM hK hb0
  cases hL : lrgB m
  · rw [hL] at HL
    clear hL
    cases hL2 : lrgB k
    · go_enter Try.func9, Try.ntmps9
      go_wp2_with fail
      refine HL.out.mono ?_; rintro e w1 ⟨rfl, hb1⟩
      have HX1 := hid (HX0.out.below hb1)
      have HY1 := hid (HY0.out.below hb1)
      have HM1 := hid (HM0.out.below hb1)
      have HK1 := hid (HK0.out.below hb1)
      have HB1 := hid (HB0.out.trans (hb1.mono HB0.out.size))
      have HL2 := Large_any k b b2 dap dap2 w1 HK1.out
      rw [hL2] at HL2
      have HL2 := hid HL2
      clear hb1 hL2
      have x0 := HX1.out.c0
      have x1 := HX1.out.c1
      have x2 := HX1.out.c2
      have xl := HX1.out.lt
      have y0 := HY1.out.c0
      have y1 := HY1.out.c1
      have y2 := HY1.out.c2
      have yl := HY1.out.lt
      go_wp2_with fail
      refine HL2.out.mono ?_; rintro e w2 ⟨rfl, hb2⟩
      have HX2 := hid (HX1.out.below hb2)
      have HY2 := hid (HY1.out.below hb2)
      have HM2 := hid (HM1.out.below hb2)
      have HK2 := hid (HK1.out.below hb2)
      have HB2 := hid (HB1.out.trans (hb2.mono HB1.out.size))
      clear hb2 x0 x1 x2 xl y0 y1 y2 yl
      have x0 := HX2.out.c0
      have x1 := HX2.out.c1
      have x2 := HX2.out.c2
      have xl := HX2.out.lt
      have y0 := HY2.out.c0
      have y1 := HY2.out.c1
      have y2 := HY2.out.c2
      have yl := HY2.out.lt
      have HC := hid (Count_any m a a2 cap cap2 n w2 HM2.out)
      go_wp2_with fail
      refine HC.out.mono ?_; rintro e w3 ⟨rfl, hb3⟩
      have HX3 := hid (HX2.out.below hb3)
      have HY3 := hid (HY2.out.below hb3)
      have HM3 := hid (HM2.out.below hb3)
      have HK3 := hid (HK2.out.below hb3)
      have HB3 := hid (HB2.out.trans (hb3.mono HB2.out.size))
      clear hb3 x0 x1 x2 xl y0 y1 y2 yl
      have x0 := HX3.out.c0
      have x1 := HX3.out.c1
      have x2 := HX3.out.c2
      have xl := HX3.out.lt
      have y0 := HY3.out.c0
      have y1 := HY3.out.c1
      have y2 := HY3.out.c2
      have yl := HY3.out.lt
      have HC3 := hid (rCount_any m a a2 cap cap2 n w3 HM3.out)
      go_wp2_with fail
      refine HC3.out.mono ?_; rintro e w4 ⟨rfl, hb4⟩
      have HX4 := hid (HX3.out.below hb4)
      have HY4 := hid (HY3.out.below hb4)
      have HM4 := hid (HM3.out.below hb4)
      have HK4 := hid (HK3.out.below hb4)
      have HB4 := hid (HB3.out.trans (hb4.mono HB3.out.size))
      clear hb4 x0 x1 x2 xl y0 y1 y2 yl
      have x0 := HX4.out.c0
      have x1 := HX4.out.c1
      have x2 := HX4.out.c2
      have xl := HX4.out.lt
      have y0 := HY4.out.c0
      have y1 := HY4.out.c1
      have y2 := HY4.out.c2
      have yl := HY4.out.lt
      have HC4 := hid (Count_any k b b2 dap dap2 n w4 HK4.out)
      have HXE : Hid (cntN m n = cntN m n) := hid rfl
      generalize hxv : cntN m n = xv at *
      generalize hev : sizE m n = ev at *
      have Hxv := hid hxv
      have Hev := hid hev
      clear hxv hev
      have e1 : (xv != xv) = false := by simp
      have e2 : (xv == xv) = true := beq_self_eq_true _
      have e3 : (ev != ev) = false := by simp
      have e4 : (ev == ev) = true := beq_self_eq_true _
      go_wp2_with fail
      refine HC4.out.mono ?_; rintro e w5 ⟨rfl, hb5⟩
      clear e1 e2 e3 e4
      have HX5 := hid (HX4.out.below hb5)
      have HY5 := hid (HY4.out.below hb5)
      have HM5 := hid (HM4.out.below hb5)
      have HK5 := hid (HK4.out.below hb5)
      have HB5 := hid (HB4.out.trans (hb5.mono HB4.out.size))
      clear hb5 x0 x1 x2 xl y0 y1 y2 yl
      have x0 := HX5.out.c0
      have x1 := HX5.out.c1
      have x2 := HX5.out.c2
      have xl := HX5.out.lt
      have y0 := HY5.out.c0
      have y1 := HY5.out.c1
      have y2 := HY5.out.c2
      have yl := HY5.out.lt
      generalize hzv : cntN k n = zv at *
      generalize hgv : sizE k n = gv at *
      have Hzv := hid hzv
      have Hgv := hid hgv
      clear hzv hgv
      have HP := hid (Both_any m k a a2 cap cap2 b b2 dap dap2 w5 HM5.out HK5.out)
      go_wp2_with fail
      refine HP.out.mono ?_
      intro e w6 hG
      obtain ⟨z1, an, p1, cn, ab, q1, cb, E1, rfl, hb6, hok, hE1⟩ := gen_one hG
      have HO1 := hid hok
      have HX6 := hid (HX5.out.below hb6)
      have HY6 := hid (HY5.out.below hb6)
      have HM6 := hid (HM5.out.below hb6)
      have HK6 := hid (HK5.out.below hb6)
      have HB6 := hid (HB5.out.trans (hb6.mono HB5.out.size))
      clear hb6 hG hok hE1 x0 x1 x2 xl y0 y1 y2 yl
      have hb7 := below_alloc w6 (.cells #[.int .i64 z1, .slice an p1 cn, .slice ab q1 cb] 25)
      obtain ⟨w7, hw7⟩ : ∃ w7, w7 = w6.alloc (.cells #[.int .i64 z1, .slice an p1 cn, .slice ab q1 cb] 25) := ⟨_, rfl⟩
      have HN7 := hid (box_new w6 (.int .i64 z1) (.slice an p1 cn) (.slice ab q1 cb) 25)
      rw [← hw7] at hb7 HN7
      have HX7 := hid (HX6.out.below hb7)
      have HY7 := hid (HY6.out.below hb7)
      have HM7 := hid (HM6.out.below hb7)
      have HK7 := hid (HK6.out.below hb7)
      have HB7 := hid (HB6.out.trans (hb7.mono HB6.out.size))
      have HO7 := hid (fun h => (HO1.out h).imp fun F g => (⟨g.ok, g.fnd, g.le, g.z, g.p, g.q, g.mac.below hb7⟩ : GenOne _ _ _ w7 z1 an p1 cn ab q1 cb E1 F))
      have Hw7 := hid hw7
      clear hb7 hw7
      have x0 := HX7.out.c0
      have x1 := HX7.out.c1
      have x2 := HX7.out.c2
      have xl := HX7.out.lt
      have y0 := HY7.out.c0
      have y1 := HY7.out.c1
      have y2 := HY7.out.c2
      have yl := HY7.out.lt
      have HP7 := hid (Either_any m k a a2 cap cap2 b b2 dap dap2 w7 HM7.out HK7.out)
      have x0' := HX6.out.c0
      have x1' := HX6.out.c1
      have x2' := HX6.out.c2
      have xl' := HX6.out.lt
      have y0' := HY6.out.c0
      have y1' := HY6.out.c1
      have y2' := HY6.out.c2
      have yl' := HY6.out.lt
      go_wp2_with fail
      clear x0' x1' x2' xl' y0' y1' y2' yl'
      rw [← Hw7.out]
      refine HP7.out.mono ?_
      intro e w8 hG
      obtain ⟨z2, bn, p2, dn, bb, q2, db, E2, rfl, hb8, hok, hE1⟩ := gen_one hG
      have HN8 := hid (HN7.out.below hb8)
      have HO8 := hid (fun h => (HO7.out h).imp fun F g => (⟨g.ok, g.fnd, g.le, g.z, g.p, g.q, g.mac.below hb8⟩ : GenOne _ _ _ w8 z1 an p1 cn ab q1 cb E1 F))
      have HX8 := hid (HX7.out.below hb8)
      have HY8 := hid (HY7.out.below hb8)
      have HM8 := hid (HM7.out.below hb8)
      have HK8 := hid (HK7.out.below hb8)
      have HB8 := hid (HB7.out.trans (hb8.mono HB7.out.size))
      have HQ8 := hid hok
      have hl8 : w6.heap.size < w8.heap.size := HN8.out.lt
      clear hb8 hG hok hE1 x0 x1 x2 xl y0 y1 y2 yl
      have hb9 := below_alloc w8 (.cells #[.int .i64 z2, .slice bn p2 dn, .slice bb q2 db] 25)
      have HB9 := hid (HB8.out.trans (hb9.mono HB8.out.size))
      by_cases h_ev : ev = 0
      · have H_ev := hid h_ev
        subst h_ev
        by_cases h_gv : gv = 0
        · have H_gv := hid h_gv
          subst h_gv
          by_cases h_E1 : E1 = 0
          · have H_E1 := hid h_E1
            subst h_E1
            by_cases h_E2 : E2 = 0
            · have H_E2 := hid h_E2
              subst h_E2
              obtain ⟨F, gF⟩ := HO8.out rfl
              obtain ⟨G, gG⟩ := HQ8.out rfl
              have hF := gF.mac.below hb9
              have hG := gG.mac.below hb9
              obtain ⟨hOKm, hn0, hn20⟩ := sizE_zero.1 Hev.out
              obtain ⟨hOKk, _, _⟩ := sizE_zero.1 Hgv.out
              have hL1 : 1 ≤ m.L.toNat := by have := hOKm.l1; omega
              have hL6 : m.L.toNat ≤ 6 := by have := hOKm.l6; omega
              have s1 := sizE_zero.2 ⟨form_ok gF.fnd hL1 hL6 gF.le, hn0, hn20⟩
              have s2 := sizE_zero.2 ⟨form_ok gG.fnd hL1 hL6 gG.le, hn0, hn20⟩
              have hu := Count_any (macOf m.L.toNat F) an ab cn cb n _ hF
              have hv := fun w (hw : RowKit.Below (w8.alloc (.cells #[.int .i64 z2, .slice bn p2 dn, .slice bb q2 db] 25)).heap.size (w8.alloc (.cells #[.int .i64 z2, .slice bn p2 dn, .slice bb q2 db] 25)) w) => Count_any (macOf m.L.toNat G) bn bb dn db n w (hG.below hw)
              rw [← form_args gF.z gF.p gF.q, s1, cntN_ok s1] at hu
              simp only [← form_args gG.z gG.p gG.q, s2, cntN_ok s2] at hv
              have hsum := count_pairs gF.ok gF.fnd gG.fnd n.toNat
              have exv : xv = cnt m n.toNat 0 := by rw [← Hxv.out, cntN_ok Hev.out]
              have ezv : zv = cnt k n.toNat 0 := by rw [← Hzv.out, cntN_ok Hgv.out]
              have bu := cnt_bd (macOf m.L.toNat F) (by show ((m.L.toNat : Nat) : Int) ≤ 6; omega) n.toNat 0
              have bv := cnt_bd (macOf m.L.toNat G) (by show ((m.L.toNat : Nat) : Int) ≤ 6; omega) n.toNat 0
              have bx := cnt_bd m hOKm.l6 n.toNat 0
              have bz := cnt_bd k hOKk.l6 n.toNat 0
              rw [← exv] at bx hsum
              rw [← ezv] at bz hsum
              have h6 := six_le (show n.toNat ≤ 20 by omega)
              generalize cnt (macOf m.L.toNat F) n.toNat 0 = u at *
              generalize cnt (macOf m.L.toNat G) n.toNat 0 = v at *
              generalize six n.toNat = sx at *
              have hsu : (u + v == xv + zv) = true := beq_iff_eq.2 hsum
              have HU := hid hu
              have HVc := hid hv
              have HN9 := HN8.out.below hb9
              have n0 := HN9.c0
              have n1 := HN9.c1
              have n2 := HN9.c2
              have nl := HN9.lt
              have nl8 : w6.heap.size < w8.heap.size := hl8
              have HC0 := HN8.out.c0
              have HC1 := HN8.out.c1
              have HC2 := HN8.out.c2
              clear hu hv hsum exv ezv hF hG gF gG s1 s2 HN9 hOKm hOKk hn0 hn20 hL1 hL6 hb9
              go_wp2_with fail
              refine HU.out.mono ?_; rintro e w10 ⟨rfl, hb10⟩
              have c0 := (hb10.cell (p := ⟨w8.heap.size, 0, none⟩) (by simp)).trans (box_new w8 (.int .i64 z2) (.slice bn p2 dn) (.slice bb q2 db) 25).c0
              have c1 := (hb10.cell (p := ⟨w8.heap.size, 1, none⟩) (by simp)).trans (box_new w8 (.int .i64 z2) (.slice bn p2 dn) (.slice bb q2 db) 25).c1
              have c2 := (hb10.cell (p := ⟨w8.heap.size, 2, none⟩) (by simp)).trans (box_new w8 (.int .i64 z2) (.slice bn p2 dn) (.slice bb q2 db) 25).c2
              have cl : w8.heap.size < w10.heap.size := by have := hb10.size; simp at this; omega
              have HV10 := hid (HVc.out w10 hb10)
              have HB10 := hid (HB9.out.trans (hb10.mono HB9.out.size))
              clear hb10 n0 n1 n2 nl HC0 HC1 HC2
              go_wp2_with fail
              refine HV10.out.mono ?_; rintro e w11 ⟨rfl, hb11⟩
              have HB11 := hid (HB10.out.trans (hb11.mono HB10.out.size))
              clear hb11 c0 c1 c2 cl
              go_wp2_with fail
              refine (Hk.out _).mono ?_; rintro e wk ⟨rfl, hbk⟩
              have hz := HB11.out.trans (hbk.mono HB11.out.size)
              clear hbk
              go_wp2_with fail
              go_ret
              exact ⟨rfl, hz⟩
            · have d1 : (E2 == 0) = false := beq_eq_false_iff_ne.2 h_E2
              have d2 : (E2 != 0) = true := by rw [bne, d1]; rfl
              clear h_E2
              go_wp2_with fail
              refine (Hk.out _).mono ?_; rintro e wk ⟨rfl, hbk⟩
              have hz := HB9.out.trans (hbk.mono HB9.out.size)
              clear hbk
              go_wp2_with fail
              go_ret
              exact ⟨rfl, hz⟩
          · have d1 : (E1 == 0) = false := beq_eq_false_iff_ne.2 h_E1
            have d2 : (E1 != 0) = true := by rw [bne, d1]; rfl
            clear h_E1
            go_wp2_with fail
            refine (Hk.out _).mono ?_; rintro e wk ⟨rfl, hbk⟩
            have hz := HB9.out.trans (hbk.mono HB9.out.size)
            clear hbk
            go_wp2_with fail
            go_ret
            exact ⟨rfl, hz⟩
        · have d1 : (gv == 0) = false := beq_eq_false_iff_ne.2 h_gv
          have d2 : (gv != 0) = true := by rw [bne, d1]; rfl
          clear h_gv
          go_wp2_with fail
          refine (Hk.out _).mono ?_; rintro e wk ⟨rfl, hbk⟩
          have hz := HB9.out.trans (hbk.mono HB9.out.size)
          clear hbk
          go_wp2_with fail
          go_ret
          exact ⟨rfl, hz⟩
      · have d1 : (ev == 0) = false := beq_eq_false_iff_ne.2 h_ev
        have d2 : (ev != 0) = true := by rw [bne, d1]; rfl
        clear h_ev
        go_wp2_with fail
        refine (Hk.out _).mono ?_; rintro e wk ⟨rfl, hbk⟩
        have hz := HB9.out.trans (hbk.mono HB9.out.size)
        clear hbk
        go_wp2_with fail
        go_ret
        exact ⟨rfl, hz⟩
    · have HL2x := hid hL2
      clear hL2
      go_enter Try.func9, Try.ntmps9
      go_wp2_with fail
      refine HL.out.mono ?_; rintro e w1 ⟨rfl, hb1⟩
      have HX1 := hid (HX0.out.below hb1)
      have HY1 := hid (HY0.out.below hb1)
      have HM1 := hid (HM0.out.below hb1)
      have HK1 := hid (HK0.out.below hb1)
      have HB1 := hid (HB0.out.trans (hb1.mono HB0.out.size))
      have HL2 := Large_any k b b2 dap dap2 w1 HK1.out
      rw [HL2x.out] at HL2
      have HL2 := hid HL2
      clear hb1
      have x0 := HX1.out.c0
      have x1 := HX1.out.c1
      have x2 := HX1.out.c2
      have xl := HX1.out.lt
      have y0 := HY1.out.c0
      have y1 := HY1.out.c1
      have y2 := HY1.out.c2
      have yl := HY1.out.lt
      go_wp2_with fail
      refine HL2.out.mono ?_; rintro e w2 ⟨rfl, hb2⟩
      have HB2 := hid (HB1.out.trans (hb2.mono HB1.out.size))
      clear hb2
      go_wp2_with fail
      refine (Hk.out _).mono ?_; rintro e wk ⟨rfl, hbk⟩
      have hz := HB2.out.trans (hbk.mono HB2.out.size)
      clear hbk
      go_wp2_with fail
      go_ret
      exact ⟨rfl, hz⟩
  · rw [hL] at HL
    clear hL
    go_enter Try.func9, Try.ntmps9
    go_wp2_with fail
    refine HL.out.mono ?_; rintro e w1 ⟨rfl, hb1⟩
    have HB1 := hid (HB0.out.trans (hb1.mono HB0.out.size))
    clear hb1
    go_wp2_with fail
    refine (Hk.out _).mono ?_; rintro e wk ⟨rfl, hbk⟩
    have hz := HB1.out.trans (hbk.mono HB1.out.size)
    clear hbk
    go_wp2_with fail
    go_ret
    exact ⟨rfl, hz⟩
end Go.Proofs.Ytmllbemjcfkmjaa
