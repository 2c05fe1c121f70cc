/- The document's 'Rank': what it returns. -/
import Derived.Test.YtmllbemjcfkmjaaAccept
import Derived.Test.YtmllbemjcfkmjaaTable
namespace Go.Proofs.Ytmllbemjcfkmjaa
open Go.RowKit Go.Sort
set_option linter.unusedSimpArgs false
set_option linter.unusedVariables false

theorem nth_take {xs : List Int} {i j : Nat} (h : j < i) : nth (xs.take i) j = nth xs j := by
  unfold nth
  simp [List.getD, List.getElem?_take, h]
theorem runF_take (m : Mac) (xs : List Int) (s : Int) (i j : Nat) (h : j ≤ i) : runF m (xs.take i) s j = runF m xs s j := by
  induction j with
  | zero => rfl
  | succ j ih => simp only [runF]; rw [ih (by omega), nth_take (by omega)]
theorem word_take {L : Int} {xs : List Int} (h : WordOK L xs) (i : Nat) : WordOK L (xs.take i) :=
  ⟨by have := h.l20; simp; omega, fun j hj => by
    have hj' : j < i ∧ j < xs.length := by simp at hj; omega
    rw [nth_take hj'.1]; exact h.el j hj'.2⟩
theorem ints_take {w : World} {ax : Option Addr} {xs : List Int} (h : IntsAt w ax xs) (i : Nat) : IntsAt w ax (xs.take i) := by
  intro j hj
  have hj' : j < i ∧ j < xs.length := by simp at hj; omega
  obtain ⟨b, off, e, hlt, hc⟩ := h j hj'.2
  exact ⟨b, off, e, hlt, by rw [hc, nth_take hj'.1]⟩

set_option maxRecDepth 100000 in
set_option maxHeartbeats 4000000 in
theorem rRank_any (m : Mac) (a a2 : Option Addr) (cap cap2 : Nat) (xs : List Int) (ax : Option Addr) (cx : Nat) (W : World) (hM : MacAt W a cap a2 cap2 m) (hI : IntsAt W ax xs) (hlc : xs.length ≤ cx) (hcm : cx ≤ maxLen) :
    Calls Try.prog 30 #[.agg #[.int .i64 m.L, .slice a m.nx.length cap, .slice a2 m.ac.length cap2], .slice ax xs.length cx] W fun e w' => e = .returned (.tuple #[.int .i64 (rnkN m xs), .int .i64 (rnkE m xs)]) ∧ Below W.heap.size W w' := by
  have hl : xs.length ≤ maxLen := Nat.le_trans hlc hcm
  have hb0 := below_alloc W (.cells #[.int .i64 m.L, .slice a m.nx.length cap, .slice a2 m.ac.length cap2] 25)
  have HM := hid (hM.below hb0)
  have HI := hid (hI.below hb0)
  have Hv := hid (both_any m a a2 cap cap2 xs ax cx (W.alloc (.cells #[.int .i64 m.L, .slice a m.nx.length cap, .slice a2 m.ac.length cap2] 25)) HM.out HI.out hl)
  have HB := hid hb0
  clear hM hb0 hI hl
  by_cases hv : wodE m xs = 0
  · obtain ⟨hOK, hW⟩ := wodE_zero.1 hv
    have HV := hid hv
    rw [hv] at Hv
    have HOK := hid hOK
    have HW := hid hW
    have h20 := hW.l20
    have h64 := hOK.n64
    have hs := runN_in hOK hW xs.length (Nat.le_refl _)
    have H0 := hid (show (0 : Int) < (m.nx.length : Int) by have := hOK.n1; omega)
    have Hac := hid hOK.ac
    have HR := hid (show runF m xs 0 xs.length = runN m xs xs.length from rfl)
    have R1 := hid (fun h => rnk_ok (m := m) (xs := xs) hv h)
    have R0 := hid (fun h => rnk_no (m := m) (xs := xs) hv h)
    clear hOK hW hv
    go_enter Try.func30, Try.ntmps30
    go_wp2_with fail
    refine Hv.out.mono ?_; rintro e w1 ⟨rfl, hb1⟩
    have hX := box_at (B := W.heap.size + 1) (by simpa using hb1) rfl
    have HM1 := hid (HM.out.below hb1)
    have HI1 := hid (HI.out.below hb1)
    have HB1 := hid (HB.out.trans (hb1.mono HB.out.size))
    obtain ⟨sn, hsn⟩ : ∃ sn : Nat, runN m xs xs.length = (sn : Int) := ⟨(runN m xs xs.length).toNat, by omega⟩
    have hacc : accM m (runN m xs xs.length) = m.ac.getD sn false := by rw [hsn]; rfl
    obtain ⟨b2, o2, rfl, hb2, c2⟩ := HM1.out.ac sn (by rw [Hac.out]; omega)
    have q0 := cell_regrown hX.c0
    have q1 := cell_regrown hX.c1
    have q2 := cell_regrown hX.c2
    have q3 := cell_regrown c2
    have HX := hid hX
    have i1 : (0 : Int) ≤ (sn : Int) := by omega
    have i2 : (sn : Int) < (m.ac.length : Int) := by rw [Hac.out]; omega
    rw [hsn] at HR
    rw [hacc] at R0 R1
    generalize m.ac.getD sn false = x at *
    clear hX hb1 c2 hsn hs hacc
    go_wp2_with fail
    refine wp_region_quiet_below (by kernel_rfl) (by kernel_rfl) ?_
    refine Qt.out ?_
    iterate 4 (refine qt_want (by kernel_rfl) (fun K hK => ?_); go_simp; refine hK _ ?_; clear hK K)
    refine qt_want (by kernel_rfl) (fun K hK => ?_); go_simp
    apply Exists.intro; refine ⟨fun p => ?_, hK _ ?_⟩
    · exact Calls.regrown_of (from_any m a (some ⟨b2, o2, none⟩) cap cap2 0 xs ax cx _ (HM1.out.below (below_regrown w1 p.d p.os)) (ints_regrown HI1.out p.d p.os) HOK.out HW.out (Int.le_refl _) H0.out)
    rw [HR.out]
    clear hK K
    iterate 3 (refine qt_want (by kernel_rfl) (fun K hK => ?_); go_simp; refine hK _ ?_; clear hK K)
    refine qt_nil ?_
    intro _ hw'
    obtain ⟨p, hw''⟩ := hw'
    subst hw''
    have hbr := below_regrown w1 p.d p.os
    generalize grow (redrawn w1 p.d) p.os = w2 at *
    have x0 := (hbr.cell (p := ⟨W.heap.size, 0, none⟩) HX.out.lt).trans HX.out.c0
    have x1 := (hbr.cell (p := ⟨W.heap.size, 1, none⟩) HX.out.lt).trans HX.out.c1
    have x2 := (hbr.cell (p := ⟨W.heap.size, 2, none⟩) HX.out.lt).trans HX.out.c2
    have xl : W.heap.size < w2.heap.size := by have := hbr.size; have := HX.out.lt; omega
    have HM2 := hid (HM1.out.below hbr)
    have HI2 := hid (HI1.out.below hbr)
    have HB2 := hid (HB1.out.trans (hbr.mono HB1.out.size))
    clear hbr q0 q1 q2 q3
    cases x with
    | false =>
      have R := hid (R0.out rfl)
      have hz := HB2.out
      go_wp2_with fail
      go_ret2
      exact ⟨by rw [R.out.1, R.out.2]; rfl, hz⟩
    | true =>
      have R := hid (R1.out rfl)
      have Ht := hid (table_any m a (some ⟨b2, o2, none⟩) cap cap2 xs.length w2 HM2.out HOK.out h20)
      go_wp2_with fail
      refine Ht.out.mono ?_; rintro e w3 ⟨v, b, cp, rfl, hT, hb3⟩
      have y0 := (hb3.cell (p := ⟨W.heap.size, 0, none⟩) xl).trans x0
      have y1 := (hb3.cell (p := ⟨W.heap.size, 1, none⟩) xl).trans x1
      have y2 := (hb3.cell (p := ⟨W.heap.size, 2, none⟩) xl).trans x2
      have yl : W.heap.size < w3.heap.size := by have := hb3.size; omega
      have HM3 := hid (HM2.out.below hb3)
      have HI3 := hid (HI2.out.below hb3)
      have HB3 := hid (HB2.out.trans (hb3.mono HB2.out.size))
      have e5 := hT.eq
      subst e5
      have HT := hid hT
      clear hb3 hT x0 x1 x2 xl
      have HY0 := hid y0
      have HY1 := hid y1
      have HY2 := hid y2
      go_wp2_with fail
      clear y0 y1 y2
      go_loopw [8, 9, 10, 11] (fun v8 v9 v10 v11 w' => ∃ i : Nat, i ≤ xs.length ∧ v9 = .int .i64 i ∧ v8 = .int .i64 (rkN m xs i) ∧ Below w3.heap.size w3 w') (fun _ v9 _ _ _ => xs.length - (intOf v9).toNat)
      case atStart => exact ⟨0, by omega, rfl, rfl, Below.refl _ _⟩
      case round =>
        obtain ⟨i, hi, rfl, rfl, hb⟩ := hrel
        have hR := rkN_bd HOK.out HW.out i hi
        by_cases hlt : i < xs.length
        · have hwe := HW.out.el i hlt
          have hs := runN_in HOK.out HW.out i hi
          have HR2 : Hid (rkN m xs (i + 1) = rkN m xs i + innR m xs i (nth xs i).toNat) := hid rfl
          have HR3 : Hid (∀ t, innR m xs i (t + 1) = innR m xs i t + cnt m (xs.length - 1 - i) (nth (rowOf m (runN m xs i).toNat) t)) := hid fun t => rfl
          obtain ⟨tn0, hsn⟩ : ∃ sn : Nat, runN m xs i = (sn : Int) := ⟨(runN m xs i).toNat, by omega⟩
          obtain ⟨an, han⟩ : ∃ an : Nat, nth xs i = (an : Int) := ⟨(nth xs i).toNat, by omega⟩
          obtain ⟨bx, ox, rfl, hbx, c0⟩ := HI3.out i hlt
          have etk : (xs.take i).length = i := by simp; omega
          have hfr : ∀ w, RowKit.Below w3.heap.size w3 w → Calls Try.prog 70 #[.agg #[.int .i64 m.L, .slice a m.nx.length cap, .slice (some ⟨b2, o2, none⟩) m.ac.length cap2], .int .i64 0, .slice (some ⟨bx, ox, none⟩) i cx] w fun e w' => e = .returned (.int .i64 (tn0 : Int)) ∧ RowKit.Below w.heap.size w w' := by
            intro w hw
            have h := from_any m a (some ⟨b2, o2, none⟩) cap cap2 0 (xs.take i) (some ⟨bx, ox, none⟩) cx w (HM3.out.below hw) ((ints_take HI3.out i).below hw) HOK.out (word_take HW.out i) (Int.le_refl _) H0.out
            rw [etk, runF_take m xs 0 i i (Nat.le_refl _)] at h
            rw [← hsn]
            exact h
          have HF := hid hfr
          rw [han] at c0 hwe HR2
          rw [hsn] at HR3 hs
          simp only [Int.toNat_natCast] at HR2 HR3
          have hsl : tn0 < m.nx.length := by omega
          obtain ⟨b1, o1, rfl, hb1, ra, rc, hc0, r1, r2, hIA⟩ := HM3.out.nx tn0 hsl
          have hrl := HOK.out.len tn0 hsl
          have hel := HOK.out.el tn0 hsl
          have h6 := HOK.out.l6
          have hal : an < (rowOf m tn0).length := by omega
          have hl6 : (rowOf m tn0).length ≤ 6 := by omega
          have HIA := hid hIA
          have HEl := hid hel
          have Hrk := hid (innR_bd HOK.out h20 i)
          have hIb : innR m xs i 0 = 0 := rfl
          have HI0 := hid hIb
          have HC0 := hid c0
          have HHC := hid hc0
          have HHB := hid hb1
          have HBX := hid hbx
          generalize rkN m xs i = rv at *
          have i1 : (0 : Int) ≤ (i : Int) := by omega
          have i2 : (i : Int) < (xs.length : Int) := by omega
          have i3 : (0 : Int) ≤ (tn0 : Int) := by omega
          have i4 : (tn0 : Int) < (m.nx.length : Int) := by omega
          have i5 : (0 : Int) ≤ (an : Int) := by omega
          have i6 : (i : Int) ≤ (cx : Int) := by omega
          have hsw := hb.size
          have q0 := cell_regrown ((hb.cell (p := ⟨W.heap.size, 0, none⟩) yl).trans HY0.out)
          have q1 := cell_regrown ((hb.cell (p := ⟨W.heap.size, 1, none⟩) yl).trans HY1.out)
          have q2 := cell_regrown ((hb.cell (p := ⟨W.heap.size, 2, none⟩) yl).trans HY2.out)
          have Hb := hid hb
          clear hsn han hIA hel hIb hrl hfr etk c0 hc0 hb1 hbx hb
          go_wp2_with fail
          refine wp_region_quiet_below (by kernel_rfl) (by kernel_rfl) ?_
          refine Qt.out ?_
          iterate 4 (refine qt_want (by kernel_rfl) (fun K hK => ?_); go_simp; refine hK _ ?_; clear hK K)
          refine qt_want (by kernel_rfl) (fun K hK => ?_); go_simp
          apply Exists.intro; refine ⟨fun p => ?_, hK _ ?_⟩
          · exact Calls.regrown_of (HF.out _ (Hb.out.trans ((below_regrown wr p.d p.os).mono hsw)))
          clear hK K
          iterate 1 (refine qt_want (by kernel_rfl) (fun K hK => ?_); go_simp; refine hK _ ?_; clear hK K)
          refine qt_nil ?_
          intro _ hw'
          obtain ⟨p, hw''⟩ := hw'
          subst hw''
          have hb4 := Hb.out.trans ((below_regrown wr p.d p.os).mono hsw)
          generalize grow (redrawn wr p.d) p.os = w4 at *
          have hs4 := hb4.size
          have x0 := (hb4.cell (p := ⟨W.heap.size, 0, none⟩) yl).trans HY0.out
          have x1 := (hb4.cell (p := ⟨W.heap.size, 1, none⟩) yl).trans HY1.out
          have xl : W.heap.size < w4.heap.size := by omega
          have c1 := (hb4.cell (p := ⟨bx, ox + i, none⟩) HBX.out).trans HC0.out
          have hc := (hb4.cell (p := ⟨b1, o1 + tn0, none⟩) HHB.out).trans HHC.out
          have HB4 := hid hb4
          clear q0 q1 q2 hb4
          go_wp2_with fail
          go_loopw [8, 11] (fun v8 v11 w' => ∃ t : Nat, t ≤ an ∧ v11 = .int .i64 t ∧ v8 = .int .i64 (rv + innR m xs i t) ∧ ∃ n, w' = w4.drewN n) (fun _ v11 _ => an - (intOf v11).toNat)
          case atStart => exact ⟨0, by omega, rfl, by rw [HI0.out, Int.add_zero], 0, rfl⟩
          case round =>
            obtain ⟨t, ht, rfl, rfl, n, rfl⟩ := hrel
            by_cases htl : t < an
            · obtain ⟨br', or'', rfl, hbr', ct⟩ := (HIA.out.below HB4.out) t (by omega)
              have hte := HEl.out t (by omega)
              have HR4 := hid (HR3.out t)
              obtain ⟨tn, htn⟩ : ∃ tn : Nat, nth (rowOf m tn0) t = (tn : Int) := ⟨(nth (rowOf m tn0) t).toNat, by omega⟩
              rw [htn] at ct hte HR4
              have htN : tn < m.nx.length := by omega
              obtain ⟨gk, t1, hlg, ht2⟩ := (HT.out.below HB4.out).row (xs.length - 1 - i) (by omega)
              have t3 := ht2 tn htN
              have hcb := cnt_bd m HOK.out.l6 (xs.length - 1 - i) (tn : Int)
              have h6' := six_le (show xs.length - 1 - i ≤ 20 by omega)
              have hib := Hrk.out t (by omega)
              unfold cntI at t3
              generalize cnt m (xs.length - 1 - i) (tn : Int) = cv at *
              generalize innR m xs i t = iv at *
              generalize six (xs.length - 1 - i) = sx at *
              obtain ⟨jn, hjn⟩ : ∃ jn, jn = xs.length - 1 - i := ⟨_, rfl⟩
              rw [← hjn] at t1
              have ejw : IntKind.i64.wrap ((xs.length : Int) - (i : Int) - 1) = (jn : Int) := by rw [IntWalk.i64_in _ (by omega)]; omega
              have ej : ((xs.length : Int) - (i : Int) - 1) = (jn : Int) := by omega
              have eiw : IntKind.i64.wrap ((xs.length : Int) - (i : Int)) = (xs.length : Int) - (i : Int) := IntWalk.i64_in _ (by omega)
              have esw : IntKind.i64.wrap (rv + iv + cv) = rv + iv + cv := IntWalk.i64_in _ (by omega)
              have j1 : (jn : Int) < (xs.length : Int) + 1 := by omega
              have j0 : (0 : Int) ≤ (jn : Int) := by omega
              have k1 : (t : Int) < (an : Int) := by omega
              have k2 : (t : Int) < ((rowOf m tn0).length : Int) := by omega
              have k0 : (0 : Int) ≤ (t : Int) := by omega
              have l1 : (tn : Int) < (m.nx.length : Int) := by omega
              have l0 : (0 : Int) ≤ (tn : Int) := by omega
              clear ht2 hjn htn
              go_wp2_with fail
              go_quiet (fail)
              clear ej ejw eiw esw
              go_wp2_with fail
              go_roundw
              case rel => exact ⟨t + 1, by omega, by go_num, by rw [HR4.out, ← Int.add_assoc], _, rfl⟩
              case measure => simp [intOf]; omega
            · obtain rfl : t = an := by omega
              go_wp2_with fail
              go_roundw
              case rel => exact ⟨i + 1, by omega, by go_num, by rw [HR2.out], below_quiet HB4.out⟩
              case measure => simp [intOf]; omega
        · obtain rfl : i = xs.length := by omega
          have hz := HB3.out.trans (hb.mono HB3.out.size)
          clear hb
          generalize rkN m xs xs.length = rv at *
          go_wp2_with fail
          go_ret2
          exact ⟨by rw [R.out.1, R.out.2]; rfl, hz⟩
  · have R := hid (rnk_bad hv)
    have d1 : (wodE m xs == 0) = false := beq_eq_false_iff_ne.2 hv
    have d2 : (wodE m xs != 0) = true := by rw [bne, d1]; rfl
    clear hv
    go_enter Try.func30, Try.ntmps30
    go_wp2_with fail
    refine Hv.out.mono ?_; rintro e w1 ⟨rfl, hb1⟩
    have hz := HB.out.trans (hb1.mono HB.out.size)
    clear hb1
    go_wp2_with fail
    go_ret2
    exact ⟨by rw [R.out.1, R.out.2]; rfl, hz⟩
end Go.Proofs.Ytmllbemjcfkmjaa
