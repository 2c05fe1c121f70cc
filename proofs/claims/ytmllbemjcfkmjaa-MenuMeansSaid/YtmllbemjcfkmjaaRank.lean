/- 'Rank': what it returns. -/
import Derived.Test.YtmllbemjcfkmjaaRankLaw
namespace Go.Proofs.Ytmllbemjcfkmjaa
open Go.RowKit
set_option linter.unusedSimpArgs false
set_option linter.unusedVariables false

set_option maxRecDepth 100000 in
set_option maxHeartbeats 2000000 in
theorem Rank_any (m : Mac) (a a2 : Option Addr) (cap cap2 : Nat) (xs : List Int) (ax : Option Addr) (cx : Nat) (W : World) (hM : MacAt W a cap a2 cap2 m) (hI : IntsAt W ax xs) (hl : xs.length ≤ maxLen) :
    Calls Try.prog 29 #[.agg #[.int .i64 m.L, .slice a m.nx.length cap, .slice a2 m.ac.length cap2], .slice ax xs.length cx] W fun e w' => e = .returned (.tuple #[.int .i64 (rnkN m xs), .int .i64 (rnkE m xs)]) ∧ Below W.heap.size W w' := by
  have hb0 := below_alloc W (.cells #[.int .i64 m.L, .slice a m.nx.length cap, .slice a2 m.ac.length cap2] 25)
  have HM := hid (hM.below hb0)
  have HI := hid (hI.below hb0)
  have Hv := hid (worded_any m a a2 cap cap2 xs ax cx (W.alloc (.cells #[.int .i64 m.L, .slice a m.nx.length cap, .slice a2 m.ac.length cap2] 25)) HM.out HI.out hl)
  have HB := hid hb0
  clear hM hb0 hI hl
  by_cases hv : wodE m xs = 0
  · obtain ⟨hOK, hW⟩ := wodE_zero.1 hv
    have HV := hid hv
    rw [hv] at Hv
    have HN := hid hOK.n1
    have HOK := hid hOK
    have HW := hid hW
    have h20 := hW.l20
    have h64 := hOK.n64
    have HA := hid hOK.ac
    clear hOK hv hW
    go_enter Try.func29, Try.ntmps29
    go_wp2_with fail
    refine Hv.out.mono ?_; rintro e w1 ⟨rfl, hb1⟩
    have hX := box_at (B := W.heap.size + 1) (by simpa using hb1) rfl
    have x0 := hX.c0
    have x1 := hX.c1
    have x2 := hX.c2
    have xl := hX.lt
    have HM1 := hid (HM.out.below hb1)
    have HI1 := hid (HI.out.below hb1)
    have Ht := hid (counts_any m a a2 cap cap2 xs.length w1 HM1.out HOK.out h20)
    have HB1 := hid (HB.out.trans (hb1.mono HB.out.size))
    have HX := hid hX
    clear hX hb1
    go_wp2_with fail
    refine Ht.out.mono ?_; rintro e w2 ⟨v, b, cp, rfl, hT, hb2⟩
    have hz := HB1.out.trans (hb2.mono HB1.out.size)
    have y0 := (hb2.cell (p := ⟨W.heap.size, 0, none⟩) xl).trans x0
    have y1 := (hb2.cell (p := ⟨W.heap.size, 1, none⟩) xl).trans x1
    have y2 := (hb2.cell (p := ⟨W.heap.size, 2, none⟩) xl).trans x2
    have HM2 := hid (HM1.out.below hb2)
    have HI2 := hid (HI1.out.below hb2)
    have yl : W.heap.size < w2.heap.size := by have := hb2.size; omega
    have hlb := hT.lt
    have e5 := hT.eq
    subst e5
    have HT := hid hT
    clear hb2 hT x0 x1 x2 xl
    go_wp2_with fail
    go_loop [8, 9, 10, 11, 13, 26, 39] (fun v8 v9 v10 v11 v13 v26 v39 => ∃ i : Nat, i ≤ xs.length ∧ v26 = .int .i64 i ∧ v8 = .int .i64 (runN m xs i) ∧ v9 = .int .i64 (rkN m xs i)) (fun _ _ _ _ _ v26 _ => xs.length - (intOf v26).toNat)
    case atStart => exact ⟨0, by omega, rfl, rfl, rfl⟩
    case round =>
      obtain ⟨i, hi, rfl, rfl, rfl⟩ := hrel
      have hs := runN_in HOK.out HW.out i hi
      have hR := rkN_bd HOK.out HW.out i hi
      by_cases hlt : i < xs.length
      · have hwe := HW.out.el i hlt
        have HR1 : Hid (runN m xs (i + 1) = nth (rowOf m (runN m xs i).toNat) (nth xs i).toNat) := hid rfl
        have HR2 : Hid (rkN m xs (i + 1) = rkN m xs i + innR m xs i (nth xs i).toNat) := hid rfl
        have HR3 : Hid (∀ t, innR m xs i (t + 1) = innR m xs i t + cnt m (xs.length - 1 - i) (nth (rowOf m (runN m xs i).toNat) t)) := hid fun t => rfl
        obtain ⟨sn, hsn⟩ : ∃ sn : Nat, runN m xs i = (sn : Int) := ⟨(runN m xs i).toNat, by omega⟩
        obtain ⟨an, han⟩ : ∃ an : Nat, nth xs i = (an : Int) := ⟨(nth xs i).toNat, by omega⟩
        obtain ⟨bx, ox, rfl, hbx, c1⟩ := HI2.out i hlt
        rw [han] at c1 hwe HR1 HR2
        rw [hsn] at HR1 HR3 hs
        simp only [Int.toNat_natCast] at HR1 HR2 HR3
        have hsl : sn < m.nx.length := by omega
        obtain ⟨b1, o1, rfl, hb1, ra, rc, hc, r1, r2, hIA⟩ := HM2.out.nx sn hsl
        have hrl := HOK.out.len sn hsl
        have hel := HOK.out.el sn hsl
        have h6 := HOK.out.l6
        have hal : an < (rowOf m sn).length := by omega
        have hl6 : (rowOf m sn).length ≤ 6 := by omega
        obtain ⟨br, or', rfl, hbr, ca⟩ := hIA an hal
        have HIA := hid hIA
        have HEl := hid hel
        have Hrk := hid (innR_bd HOK.out h20 i)
        have Hsn := hid hsn
        have Han := hid han
        have Hrl := hid hrl
        have hIb : innR m xs i 0 = 0 := rfl
        have HI0 := hid hIb
        rw [hsn]
        generalize rkN m xs i = rv at *
        have i1 : (0 : Int) ≤ (i : Int) := by omega
        have i2 : (i : Int) < (xs.length : Int) := by omega
        have i3 : (0 : Int) ≤ (sn : Int) := by omega
        have i4 : (sn : Int) < (m.nx.length : Int) := by omega
        have i5 : (0 : Int) ≤ (an : Int) := by omega
        have i6 : (an : Int) ≤ (rc : Int) := by omega
        have i7 : (an : Int) < ((rowOf m sn).length : Int) := by omega
        clear hsn han hIA hel hIb hrl
        go_wp2_with fail
        go_loop [9, 13, 39] (fun v9 v13 v39 => ∃ t : Nat, t ≤ an ∧ v39 = .int .i64 t ∧ v9 = .int .i64 (rv + innR m xs i t)) (fun _ _ v39 => an - (intOf v39).toNat)
        case atStart => exact ⟨0, by omega, rfl, by rw [HI0.out, Int.add_zero]⟩
        case round =>
          obtain ⟨t, ht, rfl, rfl⟩ := hrel
          by_cases htl : t < an
          · have hc2 := (HIA.out t (by omega))
            obtain ⟨br', or'', e', hbr', ct⟩ := hc2
            cases e'
            have hte := HEl.out t (by omega)
            have HR4 := hid (HR3.out t)
            obtain ⟨tn, htn⟩ : ∃ tn : Nat, nth (rowOf m sn) t = (tn : Int) := ⟨(nth (rowOf m sn) t).toNat, by omega⟩
            rw [htn] at ct hte HR4
            have htN : tn < m.nx.length := by omega
            obtain ⟨gk, t1, hlg, ht2⟩ := HT.out.row (xs.length - 1 - i) (by omega)
            have t3 := ht2 tn htN
            have hcb := cnt_bd m HOK.out.l6 (xs.length - 1 - i) (tn : Int)
            have h6' := six_le (show xs.length - 1 - i ≤ 20 by omega)
            have hib := Hrk.out t (by omega)
            unfold cntI at t3
            generalize cnt m (xs.length - 1 - i) (tn : Int) = cv at *
            generalize innR m xs i t = iv at *
            generalize six (xs.length - 1 - i) = sx at *
            have ej : ((xs.length : Int) - 1 - (i : Int)) = ((xs.length - 1 - i : Nat) : Int) := by omega
            have Hej := hid ej
            obtain ⟨jn, hjn⟩ : ∃ jn, jn = xs.length - 1 - i := ⟨_, rfl⟩
            rw [← hjn] at t1 ej
            have j1 : (jn : Int) < (xs.length : Int) + 1 := by omega
            have j0 : (0 : Int) ≤ (jn : Int) := by omega
            have k1 : (t : Int) < (an : Int) := by omega
            have k0 : (0 : Int) ≤ (t : Int) := by omega
            have l1 : (tn : Int) < (m.nx.length : Int) := by omega
            have l0 : (0 : Int) ≤ (tn : Int) := by omega
            clear ht2 hjn htn
            go_wp2_with fail
            clear ej
            go_round
            case rel => exact ⟨t + 1, by omega, by go_num, by rw [HR4.out, ← Int.add_assoc]⟩
            case measure => simp [intOf]; omega
          · obtain rfl : t = an := by omega
            have j7 : (0 : Int) ≤ (t : Int) := by omega
            go_wp2_with fail
            go_round
            case rel => exact ⟨i + 1, by omega, by go_num, by rw [HR1.out], by rw [HR2.out]⟩
            case measure => simp [intOf]; omega
      · obtain rfl : i = xs.length := by omega
        have R1 := hid (fun h => rnk_ok (m := m) (xs := xs) HV.out h)
        have R0 := hid (fun h => rnk_no (m := m) (xs := xs) HV.out h)
        obtain ⟨sn, hsn⟩ : ∃ sn : Nat, runN m xs xs.length = (sn : Int) := ⟨(runN m xs xs.length).toNat, by omega⟩
        have hacc : accM m (runN m xs xs.length) = m.ac.getD sn false := by rw [hsn]; rfl
        rw [hsn] at hs
        obtain ⟨b2, o2, rfl, hb2, c2⟩ := HM2.out.ac sn (by rw [HA.out]; omega)
        have i1 : (0 : Int) ≤ (sn : Int) := by omega
        have i3 : (sn : Int) < (m.ac.length : Int) := by rw [HA.out]; omega
        rw [hsn]
        have HS := hid hsn
        generalize m.ac.getD sn false = x at *
        have HC := hid hacc
        clear hsn hacc
        generalize rkN m xs xs.length = rv at *
        cases x with
        | true =>
          have R := hid (R1.out HC.out)
          go_wp2_with fail
          go_ret2
          exact ⟨by rw [R.out.1, R.out.2]; rfl, hz⟩
        | false =>
          have R := hid (R0.out HC.out)
          go_wp2_with fail
          go_ret2
          exact ⟨by rw [R.out.1, R.out.2]; rfl, hz⟩
  · have R := hid (rnk_bad hv)
    have d1 : (wodE m xs == 0) = false := beq_eq_false_iff_ne.2 hv
    have d2 : (wodE m xs != 0) = true := by rw [bne, d1]; rfl
    clear hv
    go_enter Try.func29, Try.ntmps29
    go_wp2_with fail
    refine Hv.out.mono ?_; rintro e w1 ⟨rfl, hb1⟩
    have hz := HB.out.trans (hb1.mono HB.out.size)
    clear hb1
    go_wp2_with fail
    go_ret2
    exact ⟨by rw [R.out.1, R.out.2]; rfl, hz⟩
end Go.Proofs.Ytmllbemjcfkmjaa
