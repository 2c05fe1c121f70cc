/- 'Accepts' and the document's: what they return. -/
import Derived.Test.YtmllbemjcfkmjaaReader
import Derived.Test.YtmllbemjcfkmjaaQuietB
namespace Go.Proofs.Ytmllbemjcfkmjaa
open Go.RowKit Go.Sort
set_option linter.unusedSimpArgs false
set_option linter.unusedVariables false

set_option maxRecDepth 100000 in
set_option maxHeartbeats 1000000 in
theorem from_any (m : Mac) (a a2 : Option Addr) (cap cap2 : Nat) (s : Int) (xs : List Int) (ax : Option Addr) (cx : Nat) (W : World) (hM : MacAt W a cap a2 cap2 m) (hI : IntsAt W ax xs) (hOK : MacOK m) (hW : WordOK m.L xs) (h0 : 0 ≤ s) (h1 : s < m.nx.length) :
    Calls Try.prog 70 #[.agg #[.int .i64 m.L, .slice a m.nx.length cap, .slice a2 m.ac.length cap2], .int .i64 s, .slice ax xs.length cx] W fun e w' => e = .returned (.int .i64 (runF m xs s xs.length)) ∧ Below W.heap.size W w' := by
  have hb0 := below_alloc W (.cells #[.int .i64 m.L, .slice a m.nx.length cap, .slice a2 m.ac.length cap2] 25)
  have HM := hid (hM.below hb0)
  have HI := hid (hI.below hb0)
  have HB := hid hb0
  have HOK := hid hOK
  have HW := hid hW
  have Hs := hid (And.intro h0 h1)
  have h20 := hW.l20
  clear hM hI hb0 hOK hW h0 h1
  go_enter Try.func70, Try.ntmps70
  go_wp2_with fail
  generalize hV : W.alloc (.cells #[.int .i64 m.L, .slice a m.nx.length cap, .slice a2 m.ac.length cap2] 25) = V at *
  have hX := box_at (B := V.heap.size) (by rw [hV]; exact Below.refl _ _) (by rw [← hV]; simp)
  have x1 := hX.c1
  have xl := hX.lt
  clear hX
  go_loopw [1, 7] (fun v1 v7 w' => ∃ i : Nat, i ≤ xs.length ∧ v7 = .int .i64 i ∧ v1 = .int .i64 (runF m xs s i) ∧ ∃ n, w' = V.drewN n) (fun _ v7 _ => xs.length - (intOf v7).toNat)
  case atStart => exact ⟨0, by omega, rfl, rfl, 0, rfl⟩
  case round =>
    obtain ⟨i, hi, rfl, rfl, n, rfl⟩ := hrel
    by_cases hlt : i < xs.length
    · obtain ⟨bx, ox, rfl, hbx, c1⟩ := HI.out i hlt
      have hwe := HW.out.el i hlt
      have hs := runF_in HOK.out HW.out Hs.out.1 Hs.out.2 i hi
      have HN : Hid (runF m xs s (i + 1) = nth (rowOf m (runF m xs s i).toNat) (nth xs i).toNat) := hid rfl
      obtain ⟨sn, hsn⟩ : ∃ sn : Nat, runF m xs s i = (sn : Int) := ⟨(runF m xs s i).toNat, by omega⟩
      obtain ⟨an, han⟩ : ∃ an : Nat, nth xs i = (an : Int) := ⟨(nth xs i).toNat, by omega⟩
      rw [han] at c1 hwe HN
      rw [hsn] at HN hs
      simp only [Int.toNat_natCast] at HN
      have hsl : sn < m.nx.length := by omega
      obtain ⟨b1, o1, rfl, hb1, ra, rc, hc, r1, r2, hIA⟩ := HM.out.nx sn hsl
      have hrl := HOK.out.len sn hsl
      have hal : an < (rowOf m sn).length := by omega
      obtain ⟨br, or', rfl, hbr, ca⟩ := hIA an hal
      rw [hsn]
      have i1 : (0 : Int) ≤ (i : Int) := by omega
      have i2 : (i : Int) < (xs.length : Int) := by omega
      have i3 : (0 : Int) ≤ (sn : Int) := by omega
      have i4 : (sn : Int) < (m.nx.length : Int) := by omega
      have i5 : (0 : Int) ≤ (an : Int) := by omega
      have i7 : (an : Int) < ((rowOf m sn).length : Int) := by omega
      clear hsn han hIA hrl
      go_wp2_with fail
      go_quiet (fail)
      go_wp2_with fail
      go_roundw
      case rel => exact ⟨i + 1, by omega, by go_num, by rw [HN.out], _, rfl⟩
      case measure => simp [intOf]; omega
    · obtain rfl : i = xs.length := by omega
      go_wp2_with fail
      go_ret
      exact ⟨rfl, below_quiet HB.out⟩

open Classical in
noncomputable def accB (m : Mac) (xs : List Int) : Bool := if wodE m xs = 0 then accM m (runN m xs xs.length) else false
theorem accB_ok {m : Mac} {xs : List Int} (h : wodE m xs = 0) : accB m xs = accM m (runN m xs xs.length) := by unfold accB; rw [if_pos h]
theorem accB_bad {m : Mac} {xs : List Int} (h : wodE m xs ≠ 0) : accB m xs = false := by unfold accB; rw [if_neg h]

set_option maxRecDepth 100000 in
set_option maxHeartbeats 1000000 in
theorem Accepts_any (m : Mac) (a a2 : Option Addr) (cap cap2 : Nat) (xs : List Int) (ax : Option Addr) (cx : Nat) (W : World) (hM : MacAt W a cap a2 cap2 m) (hI : IntsAt W ax xs) (hl : xs.length ≤ maxLen) :
    Calls Try.prog 25 #[.agg #[.int .i64 m.L, .slice a m.nx.length cap, .slice a2 m.ac.length cap2], .slice ax xs.length cx] W fun e w' => e = .returned (.tuple #[.bool (accB m xs), .int .i64 (wodE m xs)]) ∧ Below W.heap.size W w' := by
  have hb0 := below_alloc W (.cells #[.int .i64 m.L, .slice a m.nx.length cap, .slice a2 m.ac.length cap2] 25)
  have HM := hid (hM.below hb0)
  have HI := hid (hI.below hb0)
  have Hv := hid (worded_any m a a2 cap cap2 xs ax cx (W.alloc (.cells #[.int .i64 m.L, .slice a m.nx.length cap, .slice a2 m.ac.length cap2] 25)) HM.out HI.out hl)
  have HB := hid hb0
  clear hM hb0 hI hl
  by_cases hv : wodE m xs = 0
  · have R := hid (accB_ok hv)
    obtain ⟨hOK, hW⟩ := wodE_zero.1 hv
    have RE := hid hv
    rw [hv] at Hv
    have HOK := hid hOK
    have HW := hid hW
    have Hs := hid (runN_in hOK hW xs.length (Nat.le_refl _))
    have H0 := hid (show (0 : Int) < (m.nx.length : Int) by have := hOK.n1; omega)
    clear hOK hW hv
    go_enter Try.func25, Try.ntmps25
    go_wp2_with fail
    refine Hv.out.mono ?_; rintro e w1 ⟨rfl, hb1⟩
    have hX := box_at (B := W.heap.size + 1) (by simpa using hb1) rfl
    have x0 := hX.c0
    have x1 := hX.c1
    have x2 := hX.c2
    have xl := hX.lt
    have HM1 := hid (HM.out.below hb1)
    have HI1 := hid (HI.out.below hb1)
    have Ho := hid (of_any m a a2 cap cap2 w1)
    have HB1 := hid (HB.out.trans (hb1.mono HB.out.size))
    clear hX hb1
    go_wp2_with fail
    refine Ho.out.mono ?_; rintro e w2 ⟨rfl, hb2⟩
    have HM2 := hid (HM1.out.below hb2)
    have HI2 := hid (HI1.out.below hb2)
    have HB2 := hid (HB1.out.trans (hb2.mono HB1.out.size))
    clear hb2 x0 x1 x2 xl
    unfold rdV macV
    have hb3 := below_alloc w2 (.cells #[.int .i64 m.L, .func (.func 105) #[.agg #[.int .i64 m.L, .slice a m.nx.length cap, .slice a2 m.ac.length cap2]] #[], .func (.func 106) #[.agg #[.int .i64 m.L, .slice a m.nx.length cap, .slice a2 m.ac.length cap2]] #[]] 75)
    have HM3 := hid (HM2.out.below hb3)
    have HI3 := hid (HI2.out.below hb3)
    have HB3 := hid (HB2.out.trans (hb3.mono HB2.out.size))
    clear hb3
    go_wp2_with fail
    generalize hV : w2.alloc (.cells #[.int .i64 m.L, .func (.func 105) #[.agg #[.int .i64 m.L, .slice a m.nx.length cap, .slice a2 m.ac.length cap2]] #[], .func (.func 106) #[.agg #[.int .i64 m.L, .slice a m.nx.length cap, .slice a2 m.ac.length cap2]] #[]] 75) = V at *
    have hX := box_at (B := V.heap.size) (by rw [hV]; exact Below.refl _ _) (by rw [← hV]; simp)
    have q0 := cell_regrown hX.c0
    have q1 := cell_regrown hX.c1
    have q2 := cell_regrown hX.c2
    clear hX hV
    refine wp_region_quiet_below (by kernel_rfl) (by kernel_rfl) ?_
    refine Qt.out ?_
    iterate 4 (refine qt_want (by kernel_rfl) (fun K hK => ?_); go_simp; refine hK _ ?_; clear hK K)
    refine qt_want (by kernel_rfl) (fun K hK => ?_); go_simp
    apply Exists.intro; refine ⟨fun p => ?_, hK _ ?_⟩
    · exact Calls.regrown_of (run_any m a a2 cap cap2 0 xs ax cx _ (HM3.out.below (below_regrown V p.d p.os)) (ints_regrown HI3.out p.d p.os) HOK.out HW.out (Int.le_refl _) H0.out)
    clear hK K
    refine qt_want (by kernel_rfl) (fun K hK => ?_); go_simp
    apply Exists.intro; refine ⟨fun p => ?_, hK _ ?_⟩
    · exact Calls.regrown_of (acc106 m a a2 cap cap2 _ (HM3.out.below (below_regrown V p.d p.os)) HOK.out _ Hs.out.1 Hs.out.2)
    clear hK K
    iterate 2 (refine qt_want (by kernel_rfl) (fun K hK => ?_); go_simp; refine hK _ ?_; clear hK K)
    refine qt_nil ?_
    intro _ hw'
    obtain ⟨p, hw''⟩ := hw'
    subst hw''
    go_wp2_with fail
    go_ret2
    exact ⟨by rw [R.out, RE.out]; rfl, HB3.out.trans ((below_regrown V _ _).mono HB3.out.size)⟩
  · have R := hid (accB_bad hv)
    have d1 : (wodE m xs == 0) = false := beq_eq_false_iff_ne.2 hv
    have d2 : (wodE m xs != 0) = true := by rw [bne, d1]; rfl
    clear hv
    go_enter Try.func25, Try.ntmps25
    go_wp2_with fail
    refine Hv.out.mono ?_; rintro e w1 ⟨rfl, hb1⟩
    have hz := HB.out.trans (hb1.mono HB.out.size)
    clear hb1
    go_wp2_with fail
    go_ret2
    exact ⟨by rw [R.out]; rfl, hz⟩

set_option maxRecDepth 100000 in
set_option maxHeartbeats 1000000 in
theorem rAccepts_any (m : Mac) (a a2 : Option Addr) (cap cap2 : Nat) (xs : List Int) (ax : Option Addr) (cx : Nat) (W : World) (hM : MacAt W a cap a2 cap2 m) (hI : IntsAt W ax xs) (hl : xs.length ≤ maxLen) :
    Calls Try.prog 26 #[.agg #[.int .i64 m.L, .slice a m.nx.length cap, .slice a2 m.ac.length cap2], .slice ax xs.length cx] W fun e w' => e = .returned (.tuple #[.bool (accB m xs), .int .i64 (wodE m xs)]) ∧ Below W.heap.size W w' := by
  have hb0 := below_alloc W (.cells #[.int .i64 m.L, .slice a m.nx.length cap, .slice a2 m.ac.length cap2] 25)
  have HM := hid (hM.below hb0)
  have HI := hid (hI.below hb0)
  have Hv := hid (both_any m a a2 cap cap2 xs ax cx (W.alloc (.cells #[.int .i64 m.L, .slice a m.nx.length cap, .slice a2 m.ac.length cap2] 25)) HM.out HI.out hl)
  have HB := hid hb0
  clear hM hb0 hI hl
  by_cases hv : wodE m xs = 0
  · have R := hid (accB_ok hv)
    obtain ⟨hOK, hW⟩ := wodE_zero.1 hv
    have RE := hid hv
    rw [hv] at Hv
    have HOK := hid hOK
    have HW := hid hW
    have hs := runN_in hOK hW xs.length (Nat.le_refl _)
    have H0 := hid (show (0 : Int) < (m.nx.length : Int) by have := hOK.n1; omega)
    have Hac := hid hOK.ac
    have HR := hid (show runF m xs 0 xs.length = runN m xs xs.length from rfl)
    clear hOK hW hv
    go_enter Try.func26, Try.ntmps26
    go_wp2_with fail
    refine Hv.out.mono ?_; rintro e w1 ⟨rfl, hb1⟩
    have hX := box_at (B := W.heap.size + 1) (by simpa using hb1) rfl
    have HM1 := hid (HM.out.below hb1)
    have HI1 := hid (HI.out.below hb1)
    have HB1 := hid (HB.out.trans (hb1.mono HB.out.size))
    obtain ⟨sn, hsn⟩ : ∃ sn : Nat, runN m xs xs.length = (sn : Int) := ⟨(runN m xs xs.length).toNat, by omega⟩
    have hacc : accM m (runN m xs xs.length) = m.ac.getD sn false := by rw [hsn]; rfl
    obtain ⟨b2, o2, rfl, hb2, c2⟩ := HM1.out.ac sn (by rw [Hac.out]; omega)
    have q0 := cell_regrown hX.c0
    have q1 := cell_regrown hX.c1
    have q2 := cell_regrown hX.c2
    have q3 := cell_regrown c2
    have i1 : (0 : Int) ≤ (sn : Int) := by omega
    have i2 : (sn : Int) < (m.ac.length : Int) := by rw [Hac.out]; omega
    rw [hsn] at HR
    have RA : Hid (accB m xs = m.ac.getD sn false) := hid (by rw [R.out, hacc])
    generalize m.ac.getD sn false = x at *
    clear hX hb1 c2 hsn hs hacc
    go_wp2_with fail
    refine wp_region_quiet_below (by kernel_rfl) (by kernel_rfl) ?_
    refine Qt.out ?_
    iterate 4 (refine qt_want (by kernel_rfl) (fun K hK => ?_); go_simp; refine hK _ ?_; clear hK K)
    refine qt_want (by kernel_rfl) (fun K hK => ?_); go_simp
    apply Exists.intro; refine ⟨fun p => ?_, hK _ ?_⟩
    · exact Calls.regrown_of (from_any m a (some ⟨b2, o2, none⟩) cap cap2 0 xs ax cx _ (HM1.out.below (below_regrown w1 p.d p.os)) (ints_regrown HI1.out p.d p.os) HOK.out HW.out (Int.le_refl _) H0.out)
    rw [HR.out]
    clear hK K
    iterate 4 (refine qt_want (by kernel_rfl) (fun K hK => ?_); go_simp; refine hK _ ?_; clear hK K)
    refine qt_nil ?_
    intro _ hw'
    obtain ⟨p, hw''⟩ := hw'
    subst hw''
    go_wp2_with fail
    go_ret2
    exact ⟨by rw [RA.out, RE.out]; rfl, HB1.out.trans ((below_regrown w1 _ _).mono HB1.out.size)⟩
  · have R := hid (accB_bad hv)
    have d1 : (wodE m xs == 0) = false := beq_eq_false_iff_ne.2 hv
    have d2 : (wodE m xs != 0) = true := by rw [bne, d1]; rfl
    clear hv
    go_enter Try.func26, Try.ntmps26
    go_wp2_with fail
    refine Hv.out.mono ?_; rintro e w1 ⟨rfl, hb1⟩
    have hz := HB.out.trans (hb1.mono HB.out.size)
    clear hb1
    go_wp2_with fail
    go_ret2
    exact ⟨by rw [R.out]; rfl, hz⟩
end Go.Proofs.Ytmllbemjcfkmjaa
