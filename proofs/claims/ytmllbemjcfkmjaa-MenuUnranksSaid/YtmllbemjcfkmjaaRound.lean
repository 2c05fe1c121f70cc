/- Texts of the menu seat in one: Reader, Accept, UnLaw, Same, RRank, Unrank, RoundLaw, Round. -/
import Derived.Test.YtmllbemjcfkmjaaRank
import Derived.Laws.EntriesVeiled
import Derived.Test.YtmllbemjcfkmjaaPlainOut
import Derived.Test.YtmllbemjcfkmjaaTab
/- A machine's reader, its steps, and the state behind a word: what they return. -/
namespace Go.Proofs.Ytmllbemjcfkmjaa
open Go.RowKit
set_option linter.unusedSimpArgs false
set_option linter.unusedVariables false

def macV (m : Mac) (a a2 : Option Addr) (cap cap2 : Nat) : Value := .agg #[.int .i64 m.L, .slice a m.nx.length cap, .slice a2 m.ac.length cap2]
def rdV (m : Mac) (a a2 : Option Addr) (cap cap2 : Nat) : Value := .agg #[.int .i64 m.L, .func (.func 105) #[macV m a a2 cap cap2] #[], .func (.func 106) #[macV m a a2 cap cap2] #[]]
theorem of_any (m : Mac) (a a2 : Option Addr) (cap cap2 : Nat) (W : World) :
    Calls Try.prog 64 #[.agg #[.int .i64 m.L, .slice a m.nx.length cap, .slice a2 m.ac.length cap2]] W fun e w' => e = .returned (rdV m a a2 cap cap2) ∧ Below W.heap.size W w' := by
  go_enter Try.func64, Try.ntmps64
  go_wp2_with fail
  exact bodyPost_ret (v := rdV m a a2 cap cap2) (by simp [results, Try.results64, go_sem, rdV, macV]) rfl ⟨rfl, (((Below.refl _ _).alloc (Nat.le_refl _) _).alloc (by simp) _).alloc (by simp; omega) _⟩
theorem step105 (m : Mac) (a a2 : Option Addr) (cap cap2 : Nat) (W : World) (hM : MacAt W a cap a2 cap2 m) (hOK : MacOK m) (s : Int) (h0 : 0 ≤ s) (h1 : s < m.nx.length) (c : Int) (c0 : 0 ≤ c) (c1 : c < m.L) :
    Calls Try.prog 105 #[.agg #[.int .i64 m.L, .slice a m.nx.length cap, .slice a2 m.ac.length cap2], .int .i64 s, .int .i64 c] W fun e w' => e = .returned (.int .i64 (stepM m s c.toNat)) ∧ Below W.heap.size W w' := by
  have hb0 := below_alloc W (.cells #[.int .i64 m.L, .slice a m.nx.length cap, .slice a2 m.ac.length cap2] 113)
  have hM' := hM.below hb0
  obtain ⟨sn, rfl⟩ : ∃ sn : Nat, s = (sn : Int) := ⟨s.toNat, by omega⟩
  obtain ⟨cn, rfl⟩ : ∃ cn : Nat, c = (cn : Int) := ⟨c.toNat, by omega⟩
  have hsl : sn < m.nx.length := by omega
  have hl := hOK.len sn hsl
  obtain ⟨b1, o1, rfl, hb1, ra, rc, hc, r1, r2, hI⟩ := hM'.nx sn hsl
  have hcl : cn < (rowOf m sn).length := by omega
  obtain ⟨b2, o2, rfl, hb2, hc2⟩ := hI cn hcl
  have R : Hid (stepM m (sn : Int) (cn : Int).toNat = nth (rowOf m sn) cn) := hid rfl
  have i1 : (cn : Int) < ((rowOf m sn).length : Int) := by omega
  clear hl hM' hI hM hOK
  go_enter Try.func105, Try.ntmps105
  go_wp2_with fail
  go_ret
  exact ⟨by rw [R.out]; rfl, hb0⟩
theorem acc106 (m : Mac) (a a2 : Option Addr) (cap cap2 : Nat) (W : World) (hM : MacAt W a cap a2 cap2 m) (hOK : MacOK m) (s : Int) (h0 : 0 ≤ s) (h1 : s < m.nx.length) :
    Calls Try.prog 106 #[.agg #[.int .i64 m.L, .slice a m.nx.length cap, .slice a2 m.ac.length cap2], .int .i64 s] W fun e w' => e = .returned (.bool (accM m s)) ∧ Below W.heap.size W w' := by
  have hb0 := below_alloc W (.cells #[.int .i64 m.L, .slice a m.nx.length cap, .slice a2 m.ac.length cap2] 113)
  have hM' := hM.below hb0
  obtain ⟨sn, rfl⟩ : ∃ sn : Nat, s = (sn : Int) := ⟨s.toNat, by omega⟩
  have hsl : sn < m.ac.length := by have := hOK.ac; omega
  obtain ⟨b2, o2, rfl, hb2, hc2⟩ := hM'.ac sn hsl
  have R : Hid (accM m (sn : Int) = m.ac.getD sn false) := hid rfl
  have i1 : (sn : Int) < (m.ac.length : Int) := by omega
  clear hM' hM hOK
  generalize m.ac.getD sn false = x at *
  go_enter Try.func106, Try.ntmps106
  go_wp2_with fail
  go_ret
  exact ⟨by rw [R.out]; rfl, hb0⟩

set_option maxRecDepth 100000 in
set_option maxHeartbeats 1000000 in
theorem run_any (m : Mac) (a a2 : Option Addr) (cap cap2 : Nat) (s : Int) (xs : List Int) (ax : Option Addr) (cx : Nat) (W : World) (hM : MacAt W a cap a2 cap2 m) (hI : IntsAt W ax xs) (hOK : MacOK m) (hW : WordOK m.L xs) (h0 : 0 ≤ s) (h1 : s < m.nx.length) :
    Calls Try.prog 68 #[rdV m a a2 cap cap2, .int .i64 s, .slice ax xs.length cx] W fun e w' => e = .returned (.int .i64 (runF m xs s xs.length)) ∧ Below W.heap.size W w' := by
  have hb0 := below_alloc W (.cells #[.int .i64 m.L, .func (.func 105) #[macV m a a2 cap cap2] #[], .func (.func 106) #[macV m a a2 cap cap2] #[]] 75)
  have HM := hid (hM.below hb0)
  have HI := hid (hI.below hb0)
  have HB := hid hb0
  have HOK := hid hOK
  have HW := hid hW
  have Hs := hid (And.intro h0 h1)
  have h20 := hW.l20
  clear hM hI hb0 hOK hW h0 h1
  unfold rdV
  go_enter Try.func68, Try.ntmps68
  generalize hV : W.alloc (.cells #[.int .i64 m.L, .func (.func 105) #[macV m a a2 cap cap2] #[], .func (.func 106) #[macV m a a2 cap cap2] #[]] 75) = V at *
  go_wp2_with fail
  go_loopw [1, 8, 11] (fun v1 v8 v11 w' => ∃ i : Nat, i ≤ xs.length ∧ v11 = .int .i64 i ∧ v1 = .int .i64 (runF m xs s i) ∧ Below V.heap.size V w') (fun _ _ v11 _ => xs.length - (intOf v11).toNat)
  case atStart => exact ⟨0, by omega, rfl, rfl, Below.refl _ _⟩
  case round =>
    obtain ⟨i, hi, rfl, rfl, hb⟩ := hrel
    have hX := box_at (B := V.heap.size) (by rw [hV]; exact hb) (by rw [← hV]; simp)
    have x1 := hX.c1
    have xl := hX.lt
    by_cases hlt : i < xs.length
    · obtain ⟨bx, ox, rfl, hbx, c1⟩ := (HI.out.below hb) i hlt
      have hwe := HW.out.el i hlt
      have hs := runF_in HOK.out HW.out Hs.out.1 Hs.out.2 i hi
      have HS := hid (step105 m a a2 cap cap2 wr (HM.out.below hb) HOK.out (runF m xs s i) hs.1 hs.2 (nth xs i) hwe.1 hwe.2)
      have HN : Hid (runF m xs s (i + 1) = stepM m (runF m xs s i) (nth xs i).toNat) := hid rfl
      have Hb := hid hb
      have i2 : (i : Int) < (xs.length : Int) := by omega
      clear hb hX hs
      unfold macV at x1
      go_wp2_with fail
      refine HS.out.mono ?_; rintro e w1 ⟨rfl, hb1⟩
      have hb2 := Hb.out.trans (hb1.mono Hb.out.size)
      clear hb1
      go_wp2_with fail
      go_roundw
      case rel => exact ⟨i + 1, by omega, by go_num, by rw [HN.out], hb2⟩
      case measure => simp [intOf]; omega
    · obtain rfl : i = xs.length := by omega
      have hz := HB.out.trans (hb.mono HB.out.size)
      clear hb hX
      go_wp2_with fail
      go_ret
      exact ⟨rfl, hz⟩
end Go.Proofs.Ytmllbemjcfkmjaa
/- 'Accepts' and the document's: what they return. -/
namespace Go.Proofs.Ytmllbemjcfkmjaa
open Go.RowKit Go.Sort
set_option linter.unusedSimpArgs false
set_option linter.unusedVariables false

set_option maxRecDepth 100000 in
set_option maxHeartbeats 1000000 in
theorem from_any (m : Mac) (a a2 : Option Addr) (cap cap2 : Nat) (s : Int) (xs : List Int) (ax : Option Addr) (cx : Nat) (W : World) (hM : MacAt W a cap a2 cap2 m) (hI : IntsAt W ax xs) (hOK : MacOK m) (hW : WordOK m.L xs) (h0 : 0 ≤ s) (h1 : s < m.nx.length) :
    Calls Try.prog 70 #[.agg #[.int .i64 m.L, .slice a m.nx.length cap, .slice a2 m.ac.length cap2], .int .i64 s, .slice ax xs.length cx] W fun e w' => e = .returned (.int .i64 (runF m xs s xs.length)) ∧ Below W.heap.size W w' := by
  have hb0 := below_alloc W (.cells #[.int .i64 m.L, .slice a m.nx.length cap, .slice a2 m.ac.length cap2] 25)
  have HM := hid (hM.below hb0)
  have HI := hid (hI.below hb0)
  have HB := hid hb0
  have HOK := hid hOK
  have HW := hid hW
  have Hs := hid (And.intro h0 h1)
  have h20 := hW.l20
  clear hM hI hb0 hOK hW h0 h1
  go_enter Try.func70, Try.ntmps70
  go_wp2_with fail
  generalize hV : W.alloc (.cells #[.int .i64 m.L, .slice a m.nx.length cap, .slice a2 m.ac.length cap2] 25) = V at *
  have hX := box_at (B := V.heap.size) (by rw [hV]; exact Below.refl _ _) (by rw [← hV]; simp)
  have x1 := hX.c1
  have xl := hX.lt
  clear hX
  go_loopw [1, 7] (fun v1 v7 w' => ∃ i : Nat, i ≤ xs.length ∧ v7 = .int .i64 i ∧ v1 = .int .i64 (runF m xs s i) ∧ ∃ n, w' = V.drewN n) (fun _ v7 _ => xs.length - (intOf v7).toNat)
  case atStart => exact ⟨0, by omega, rfl, rfl, 0, rfl⟩
  case round =>
    obtain ⟨i, hi, rfl, rfl, n, rfl⟩ := hrel
    by_cases hlt : i < xs.length
    · obtain ⟨bx, ox, rfl, hbx, c1⟩ := HI.out i hlt
      have hwe := HW.out.el i hlt
      have hs := runF_in HOK.out HW.out Hs.out.1 Hs.out.2 i hi
      have HN : Hid (runF m xs s (i + 1) = nth (rowOf m (runF m xs s i).toNat) (nth xs i).toNat) := hid rfl
      obtain ⟨sn, hsn⟩ : ∃ sn : Nat, runF m xs s i = (sn : Int) := ⟨(runF m xs s i).toNat, by omega⟩
      obtain ⟨an, han⟩ : ∃ an : Nat, nth xs i = (an : Int) := ⟨(nth xs i).toNat, by omega⟩
      rw [han] at c1 hwe HN
      rw [hsn] at HN hs
      simp only [Int.toNat_natCast] at HN
      have hsl : sn < m.nx.length := by omega
      obtain ⟨b1, o1, rfl, hb1, ra, rc, hc, r1, r2, hIA⟩ := HM.out.nx sn hsl
      have hrl := HOK.out.len sn hsl
      have hal : an < (rowOf m sn).length := by omega
      obtain ⟨br, or', rfl, hbr, ca⟩ := hIA an hal
      rw [hsn]
      have i1 : (0 : Int) ≤ (i : Int) := by omega
      have i2 : (i : Int) < (xs.length : Int) := by omega
      have i3 : (0 : Int) ≤ (sn : Int) := by omega
      have i4 : (sn : Int) < (m.nx.length : Int) := by omega
      have i5 : (0 : Int) ≤ (an : Int) := by omega
      have i7 : (an : Int) < ((rowOf m sn).length : Int) := by omega
      clear hsn han hIA hrl
      go_wp2_with fail
      go_quiet (fail)
      go_wp2_with fail
      go_roundw
      case rel => exact ⟨i + 1, by omega, by go_num, by rw [HN.out], _, rfl⟩
      case measure => simp [intOf]; omega
    · obtain rfl : i = xs.length := by omega
      go_wp2_with fail
      go_ret
      exact ⟨rfl, below_quiet HB.out⟩

open Classical in
noncomputable def accB (m : Mac) (xs : List Int) : Bool := if wodE m xs = 0 then accM m (runN m xs xs.length) else false
theorem accB_ok {m : Mac} {xs : List Int} (h : wodE m xs = 0) : accB m xs = accM m (runN m xs xs.length) := by unfold accB; rw [if_pos h]
theorem accB_bad {m : Mac} {xs : List Int} (h : wodE m xs ≠ 0) : accB m xs = false := by unfold accB; rw [if_neg h]

set_option maxRecDepth 100000 in
set_option maxHeartbeats 1000000 in
theorem Accepts_any (m : Mac) (a a2 : Option Addr) (cap cap2 : Nat) (xs : List Int) (ax : Option Addr) (cx : Nat) (W : World) (hM : MacAt W a cap a2 cap2 m) (hI : IntsAt W ax xs) (hl : xs.length ≤ maxLen) :
    Calls Try.prog 25 #[.agg #[.int .i64 m.L, .slice a m.nx.length cap, .slice a2 m.ac.length cap2], .slice ax xs.length cx] W fun e w' => e = .returned (.tuple #[.bool (accB m xs), .int .i64 (wodE m xs)]) ∧ Below W.heap.size W w' := by
  have hb0 := below_alloc W (.cells #[.int .i64 m.L, .slice a m.nx.length cap, .slice a2 m.ac.length cap2] 25)
  have HM := hid (hM.below hb0)
  have HI := hid (hI.below hb0)
  have Hv := hid (worded_any m a a2 cap cap2 xs ax cx (W.alloc (.cells #[.int .i64 m.L, .slice a m.nx.length cap, .slice a2 m.ac.length cap2] 25)) HM.out HI.out hl)
  have HB := hid hb0
  clear hM hb0 hI hl
  by_cases hv : wodE m xs = 0
  · have R := hid (accB_ok hv)
    obtain ⟨hOK, hW⟩ := wodE_zero.1 hv
    have RE := hid hv
    rw [hv] at Hv
    have HOK := hid hOK
    have HW := hid hW
    have Hs := hid (runN_in hOK hW xs.length (Nat.le_refl _))
    have H0 := hid (show (0 : Int) < (m.nx.length : Int) by have := hOK.n1; omega)
    clear hOK hW hv
    go_enter Try.func25, Try.ntmps25
    go_wp2_with fail
    refine Hv.out.mono ?_; rintro e w1 ⟨rfl, hb1⟩
    have hX := box_at (B := W.heap.size + 1) (by simpa using hb1) rfl
    have x0 := hX.c0
    have x1 := hX.c1
    have x2 := hX.c2
    have xl := hX.lt
    have HM1 := hid (HM.out.below hb1)
    have HI1 := hid (HI.out.below hb1)
    have Ho := hid (of_any m a a2 cap cap2 w1)
    have HB1 := hid (HB.out.trans (hb1.mono HB.out.size))
    clear hX hb1
    go_wp2_with fail
    refine Ho.out.mono ?_; rintro e w2 ⟨rfl, hb2⟩
    have HM2 := hid (HM1.out.below hb2)
    have HI2 := hid (HI1.out.below hb2)
    have HB2 := hid (HB1.out.trans (hb2.mono HB1.out.size))
    clear hb2 x0 x1 x2 xl
    unfold rdV macV
    have hb3 := below_alloc w2 (.cells #[.int .i64 m.L, .func (.func 105) #[.agg #[.int .i64 m.L, .slice a m.nx.length cap, .slice a2 m.ac.length cap2]] #[], .func (.func 106) #[.agg #[.int .i64 m.L, .slice a m.nx.length cap, .slice a2 m.ac.length cap2]] #[]] 75)
    have HM3 := hid (HM2.out.below hb3)
    have HI3 := hid (HI2.out.below hb3)
    have HB3 := hid (HB2.out.trans (hb3.mono HB2.out.size))
    clear hb3
    go_wp2_with fail
    generalize hV : w2.alloc (.cells #[.int .i64 m.L, .func (.func 105) #[.agg #[.int .i64 m.L, .slice a m.nx.length cap, .slice a2 m.ac.length cap2]] #[], .func (.func 106) #[.agg #[.int .i64 m.L, .slice a m.nx.length cap, .slice a2 m.ac.length cap2]] #[]] 75) = V at *
    have hX := box_at (B := V.heap.size) (by rw [hV]; exact Below.refl _ _) (by rw [← hV]; simp)
    have q0 := cell_regrown hX.c0
    have q1 := cell_regrown hX.c1
    have q2 := cell_regrown hX.c2
    clear hX hV
    refine wp_region_quiet_below (by kernel_rfl) (by kernel_rfl) ?_
    refine Qt.out ?_
    iterate 4 (refine qt_want (by kernel_rfl) (fun K hK => ?_); go_simp; refine hK _ ?_; clear hK K)
    refine qt_want (by kernel_rfl) (fun K hK => ?_); go_simp
    apply Exists.intro; refine ⟨fun p => ?_, hK _ ?_⟩
    · exact Calls.regrown_of (run_any m a a2 cap cap2 0 xs ax cx _ (HM3.out.below (below_regrown V p.d p.os)) (ints_regrown HI3.out p.d p.os) HOK.out HW.out (Int.le_refl _) H0.out)
    clear hK K
    refine qt_want (by kernel_rfl) (fun K hK => ?_); go_simp
    apply Exists.intro; refine ⟨fun p => ?_, hK _ ?_⟩
    · exact Calls.regrown_of (acc106 m a a2 cap cap2 _ (HM3.out.below (below_regrown V p.d p.os)) HOK.out _ Hs.out.1 Hs.out.2)
    clear hK K
    iterate 2 (refine qt_want (by kernel_rfl) (fun K hK => ?_); go_simp; refine hK _ ?_; clear hK K)
    refine qt_nil ?_
    intro _ hw'
    obtain ⟨p, hw''⟩ := hw'
    subst hw''
    go_wp2_with fail
    go_ret2
    exact ⟨by rw [R.out, RE.out]; rfl, HB3.out.trans ((below_regrown V _ _).mono HB3.out.size)⟩
  · have R := hid (accB_bad hv)
    have d1 : (wodE m xs == 0) = false := beq_eq_false_iff_ne.2 hv
    have d2 : (wodE m xs != 0) = true := by rw [bne, d1]; rfl
    clear hv
    go_enter Try.func25, Try.ntmps25
    go_wp2_with fail
    refine Hv.out.mono ?_; rintro e w1 ⟨rfl, hb1⟩
    have hz := HB.out.trans (hb1.mono HB.out.size)
    clear hb1
    go_wp2_with fail
    go_ret2
    exact ⟨by rw [R.out]; rfl, hz⟩

set_option maxRecDepth 100000 in
set_option maxHeartbeats 1000000 in
theorem rAccepts_any (m : Mac) (a a2 : Option Addr) (cap cap2 : Nat) (xs : List Int) (ax : Option Addr) (cx : Nat) (W : World) (hM : MacAt W a cap a2 cap2 m) (hI : IntsAt W ax xs) (hl : xs.length ≤ maxLen) :
    Calls Try.prog 26 #[.agg #[.int .i64 m.L, .slice a m.nx.length cap, .slice a2 m.ac.length cap2], .slice ax xs.length cx] W fun e w' => e = .returned (.tuple #[.bool (accB m xs), .int .i64 (wodE m xs)]) ∧ Below W.heap.size W w' := by
  have hb0 := below_alloc W (.cells #[.int .i64 m.L, .slice a m.nx.length cap, .slice a2 m.ac.length cap2] 25)
  have HM := hid (hM.below hb0)
  have HI := hid (hI.below hb0)
  have Hv := hid (both_any m a a2 cap cap2 xs ax cx (W.alloc (.cells #[.int .i64 m.L, .slice a m.nx.length cap, .slice a2 m.ac.length cap2] 25)) HM.out HI.out hl)
  have HB := hid hb0
  clear hM hb0 hI hl
  by_cases hv : wodE m xs = 0
  · have R := hid (accB_ok hv)
    obtain ⟨hOK, hW⟩ := wodE_zero.1 hv
    have RE := hid hv
    rw [hv] at Hv
    have HOK := hid hOK
    have HW := hid hW
    have hs := runN_in hOK hW xs.length (Nat.le_refl _)
    have H0 := hid (show (0 : Int) < (m.nx.length : Int) by have := hOK.n1; omega)
    have Hac := hid hOK.ac
    have HR := hid (show runF m xs 0 xs.length = runN m xs xs.length from rfl)
    clear hOK hW hv
    go_enter Try.func26, Try.ntmps26
    go_wp2_with fail
    refine Hv.out.mono ?_; rintro e w1 ⟨rfl, hb1⟩
    have hX := box_at (B := W.heap.size + 1) (by simpa using hb1) rfl
    have HM1 := hid (HM.out.below hb1)
    have HI1 := hid (HI.out.below hb1)
    have HB1 := hid (HB.out.trans (hb1.mono HB.out.size))
    obtain ⟨sn, hsn⟩ : ∃ sn : Nat, runN m xs xs.length = (sn : Int) := ⟨(runN m xs xs.length).toNat, by omega⟩
    have hacc : accM m (runN m xs xs.length) = m.ac.getD sn false := by rw [hsn]; rfl
    obtain ⟨b2, o2, rfl, hb2, c2⟩ := HM1.out.ac sn (by rw [Hac.out]; omega)
    have q0 := cell_regrown hX.c0
    have q1 := cell_regrown hX.c1
    have q2 := cell_regrown hX.c2
    have q3 := cell_regrown c2
    have i1 : (0 : Int) ≤ (sn : Int) := by omega
    have i2 : (sn : Int) < (m.ac.length : Int) := by rw [Hac.out]; omega
    rw [hsn] at HR
    have RA : Hid (accB m xs = m.ac.getD sn false) := hid (by rw [R.out, hacc])
    generalize m.ac.getD sn false = x at *
    clear hX hb1 c2 hsn hs hacc
    go_wp2_with fail
    refine wp_region_quiet_below (by kernel_rfl) (by kernel_rfl) ?_
    refine Qt.out ?_
    iterate 4 (refine qt_want (by kernel_rfl) (fun K hK => ?_); go_simp; refine hK _ ?_; clear hK K)
    refine qt_want (by kernel_rfl) (fun K hK => ?_); go_simp
    apply Exists.intro; refine ⟨fun p => ?_, hK _ ?_⟩
    · exact Calls.regrown_of (from_any m a (some ⟨b2, o2, none⟩) cap cap2 0 xs ax cx _ (HM1.out.below (below_regrown w1 p.d p.os)) (ints_regrown HI1.out p.d p.os) HOK.out HW.out (Int.le_refl _) H0.out)
    rw [HR.out]
    clear hK K
    iterate 4 (refine qt_want (by kernel_rfl) (fun K hK => ?_); go_simp; refine hK _ ?_; clear hK K)
    refine qt_nil ?_
    intro _ hw'
    obtain ⟨p, hw''⟩ := hw'
    subst hw''
    go_wp2_with fail
    go_ret2
    exact ⟨by rw [RA.out, RE.out]; rfl, HB1.out.trans ((below_regrown w1 _ _).mono HB1.out.size)⟩
  · have R := hid (accB_bad hv)
    have d1 : (wodE m xs == 0) = false := beq_eq_false_iff_ne.2 hv
    have d2 : (wodE m xs != 0) = true := by rw [bne, d1]; rfl
    clear hv
    go_enter Try.func26, Try.ntmps26
    go_wp2_with fail
    refine Hv.out.mono ?_; rintro e w1 ⟨rfl, hb1⟩
    have hz := HB.out.trans (hb1.mono HB.out.size)
    clear hb1
    go_wp2_with fail
    go_ret2
    exact ⟨by rw [R.out]; rfl, hz⟩
end Go.Proofs.Ytmllbemjcfkmjaa
/- The word with a rank: it has this rank, and the word with a word's rank is the word; plainly. -/
namespace Go.Proofs.Ytmllbemjcfkmjaa
open Go.RowKit
set_option linter.unusedSimpArgs false
set_option linter.unusedVariables false

/-- The words of k more letters behind the letters below a. -/
def sumS (m : Mac) (k : Nat) (s : Int) (a : Nat) : Int := sumTo (fun b => cnt m k (stepM m s b)) a
theorem sumS_succ (m : Mac) (k : Nat) (s : Int) (a : Nat) : sumS m k s (a + 1) = sumS m k s a + cnt m k (stepM m s a) := rfl
theorem sumS_all (m : Mac) (k : Nat) (s : Int) : sumS m k s m.L.toNat = cnt m (k + 1) s := rfl
theorem sumS_mono (m : Mac) (h6 : m.L ≤ 6) (k : Nat) (s : Int) {a b : Nat} (h : a ≤ b) : sumS m k s a ≤ sumS m k s b := by
  induction b with
  | zero => obtain rfl : a = 0 := by omega
            exact Int.le_refl _
  | succ b ih =>
    by_cases e : a = b + 1
    · subst e; exact Int.le_refl _
    · have := ih (by omega)
      have := (cnt_bd m h6 k (stepM m s b)).1
      rw [sumS_succ]
      omega
theorem sumS_pos (m : Mac) (h6 : m.L ≤ 6) (k : Nat) (s : Int) (a : Nat) : 0 ≤ sumS m k s a := sumS_mono m h6 k s (Nat.zero_le a)
open Classical in
/-- The letter that rank r falls to. -/
noncomputable def ltr (m : Mac) (k : Nat) (s r : Int) : Nat := if h : ∃ a, sumS m k s a ≤ r ∧ r < sumS m k s (a + 1) then h.choose else 0
theorem ltr_eq {m : Mac} (h6 : m.L ≤ 6) {k : Nat} {s r : Int} {a : Nat} (h1 : sumS m k s a ≤ r) (h2 : r < sumS m k s (a + 1)) : ltr m k s r = a := by
  have hex : ∃ a, sumS m k s a ≤ r ∧ r < sumS m k s (a + 1) := ⟨a, h1, h2⟩
  unfold ltr
  rw [dif_pos hex]
  obtain ⟨g1, g2⟩ := hex.choose_spec
  rcases Nat.lt_trichotomy hex.choose a with h | h | h
  · have := sumS_mono m h6 k s (show hex.choose + 1 ≤ a from h)
    omega
  · exact h
  · have := sumS_mono m h6 k s (show a + 1 ≤ hex.choose from h)
    omega
theorem ltr_ex (m : Mac) (k : Nat) (s r : Int) (h0 : 0 ≤ r) (n : Nat) (h1 : r < sumS m k s n) : ∃ a, a < n ∧ sumS m k s a ≤ r ∧ r < sumS m k s (a + 1) := by
  induction n with
  | zero => exact absurd h1 (by show ¬ r < 0; omega)
  | succ n ih =>
    by_cases h : r < sumS m k s n
    · obtain ⟨a, ha, h2⟩ := ih h
      exact ⟨a, by omega, h2⟩
    · exact ⟨n, by omega, by omega, h1⟩
noncomputable def unr (m : Mac) : Nat → Int → Int → List Int
  | 0, _, _ => []
  | k + 1, s, r => (ltr m k s r : Int) :: unr m k (stepM m s (ltr m k s r)) (r - sumS m k s (ltr m k s r))
theorem unr_step {m : Mac} (h6 : m.L ≤ 6) {k : Nat} {s r : Int} {a : Nat} (h1 : sumS m k s a ≤ r) (h2 : r < sumS m k s (a + 1)) : unr m (k + 1) s r = (a : Int) :: unr m k (stepM m s a) (r - sumS m k s a) := by
  rw [unr, ltr_eq h6 h1 h2]
theorem unr_len (m : Mac) (k : Nat) : ∀ s r, (unr m k s r).length = k := by
  induction k with
  | zero => intro s r; rfl
  | succ k ih => intro s r; rw [unr, List.length_cons, ih]
/-- The rank of a word from a state. -/
def rkR (m : Mac) : List Int → Int → Int
  | [], _ => 0
  | x :: w, s => sumS m w.length s x.toNat + rkR m w (stepM m s x.toNat)
def accR (m : Mac) : List Int → Int → Bool
  | [], s => accM m s
  | x :: w, s => accR m w (stepM m s x.toNat)
theorem sumTo_front (f : Nat → Int) (i : Nat) : sumTo f (i + 1) = f 0 + sumTo (fun j => f (j + 1)) i := by
  induction i with
  | zero => simp [sumTo]
  | succ i ih => rw [sumTo, ih]; simp only [sumTo]; omega
theorem runF_cons (m : Mac) (x : Int) (w : List Int) (s : Int) (j : Nat) : runF m (x :: w) s (j + 1) = runF m w (stepM m s x.toNat) j := by
  induction j with
  | zero => rfl
  | succ j ih =>
    show stepM m (runF m (x :: w) s (j + 1)) (nth (x :: w) (j + 1)).toNat = stepM m (runF m w (stepM m s x.toNat) j) (nth w j).toNat
    rw [ih]
    rfl
theorem accR_run (m : Mac) (w : List Int) : ∀ s, accR m w s = accM m (runF m w s w.length) := by
  induction w with
  | nil => intro s; rfl
  | cons x w ih => intro s; rw [accR, ih, List.length_cons, runF_cons]
theorem rkR_sum (m : Mac) (w : List Int) : ∀ s, rkR m w s = sumTo (fun j => sumTo (fun b => cnt m (w.length - 1 - j) (stepM m (runF m w s j) b)) (nth w j).toNat) w.length := by
  induction w with
  | nil => intro s; rfl
  | cons x w ih =>
    intro s
    rw [List.length_cons, sumTo_front, rkR, ih]
    congr 1
    refine sumTo_congr _ _ _ fun j hj => ?_
    rw [runF_cons]
    have e : w.length + 1 - 1 - (j + 1) = w.length - 1 - j := by omega
    rw [e]
    rfl
theorem rkN_R (m : Mac) (w : List Int) : rkN m w w.length = rkR m w 0 := (rkR_sum m w 0).symm
theorem word_cons {L x : Int} {w : List Int} (h : WordOK L (x :: w)) : (0 ≤ x ∧ x < L) ∧ WordOK L w :=
  ⟨h.el 0 (by simp), by have := h.l20; simp at this; omega, fun i hi => h.el (i + 1) (by simp; omega)⟩
theorem rkR_lt {m : Mac} (h6 : m.L ≤ 6) (w : List Int) : ∀ s, WordOK m.L w → accR m w s = true → 0 ≤ rkR m w s ∧ rkR m w s < cnt m w.length s := by
  induction w with
  | nil =>
    intro s _ ha
    have ha : accM m s = true := ha
    simp [rkR, cnt, ha]
  | cons x w ih =>
    intro s hw ha
    obtain ⟨hx, hw'⟩ := word_cons hw
    have h1 := ih _ hw' ha
    have h2 := sumS_mono m h6 w.length s (show x.toNat + 1 ≤ m.L.toNat by omega)
    rw [sumS_succ, sumS_all] at h2
    have h3 := sumS_pos m h6 w.length s x.toNat
    rw [rkR, List.length_cons]
    omega
theorem unr_rk {m : Mac} (h6 : m.L ≤ 6) (w : List Int) : ∀ s, WordOK m.L w → accR m w s = true → unr m w.length s (rkR m w s) = w := by
  induction w with
  | nil => intro s _ _; rfl
  | cons x w ih =>
    intro s hw ha
    obtain ⟨hx, hw'⟩ := word_cons hw
    have h1 := rkR_lt h6 w _ hw' ha
    have e := unr_step (m := m) h6 (k := w.length) (s := s) (r := rkR m (x :: w) s) (a := x.toNat) (by rw [rkR]; omega) (by rw [sumS_succ, rkR]; omega)
    rw [List.length_cons, e]
    have e2 : rkR m (x :: w) s - sumS m w.length s x.toNat = rkR m w (stepM m s x.toNat) := by rw [rkR]; omega
    rw [e2, ih _ hw' ha]
    congr 1
    omega
theorem rk_unr {m : Mac} (hOK : MacOK m) (k : Nat) (hk : k ≤ 20) : ∀ s r : Int, 0 ≤ s → s < m.nx.length → 0 ≤ r → r < cnt m k s → WordOK m.L (unr m k s r) ∧ accR m (unr m k s r) s = true ∧ rkR m (unr m k s r) s = r := by
  induction k with
  | zero =>
    intro s r _ _ h0 h1
    have ha : accM m s = true := by
      cases h : accM m s
      · simp [cnt, h] at h1; omega
      · rfl
    refine ⟨⟨by simp [unr], fun i hi => by simp [unr] at hi⟩, ha, ?_⟩
    simp [cnt, ha] at h1
    show (0 : Int) = r
    omega
  | succ k ih =>
    intro s r s0 s1 h0 h1
    obtain ⟨a, ha, h2, h3⟩ := ltr_ex m k s r h0 m.L.toNat h1
    rw [unr_step hOK.l6 h2 h3]
    have h4 := h3
    rw [sumS_succ] at h4
    have hs := step_in hOK s0 s1 (a := (a : Int)) (by omega) (by omega)
    rw [Int.toNat_natCast] at hs
    obtain ⟨g1, g2, g3⟩ := ih (by omega) (stepM m s a) (r - sumS m k s a) hs.1 hs.2 (by omega) (by omega)
    refine ⟨⟨by rw [List.length_cons, unr_len]; exact hk, fun i hi => ?_⟩, ?_, ?_⟩
    · cases i with
      | zero =>
        show 0 ≤ (a : Int) ∧ (a : Int) < m.L
        omega
      | succ i => exact g1.el i (by simp at hi; omega)
    · rw [accR, Int.toNat_natCast]; exact g2
    · rw [rkR, Int.toNat_natCast, unr_len, g3]; omega
open Classical in
noncomputable def unkE (m : Mac) (n r : Int) : Int := if sizE m n = 0 then (if 0 ≤ r ∧ r < cnt m n.toNat 0 then 0 else 5) else sizE m n
open Classical in
noncomputable def unkR (m : Mac) (n r : Int) : List Int := if unkE m n r = 0 then unr m n.toNat 0 r else []
theorem unk_ok {m : Mac} {n r : Int} (h : sizE m n = 0) (h0 : 0 ≤ r) (h1 : r < cnt m n.toNat 0) : unkE m n r = 0 ∧ unkR m n r = unr m n.toNat 0 r := by
  have e : unkE m n r = 0 := by unfold unkE; rw [if_pos h, if_pos ⟨h0, h1⟩]
  exact ⟨e, by unfold unkR; rw [if_pos e]⟩
theorem unk_no {m : Mac} {n r : Int} (h : sizE m n = 0) (h1 : r < 0 ∨ cnt m n.toNat 0 ≤ r) : unkE m n r = 5 ∧ unkR m n r = [] := by
  have e : unkE m n r = 5 := by unfold unkE; rw [if_pos h, if_neg (by omega)]
  exact ⟨e, by unfold unkR; rw [e, if_neg (by decide)]⟩
theorem unk_bad {m : Mac} {n r : Int} (h : sizE m n ≠ 0) : unkE m n r = sizE m n ∧ unkR m n r = [] := by
  have e : unkE m n r = sizE m n := by unfold unkE; rw [if_neg h]
  exact ⟨e, by unfold unkR; rw [e, if_neg h]⟩
theorem unkE_zero {m : Mac} {n r : Int} : unkE m n r = 0 ↔ sizE m n = 0 ∧ 0 ≤ r ∧ r < cnt m n.toNat 0 := by
  by_cases h : sizE m n = 0
  · by_cases h2 : 0 ≤ r ∧ r < cnt m n.toNat 0
    · rw [(unk_ok h h2.1 h2.2).1]
      exact ⟨fun _ => ⟨h, h2⟩, fun _ => rfl⟩
    · rw [(unk_no h (by omega)).1]
      exact ⟨(fun h => by cases h), fun h3 => absurd h3.2 h2⟩
  · rw [(unk_bad h).1]
    exact ⟨fun h2 => absurd h2 h, fun h2 => absurd h2.1 h⟩
/-- The word with a word's rank is the word. -/
theorem unk_rnk {m : Mac} {xs : List Int} (h : rnkE m xs = 0) : unkE m xs.length (rnkN m xs) = 0 ∧ unkR m xs.length (rnkN m xs) = xs := by
  obtain ⟨⟨hOK, hW⟩, ha⟩ := rnkE_zero.1 h
  have hr := rnk_ok (wodE_zero.2 ⟨hOK, hW⟩) ha
  have ha' : accR m xs 0 = true := by rw [accR_run]; exact ha
  have hl := rkR_lt hOK.l6 xs 0 hW ha'
  rw [hr.2, rkN_R]
  have := unk_ok (m := m) (n := xs.length) (r := rkR m xs 0) (sizE_zero.2 ⟨hOK, by omega, by have := hW.l20; omega⟩) hl.1 (by rw [Int.toNat_natCast]; exact hl.2)
  rw [Int.toNat_natCast, unr_rk hOK.l6 xs 0 hW ha'] at this
  exact this
/-- The word with a rank has this rank. -/
theorem rnk_unk {m : Mac} {n r : Int} (h : unkE m n r = 0) : rnkE m (unkR m n r) = 0 ∧ rnkN m (unkR m n r) = r := by
  obtain ⟨hs, h0, h1⟩ := unkE_zero.1 h
  obtain ⟨hOK, n0, n20⟩ := sizE_zero.1 hs
  have hn1 := hOK.n1
  rw [(unk_ok hs h0 h1).2]
  obtain ⟨g1, g2, g3⟩ := rk_unr hOK n.toNat (by omega) 0 r (by omega) (by omega) h0 h1
  have g2' : accM m (runN m (unr m n.toNat 0 r) (unr m n.toNat 0 r).length) = true := by rw [accR_run] at g2; exact g2
  have hr := rnk_ok (wodE_zero.2 ⟨hOK, g1⟩) g2'
  exact ⟨hr.1, by rw [hr.2, rkN_R, g3]⟩
end Go.Proofs.Ytmllbemjcfkmjaa
/- 'SameInts': what it returns, for any two lists. -/
namespace Go.Proofs.Ytmllbemjcfkmjaa
open Go.RowKit
set_option linter.unusedSimpArgs false
set_option linter.unusedVariables false

theorem ints_ext {xs ys : List Int} (hl : xs.length = ys.length) (h : ∀ i, i < xs.length → nth xs i = nth ys i) : xs = ys := by
  refine List.ext_getElem hl fun i h1 h2 => ?_
  have := h i h1
  simpa [nth, List.getD, h1, h2] using this
set_option maxRecDepth 100000 in
set_option maxHeartbeats 1000000 in
theorem SameInts_gen (xs ys : List Int) (a a2 : Option Addr) (cap cap2 : Nat) (W : World) (h1 : IntsAt W a xs) (h2 : IntsAt W a2 ys) (hm : xs.length ≤ maxLen) :
    Calls Try.prog 32 #[.slice a xs.length cap, .slice a2 ys.length cap2] W fun e w' => e = .returned (.bool (decide (xs = ys))) ∧ Below W.heap.size W w' := by
  unfold maxLen at hm
  by_cases hl : xs.length = ys.length
  · have Hl := hid hl
    have d1 : ((xs.length : Int) == (ys.length : Int)) = true := beq_iff_eq.2 (by omega)
    have d2 : (xs.length == ys.length) = true := beq_iff_eq.2 hl
    clear hl
    go_enter Try.func32, Try.ntmps32
    go_wp2_with fail
    clear d1 d2
    go_loopw [5] (fun v5 w' => ∃ k : Nat, k ≤ xs.length ∧ v5 = .int .i64 k ∧ Hid (∀ j, j < k → nth xs j = nth ys j) ∧ Below W.heap.size W w') (fun v5 _ => xs.length - (intOf v5).toNat)
    case atStart => exact ⟨0, by omega, rfl, hid fun j hj => by omega, Below.refl _ _⟩
    case round =>
      obtain ⟨k, hk, rfl, HE, hb⟩ := hrel
      by_cases hlt : k < xs.length
      · obtain ⟨b, off, rfl, hbl, c1⟩ := (h1.below hb) k hlt
        have hlt2 : k < ys.length := by rw [← Hl.out]; exact hlt
        obtain ⟨b', off', rfl, hbl', c2⟩ := (h2.below hb) k hlt2
        have i0 : (0 : Int) ≤ (k : Int) := by omega
        have i1 : (k : Int) < (xs.length : Int) := by omega
        have i2 : (k : Int) < (ys.length : Int) := by omega
        by_cases he : nth xs k = nth ys k
        · have e1 : (nth xs k == nth ys k) = true := beq_iff_eq.2 he
          have e2 : (nth xs k != nth ys k) = false := by rw [bne, e1]; rfl
          have He := hid he
          clear he
          go_wp2_with fail
          go_quiet (fail)
          go_wp2_with fail
          go_roundw
          case rel => exact ⟨k + 1, by omega, by go_num, hid fun i hi => by
            by_cases e : i = k
            · subst e; exact He.out
            · exact HE.out i (by omega), below_quiet hb⟩
          case measure => simp [intOf]; omega
        · have e1 : (nth xs k == nth ys k) = false := beq_eq_false_iff_ne.2 he
          have e2 : (nth xs k != nth ys k) = true := by rw [bne, e1]; rfl
          have R : Hid (decide (xs = ys) = false) := hid (decide_eq_false fun h => he (by rw [h]))
          clear he
          go_wp2_with fail
          go_quiet (fail)
          go_wp2_with fail
          go_ret
          exact ⟨by rw [R.out]; rfl, below_quiet hb⟩
      · obtain rfl : k = xs.length := by omega
        have R : Hid (decide (xs = ys) = true) := hid (decide_eq_true (ints_ext Hl.out HE.out))
        go_wp2_with fail
        go_ret
        exact ⟨by rw [R.out]; rfl, hb⟩
  · have d1 : ((xs.length : Int) == (ys.length : Int)) = false := beq_eq_false_iff_ne.2 (by omega)
    have d2 : (xs.length == ys.length) = false := beq_eq_false_iff_ne.2 hl
    have R : Hid (decide (xs = ys) = false) := hid (decide_eq_false fun h => hl (by rw [h]))
    clear hl
    go_enter Try.func32, Try.ntmps32
    go_wp2_with fail
    go_ret
    exact ⟨by rw [R.out]; rfl, Below.refl _ _⟩
theorem SameInts_any (xs : List Int) (a a2 : Option Addr) (cap cap2 : Nat) (W : World) (h1 : IntsAt W a xs) (h2 : IntsAt W a2 xs) (hm : xs.length ≤ maxLen) :
    Calls Try.prog 32 #[.slice a xs.length cap, .slice a2 xs.length cap2] W fun e w' => e = .returned (.bool true) ∧ Below W.heap.size W w' :=
  (SameInts_gen xs xs a a2 cap cap2 W h1 h2 hm).mono fun e w' ⟨h, hb⟩ => ⟨by rw [h, decide_eq_true rfl], hb⟩
end Go.Proofs.Ytmllbemjcfkmjaa
/- The document's 'Rank': what it returns. -/
namespace Go.Proofs.Ytmllbemjcfkmjaa
open Go.RowKit Go.Sort
set_option linter.unusedSimpArgs false
set_option linter.unusedVariables false

theorem nth_take {xs : List Int} {i j : Nat} (h : j < i) : nth (xs.take i) j = nth xs j := by
  unfold nth
  simp [List.getD, List.getElem?_take, h]
theorem runF_take (m : Mac) (xs : List Int) (s : Int) (i j : Nat) (h : j ≤ i) : runF m (xs.take i) s j = runF m xs s j := by
  induction j with
  | zero => rfl
  | succ j ih => simp only [runF]; rw [ih (by omega), nth_take (by omega)]
theorem word_take {L : Int} {xs : List Int} (h : WordOK L xs) (i : Nat) : WordOK L (xs.take i) :=
  ⟨by have := h.l20; simp; omega, fun j hj => by
    have hj' : j < i ∧ j < xs.length := by simp at hj; omega
    rw [nth_take hj'.1]; exact h.el j hj'.2⟩
theorem ints_take {w : World} {ax : Option Addr} {xs : List Int} (h : IntsAt w ax xs) (i : Nat) : IntsAt w ax (xs.take i) := by
  intro j hj
  have hj' : j < i ∧ j < xs.length := by simp at hj; omega
  obtain ⟨b, off, e, hlt, hc⟩ := h j hj'.2
  exact ⟨b, off, e, hlt, by rw [hc, nth_take hj'.1]⟩

set_option maxRecDepth 100000 in
set_option maxHeartbeats 4000000 in
theorem rRank_any (m : Mac) (a a2 : Option Addr) (cap cap2 : Nat) (xs : List Int) (ax : Option Addr) (cx : Nat) (W : World) (hM : MacAt W a cap a2 cap2 m) (hI : IntsAt W ax xs) (hlc : xs.length ≤ cx) (hcm : cx ≤ maxLen) :
    Calls Try.prog 30 #[.agg #[.int .i64 m.L, .slice a m.nx.length cap, .slice a2 m.ac.length cap2], .slice ax xs.length cx] W fun e w' => e = .returned (.tuple #[.int .i64 (rnkN m xs), .int .i64 (rnkE m xs)]) ∧ Below W.heap.size W w' := by
  have hl : xs.length ≤ maxLen := Nat.le_trans hlc hcm
  have hb0 := below_alloc W (.cells #[.int .i64 m.L, .slice a m.nx.length cap, .slice a2 m.ac.length cap2] 25)
  have HM := hid (hM.below hb0)
  have HI := hid (hI.below hb0)
  have Hv := hid (both_any m a a2 cap cap2 xs ax cx (W.alloc (.cells #[.int .i64 m.L, .slice a m.nx.length cap, .slice a2 m.ac.length cap2] 25)) HM.out HI.out hl)
  have HB := hid hb0
  clear hM hb0 hI hl
  by_cases hv : wodE m xs = 0
  · obtain ⟨hOK, hW⟩ := wodE_zero.1 hv
    have HV := hid hv
    rw [hv] at Hv
    have HOK := hid hOK
    have HW := hid hW
    have h20 := hW.l20
    have h64 := hOK.n64
    have hs := runN_in hOK hW xs.length (Nat.le_refl _)
    have H0 := hid (show (0 : Int) < (m.nx.length : Int) by have := hOK.n1; omega)
    have Hac := hid hOK.ac
    have HR := hid (show runF m xs 0 xs.length = runN m xs xs.length from rfl)
    have R1 := hid (fun h => rnk_ok (m := m) (xs := xs) hv h)
    have R0 := hid (fun h => rnk_no (m := m) (xs := xs) hv h)
    clear hOK hW hv
    go_enter Try.func30, Try.ntmps30
    go_wp2_with fail
    refine Hv.out.mono ?_; rintro e w1 ⟨rfl, hb1⟩
    have hX := box_at (B := W.heap.size + 1) (by simpa using hb1) rfl
    have HM1 := hid (HM.out.below hb1)
    have HI1 := hid (HI.out.below hb1)
    have HB1 := hid (HB.out.trans (hb1.mono HB.out.size))
    obtain ⟨sn, hsn⟩ : ∃ sn : Nat, runN m xs xs.length = (sn : Int) := ⟨(runN m xs xs.length).toNat, by omega⟩
    have hacc : accM m (runN m xs xs.length) = m.ac.getD sn false := by rw [hsn]; rfl
    obtain ⟨b2, o2, rfl, hb2, c2⟩ := HM1.out.ac sn (by rw [Hac.out]; omega)
    have q0 := cell_regrown hX.c0
    have q1 := cell_regrown hX.c1
    have q2 := cell_regrown hX.c2
    have q3 := cell_regrown c2
    have HX := hid hX
    have i1 : (0 : Int) ≤ (sn : Int) := by omega
    have i2 : (sn : Int) < (m.ac.length : Int) := by rw [Hac.out]; omega
    rw [hsn] at HR
    rw [hacc] at R0 R1
    generalize m.ac.getD sn false = x at *
    clear hX hb1 c2 hsn hs hacc
    go_wp2_with fail
    refine wp_region_quiet_below (by kernel_rfl) (by kernel_rfl) ?_
    refine Qt.out ?_
    iterate 4 (refine qt_want (by kernel_rfl) (fun K hK => ?_); go_simp; refine hK _ ?_; clear hK K)
    refine qt_want (by kernel_rfl) (fun K hK => ?_); go_simp
    apply Exists.intro; refine ⟨fun p => ?_, hK _ ?_⟩
    · exact Calls.regrown_of (from_any m a (some ⟨b2, o2, none⟩) cap cap2 0 xs ax cx _ (HM1.out.below (below_regrown w1 p.d p.os)) (ints_regrown HI1.out p.d p.os) HOK.out HW.out (Int.le_refl _) H0.out)
    rw [HR.out]
    clear hK K
    iterate 3 (refine qt_want (by kernel_rfl) (fun K hK => ?_); go_simp; refine hK _ ?_; clear hK K)
    refine qt_nil ?_
    intro _ hw'
    obtain ⟨p, hw''⟩ := hw'
    subst hw''
    have hbr := below_regrown w1 p.d p.os
    generalize grow (redrawn w1 p.d) p.os = w2 at *
    have x0 := (hbr.cell (p := ⟨W.heap.size, 0, none⟩) HX.out.lt).trans HX.out.c0
    have x1 := (hbr.cell (p := ⟨W.heap.size, 1, none⟩) HX.out.lt).trans HX.out.c1
    have x2 := (hbr.cell (p := ⟨W.heap.size, 2, none⟩) HX.out.lt).trans HX.out.c2
    have xl : W.heap.size < w2.heap.size := by have := hbr.size; have := HX.out.lt; omega
    have HM2 := hid (HM1.out.below hbr)
    have HI2 := hid (HI1.out.below hbr)
    have HB2 := hid (HB1.out.trans (hbr.mono HB1.out.size))
    clear hbr q0 q1 q2 q3
    cases x with
    | false =>
      have R := hid (R0.out rfl)
      have hz := HB2.out
      go_wp2_with fail
      go_ret2
      exact ⟨by rw [R.out.1, R.out.2]; rfl, hz⟩
    | true =>
      have R := hid (R1.out rfl)
      have Ht := hid (table_any m a (some ⟨b2, o2, none⟩) cap cap2 xs.length w2 HM2.out HOK.out h20)
      go_wp2_with fail
      refine Ht.out.mono ?_; rintro e w3 ⟨v, b, cp, rfl, hT, hb3⟩
      have y0 := (hb3.cell (p := ⟨W.heap.size, 0, none⟩) xl).trans x0
      have y1 := (hb3.cell (p := ⟨W.heap.size, 1, none⟩) xl).trans x1
      have y2 := (hb3.cell (p := ⟨W.heap.size, 2, none⟩) xl).trans x2
      have yl : W.heap.size < w3.heap.size := by have := hb3.size; omega
      have HM3 := hid (HM2.out.below hb3)
      have HI3 := hid (HI2.out.below hb3)
      have HB3 := hid (HB2.out.trans (hb3.mono HB2.out.size))
      have e5 := hT.eq
      subst e5
      have HT := hid hT
      clear hb3 hT x0 x1 x2 xl
      have HY0 := hid y0
      have HY1 := hid y1
      have HY2 := hid y2
      go_wp2_with fail
      clear y0 y1 y2
      go_loopw [8, 9, 10, 11] (fun v8 v9 v10 v11 w' => ∃ i : Nat, i ≤ xs.length ∧ v9 = .int .i64 i ∧ v8 = .int .i64 (rkN m xs i) ∧ Below w3.heap.size w3 w') (fun _ v9 _ _ _ => xs.length - (intOf v9).toNat)
      case atStart => exact ⟨0, by omega, rfl, rfl, Below.refl _ _⟩
      case round =>
        obtain ⟨i, hi, rfl, rfl, hb⟩ := hrel
        have hR := rkN_bd HOK.out HW.out i hi
        by_cases hlt : i < xs.length
        · have hwe := HW.out.el i hlt
          have hs := runN_in HOK.out HW.out i hi
          have HR2 : Hid (rkN m xs (i + 1) = rkN m xs i + innR m xs i (nth xs i).toNat) := hid rfl
          have HR3 : Hid (∀ t, innR m xs i (t + 1) = innR m xs i t + cnt m (xs.length - 1 - i) (nth (rowOf m (runN m xs i).toNat) t)) := hid fun t => rfl
          obtain ⟨tn0, hsn⟩ : ∃ sn : Nat, runN m xs i = (sn : Int) := ⟨(runN m xs i).toNat, by omega⟩
          obtain ⟨an, han⟩ : ∃ an : Nat, nth xs i = (an : Int) := ⟨(nth xs i).toNat, by omega⟩
          obtain ⟨bx, ox, rfl, hbx, c0⟩ := HI3.out i hlt
          have etk : (xs.take i).length = i := by simp; omega
          have hfr : ∀ w, RowKit.Below w3.heap.size w3 w → Calls Try.prog 70 #[.agg #[.int .i64 m.L, .slice a m.nx.length cap, .slice (some ⟨b2, o2, none⟩) m.ac.length cap2], .int .i64 0, .slice (some ⟨bx, ox, none⟩) i cx] w fun e w' => e = .returned (.int .i64 (tn0 : Int)) ∧ RowKit.Below w.heap.size w w' := by
            intro w hw
            have h := from_any m a (some ⟨b2, o2, none⟩) cap cap2 0 (xs.take i) (some ⟨bx, ox, none⟩) cx w (HM3.out.below hw) ((ints_take HI3.out i).below hw) HOK.out (word_take HW.out i) (Int.le_refl _) H0.out
            rw [etk, runF_take m xs 0 i i (Nat.le_refl _)] at h
            rw [← hsn]
            exact h
          have HF := hid hfr
          rw [han] at c0 hwe HR2
          rw [hsn] at HR3 hs
          simp only [Int.toNat_natCast] at HR2 HR3
          have hsl : tn0 < m.nx.length := by omega
          obtain ⟨b1, o1, rfl, hb1, ra, rc, hc0, r1, r2, hIA⟩ := HM3.out.nx tn0 hsl
          have hrl := HOK.out.len tn0 hsl
          have hel := HOK.out.el tn0 hsl
          have h6 := HOK.out.l6
          have hal : an < (rowOf m tn0).length := by omega
          have hl6 : (rowOf m tn0).length ≤ 6 := by omega
          have HIA := hid hIA
          have HEl := hid hel
          have Hrk := hid (innR_bd HOK.out h20 i)
          have hIb : innR m xs i 0 = 0 := rfl
          have HI0 := hid hIb
          have HC0 := hid c0
          have HHC := hid hc0
          have HHB := hid hb1
          have HBX := hid hbx
          generalize rkN m xs i = rv at *
          have i1 : (0 : Int) ≤ (i : Int) := by omega
          have i2 : (i : Int) < (xs.length : Int) := by omega
          have i3 : (0 : Int) ≤ (tn0 : Int) := by omega
          have i4 : (tn0 : Int) < (m.nx.length : Int) := by omega
          have i5 : (0 : Int) ≤ (an : Int) := by omega
          have i6 : (i : Int) ≤ (cx : Int) := by omega
          have hsw := hb.size
          have q0 := cell_regrown ((hb.cell (p := ⟨W.heap.size, 0, none⟩) yl).trans HY0.out)
          have q1 := cell_regrown ((hb.cell (p := ⟨W.heap.size, 1, none⟩) yl).trans HY1.out)
          have q2 := cell_regrown ((hb.cell (p := ⟨W.heap.size, 2, none⟩) yl).trans HY2.out)
          have Hb := hid hb
          clear hsn han hIA hel hIb hrl hfr etk c0 hc0 hb1 hbx hb
          go_wp2_with fail
          refine wp_region_quiet_below (by kernel_rfl) (by kernel_rfl) ?_
          refine Qt.out ?_
          iterate 4 (refine qt_want (by kernel_rfl) (fun K hK => ?_); go_simp; refine hK _ ?_; clear hK K)
          refine qt_want (by kernel_rfl) (fun K hK => ?_); go_simp
          apply Exists.intro; refine ⟨fun p => ?_, hK _ ?_⟩
          · exact Calls.regrown_of (HF.out _ (Hb.out.trans ((below_regrown wr p.d p.os).mono hsw)))
          clear hK K
          iterate 1 (refine qt_want (by kernel_rfl) (fun K hK => ?_); go_simp; refine hK _ ?_; clear hK K)
          refine qt_nil ?_
          intro _ hw'
          obtain ⟨p, hw''⟩ := hw'
          subst hw''
          have hb4 := Hb.out.trans ((below_regrown wr p.d p.os).mono hsw)
          generalize grow (redrawn wr p.d) p.os = w4 at *
          have hs4 := hb4.size
          have x0 := (hb4.cell (p := ⟨W.heap.size, 0, none⟩) yl).trans HY0.out
          have x1 := (hb4.cell (p := ⟨W.heap.size, 1, none⟩) yl).trans HY1.out
          have xl : W.heap.size < w4.heap.size := by omega
          have c1 := (hb4.cell (p := ⟨bx, ox + i, none⟩) HBX.out).trans HC0.out
          have hc := (hb4.cell (p := ⟨b1, o1 + tn0, none⟩) HHB.out).trans HHC.out
          have HB4 := hid hb4
          clear q0 q1 q2 hb4
          go_wp2_with fail
          go_loopw [8, 11] (fun v8 v11 w' => ∃ t : Nat, t ≤ an ∧ v11 = .int .i64 t ∧ v8 = .int .i64 (rv + innR m xs i t) ∧ ∃ n, w' = w4.drewN n) (fun _ v11 _ => an - (intOf v11).toNat)
          case atStart => exact ⟨0, by omega, rfl, by rw [HI0.out, Int.add_zero], 0, rfl⟩
          case round =>
            obtain ⟨t, ht, rfl, rfl, n, rfl⟩ := hrel
            by_cases htl : t < an
            · obtain ⟨br', or'', rfl, hbr', ct⟩ := (HIA.out.below HB4.out) t (by omega)
              have hte := HEl.out t (by omega)
              have HR4 := hid (HR3.out t)
              obtain ⟨tn, htn⟩ : ∃ tn : Nat, nth (rowOf m tn0) t = (tn : Int) := ⟨(nth (rowOf m tn0) t).toNat, by omega⟩
              rw [htn] at ct hte HR4
              have htN : tn < m.nx.length := by omega
              obtain ⟨gk, t1, hlg, ht2⟩ := (HT.out.below HB4.out).row (xs.length - 1 - i) (by omega)
              have t3 := ht2 tn htN
              have hcb := cnt_bd m HOK.out.l6 (xs.length - 1 - i) (tn : Int)
              have h6' := six_le (show xs.length - 1 - i ≤ 20 by omega)
              have hib := Hrk.out t (by omega)
              unfold cntI at t3
              generalize cnt m (xs.length - 1 - i) (tn : Int) = cv at *
              generalize innR m xs i t = iv at *
              generalize six (xs.length - 1 - i) = sx at *
              obtain ⟨jn, hjn⟩ : ∃ jn, jn = xs.length - 1 - i := ⟨_, rfl⟩
              rw [← hjn] at t1
              have ejw : IntKind.i64.wrap ((xs.length : Int) - (i : Int) - 1) = (jn : Int) := by rw [IntWalk.i64_in _ (by omega)]; omega
              have ej : ((xs.length : Int) - (i : Int) - 1) = (jn : Int) := by omega
              have eiw : IntKind.i64.wrap ((xs.length : Int) - (i : Int)) = (xs.length : Int) - (i : Int) := IntWalk.i64_in _ (by omega)
              have esw : IntKind.i64.wrap (rv + iv + cv) = rv + iv + cv := IntWalk.i64_in _ (by omega)
              have j1 : (jn : Int) < (xs.length : Int) + 1 := by omega
              have j0 : (0 : Int) ≤ (jn : Int) := by omega
              have k1 : (t : Int) < (an : Int) := by omega
              have k2 : (t : Int) < ((rowOf m tn0).length : Int) := by omega
              have k0 : (0 : Int) ≤ (t : Int) := by omega
              have l1 : (tn : Int) < (m.nx.length : Int) := by omega
              have l0 : (0 : Int) ≤ (tn : Int) := by omega
              clear ht2 hjn htn
              go_wp2_with fail
              go_quiet (fail)
              clear ej ejw eiw esw
              go_wp2_with fail
              go_roundw
              case rel => exact ⟨t + 1, by omega, by go_num, by rw [HR4.out, ← Int.add_assoc], _, rfl⟩
              case measure => simp [intOf]; omega
            · obtain rfl : t = an := by omega
              go_wp2_with fail
              go_roundw
              case rel => exact ⟨i + 1, by omega, by go_num, by rw [HR2.out], below_quiet HB4.out⟩
              case measure => simp [intOf]; omega
        · obtain rfl : i = xs.length := by omega
          have hz := HB3.out.trans (hb.mono HB3.out.size)
          clear hb
          generalize rkN m xs xs.length = rv at *
          go_wp2_with fail
          go_ret2
          exact ⟨by rw [R.out.1, R.out.2]; rfl, hz⟩
  · have R := hid (rnk_bad hv)
    have d1 : (wodE m xs == 0) = false := beq_eq_false_iff_ne.2 hv
    have d2 : (wodE m xs != 0) = true := by rw [bne, d1]; rfl
    clear hv
    go_enter Try.func30, Try.ntmps30
    go_wp2_with fail
    refine Hv.out.mono ?_; rintro e w1 ⟨rfl, hb1⟩
    have hz := HB.out.trans (hb1.mono HB.out.size)
    clear hb1
    go_wp2_with fail
    go_ret2
    exact ⟨by rw [R.out.1, R.out.2]; rfl, hz⟩
end Go.Proofs.Ytmllbemjcfkmjaa
/- 'Unrank' and the document's: what they return. -/
namespace Go.Proofs.Ytmllbemjcfkmjaa
open Go.RowKit
set_option linter.unusedSimpArgs false
set_option linter.unusedVariables false

set_option maxRecDepth 100000 in
set_option maxHeartbeats 4000000 in
theorem Unrank_any (m : Mac) (a a2 : Option Addr) (cap cap2 : Nat) (n r0 : Int) (W : World) (hM : MacAt W a cap a2 cap2 m) :
    Calls Try.prog 31 #[.agg #[.int .i64 m.L, .slice a m.nx.length cap, .slice a2 m.ac.length cap2], .int .i64 n, .int .i64 r0] W (IntsE (unkR m n r0) (unkE m n r0) W) := by
  have hb0 := below_alloc W (.cells #[.int .i64 m.L, .slice a m.nx.length cap, .slice a2 m.ac.length cap2] 25)
  have HM := hid (hM.below hb0)
  have Hv := hid (sized_any m a a2 cap cap2 n (W.alloc (.cells #[.int .i64 m.L, .slice a m.nx.length cap, .slice a2 m.ac.length cap2] 25)) HM.out)
  have HB := hid hb0
  clear hM hb0
  obtain ⟨i0, hi0, hz0, hz1, hz2⟩ := info_parts info3
  by_cases hv : sizE m n = 0
  · obtain ⟨hOK, h0, h20⟩ := sizE_zero.1 hv
    have R1 := hid (fun h1 h2 => unk_ok (m := m) (n := n) (r := r0) hv h1 h2)
    have R0 := hid (fun h => unk_no (m := m) (n := n) (r := r0) hv h)
    rw [hv] at Hv
    clear hv
    obtain ⟨nn, rfl⟩ : ∃ k : Nat, n = k := ⟨n.toNat, by omega⟩
    simp only [Int.toNat_natCast] at R1 R0
    have HN := hid hOK.n1
    have h64 := hOK.n64
    have HOK := hid hOK
    clear hOK
    go_enter Try.func31, Try.ntmps31
    go_wp2_with fail
    refine Hv.out.mono ?_; rintro e w1 ⟨rfl, hb1⟩
    have hX := box_at (B := W.heap.size + 1) (by simpa using hb1) rfl
    have x0 := hX.c0
    have x1 := hX.c1
    have x2 := hX.c2
    have xl := hX.lt
    have HM1 := hid (HM.out.below hb1)
    have Ht := hid (counts_any m a a2 cap cap2 nn w1 HM1.out HOK.out (by omega))
    have HB1 := hid (HB.out.trans (hb1.mono HB.out.size))
    clear hX hb1
    go_wp2_with fail
    refine Ht.out.mono ?_; rintro e w2 ⟨v, b, cp, rfl, hT, hb2⟩
    have HB2 := hid (HB1.out.trans (hb2.mono HB1.out.size))
    have HM2 := hid (HM1.out.below hb2)
    have y1 := (hb2.cell (p := ⟨W.heap.size, 1, none⟩) xl).trans x1
    have yl : W.heap.size < w2.heap.size := by have := hb2.size; omega
    have HY1 := hid y1
    obtain ⟨gk, t1, hlg, ht⟩ := hT.row nn (by omega)
    have t2 := ht 0 HN.out
    have hlb := hT.lt
    have e5 := hT.eq
    subst e5
    have HT := hid hT
    have hcb := cnt_bd m HOK.out.l6 nn 0
    unfold cntI at t2
    have hN := HN.out
    have i1 : (0 : Int) ≤ (nn : Int) := by omega
    have i2 : (nn : Int) < (nn : Int) + 1 := by omega
    have HC : Hid (cnt m nn ((0 : Nat) : Int) = cnt m nn 0) := hid rfl
    rw [HC.out] at t2
    clear hb2 ht hT x0 x1 x2 xl y1
    by_cases hr0 : r0 < 0
    · have R := hid (R0.out (.inl hr0))
      have hz := HB2.out
      generalize cnt m nn 0 = cv at *
      go_wp2_with fail
      go_ret2
      refine ⟨none, 0, by rw [R.out.1, R.out.2]; rfl, by rw [R.out.2]; exact fun i hi => absurd hi (Nat.not_lt_zero i), hz, by rw [R.out.2]; exact Nat.le_refl _, Nat.zero_le _⟩
    by_cases hr1 : cnt m nn 0 ≤ r0
    · have R := hid (R0.out (.inr hr1))
      have hz := HB2.out
      generalize cnt m nn 0 = cv at *
      go_wp2_with fail
      go_ret2
      refine ⟨none, 0, by rw [R.out.1, R.out.2]; rfl, by rw [R.out.2]; exact fun i hi => absurd hi (Nat.not_lt_zero i), hz, by rw [R.out.2]; exact Nat.le_refl _, Nat.zero_le _⟩
    have R := hid (R1.out (by omega) (by omega))
    have hrlt : r0 < cnt m nn 0 := by omega
    have hr0' : 0 ≤ r0 := by omega
    generalize hcv : cnt m nn 0 = cv at *
    have Hcv := hid hcv
    clear hcv
    go_wp2_with fail
    go_loopw [2, 10, 11, 12, 13] (fun v2 v10 v11 v12 v13 w' => ∃ (k s : Nat) (r : Int) (pre : List Int), k ≤ nn ∧ v12 = .int .i64 ((k : Int) - 1) ∧ v2 = .int .i64 r ∧ v11 = .int .i64 s ∧ w'.ownsRow w2.heap.size 3 1 v10 pre.length (pre.map (Value.int .i64)) ∧ Hid (pre.length = nn - k) ∧ Hid (unr m nn 0 r0 = pre ++ unr m k s r) ∧ 0 ≤ r ∧ Hid (r < cnt m k s) ∧ s < m.nx.length ∧ Below w2.heap.size w2 w') (fun _ _ _ v12 _ _ => (intOf v12 + 1).toNat)
    case atStart => exact ⟨nn, 0, r0, [], Nat.le_refl _, by first | rfl | go_num, rfl, rfl, World.ownsRow_nil _ _ _ _, hid (by simp), hid rfl, by omega, hid (by show r0 < cnt m nn 0; rw [Hcv.out]; exact hrlt), by omega, Below.refl _ _⟩
    case round =>
      obtain ⟨k, s, r, pre, hk, rfl, rfl, rfl, hown, HPL, HU, hr, HRL, hs, hb⟩ := hrel
      cases k with
      | zero =>
        obtain ⟨ap, cpp, rfl, hIp, hl1, hl2⟩ := own_ints hown
        have Hpre : Hid (unkR m nn r0 = pre) := hid (by rw [R.out.2, HU.out]; simp [unr])
        have hz := HB2.out.trans (hb.mono HB2.out.size)
        clear hown hb
        go_wp2_with fail
        go_ret2
        exact ⟨ap, cpp, by rw [R.out.1, Hpre.out]; rfl, by rw [Hpre.out]; exact hIp, hz, by rw [Hpre.out]; exact hl1, hl2⟩
      | succ k =>
        have e12 : (((k + 1 : Nat) : Int) - 1) = (k : Int) := by omega
        rw [e12]
        have hsw := hb.size
        have x1 := (hb.cell (p := ⟨W.heap.size, 1, none⟩) yl).trans HY1.out
        have xl : W.heap.size < wr.heap.size := by omega
        have hlbr : b < wr.heap.size := by omega
        obtain ⟨b1, o1, rfl, hb1, ra, rc, hc0, q1, q2, hIA⟩ := HM2.out.nx s hs
        have hc := (hb.cell (p := ⟨b1, o1 + s, none⟩) hb1).trans hc0
        have Hc0 := hid hc0
        have hb1r : b1 < wr.heap.size := by omega
        have hel := HOK.out.el s hs
        have hrl := HOK.out.len s hs
        have h6 := HOK.out.l6
        have h1L := HOK.out.l1
        have hl6 : (rowOf m s).length ≤ 6 := by omega
        have HTr := hid (HT.out.below hb)
        obtain ⟨gk', t1', hlg', ht'⟩ := HTr.out.row k (by omega)
        have Hht := hid ht'
        have HEl := hid hel
        have HIA := hid hIA
        have HLn : Hid ((rowOf m s).length = m.L.toNat) := hid (by omega)
        have hcb' := fun t => cnt_bd m h6 k t
        have HCB := hid hcb'
        have hS := six_le (show k ≤ 20 by omega)
        have HRL2 : Hid (r < sumS m k s m.L.toNat) := hid HRL.out
        have HS0 : Hid (sumS m k s 0 = 0) := hid rfl
        have HL1 : Hid (0 < m.L.toNat) := hid (by omega)
        have Hown := hid hown
        have Hb := hid hb
        have hrb : r ≤ 21936950640377856 := by
          have := cnt_bd m h6 (k + 1) (s : Int)
          have h7 := HRL.out
          have h8 : six (k + 1) = 6 * six k := rfl
          omega
        have i3 : (0 : Int) ≤ (s : Int) := by omega
        have i4 : (s : Int) < (m.nx.length : Int) := by omega
        have i5 : (0 : Int) ≤ (k : Int) := by omega
        have i6 : (k : Int) < (nn : Int) + 1 := by omega
        clear hel hIA hrl hcb' hown hb ht' h1L h6 t1 t2 e12 hc0
        have hlb' := hlbr
        obtain ⟨Y, hY⟩ : ∃ Y, Y = wr := ⟨_, rfl⟩
        subst hY
        go_wp2_with fail
        go_loopw [2, 13] (fun v2 v13 w' => ∃ (c : Nat) (r' : Int), Hid (c < m.L.toNat) ∧ v13 = .int .i64 c ∧ v2 = .int .i64 r' ∧ Hid (r' + sumS m k s c = r) ∧ 0 ≤ r' ∧ r' ≤ 21936950640377856 ∧ ∃ nd, w' = Y.drewN nd) (fun _ v13 _ => m.L.toNat - (intOf v13).toNat)
        case atStart => exact ⟨0, r, HL1, rfl, rfl, hid (by rw [HS0.out]; omega), hr, hrb, 0, rfl⟩
        case round =>
          obtain ⟨c, r', HcL, rfl, rfl, HRS, hr', hrb', nd, rfl⟩ := hrel
          have hcl : c < (rowOf m s).length := by rw [HLn.out]; exact HcL.out
          obtain ⟨br, or', rfl, hbr, ct0⟩ := HIA.out c hcl
          have ct := (Hb.out.cell (p := ⟨br, or' + c, none⟩) hbr).trans ct0
          have hbrY : br < Y.heap.size := by omega
          have hte := HEl.out c hcl
          obtain ⟨tn, htn⟩ : ∃ tn : Nat, nth (rowOf m s) c = (tn : Int) := ⟨(nth (rowOf m s) c).toNat, by omega⟩
          have HST : Hid (stepM m (s : Int) c = (tn : Int)) := hid (by show nth (rowOf m ((s : Int)).toNat) c = _; simpa using htn)
          rw [htn] at ct ct0 hte
          have Hct0 := hid ct0
          have htN : tn < m.nx.length := by omega
          have t3 := Hht.out tn htN
          have hcb := HCB.out (tn : Int)
          have HSS := hid (sumS_succ m k (s : Int) c)
          unfold cntI at t3
          have Hct := hid (show cnt m k (stepM m (s : Int) c) = cnt m k (tn : Int) by rw [HST.out])
          generalize hcv2 : cnt m k (tn : Int) = cv2 at *
          have HCV2 := hid hcv2
          clear hcv2 htn ct0
          have k0 : (0 : Int) ≤ (c : Int) := by omega
          have k1 : (c : Int) < ((rowOf m s).length : Int) := by omega
          have l1 : (tn : Int) < (m.nx.length : Int) := by omega
          have l0 : (0 : Int) ≤ (tn : Int) := by omega
          generalize six k = sx at *
          by_cases hge : cv2 ≤ r'
          · have HcL2 : Hid (c + 1 < m.L.toNat) := hid (by
              have h1 := HcL.out
              have h2 := HRS.out
              have h3 := HRL2.out
              have h4 := HSS.out
              rw [Hct.out] at h4
              by_cases e : c + 1 = m.L.toNat
              · rw [← e] at h3; omega
              · omega)
            have HRS2 : Hid ((r' - cv2) + sumS m k s (c + 1) = r) := hid (by
              have h2 := HRS.out
              have h4 := HSS.out
              rw [Hct.out] at h4
              omega)
            have wk : IntKind.i64.wrap (k : Int) = (k : Int) := IntWalk.i64_in _ (by omega)
            have wr' : IntKind.i64.wrap (r' - cv2) = r' - cv2 := IntWalk.i64_in _ (by omega)
            go_wp2_with fail
            go_quiet (fail)
            go_wp2_with fail
            go_quiet (fail)
            clear wk wr'
            go_wp2_with fail
            go_roundw
            case rel => exact ⟨c + 1, r' - cv2, HcL2, by go_num, rfl, HRS2, by omega, by omega, _, rfl⟩
            case measure => have := HcL.out; simp [intOf]; omega
          · have hgt : r' < cv2 := by omega
            have HUN : Hid (unr m (k + 1) s r = (c : Int) :: unr m k (tn : Int) r') := hid (by
              have h2 := HRS.out
              have h4 := HSS.out
              rw [Hct.out] at h4
              have := unr_step (m := m) HOK.out.l6 (k := k) (s := (s : Int)) (r := r) (a := c) (by omega) (by omega)
              rw [this, HST.out]
              congr 2
              omega)
            have HU2 : Hid (unr m nn 0 r0 = (pre ++ [(c : Int)]) ++ unr m k (tn : Int) r') := hid (by rw [HU.out, HUN.out]; simp)
            have HRL3 : Hid (r' < cnt m k (tn : Int)) := hid (by rw [HCV2.out]; exact hgt)
            have HPL2 : Hid ((pre ++ [(c : Int)]).length = nn - k) := hid (by have := HPL.out; simp; omega)
            have hpl : pre.length ≤ 20 := by have := HPL.out; omega
            have Hmap : Hid (pre.map (Value.int .i64) ++ [.int .i64 (c : Int)] = (pre ++ [(c : Int)]).map (Value.int .i64)) := hid (by simp)
            have Hlen : Hid (pre.length + 1 = (pre ++ [(c : Int)]).length) := hid (by simp)
            have wk : IntKind.i64.wrap (k : Int) = (k : Int) := IntWalk.i64_in _ (by omega)
            go_wp2_with fail
            go_quiet (fail)
            clear wk
            have hbZ : ∀ q, Below Y.heap.size Y ((Y.drewN nd).drewN q) := fun q => below_quiet (below_quiet (Below.refl _ _))
            generalize hZ : (Y.drewN nd).drewN _ = Z
            have hYZ : Below Y.heap.size Y Z := by rw [← hZ]; exact hbZ _
            clear hZ hbZ
            have hszZ := hYZ.size
            have z1 := (hYZ.cell (p := ⟨W.heap.size, 1, none⟩) xl).trans x1
            have zl : W.heap.size < Z.heap.size := by omega
            have zc := (hYZ.cell (p := ⟨b1, o1 + s, none⟩) hb1r).trans hc
            have zt := (hYZ.cell (p := ⟨br, or' + c, none⟩) hbrY).trans ct
            have Hz1 := hid z1
            have Hzc := hid zc
            have Hzt := hid zt
            have HownZ := hid (own_below Hown.out hYZ)
            have HbZ := hid (Hb.out.trans (hYZ.mono hsw))
            clear z1 zc zt hYZ
            go_wp2_with (at_builtin; go_loud (refine wpList_append_own _ rfl _ _ 33 rfl w2.heap.size 3 i0 (.int .i64 0) 1 8 Try.underlying33 hi0 hz0 hz1 hz2 rfl (by decide) _ _ _ rfl (HownZ.out.alloc _) ⟨Z.heap.size, 0, none⟩ 1 1 [.int .i64 (c : Int)] rfl rfl (news_1 Z (.int .i64 (c : Int)) 3).out (by simp [Value.oneCell']) (by unfold maxLen; omega) (by omega) (by simp; omega) ?_); intro v' w6 hown6 hgrow6 _; rw [Hmap.out, Hlen.out] at hown6; have hb6 := (HbZ.out.alloc HbZ.out.size (.cells #[.int .i64 (c : Int)] 3)).grown hgrow6 (by have := HbZ.out.size; simp at this ⊢; omega) (fun t ht => (HownZ.out.lt _ ht).1); have u1 := (hb6.cell (p := ⟨W.heap.size, 1, none⟩) yl).trans HY1.out; have uc := (hb6.cell (p := ⟨b1, o1 + s, none⟩) hb1).trans Hc0.out; have ut := (hb6.cell (p := ⟨br, or' + c, none⟩) hbr).trans Hct0.out; have hs6 := hb6.size; have ul : W.heap.size < w6.heap.size := by omega)
            clear HownZ HbZ hgrow6 u1 uc ut
            go_wp2_with fail
            go_roundw
            case rel => exact ⟨k, tn, r', pre ++ [(c : Int)], by omega, by first | rfl | go_num, rfl, rfl, hown6, HPL2, HU2, hr', HRL3, htN, hb6⟩
            case measure => first | (simp [intOf]; done) | (simp [intOf]; omega)
  · have R := hid (unk_bad (m := m) (n := n) (r := r0) hv)
    have d1 : (sizE m n == 0) = false := beq_eq_false_iff_ne.2 hv
    have d2 : (sizE m n != 0) = true := by rw [bne, d1]; rfl
    clear hv
    go_enter Try.func31, Try.ntmps31
    go_wp2_with fail
    refine Hv.out.mono ?_; rintro e w1 ⟨rfl, hb1⟩
    have hz := HB.out.trans (hb1.mono HB.out.size)
    clear hb1
    go_wp2_with fail
    go_ret2
    exact ⟨none, 0, by rw [R.out.1, R.out.2]; rfl, by rw [R.out.2]; exact fun i hi => absurd hi (Nat.not_lt_zero i), hz, by rw [R.out.2]; exact Nat.le_refl _, Nat.zero_le _⟩

set_option maxRecDepth 100000 in
set_option maxHeartbeats 4000000 in
theorem rUnrank_any (m : Mac) (a a2 : Option Addr) (cap cap2 : Nat) (n r0 : Int) (W : World) (hM : MacAt W a cap a2 cap2 m) :
    Calls Try.prog 33 #[.agg #[.int .i64 m.L, .slice a m.nx.length cap, .slice a2 m.ac.length cap2], .int .i64 n, .int .i64 r0] W (IntsE (unkR m n r0) (unkE m n r0) W) := by
  have hb0 := below_alloc W (.cells #[.int .i64 m.L, .slice a m.nx.length cap, .slice a2 m.ac.length cap2] 25)
  have HM := hid (hM.below hb0)
  have Hv := hid (rsized_any m a a2 cap cap2 n (W.alloc (.cells #[.int .i64 m.L, .slice a m.nx.length cap, .slice a2 m.ac.length cap2] 25)) HM.out)
  have HB := hid hb0
  clear hM hb0
  obtain ⟨i0, hi0, hz0, hz1, hz2⟩ := info_parts info3
  by_cases hv : sizE m n = 0
  · obtain ⟨hOK, h0, h20⟩ := sizE_zero.1 hv
    have R1 := hid (fun h1 h2 => unk_ok (m := m) (n := n) (r := r0) hv h1 h2)
    have R0 := hid (fun h => unk_no (m := m) (n := n) (r := r0) hv h)
    rw [hv] at Hv
    clear hv
    obtain ⟨nn, rfl⟩ : ∃ k : Nat, n = k := ⟨n.toNat, by omega⟩
    simp only [Int.toNat_natCast] at R1 R0
    have HN := hid hOK.n1
    have h64 := hOK.n64
    have HOK := hid hOK
    clear hOK
    go_enter Try.func33, Try.ntmps33
    go_wp2_with fail
    refine Hv.out.mono ?_; rintro e w1 ⟨rfl, hb1⟩
    have hX := box_at (B := W.heap.size + 1) (by simpa using hb1) rfl
    have x0 := hX.c0
    have x1 := hX.c1
    have x2 := hX.c2
    have xl := hX.lt
    have HM1 := hid (HM.out.below hb1)
    have Ht := hid (table_any m a a2 cap cap2 nn w1 HM1.out HOK.out (by omega))
    have HB1 := hid (HB.out.trans (hb1.mono HB.out.size))
    clear hX hb1
    go_wp2_with fail
    refine Ht.out.mono ?_; rintro e w2 ⟨v, b, cp, rfl, hT, hb2⟩
    have HB2 := hid (HB1.out.trans (hb2.mono HB1.out.size))
    have HM2 := hid (HM1.out.below hb2)
    have y1 := (hb2.cell (p := ⟨W.heap.size, 1, none⟩) xl).trans x1
    have yl : W.heap.size < w2.heap.size := by have := hb2.size; omega
    have HY1 := hid y1
    obtain ⟨gk, t1, hlg, ht⟩ := hT.row nn (by omega)
    have t2 := ht 0 HN.out
    have hlb := hT.lt
    have e5 := hT.eq
    subst e5
    have HT := hid hT
    have hcb := cnt_bd m HOK.out.l6 nn 0
    unfold cntI at t2
    have hN := HN.out
    have i1 : (0 : Int) ≤ (nn : Int) := by omega
    have i2 : (nn : Int) < (nn : Int) + 1 := by omega
    have HC : Hid (cnt m nn ((0 : Nat) : Int) = cnt m nn 0) := hid rfl
    rw [HC.out] at t2
    clear hb2 ht hT x0 x1 x2 xl y1
    by_cases hr0 : r0 < 0
    · have R := hid (R0.out (.inl hr0))
      have hz := HB2.out
      generalize cnt m nn 0 = cv at *
      go_wp2_with fail
      go_ret2
      refine ⟨none, 0, by rw [R.out.1, R.out.2]; rfl, by rw [R.out.2]; exact fun i hi => absurd hi (Nat.not_lt_zero i), hz, by rw [R.out.2]; exact Nat.le_refl _, Nat.zero_le _⟩
    by_cases hr1 : cnt m nn 0 ≤ r0
    · have R := hid (R0.out (.inr hr1))
      have hz := HB2.out
      generalize cnt m nn 0 = cv at *
      go_wp2_with fail
      go_ret2
      refine ⟨none, 0, by rw [R.out.1, R.out.2]; rfl, by rw [R.out.2]; exact fun i hi => absurd hi (Nat.not_lt_zero i), hz, by rw [R.out.2]; exact Nat.le_refl _, Nat.zero_le _⟩
    have R := hid (R1.out (by omega) (by omega))
    have hrlt : r0 < cnt m nn 0 := by omega
    have hr0' : 0 ≤ r0 := by omega
    generalize hcv : cnt m nn 0 = cv at *
    have Hcv := hid hcv
    clear hcv
    go_wp2_with fail
    go_loopw [2, 10, 11, 12, 13] (fun v2 v10 v11 v12 v13 w' => ∃ (k s : Nat) (r : Int) (pre : List Int), k ≤ nn ∧ v12 = .int .i64 k ∧ v2 = .int .i64 r ∧ v11 = .int .i64 s ∧ w'.ownsRow w2.heap.size 3 1 v10 pre.length (pre.map (Value.int .i64)) ∧ Hid (pre.length = nn - k) ∧ Hid (unr m nn 0 r0 = pre ++ unr m k s r) ∧ 0 ≤ r ∧ Hid (r < cnt m k s) ∧ s < m.nx.length ∧ Below w2.heap.size w2 w') (fun _ _ _ v12 _ _ => (intOf v12).toNat)
    case atStart => exact ⟨nn, 0, r0, [], Nat.le_refl _, rfl, rfl, rfl, World.ownsRow_nil _ _ _ _, hid (by simp), hid rfl, by omega, hid (by show r0 < cnt m nn 0; rw [Hcv.out]; exact hrlt), by omega, Below.refl _ _⟩
    case round =>
      obtain ⟨k, s, r, pre, hk, rfl, rfl, rfl, hown, HPL, HU, hr, HRL, hs, hb⟩ := hrel
      cases k with
      | zero =>
        obtain ⟨ap, cpp, rfl, hIp, hl1, hl2⟩ := own_ints hown
        have Hpre : Hid (unkR m nn r0 = pre) := hid (by rw [R.out.2, HU.out]; simp [unr])
        have hz := HB2.out.trans (hb.mono HB2.out.size)
        clear hown hb
        go_wp2_with fail
        go_ret2
        exact ⟨ap, cpp, by rw [R.out.1, Hpre.out]; rfl, by rw [Hpre.out]; exact hIp, hz, by rw [Hpre.out]; exact hl1, hl2⟩
      | succ k =>
        have e12 : (((k + 1 : Nat) : Int)) = (k : Int) + 1 := by omega
        rw [e12]
        have hsw := hb.size
        have x1 := (hb.cell (p := ⟨W.heap.size, 1, none⟩) yl).trans HY1.out
        have xl : W.heap.size < wr.heap.size := by omega
        have hlbr : b < wr.heap.size := by omega
        obtain ⟨b1, o1, rfl, hb1, ra, rc, hc0, q1, q2, hIA⟩ := HM2.out.nx s hs
        have hc := (hb.cell (p := ⟨b1, o1 + s, none⟩) hb1).trans hc0
        have Hc0 := hid hc0
        have hb1r : b1 < wr.heap.size := by omega
        have hel := HOK.out.el s hs
        have hrl := HOK.out.len s hs
        have h6 := HOK.out.l6
        have h1L := HOK.out.l1
        have hl6 : (rowOf m s).length ≤ 6 := by omega
        have HTr := hid (HT.out.below hb)
        obtain ⟨gk', t1', hlg', ht'⟩ := HTr.out.row k (by omega)
        have Hht := hid ht'
        have HEl := hid hel
        have HIA := hid hIA
        have HLn : Hid ((rowOf m s).length = m.L.toNat) := hid (by omega)
        have hcb' := fun t => cnt_bd m h6 k t
        have HCB := hid hcb'
        have hS := six_le (show k ≤ 20 by omega)
        have HRL2 : Hid (r < sumS m k s m.L.toNat) := hid HRL.out
        have HS0 : Hid (sumS m k s 0 = 0) := hid rfl
        have HL1 : Hid (0 < m.L.toNat) := hid (by omega)
        have Hown := hid hown
        have Hb := hid hb
        have hrb : r ≤ 21936950640377856 := by
          have := cnt_bd m h6 (k + 1) (s : Int)
          have h7 := HRL.out
          have h8 : six (k + 1) = 6 * six k := rfl
          omega
        have i3 : (0 : Int) ≤ (s : Int) := by omega
        have i4 : (s : Int) < (m.nx.length : Int) := by omega
        have i5 : (0 : Int) ≤ (k : Int) := by omega
        have i6 : (k : Int) < (nn : Int) + 1 := by omega
        clear hel hIA hrl hcb' hown hb ht' h1L h6 t1 t2 e12 hc0
        have hlb' := hlbr
        obtain ⟨Y, hY⟩ : ∃ Y, Y = wr := ⟨_, rfl⟩
        subst hY
        go_wp2_with fail
        go_loopw [2, 13] (fun v2 v13 w' => ∃ (c : Nat) (r' : Int), Hid (c < m.L.toNat) ∧ v13 = .int .i64 c ∧ v2 = .int .i64 r' ∧ Hid (r' + sumS m k s c = r) ∧ 0 ≤ r' ∧ r' ≤ 21936950640377856 ∧ ∃ nd, w' = Y.drewN nd) (fun _ v13 _ => m.L.toNat - (intOf v13).toNat)
        case atStart => exact ⟨0, r, HL1, rfl, rfl, hid (by rw [HS0.out]; omega), hr, hrb, 0, rfl⟩
        case round =>
          obtain ⟨c, r', HcL, rfl, rfl, HRS, hr', hrb', nd, rfl⟩ := hrel
          have hcl : c < (rowOf m s).length := by rw [HLn.out]; exact HcL.out
          obtain ⟨br, or', rfl, hbr, ct0⟩ := HIA.out c hcl
          have ct := (Hb.out.cell (p := ⟨br, or' + c, none⟩) hbr).trans ct0
          have hbrY : br < Y.heap.size := by omega
          have hte := HEl.out c hcl
          obtain ⟨tn, htn⟩ : ∃ tn : Nat, nth (rowOf m s) c = (tn : Int) := ⟨(nth (rowOf m s) c).toNat, by omega⟩
          have HST : Hid (stepM m (s : Int) c = (tn : Int)) := hid (by show nth (rowOf m ((s : Int)).toNat) c = _; simpa using htn)
          rw [htn] at ct ct0 hte
          have Hct0 := hid ct0
          have htN : tn < m.nx.length := by omega
          have t3 := Hht.out tn htN
          have hcb := HCB.out (tn : Int)
          have HSS := hid (sumS_succ m k (s : Int) c)
          unfold cntI at t3
          have Hct := hid (show cnt m k (stepM m (s : Int) c) = cnt m k (tn : Int) by rw [HST.out])
          generalize hcv2 : cnt m k (tn : Int) = cv2 at *
          have HCV2 := hid hcv2
          clear hcv2 htn ct0
          have k0 : (0 : Int) ≤ (c : Int) := by omega
          have k1 : (c : Int) < ((rowOf m s).length : Int) := by omega
          have l1 : (tn : Int) < (m.nx.length : Int) := by omega
          have l0 : (0 : Int) ≤ (tn : Int) := by omega
          generalize six k = sx at *
          by_cases hge : cv2 ≤ r'
          · have HcL2 : Hid (c + 1 < m.L.toNat) := hid (by
              have h1 := HcL.out
              have h2 := HRS.out
              have h3 := HRL2.out
              have h4 := HSS.out
              rw [Hct.out] at h4
              by_cases e : c + 1 = m.L.toNat
              · rw [← e] at h3; omega
              · omega)
            have HRS2 : Hid ((r' - cv2) + sumS m k s (c + 1) = r) := hid (by
              have h2 := HRS.out
              have h4 := HSS.out
              rw [Hct.out] at h4
              omega)
            have wk : IntKind.i64.wrap (k : Int) = (k : Int) := IntWalk.i64_in _ (by omega)
            have wr' : IntKind.i64.wrap (r' - cv2) = r' - cv2 := IntWalk.i64_in _ (by omega)
            go_wp2_with fail
            go_quiet (fail)
            go_wp2_with fail
            go_quiet (fail)
            clear wk wr'
            go_wp2_with fail
            go_roundw
            case rel => exact ⟨c + 1, r' - cv2, HcL2, by go_num, rfl, HRS2, by omega, by omega, _, rfl⟩
            case measure => have := HcL.out; simp [intOf]; omega
          · have hgt : r' < cv2 := by omega
            have HUN : Hid (unr m (k + 1) s r = (c : Int) :: unr m k (tn : Int) r') := hid (by
              have h2 := HRS.out
              have h4 := HSS.out
              rw [Hct.out] at h4
              have := unr_step (m := m) HOK.out.l6 (k := k) (s := (s : Int)) (r := r) (a := c) (by omega) (by omega)
              rw [this, HST.out]
              congr 2
              omega)
            have HU2 : Hid (unr m nn 0 r0 = (pre ++ [(c : Int)]) ++ unr m k (tn : Int) r') := hid (by rw [HU.out, HUN.out]; simp)
            have HRL3 : Hid (r' < cnt m k (tn : Int)) := hid (by rw [HCV2.out]; exact hgt)
            have HPL2 : Hid ((pre ++ [(c : Int)]).length = nn - k) := hid (by have := HPL.out; simp; omega)
            have hpl : pre.length ≤ 20 := by have := HPL.out; omega
            have Hmap : Hid (pre.map (Value.int .i64) ++ [.int .i64 (c : Int)] = (pre ++ [(c : Int)]).map (Value.int .i64)) := hid (by simp)
            have Hlen : Hid (pre.length + 1 = (pre ++ [(c : Int)]).length) := hid (by simp)
            have wk : IntKind.i64.wrap (k : Int) = (k : Int) := IntWalk.i64_in _ (by omega)
            go_wp2_with fail
            go_quiet (fail)
            clear wk
            have hbZ : ∀ q, Below Y.heap.size Y ((Y.drewN nd).drewN q) := fun q => below_quiet (below_quiet (Below.refl _ _))
            generalize hZ : (Y.drewN nd).drewN _ = Z
            have hYZ : Below Y.heap.size Y Z := by rw [← hZ]; exact hbZ _
            clear hZ hbZ
            have hszZ := hYZ.size
            have z1 := (hYZ.cell (p := ⟨W.heap.size, 1, none⟩) xl).trans x1
            have zl : W.heap.size < Z.heap.size := by omega
            have zc := (hYZ.cell (p := ⟨b1, o1 + s, none⟩) hb1r).trans hc
            have zt := (hYZ.cell (p := ⟨br, or' + c, none⟩) hbrY).trans ct
            have Hz1 := hid z1
            have Hzc := hid zc
            have Hzt := hid zt
            have HownZ := hid (own_below Hown.out hYZ)
            have HbZ := hid (Hb.out.trans (hYZ.mono hsw))
            clear z1 zc zt hYZ
            go_wp2_with (at_builtin; go_loud (refine wpList_append_own _ rfl _ _ 33 rfl w2.heap.size 3 i0 (.int .i64 0) 1 8 Try.underlying33 hi0 hz0 hz1 hz2 rfl (by decide) _ _ _ rfl (HownZ.out.alloc _) ⟨Z.heap.size, 0, none⟩ 1 1 [.int .i64 (c : Int)] rfl rfl (news_1 Z (.int .i64 (c : Int)) 3).out (by simp [Value.oneCell']) (by unfold maxLen; omega) (by omega) (by simp; omega) ?_); intro v' w6 hown6 hgrow6 _; rw [Hmap.out, Hlen.out] at hown6; have hb6 := (HbZ.out.alloc HbZ.out.size (.cells #[.int .i64 (c : Int)] 3)).grown hgrow6 (by have := HbZ.out.size; simp at this ⊢; omega) (fun t ht => (HownZ.out.lt _ ht).1); have u1 := (hb6.cell (p := ⟨W.heap.size, 1, none⟩) yl).trans HY1.out; have uc := (hb6.cell (p := ⟨b1, o1 + s, none⟩) hb1).trans Hc0.out; have ut := (hb6.cell (p := ⟨br, or' + c, none⟩) hbr).trans Hct0.out; have hs6 := hb6.size; have ul : W.heap.size < w6.heap.size := by omega)
            clear HownZ HbZ hgrow6 u1 uc ut
            go_wp2_with fail
            go_roundw
            case rel => exact ⟨k, tn, r', pre ++ [(c : Int)], by omega, by first | rfl | go_num, rfl, rfl, hown6, HPL2, HU2, hr', HRL3, htN, hb6⟩
            case measure => first | (simp [intOf]; done) | (simp [intOf]; omega)
  · have R := hid (unk_bad (m := m) (n := n) (r := r0) hv)
    have d1 : (sizE m n == 0) = false := beq_eq_false_iff_ne.2 hv
    have d2 : (sizE m n != 0) = true := by rw [bne, d1]; rfl
    clear hv
    go_enter Try.func33, Try.ntmps33
    go_wp2_with fail
    refine Hv.out.mono ?_; rintro e w1 ⟨rfl, hb1⟩
    have hz := HB.out.trans (hb1.mono HB.out.size)
    clear hb1
    go_wp2_with fail
    go_ret2
    exact ⟨none, 0, by rw [R.out.1, R.out.2]; rfl, by rw [R.out.2]; exact fun i hi => absurd hi (Nat.not_lt_zero i), hz, by rw [R.out.2]; exact Nat.le_refl _, Nat.zero_le _⟩
end Go.Proofs.Ytmllbemjcfkmjaa
/- Which words can be served again and again; plainly. -/
namespace Go.Proofs.Ytmllbemjcfkmjaa
open Go.RowKit
set_option linter.unusedSimpArgs false
set_option linter.unusedVariables false

/-- The state behind k times the word. -/
def rdS (m : Mac) (xs : List Int) : Nat → Int
  | 0 => 0
  | k + 1 => runF m xs (rdS m xs k) xs.length
theorem rdS_in {m : Mac} {xs : List Int} (h : MacOK m) (hw : WordOK m.L xs) (k : Nat) : 0 ≤ rdS m xs k ∧ rdS m xs k < m.nx.length := by
  induction k with
  | zero => exact ⟨Int.le_refl _, by have := h.n1; show (0 : Int) < _; omega⟩
  | succ k ih => exact runF_in h hw ih.1 ih.2 _ (Nat.le_refl _)
theorem rdS_again {m : Mac} {xs : List Int} {i j : Nat} (h : rdS m xs i = rdS m xs j) (t : Nat) : rdS m xs (i + t) = rdS m xs (j + t) := by
  induction t with
  | zero => exact h
  | succ t ih =>
    show runF m xs (rdS m xs (i + t)) xs.length = runF m xs (rdS m xs (j + t)) xs.length
    rw [ih]
theorem rdS_twice {m : Mac} {xs : List Int} (h : MacOK m) (hw : WordOK m.L xs) : ∃ i j, i < j ∧ j ≤ m.nx.length ∧ rdS m xs i = rdS m xs j := by
  by_cases hn : ((List.range (m.nx.length + 1)).map fun i => (rdS m xs i).toNat).Nodup
  · have := pigeon_nat m.nx.length _ hn fun x hx => by
      obtain ⟨i, _, rfl⟩ := List.mem_map.1 hx
      have := rdS_in h hw i
      omega
    simp at this
    omega
  · unfold List.Nodup at hn
    rw [List.pairwise_iff_getElem] at hn
    simp only [Classical.not_forall] at hn
    obtain ⟨i, j, hi, hj, hij, he⟩ := hn
    simp at hi hj he
    have h1 := rdS_in h hw i
    have h2 := rdS_in h hw j
    exact ⟨i, j, hij, by omega, by omega⟩
theorem rdS_all {m : Mac} {xs : List Int} (h : MacOK m) (hw : WordOK m.L xs) (ha : ∀ k, k < m.nx.length → accM m (rdS m xs (k + 1)) = true) : ∀ k, accM m (rdS m xs (k + 1)) = true := by
  obtain ⟨i, j, hij, hj, he⟩ := rdS_twice h hw
  have key : ∀ n k, k ≤ n → accM m (rdS m xs (k + 1)) = true := by
    intro n
    induction n with
    | zero =>
      intro k hk
      exact ha k (by have := h.n1; omega)
    | succ n ih =>
      intro k hk
      by_cases hkn : k < m.nx.length
      · exact ha k hkn
      · have e : rdS m xs (k + 1) = rdS m xs (i + (k + 1 - j)) := by
          rw [rdS_again he]
          congr 1
          omega
        rw [e, show i + (k + 1 - j) = (i + (k - j)) + 1 by omega]
        exact ih _ (by omega)
  exact fun k => key k k (Nat.le_refl _)
open Classical in
noncomputable def rndB (m : Mac) (xs : List Int) : Bool := if wodE m xs = 0 ∧ ∀ k, accM m (rdS m xs (k + 1)) = true then true else false
theorem rnd_yes {m : Mac} {xs : List Int} (h : wodE m xs = 0) (ha : ∀ k, k < m.nx.length → accM m (rdS m xs (k + 1)) = true) : rndB m xs = true := by
  obtain ⟨h1, h2⟩ := wodE_zero.1 h
  unfold rndB
  rw [if_pos ⟨h, rdS_all h1 h2 ha⟩]
theorem rnd_no {m : Mac} {xs : List Int} (k : Nat) (ha : accM m (rdS m xs (k + 1)) = false) : rndB m xs = false := by
  unfold rndB
  rw [if_neg fun h => by have := h.2 k; rw [ha] at this; cases this]
theorem rnd_bad {m : Mac} {xs : List Int} (h : wodE m xs ≠ 0) : rndB m xs = false := by
  unfold rndB
  rw [if_neg fun h2 => h h2.1]
theorem rnd_of {m : Mac} {xs : List Int} (h : rndB m xs = true) : ∀ k, accM m (rdS m xs (k + 1)) = true := by
  unfold rndB at h
  split at h
  · next h2 => exact h2.2
  · cases h
end Go.Proofs.Ytmllbemjcfkmjaa
/- 'Round' and the document's: what they return. -/
namespace Go.Proofs.Ytmllbemjcfkmjaa
open Go.RowKit
set_option linter.unusedSimpArgs false
set_option linter.unusedVariables false

set_option maxRecDepth 100000 in
set_option maxHeartbeats 2000000 in
theorem Round_any (m : Mac) (a a2 : Option Addr) (cap cap2 : Nat) (xs : List Int) (ax : Option Addr) (cx : Nat) (W : World) (hM : MacAt W a cap a2 cap2 m) (hI : IntsAt W ax xs) (hl : xs.length ≤ maxLen) :
    Calls Try.prog 34 #[.agg #[.int .i64 m.L, .slice a m.nx.length cap, .slice a2 m.ac.length cap2], .slice ax xs.length cx] W fun e w' => e = .returned (.tuple #[.bool (rndB m xs), .int .i64 (wodE m xs)]) ∧ Below W.heap.size W w' := by
  have hb0 := below_alloc W (.cells #[.int .i64 m.L, .slice a m.nx.length cap, .slice a2 m.ac.length cap2] 25)
  have HM := hid (hM.below hb0)
  have HI := hid (hI.below hb0)
  have Hv := hid (worded_any m a a2 cap cap2 xs ax cx (W.alloc (.cells #[.int .i64 m.L, .slice a m.nx.length cap, .slice a2 m.ac.length cap2] 25)) HM.out HI.out hl)
  have HB := hid hb0
  clear hM hb0 hI hl
  by_cases hv : wodE m xs = 0
  · have RY := hid (fun h => rnd_yes (m := m) (xs := xs) hv h)
    obtain ⟨hOK, hW⟩ := wodE_zero.1 hv
    have RE := hid hv
    rw [hv] at Hv
    have HOK := hid hOK
    have HW := hid hW
    have h64 := hOK.n64
    have Hac := hid hOK.ac
    clear hOK hW hv
    go_enter Try.func34, Try.ntmps34
    go_wp2_with fail
    refine Hv.out.mono ?_; rintro e w1 ⟨rfl, hb1⟩
    have hX := box_at (B := W.heap.size + 1) (by simpa using hb1) rfl
    have x0 := hX.c0
    have x1 := hX.c1
    have x2 := hX.c2
    have xl := hX.lt
    have HM1 := hid (HM.out.below hb1)
    have HI1 := hid (HI.out.below hb1)
    have HB1 := hid (HB.out.trans (hb1.mono HB.out.size))
    clear hX hb1
    have Ho := hid (of_any m a a2 cap cap2 w1)
    go_wp2_with fail
    refine Ho.out.mono ?_; rintro e w2 ⟨rfl, hb2⟩
    have HM2 := hid (HM1.out.below hb2)
    have HI2 := hid (HI1.out.below hb2)
    have HB2 := hid (HB1.out.trans (hb2.mono HB1.out.size))
    have hb3 := below_alloc w2 (.cells #[.int .i64 m.L, .func (.func 105) #[.agg #[.int .i64 m.L, .slice a m.nx.length cap, .slice a2 m.ac.length cap2]] #[], .func (.func 106) #[.agg #[.int .i64 m.L, .slice a m.nx.length cap, .slice a2 m.ac.length cap2]] #[]] 75)
    have yl0 : W.heap.size < w2.heap.size := by have := hb2.size; omega
    have y0 := (hb3.cell (p := ⟨W.heap.size, 0, none⟩) yl0).trans ((hb2.cell (p := ⟨W.heap.size, 0, none⟩) xl).trans x0)
    have y1 := (hb3.cell (p := ⟨W.heap.size, 1, none⟩) yl0).trans ((hb2.cell (p := ⟨W.heap.size, 1, none⟩) xl).trans x1)
    have y2 := (hb3.cell (p := ⟨W.heap.size, 2, none⟩) yl0).trans ((hb2.cell (p := ⟨W.heap.size, 2, none⟩) xl).trans x2)
    clear hb2 x0 x1 x2 xl
    unfold rdV macV
    have HM3 := hid (HM2.out.below hb3)
    have HI3 := hid (HI2.out.below hb3)
    have HB3 := hid (HB2.out.trans (hb3.mono HB2.out.size))
    clear hb3
    go_wp2_with fail
    generalize hV : w2.alloc (.cells #[.int .i64 m.L, .func (.func 105) #[.agg #[.int .i64 m.L, .slice a m.nx.length cap, .slice a2 m.ac.length cap2]] #[], .func (.func 106) #[.agg #[.int .i64 m.L, .slice a m.nx.length cap, .slice a2 m.ac.length cap2]] #[]] 75) = V at *
    have hX := box_at (B := V.heap.size) (by rw [hV]; exact Below.refl _ _) (by rw [← hV]; simp)
    have z0 := hX.c0
    have z1 := hX.c1
    have z2 := hX.c2
    have zl := hX.lt
    have yl : W.heap.size < V.heap.size := by omega
    have HZ := hid hX
    have HY := hid (BoxAt.mk y0 y1 y2 yl)
    clear hX hV z0 z1 z2 y0 y1 y2
    go_loopw [8, 20] (fun v8 v20 w' => ∃ k : Nat, k ≤ m.nx.length ∧ v20 = .int .i64 k ∧ v8 = .int .i64 (rdS m xs k) ∧ Hid (∀ j, j < k → accM m (rdS m xs (j + 1)) = true) ∧ Below V.heap.size V w') (fun _ v20 _ => m.nx.length - (intOf v20).toNat)
    case atStart => exact ⟨0, by omega, rfl, rfl, hid fun j hj => by omega, Below.refl _ _⟩
    case round =>
      obtain ⟨k, hk, rfl, rfl, HE, hb⟩ := hrel
      have hbs := hb.size
      have y0 := (hb.cell (p := ⟨W.heap.size, 0, none⟩) yl).trans HY.out.c0
      have y1 := (hb.cell (p := ⟨W.heap.size, 1, none⟩) yl).trans HY.out.c1
      have y2 := (hb.cell (p := ⟨W.heap.size, 2, none⟩) yl).trans HY.out.c2
      have z0 := (hb.cell (p := ⟨w2.heap.size, 0, none⟩) zl).trans HZ.out.c0
      have z1 := (hb.cell (p := ⟨w2.heap.size, 1, none⟩) zl).trans HZ.out.c1
      have z2 := (hb.cell (p := ⟨w2.heap.size, 2, none⟩) zl).trans HZ.out.c2
      have wl : W.heap.size < wr.heap.size := by omega
      have wz : w2.heap.size < wr.heap.size := by omega
      by_cases hlt : k < m.nx.length
      · have hs := rdS_in HOK.out HW.out k
        have hs1 := rdS_in HOK.out HW.out (k + 1)
        have HR := run_any m a a2 cap cap2 (rdS m xs k) xs ax cx wr (HM3.out.below hb) (HI3.out.below hb) HOK.out HW.out hs.1 hs.2
        have er : runF m xs (rdS m xs k) xs.length = rdS m xs (k + 1) := rfl
        rw [er] at HR
        unfold rdV macV at HR
        have HR := hid HR
        have Hs1 := hid hs1
        have Hb := hid hb
        clear hb er hs hs1
        go_wp2_with fail
        refine HR.out.mono ?_; rintro e w3 ⟨rfl, hb3⟩
        have t2 := (hb3.cell (p := ⟨W.heap.size, 2, none⟩) wl).trans y2
        have tl : W.heap.size < w3.heap.size := by have := hb3.size; omega
        have hb4 := Hb.out.trans (hb3.mono hbs)
        obtain ⟨sn, hsn⟩ : ∃ sn : Nat, rdS m xs (k + 1) = (sn : Int) := ⟨(rdS m xs (k + 1)).toNat, by have := Hs1.out; omega⟩
        have hacc : accM m (rdS m xs (k + 1)) = m.ac.getD sn false := by rw [hsn]; rfl
        have hsl : sn < m.ac.length := by rw [Hac.out]; have := Hs1.out; omega
        obtain ⟨b2, o2, rfl, hb2, c2⟩ := (HM3.out.below hb4).ac sn hsl
        have HA := hid hacc
        have HSN := hid hsn
        have i1 : (0 : Int) ≤ (sn : Int) := by omega
        have i2 : (sn : Int) < (m.ac.length : Int) := by omega
        have Hb4 := hid hb4
        rw [hsn]
        generalize m.ac.getD sn false = x at *
        clear hsn hacc hb3 hb4 y0 y1 y2 z0 z1 z2
        cases x with
        | true =>
          go_wp2_with fail
          go_roundw
          case rel => exact ⟨k + 1, by omega, by go_num, by rw [HSN.out], hid fun i hi => by
            by_cases e : i = k
            · subst e; exact HA.out
            · exact HE.out i (by omega), Hb4.out⟩
          case measure => simp [intOf]; omega
        | false =>
          have R := hid (rnd_no k HA.out)
          have hz := HB3.out.trans (Hb4.out.mono HB3.out.size)
          go_wp2_with fail
          go_ret2
          exact ⟨by rw [R.out, RE.out]; rfl, hz⟩
      · obtain rfl : k = m.nx.length := by omega
        have R := hid (RY.out HE.out)
        have hz := HB3.out.trans (hb.mono HB3.out.size)
        clear hb
        go_wp2_with fail
        go_ret2
        exact ⟨by rw [R.out, RE.out]; rfl, hz⟩
  · have R := hid (rnd_bad hv)
    have d1 : (wodE m xs == 0) = false := beq_eq_false_iff_ne.2 hv
    have d2 : (wodE m xs != 0) = true := by rw [bne, d1]; rfl
    clear hv
    go_enter Try.func34, Try.ntmps34
    go_wp2_with fail
    refine Hv.out.mono ?_; rintro e w1 ⟨rfl, hb1⟩
    have hz := HB.out.trans (hb1.mono HB.out.size)
    clear hb1
    go_wp2_with fail
    go_ret2
    exact ⟨by rw [R.out]; rfl, hz⟩

set_option maxRecDepth 100000 in
set_option maxHeartbeats 2000000 in
theorem rRound_any (m : Mac) (a a2 : Option Addr) (cap cap2 : Nat) (xs : List Int) (ax : Option Addr) (cx : Nat) (W : World) (hM : MacAt W a cap a2 cap2 m) (hI : IntsAt W ax xs) (hl : xs.length ≤ maxLen) :
    Calls Try.prog 35 #[.agg #[.int .i64 m.L, .slice a m.nx.length cap, .slice a2 m.ac.length cap2], .slice ax xs.length cx] W fun e w' => e = .returned (.tuple #[.bool (rndB m xs), .int .i64 (wodE m xs)]) ∧ Below W.heap.size W w' := by
  have hb0 := below_alloc W (.cells #[.int .i64 m.L, .slice a m.nx.length cap, .slice a2 m.ac.length cap2] 25)
  have HM := hid (hM.below hb0)
  have HI := hid (hI.below hb0)
  have Hv := hid (both_any m a a2 cap cap2 xs ax cx (W.alloc (.cells #[.int .i64 m.L, .slice a m.nx.length cap, .slice a2 m.ac.length cap2] 25)) HM.out HI.out hl)
  have HB := hid hb0
  clear hM hb0 hI hl
  by_cases hv : wodE m xs = 0
  · have RY := hid (fun h => rnd_yes (m := m) (xs := xs) hv h)
    obtain ⟨hOK, hW⟩ := wodE_zero.1 hv
    have RE := hid hv
    rw [hv] at Hv
    have HOK := hid hOK
    have HW := hid hW
    have h64 := hOK.n64
    have Hac := hid hOK.ac
    clear hOK hW hv
    go_enter Try.func35, Try.ntmps35
    go_wp2_with fail
    refine Hv.out.mono ?_; rintro e w1 ⟨rfl, hb1⟩
    have hX := box_at (B := W.heap.size + 1) (by simpa using hb1) rfl
    have x0 := hX.c0
    have x1 := hX.c1
    have x2 := hX.c2
    have xl := hX.lt
    have HM1 := hid (HM.out.below hb1)
    have HI1 := hid (HI.out.below hb1)
    have HB1 := hid (HB.out.trans (hb1.mono HB.out.size))
    clear hX hb1
    have HY := hid (BoxAt.mk x0 x1 x2 xl)
    clear x0 x1 x2
    go_wp2_with fail
    go_loopw [7, 8] (fun v7 v8 w' => ∃ k : Nat, k ≤ m.nx.length + 1 ∧ v8 = .int .i64 k ∧ v7 = .int .i64 (rdS m xs k) ∧ Hid (∀ j, j < k → accM m (rdS m xs (j + 1)) = true) ∧ Below w1.heap.size w1 w') (fun _ v8 _ => m.nx.length + 1 - (intOf v8).toNat)
    case atStart => exact ⟨0, by omega, rfl, rfl, hid fun j hj => by omega, Below.refl _ _⟩
    case round =>
      obtain ⟨k, hk, rfl, rfl, HE, hb⟩ := hrel
      have hbs := hb.size
      have y0 := (hb.cell (p := ⟨W.heap.size, 0, none⟩) xl).trans HY.out.c0
      have y1 := (hb.cell (p := ⟨W.heap.size, 1, none⟩) xl).trans HY.out.c1
      have y2 := (hb.cell (p := ⟨W.heap.size, 2, none⟩) xl).trans HY.out.c2
      have wl : W.heap.size < wr.heap.size := by omega
      by_cases hlt : k ≤ m.nx.length
      · have hs := rdS_in HOK.out HW.out k
        have hs1 := rdS_in HOK.out HW.out (k + 1)
        have HR := from_any m a a2 cap cap2 (rdS m xs k) xs ax cx wr (HM1.out.below hb) (HI1.out.below hb) HOK.out HW.out hs.1 hs.2
        have er : runF m xs (rdS m xs k) xs.length = rdS m xs (k + 1) := rfl
        rw [er] at HR
        have HR := hid HR
        have Hs1 := hid hs1
        have Hb := hid hb
        clear hb er hs hs1
        go_wp2_with fail
        refine HR.out.mono ?_; rintro e w3 ⟨rfl, hb3⟩
        have t2 := (hb3.cell (p := ⟨W.heap.size, 2, none⟩) wl).trans y2
        have tl : W.heap.size < w3.heap.size := by have := hb3.size; omega
        have hb4 := Hb.out.trans (hb3.mono hbs)
        obtain ⟨sn, hsn⟩ : ∃ sn : Nat, rdS m xs (k + 1) = (sn : Int) := ⟨(rdS m xs (k + 1)).toNat, by have := Hs1.out; omega⟩
        have hacc : accM m (rdS m xs (k + 1)) = m.ac.getD sn false := by rw [hsn]; rfl
        have hsl : sn < m.ac.length := by rw [Hac.out]; have := Hs1.out; omega
        obtain ⟨b2, o2, rfl, hb2, c2⟩ := (HM1.out.below hb4).ac sn hsl
        have HA := hid hacc
        have HSN := hid hsn
        have i1 : (0 : Int) ≤ (sn : Int) := by omega
        have i2 : (sn : Int) < (m.ac.length : Int) := by omega
        have Hb4 := hid hb4
        rw [hsn]
        generalize m.ac.getD sn false = x at *
        clear hsn hacc hb3 hb4 y0 y1 y2
        cases x with
        | true =>
          go_wp2_with fail
          go_roundw
          case rel => exact ⟨k + 1, by omega, by go_num, by rw [HSN.out], hid fun i hi => by
            by_cases e : i = k
            · subst e; exact HA.out
            · exact HE.out i (by omega), Hb4.out⟩
          case measure => simp [intOf]; omega
        | false =>
          have R := hid (rnd_no k HA.out)
          have hz := HB1.out.trans (Hb4.out.mono HB1.out.size)
          go_wp2_with fail
          go_ret2
          exact ⟨by rw [R.out, RE.out]; rfl, hz⟩
      · obtain rfl : k = m.nx.length + 1 := by omega
        have R := hid (RY.out fun j hj => HE.out j (by omega))
        have hz := HB1.out.trans (hb.mono HB1.out.size)
        clear hb
        go_wp2_with fail
        go_ret2
        exact ⟨by rw [R.out, RE.out]; rfl, hz⟩
  · have R := hid (rnd_bad hv)
    have d1 : (wodE m xs == 0) = false := beq_eq_false_iff_ne.2 hv
    have d2 : (wodE m xs != 0) = true := by rw [bne, d1]; rfl
    clear hv
    go_enter Try.func35, Try.ntmps35
    go_wp2_with fail
    refine Hv.out.mono ?_; rintro e w1 ⟨rfl, hb1⟩
    have hz := HB.out.trans (hb1.mono HB.out.size)
    clear hb1
    go_wp2_with fail
    go_ret2
    exact ⟨by rw [R.out]; rfl, hz⟩
end Go.Proofs.Ytmllbemjcfkmjaa
