/- 'Round' and the document's: what they return. -/
import Derived.Test.YtmllbemjcfkmjaaAccept
import Derived.Test.YtmllbemjcfkmjaaRoundLaw
namespace Go.Proofs.Ytmllbemjcfkmjaa
open Go.RowKit
set_option linter.unusedSimpArgs false
set_option linter.unusedVariables false

set_option maxRecDepth 100000 in
set_option maxHeartbeats 2000000 in
theorem Round_any (m : Mac) (a a2 : Option Addr) (cap cap2 : Nat) (xs : List Int) (ax : Option Addr) (cx : Nat) (W : World) (hM : MacAt W a cap a2 cap2 m) (hI : IntsAt W ax xs) (hl : xs.length ≤ maxLen) :
    Calls Try.prog 34 #[.agg #[.int .i64 m.L, .slice a m.nx.length cap, .slice a2 m.ac.length cap2], .slice ax xs.length cx] W fun e w' => e = .returned (.tuple #[.bool (rndB m xs), .int .i64 (wodE m xs)]) ∧ Below W.heap.size W w' := by
  have hb0 := below_alloc W (.cells #[.int .i64 m.L, .slice a m.nx.length cap, .slice a2 m.ac.length cap2] 25)
  have HM := hid (hM.below hb0)
  have HI := hid (hI.below hb0)
  have Hv := hid (worded_any m a a2 cap cap2 xs ax cx (W.alloc (.cells #[.int .i64 m.L, .slice a m.nx.length cap, .slice a2 m.ac.length cap2] 25)) HM.out HI.out hl)
  have HB := hid hb0
  clear hM hb0 hI hl
  by_cases hv : wodE m xs = 0
  · have RY := hid (fun h => rnd_yes (m := m) (xs := xs) hv h)
    obtain ⟨hOK, hW⟩ := wodE_zero.1 hv
    have RE := hid hv
    rw [hv] at Hv
    have HOK := hid hOK
    have HW := hid hW
    have h64 := hOK.n64
    have Hac := hid hOK.ac
    clear hOK hW hv
    go_enter Try.func34, Try.ntmps34
    go_wp2_with fail
    refine Hv.out.mono ?_; rintro e w1 ⟨rfl, hb1⟩
    have hX := box_at (B := W.heap.size + 1) (by simpa using hb1) rfl
    have x0 := hX.c0
    have x1 := hX.c1
    have x2 := hX.c2
    have xl := hX.lt
    have HM1 := hid (HM.out.below hb1)
    have HI1 := hid (HI.out.below hb1)
    have HB1 := hid (HB.out.trans (hb1.mono HB.out.size))
    clear hX hb1
    have Ho := hid (of_any m a a2 cap cap2 w1)
    go_wp2_with fail
    refine Ho.out.mono ?_; rintro e w2 ⟨rfl, hb2⟩
    have HM2 := hid (HM1.out.below hb2)
    have HI2 := hid (HI1.out.below hb2)
    have HB2 := hid (HB1.out.trans (hb2.mono HB1.out.size))
    have hb3 := below_alloc w2 (.cells #[.int .i64 m.L, .func (.func 105) #[.agg #[.int .i64 m.L, .slice a m.nx.length cap, .slice a2 m.ac.length cap2]] #[], .func (.func 106) #[.agg #[.int .i64 m.L, .slice a m.nx.length cap, .slice a2 m.ac.length cap2]] #[]] 75)
    have yl0 : W.heap.size < w2.heap.size := by have := hb2.size; omega
    have y0 := (hb3.cell (p := ⟨W.heap.size, 0, none⟩) yl0).trans ((hb2.cell (p := ⟨W.heap.size, 0, none⟩) xl).trans x0)
    have y1 := (hb3.cell (p := ⟨W.heap.size, 1, none⟩) yl0).trans ((hb2.cell (p := ⟨W.heap.size, 1, none⟩) xl).trans x1)
    have y2 := (hb3.cell (p := ⟨W.heap.size, 2, none⟩) yl0).trans ((hb2.cell (p := ⟨W.heap.size, 2, none⟩) xl).trans x2)
    clear hb2 x0 x1 x2 xl
    unfold rdV macV
    have HM3 := hid (HM2.out.below hb3)
    have HI3 := hid (HI2.out.below hb3)
    have HB3 := hid (HB2.out.trans (hb3.mono HB2.out.size))
    clear hb3
    go_wp2_with fail
    generalize hV : w2.alloc (.cells #[.int .i64 m.L, .func (.func 105) #[.agg #[.int .i64 m.L, .slice a m.nx.length cap, .slice a2 m.ac.length cap2]] #[], .func (.func 106) #[.agg #[.int .i64 m.L, .slice a m.nx.length cap, .slice a2 m.ac.length cap2]] #[]] 75) = V at *
    have hX := box_at (B := V.heap.size) (by rw [hV]; exact Below.refl _ _) (by rw [← hV]; simp)
    have z0 := hX.c0
    have z1 := hX.c1
    have z2 := hX.c2
    have zl := hX.lt
    have yl : W.heap.size < V.heap.size := by omega
    have HZ := hid hX
    have HY := hid (BoxAt.mk y0 y1 y2 yl)
    clear hX hV z0 z1 z2 y0 y1 y2
    go_loopw [8, 20] (fun v8 v20 w' => ∃ k : Nat, k ≤ m.nx.length ∧ v20 = .int .i64 k ∧ v8 = .int .i64 (rdS m xs k) ∧ Hid (∀ j, j < k → accM m (rdS m xs (j + 1)) = true) ∧ Below V.heap.size V w') (fun _ v20 _ => m.nx.length - (intOf v20).toNat)
    case atStart => exact ⟨0, by omega, rfl, rfl, hid fun j hj => by omega, Below.refl _ _⟩
    case round =>
      obtain ⟨k, hk, rfl, rfl, HE, hb⟩ := hrel
      have hbs := hb.size
      have y0 := (hb.cell (p := ⟨W.heap.size, 0, none⟩) yl).trans HY.out.c0
      have y1 := (hb.cell (p := ⟨W.heap.size, 1, none⟩) yl).trans HY.out.c1
      have y2 := (hb.cell (p := ⟨W.heap.size, 2, none⟩) yl).trans HY.out.c2
      have z0 := (hb.cell (p := ⟨w2.heap.size, 0, none⟩) zl).trans HZ.out.c0
      have z1 := (hb.cell (p := ⟨w2.heap.size, 1, none⟩) zl).trans HZ.out.c1
      have z2 := (hb.cell (p := ⟨w2.heap.size, 2, none⟩) zl).trans HZ.out.c2
      have wl : W.heap.size < wr.heap.size := by omega
      have wz : w2.heap.size < wr.heap.size := by omega
      by_cases hlt : k < m.nx.length
      · have hs := rdS_in HOK.out HW.out k
        have hs1 := rdS_in HOK.out HW.out (k + 1)
        have HR := run_any m a a2 cap cap2 (rdS m xs k) xs ax cx wr (HM3.out.below hb) (HI3.out.below hb) HOK.out HW.out hs.1 hs.2
        have er : runF m xs (rdS m xs k) xs.length = rdS m xs (k + 1) := rfl
        rw [er] at HR
        unfold rdV macV at HR
        have HR := hid HR
        have Hs1 := hid hs1
        have Hb := hid hb
        clear hb er hs hs1
        go_wp2_with fail
        refine HR.out.mono ?_; rintro e w3 ⟨rfl, hb3⟩
        have t2 := (hb3.cell (p := ⟨W.heap.size, 2, none⟩) wl).trans y2
        have tl : W.heap.size < w3.heap.size := by have := hb3.size; omega
        have hb4 := Hb.out.trans (hb3.mono hbs)
        obtain ⟨sn, hsn⟩ : ∃ sn : Nat, rdS m xs (k + 1) = (sn : Int) := ⟨(rdS m xs (k + 1)).toNat, by have := Hs1.out; omega⟩
        have hacc : accM m (rdS m xs (k + 1)) = m.ac.getD sn false := by rw [hsn]; rfl
        have hsl : sn < m.ac.length := by rw [Hac.out]; have := Hs1.out; omega
        obtain ⟨b2, o2, rfl, hb2, c2⟩ := (HM3.out.below hb4).ac sn hsl
        have HA := hid hacc
        have HSN := hid hsn
        have i1 : (0 : Int) ≤ (sn : Int) := by omega
        have i2 : (sn : Int) < (m.ac.length : Int) := by omega
        have Hb4 := hid hb4
        rw [hsn]
        generalize m.ac.getD sn false = x at *
        clear hsn hacc hb3 hb4 y0 y1 y2 z0 z1 z2
        cases x with
        | true =>
          go_wp2_with fail
          go_roundw
          case rel => exact ⟨k + 1, by omega, by go_num, by rw [HSN.out], hid fun i hi => by
            by_cases e : i = k
            · subst e; exact HA.out
            · exact HE.out i (by omega), Hb4.out⟩
          case measure => simp [intOf]; omega
        | false =>
          have R := hid (rnd_no k HA.out)
          have hz := HB3.out.trans (Hb4.out.mono HB3.out.size)
          go_wp2_with fail
          go_ret2
          exact ⟨by rw [R.out, RE.out]; rfl, hz⟩
      · obtain rfl : k = m.nx.length := by omega
        have R := hid (RY.out HE.out)
        have hz := HB3.out.trans (hb.mono HB3.out.size)
        clear hb
        go_wp2_with fail
        go_ret2
        exact ⟨by rw [R.out, RE.out]; rfl, hz⟩
  · have R := hid (rnd_bad hv)
    have d1 : (wodE m xs == 0) = false := beq_eq_false_iff_ne.2 hv
    have d2 : (wodE m xs != 0) = true := by rw [bne, d1]; rfl
    clear hv
    go_enter Try.func34, Try.ntmps34
    go_wp2_with fail
    refine Hv.out.mono ?_; rintro e w1 ⟨rfl, hb1⟩
    have hz := HB.out.trans (hb1.mono HB.out.size)
    clear hb1
    go_wp2_with fail
    go_ret2
    exact ⟨by rw [R.out]; rfl, hz⟩

set_option maxRecDepth 100000 in
set_option maxHeartbeats 2000000 in
theorem rRound_any (m : Mac) (a a2 : Option Addr) (cap cap2 : Nat) (xs : List Int) (ax : Option Addr) (cx : Nat) (W : World) (hM : MacAt W a cap a2 cap2 m) (hI : IntsAt W ax xs) (hl : xs.length ≤ maxLen) :
    Calls Try.prog 35 #[.agg #[.int .i64 m.L, .slice a m.nx.length cap, .slice a2 m.ac.length cap2], .slice ax xs.length cx] W fun e w' => e = .returned (.tuple #[.bool (rndB m xs), .int .i64 (wodE m xs)]) ∧ Below W.heap.size W w' := by
  have hb0 := below_alloc W (.cells #[.int .i64 m.L, .slice a m.nx.length cap, .slice a2 m.ac.length cap2] 25)
  have HM := hid (hM.below hb0)
  have HI := hid (hI.below hb0)
  have Hv := hid (both_any m a a2 cap cap2 xs ax cx (W.alloc (.cells #[.int .i64 m.L, .slice a m.nx.length cap, .slice a2 m.ac.length cap2] 25)) HM.out HI.out hl)
  have HB := hid hb0
  clear hM hb0 hI hl
  by_cases hv : wodE m xs = 0
  · have RY := hid (fun h => rnd_yes (m := m) (xs := xs) hv h)
    obtain ⟨hOK, hW⟩ := wodE_zero.1 hv
    have RE := hid hv
    rw [hv] at Hv
    have HOK := hid hOK
    have HW := hid hW
    have h64 := hOK.n64
    have Hac := hid hOK.ac
    clear hOK hW hv
    go_enter Try.func35, Try.ntmps35
    go_wp2_with fail
    refine Hv.out.mono ?_; rintro e w1 ⟨rfl, hb1⟩
    have hX := box_at (B := W.heap.size + 1) (by simpa using hb1) rfl
    have x0 := hX.c0
    have x1 := hX.c1
    have x2 := hX.c2
    have xl := hX.lt
    have HM1 := hid (HM.out.below hb1)
    have HI1 := hid (HI.out.below hb1)
    have HB1 := hid (HB.out.trans (hb1.mono HB.out.size))
    clear hX hb1
    have HY := hid (BoxAt.mk x0 x1 x2 xl)
    clear x0 x1 x2
    go_wp2_with fail
    go_loopw [7, 8] (fun v7 v8 w' => ∃ k : Nat, k ≤ m.nx.length + 1 ∧ v8 = .int .i64 k ∧ v7 = .int .i64 (rdS m xs k) ∧ Hid (∀ j, j < k → accM m (rdS m xs (j + 1)) = true) ∧ Below w1.heap.size w1 w') (fun _ v8 _ => m.nx.length + 1 - (intOf v8).toNat)
    case atStart => exact ⟨0, by omega, rfl, rfl, hid fun j hj => by omega, Below.refl _ _⟩
    case round =>
      obtain ⟨k, hk, rfl, rfl, HE, hb⟩ := hrel
      have hbs := hb.size
      have y0 := (hb.cell (p := ⟨W.heap.size, 0, none⟩) xl).trans HY.out.c0
      have y1 := (hb.cell (p := ⟨W.heap.size, 1, none⟩) xl).trans HY.out.c1
      have y2 := (hb.cell (p := ⟨W.heap.size, 2, none⟩) xl).trans HY.out.c2
      have wl : W.heap.size < wr.heap.size := by omega
      by_cases hlt : k ≤ m.nx.length
      · have hs := rdS_in HOK.out HW.out k
        have hs1 := rdS_in HOK.out HW.out (k + 1)
        have HR := from_any m a a2 cap cap2 (rdS m xs k) xs ax cx wr (HM1.out.below hb) (HI1.out.below hb) HOK.out HW.out hs.1 hs.2
        have er : runF m xs (rdS m xs k) xs.length = rdS m xs (k + 1) := rfl
        rw [er] at HR
        have HR := hid HR
        have Hs1 := hid hs1
        have Hb := hid hb
        clear hb er hs hs1
        go_wp2_with fail
        refine HR.out.mono ?_; rintro e w3 ⟨rfl, hb3⟩
        have t2 := (hb3.cell (p := ⟨W.heap.size, 2, none⟩) wl).trans y2
        have tl : W.heap.size < w3.heap.size := by have := hb3.size; omega
        have hb4 := Hb.out.trans (hb3.mono hbs)
        obtain ⟨sn, hsn⟩ : ∃ sn : Nat, rdS m xs (k + 1) = (sn : Int) := ⟨(rdS m xs (k + 1)).toNat, by have := Hs1.out; omega⟩
        have hacc : accM m (rdS m xs (k + 1)) = m.ac.getD sn false := by rw [hsn]; rfl
        have hsl : sn < m.ac.length := by rw [Hac.out]; have := Hs1.out; omega
        obtain ⟨b2, o2, rfl, hb2, c2⟩ := (HM1.out.below hb4).ac sn hsl
        have HA := hid hacc
        have HSN := hid hsn
        have i1 : (0 : Int) ≤ (sn : Int) := by omega
        have i2 : (sn : Int) < (m.ac.length : Int) := by omega
        have Hb4 := hid hb4
        rw [hsn]
        generalize m.ac.getD sn false = x at *
        clear hsn hacc hb3 hb4 y0 y1 y2
        cases x with
        | true =>
          go_wp2_with fail
          go_roundw
          case rel => exact ⟨k + 1, by omega, by go_num, by rw [HSN.out], hid fun i hi => by
            by_cases e : i = k
            · subst e; exact HA.out
            · exact HE.out i (by omega), Hb4.out⟩
          case measure => simp [intOf]; omega
        | false =>
          have R := hid (rnd_no k HA.out)
          have hz := HB1.out.trans (Hb4.out.mono HB1.out.size)
          go_wp2_with fail
          go_ret2
          exact ⟨by rw [R.out, RE.out]; rfl, hz⟩
      · obtain rfl : k = m.nx.length + 1 := by omega
        have R := hid (RY.out fun j hj => HE.out j (by omega))
        have hz := HB1.out.trans (hb.mono HB1.out.size)
        clear hb
        go_wp2_with fail
        go_ret2
        exact ⟨by rw [R.out, RE.out]; rfl, hz⟩
  · have R := hid (rnd_bad hv)
    have d1 : (wodE m xs == 0) = false := beq_eq_false_iff_ne.2 hv
    have d2 : (wodE m xs != 0) = true := by rw [bne, d1]; rfl
    clear hv
    go_enter Try.func35, Try.ntmps35
    go_wp2_with fail
    refine Hv.out.mono ?_; rintro e w1 ⟨rfl, hb1⟩
    have hz := HB.out.trans (hb1.mono HB.out.size)
    clear hb1
    go_wp2_with fail
    go_ret2
    exact ⟨by rw [R.out]; rfl, hz⟩
end Go.Proofs.Ytmllbemjcfkmjaa
