/- The document's 'First': what it returns. -/
import Derived.Test.YtmllbemjcfkmjaaFirst
import Derived.BigQuiet
namespace Go.Proofs.Ytmllbemjcfkmjaa
open Go.RowKit Go.Maps
set_option linter.unusedSimpArgs false
set_option linter.unusedVariables false

set_option maxRecDepth 100000 in
set_option maxHeartbeats 2000000 in
theorem rFirst_any (xs : List Int) (a : Option Addr) (cap : Nat) (W : World) (hI : IntsAt W a xs) (hl : xs.length ≤ maxLen) (hc : xs.length ≤ cap) (hcm : cap ≤ maxLen) :
    Calls Try.prog 61 #[.slice a xs.length cap] W (IntsE (frsR xs) (wrdE 6 xs) W) := by
  obtain ⟨i0, hi0, hz0, hz1, hz2⟩ := info_parts info3
  have HV := hid (letters_any 6 (by omega) (by omega) xs a cap W hI hl)
  by_cases h0 : wrdE 6 xs = 0
  · have hok := wrdE_zero.1 h0
    have h20 := hok.l20
    rw [h0] at HV ⊢
    rw [frsR_ok hok]
    have HI := hid hI
    clear hI hok h0 hl
    go_enter Try.func61, Try.ntmps61
    go_wp2_with fail
    refine HV.out.mono ?_; rintro e w1 ⟨rfl, hb1⟩
    have HB1 := hid hb1
    clear hb1 HV
    go_wp2_with fail
    go_loopw [5, 6, 7] (fun v5 v6 _ w' => ∃ (i : Nat) (ab : Option Addr) (cb : Nat), v6 = .int .i64 i ∧ 1 ≤ i ∧ (i ≤ xs.length ∨ i = 1) ∧ v5 = .slice ab xs.length cb ∧ IntsAt w' ab (bestF xs i) ∧ xs.length ≤ cb ∧ cb ≤ maxLen ∧ Below W.heap.size W w') (fun _ v6 _ _ => xs.length + 1 - (intOf v6).toNat)
    case atStart => exact ⟨1, a, cap, rfl, Nat.le_refl _, .inr rfl, rfl, by rw [best_one]; exact HI.out.below HB1.out, hc, hcm, HB1.out⟩
    case round =>
      clear HB1
      obtain ⟨i, ad, cd, rfl, hi1, hi, rfl, hB, k1, k2, hb⟩ := hrel
      have HBb := hid hb
      have HB := hid hB
      clear hb hB
      by_cases hlt : i < xs.length
      · obtain ⟨b, off, rfl, hbl⟩ := HI.out.addr (by omega)
        have j0 : (0 : Int) ≤ (i : Int) := by omega
        have j1 : (i : Int) ≤ (xs.length : Int) := by omega
        have j2 : (i : Int) < (xs.length : Int) := by omega
        have j3 : (i : Int) ≤ (cap : Int) := by omega
        have j4 : (xs.length : Int) ≤ (cap : Int) := by omega
        have HD := hid (HI.out.drop i)
        have HT := hid (HI.out.take i)
        go_wp2_with fail
        refine wp_region_but_f (fun _ => True) 9 (by kernel_rfl) ?_
        intro Z0 hZ0
        have hZb : Below W.heap.size W Z0 := by rw [hZ0]; exact HBb.out.drew
        have HZ := hid hZb
        have HB0 : Hid (IntsAt Z0 ad (bestF xs i)) := by rw [hZ0]; exact HB
        clear hZ0 hZb HB HBb
        refine but_take (i := 1) (v := (.slice (some ⟨b, off, none⟩) xs.length cap)) rfl (by kernel_rfl) (by kernel_rfl) (by kernel_rfl) (by kernel_rfl) (fun _ _ _ h => h) (Or.inl ⟨by rfl, ?hy⟩) trivial ?_
        case hy => intro w hSw; (try dsimp only at hSw); go_simp; (try (intro hh; omega))
        try simp only [Act.put, List.setIfInBounds_toArray, List.set_cons_zero, List.set_cons_succ]
        refine but_take (i := 2) (v := (.int .i64 (i : Nat))) rfl (by kernel_rfl) (by kernel_rfl) (by kernel_rfl) (by kernel_rfl) (fun _ _ _ h => h) (Or.inl ⟨by rfl, ?hy⟩) trivial ?_
        case hy => intro w hSw; (try dsimp only at hSw); go_simp; (try (intro hh; omega))
        try simp only [Act.put, List.setIfInBounds_toArray, List.set_cons_zero, List.set_cons_succ]
        refine but_take (i := 3) (v := (.slice (some ⟨b, off + i, none⟩) (xs.length - i) (cap - i))) rfl (by kernel_rfl) (by kernel_rfl) (by kernel_rfl) (by kernel_rfl) (fun _ _ _ h => h) (Or.inl ⟨by rfl, ?hy⟩) trivial ?_
        case hy => intro w hSw; (try dsimp only at hSw); go_simp; (try (intro hh; omega))
        try simp only [Act.put, List.setIfInBounds_toArray, List.set_cons_zero, List.set_cons_succ]
        refine but_take (i := 5) (v := (.slice (some ⟨b, off, none⟩) xs.length cap)) rfl (by kernel_rfl) (by kernel_rfl) (by kernel_rfl) (by kernel_rfl) (fun _ _ _ h => h) (Or.inl ⟨by rfl, ?hy⟩) trivial ?_
        case hy => intro w hSw; (try dsimp only at hSw); go_simp; (try (intro hh; omega))
        try simp only [Act.put, List.setIfInBounds_toArray, List.set_cons_zero, List.set_cons_succ]
        refine but_take (i := 6) (v := (.int .i64 (i : Nat))) rfl (by kernel_rfl) (by kernel_rfl) (by kernel_rfl) (by kernel_rfl) (fun _ _ _ h => h) (Or.inl ⟨by rfl, ?hy⟩) trivial ?_
        case hy => intro w hSw; (try dsimp only at hSw); go_simp; (try (intro hh; omega))
        try simp only [Act.put, List.setIfInBounds_toArray, List.set_cons_zero, List.set_cons_succ]
        refine but_take (i := 7) (v := (.slice (some ⟨b, off, none⟩) i cap)) rfl (by kernel_rfl) (by kernel_rfl) (by kernel_rfl) (by kernel_rfl) (fun _ _ _ h => h) (Or.inl ⟨by rfl, ?hy⟩) trivial ?_
        case hy => intro w hSw; (try dsimp only at hSw); go_simp; (try (intro hh; omega))
        try simp only [Act.put, List.setIfInBounds_toArray, List.set_cons_zero, List.set_cons_succ]
        refine but_one (i := 0) (by kernel_rfl) ?_
        refine wpOp_one rfl (by rfl) (fun K' hK => ?_)
        go_simp
        refine hK _ _ ⟨fun _ => trivial, ?_⟩
        clear hK K'
        have hba := below_alloc Z0 (.cells #[] 3)
        have hZa := HZ.out.trans (hba.mono HZ.out.size)
        have hEm := World.ownsRow_lit (base := Z0.heap.size) (e := 3) (size := 1) Z0 #[] 0 (Nat.le_refl _) (by unfold maxLen; omega) rfl
        try simp only [Act.put, List.setIfInBounds_toArray, List.set_cons_zero, List.set_cons_succ]
        refine but_one (i := 4) (by kernel_rfl) ?_
        refine wpOp_one rfl (by rfl) (fun K' hK => ?_)
        refine wp_app_src _ _ _ (by rfl) Z0.heap.size 3 i0 (.int .i64 0) 8 Try.underlying33 hi0 hz0 hz1 hz2 rfl _ 0 [] (by rfl) (hEm) (some ⟨b, off + i, none⟩) (xs.length - i) (cap - i) ((xs.drop i).map (Value.int .i64)) (by rfl) (by simp) (by have hh := ints_src1 (HD.out.below hZa); rw [show (xs.drop i).length = xs.length - i by simp] at hh; exact hh) (ints_one _) (by unfold maxLen; omega) (by omega) (by simp) ?_
        intro v3 w3 hown3 hgrow3 hat3
        rw [Nat.zero_add, List.nil_append] at hown3
        obtain ⟨a3, k3, e3⟩ := row_shp hown3
        subst e3
        have hb3 : Below Z0.heap.size Z0 w3 := hba.grown hgrow3 (by simp) (fun g hg => by have hg' : some Z0.heap.size = some g := hg; cases hg'; exact Nat.le_refl _)
        have hZ3 := HZ.out.trans (hb3.mono HZ.out.size)
        refine hK _ _ ⟨fun _ => trivial, ?_⟩
        clear hK K' hEm hgrow3 hat3 hZa hba
        try simp only [Act.put, List.setIfInBounds_toArray, List.set_cons_zero, List.set_cons_succ]
        refine but_one (i := 8) (by kernel_rfl) ?_
        refine wpOp_one rfl (by rfl) (fun K' hK => ?_)
        refine wp_app_src _ _ _ (by rfl) Z0.heap.size 3 i0 (.int .i64 0) 8 Try.underlying33 hi0 hz0 hz1 hz2 rfl _ (xs.length - i) ((xs.drop i).map (Value.int .i64)) (by rfl) (hown3) (some ⟨b, off, none⟩) i cap ((xs.take i).map (Value.int .i64)) (by rfl) (by simp; omega) (by have hh := ints_src1 (HT.out.below hZ3); rw [show (xs.take i).length = i by simp; omega] at hh; exact hh) (ints_one _) (by unfold maxLen; omega) (by omega) (hb3.size) ?_
        intro v4 w4 hown4 hgrow4 hat4
        have hb4 : Below Z0.heap.size Z0 w4 := hb3.grown hgrow4 hb3.size fun g hg => (hown3.lt g hg).1
        have hZ4 := HZ.out.trans (hb4.mono HZ.out.size)
        rw [← List.map_append, show xs.length - i + i = (xs.drop i ++ xs.take i).length by simp; omega] at hown4
        obtain ⟨at4, ct4, e4, hI4, q1, q2⟩ := own_ints hown4
        subst e4
        have hlr : (xs.drop i ++ xs.take i).length = xs.length := rot_len xs i (by omega)
        rw [hlr] at q1
        have HI4 : Hid (IntsAt w4 at4 (rot xs i)) := hid hI4
        have HB4 := hid (HB0.out.below hb4)
        have HW4 := hid hZ4
        rw [hlr]
        refine hK _ _ ⟨fun _ => trivial, ?_⟩
        clear hK K' hown3 hown4 hgrow4 hat4 hb3 hb4 hZ3 hZ4 hI4 HZ HB0 hlr
        try simp only [Act.put, List.setIfInBounds_toArray, List.set_cons_zero, List.set_cons_succ]
        refine but_one (i := 9) (by kernel_rfl) ?_
        refine wpOp_one rfl (by rfl) (fun K hK => ?_)
        go_simp
        refine hK _ _ ⟨fun h => absurd rfl h, but_done (by kernel_rfl) ?_ _⟩
        clear hK K
        try simp only [Act.put, List.setIfInBounds_toArray, List.set_cons_zero, List.set_cons_succ]
        have HCM := hid (less_any (rot xs i) (bestF xs i) at4 ad ct4 cd w4 HI4.out HB4.out (by rw [rot_len xs i (by omega), bestF_len xs i (by omega)]) (by rw [rot_len xs i (by omega)]; unfold maxLen; omega))
        have hl1 := rot_len xs i (by omega)
        have hl2 := bestF_len xs i (by omega)
        rw [hl1, hl2] at HCM
        have HL := hid (show bestF xs (i + 1) = if ltW (rot xs i) (bestF xs i) = true then rot xs i else bestF xs i from rfl)
        clear hl1 hl2
        go_wp2_with fail
        refine HCM.out.mono ?_; rintro e w5 ⟨rfl, hb5⟩
        have HB5 := hid (HB4.out.below hb5)
        have HI5 := hid (HI4.out.below hb5)
        have HW5 := hid (HW4.out.trans (hb5.mono HW4.out.size))
        clear HB4 HI4 HW4 hb5 HCM
        cases hcl : ltW (rot xs i) (bestF xs i)
        · have HL2 := HL.out
          rw [hcl, if_neg (by decide)] at HL2
          have HL2 := hid HL2
          clear hcl HL
          go_wp2_with fail
          go_roundw
          case rel => exact ⟨i + 1, ad, cd, by go_num, by omega, by omega, rfl, by rw [HL2.out]; exact HB5.out, k1, k2, HW5.out⟩
          case measure => simp [intOf]; omega
        · have HL2 := HL.out
          rw [if_pos hcl] at HL2
          have HL2 := hid HL2
          clear hcl HL
          go_wp2_with fail
          go_roundw
          case rel => exact ⟨i + 1, at4, ct4, by go_num, by omega, by omega, rfl, by rw [HL2.out]; exact HI5.out, q1, q2, HW5.out⟩
          case measure => simp [intOf]; omega
      · have hbe : bestF xs i = bestF xs xs.length := by
          by_cases hn : i = xs.length
          · rw [hn]
          · have e1 : i = 1 := by omega
            have e0 : xs.length = 0 := by omega
            rw [e1, e0, best_one]
            rfl
        have j2 : ¬ (i : Int) < (xs.length : Int) := by omega
        have hlb := bestF_len xs xs.length (Nat.le_refl _)
        have hba := below_alloc wr (.cells #[] 3)
        have hEm := World.ownsRow_lit (base := W.heap.size) (e := 3) (size := 1) wr #[] 0 HBb.out.size (by unfold maxLen; omega) rfl
        have HEm := hid hEm
        have HB2 := HB.out.below hba
        rw [hbe] at HB2
        have HB2 := hid HB2
        have hWs := HBb.out.size
        clear hba hEm
        go_wp2_with (at_builtin; go_loud (refine wpList_app_src rfl _ _ _ rfl W.heap.size 3 i0 (.int .i64 0) 8 Try.underlying33 hi0 hz0 hz1 hz2 rfl _ 0 [] rfl HEm.out ad xs.length cd ((bestF xs xs.length).map (Value.int .i64)) rfl (by rw [List.length_map, hlb]) (by have := ints_src1 HB2.out; rw [hlb] at this; exact this) (ints_one _) (by unfold maxLen; omega) (by omega) (by simp; omega) ?_); intro v' w2 hown hgrow hat)
        rw [Nat.zero_add, List.nil_append] at hown
        have hb2 : Below W.heap.size W w2 := (HBb.out.alloc hWs _).grown hgrow (by simp; omega) fun g hg => by have hg' : some wr.heap.size = some g := hg; cases hg'; exact hWs
        have H2 := hid hb2
        clear hgrow hat hb2
        have hown' : w2.ownsRow W.heap.size 3 1 v' (bestF xs xs.length).length ((bestF xs xs.length).map (Value.int .i64)) := by rw [hlb]; exact hown
        obtain ⟨a3, c3, rfl, h3, h4, h5⟩ := own_ints hown'
        clear hown hown'
        go_wp2_with fail
        go_ret2
        exact ⟨a3, c3, rfl, h3, H2.out, h4, h5⟩
  · have d1 : (wrdE 6 xs == 0) = false := beq_eq_false_iff_ne.2 h0
    have d2 : (wrdE 6 xs != 0) = true := by rw [bne, d1]; rfl
    rw [frsR_bad h0]
    clear h0
    generalize wrdE 6 xs = ev at *
    go_enter Try.func61, Try.ntmps61
    go_wp2_with fail
    refine HV.out.mono ?_; rintro e w1 ⟨rfl, hb1⟩
    go_wp2_with fail
    go_ret2
    exact ⟨none, 0, rfl, fun i hi => absurd hi (Nat.not_lt_zero i), hb1, Nat.le_refl _, Nat.zero_le _⟩
end Go.Proofs.Ytmllbemjcfkmjaa
