/- 'First': what it returns; and what the document's one returns. -/
import Derived.Test.YtmllbemjcfkmjaaFirstOps
import Derived.BigQuiet
namespace Go.Proofs.Ytmllbemjcfkmjaa
open Go.RowKit Go.Maps
set_option linter.unusedSimpArgs false
set_option linter.unusedVariables false

theorem wp_region_but_f {P : Program} {ops : Array Oper} {Q : Exit → Act → World → Prop} {id : Nat} {a : Act} {w : World} (S : World → Prop) (k : Nat) (hm : P.follows .mixedOrders = true)
    (h : ∀ Z, Z = w.drew → anyBut P .any ops Q S k ops.size (Array.replicate ops.size false) a Z) : (Code.region id ops true).wp P Q a w :=
  wp_region_but S k hm (h _ rfl)
theorem IntsAt.drop {w : World} {b off : Nat} {xs : List Int} (h : IntsAt w (some ⟨b, off, none⟩) xs) (i : Nat) : IntsAt w (some ⟨b, off + i, none⟩) (xs.drop i) := by
  intro j hj
  have hj' : i + j < xs.length := by simp at hj; omega
  obtain ⟨b', o', e, h1, h2⟩ := h (i + j) hj'
  cases e
  refine ⟨b, off + i, rfl, h1, ?_⟩
  rw [show off + i + j = off + (i + j) by omega, h2]
  simp [nth, List.getD]
theorem IntsAt.take {w : World} {a : Option Addr} {xs : List Int} (h : IntsAt w a xs) (i : Nat) : IntsAt w a (xs.take i) := by
  intro j hj
  have hj' : j < xs.length := by simp at hj; omega
  have hj2 : j < i := by simp at hj; omega
  obtain ⟨b', o', e, h1, h2⟩ := h j hj'
  refine ⟨b', o', e, h1, ?_⟩
  rw [h2]
  simp [nth, List.getD, List.getElem?_take, hj2]
theorem IntsAt.addr {w : World} {a : Option Addr} {xs : List Int} (h : IntsAt w a xs) (h0 : 0 < xs.length) : ∃ b off, a = some ⟨b, off, none⟩ ∧ b < w.heap.size := by
  obtain ⟨b, off, e, h1, _⟩ := h 0 h0
  exact ⟨b, off, e, h1⟩

set_option maxRecDepth 100000 in
set_option maxHeartbeats 2000000 in
theorem First_any (xs : List Int) (a : Option Addr) (cap : Nat) (W : World) (hI : IntsAt W a xs) (hl : xs.length ≤ maxLen) (hc : xs.length ≤ cap) (hcm : cap ≤ maxLen) :
    Calls Try.prog 60 #[.slice a xs.length cap] W (IntsE (frsR xs) (wrdE 6 xs) W) := by
  have HV := hid (isWord_any 6 xs a cap W hI hl)
  by_cases h0 : wrdE 6 xs = 0
  · have hok := wrdE_zero.1 h0
    have h20 := hok.l20
    rw [h0] at HV ⊢
    rw [frsR_ok hok]
    have HI := hid hI
    clear hI hok h0 hl
    go_enter Try.func60, Try.ntmps60
    go_wp2_with fail
    refine HV.out.mono ?_; rintro e w1 ⟨rfl, hb1⟩
    have HB1 := hid hb1
    have HC := hid (clone100_any xs a cap w1 (HI.out.below hb1) (by omega))
    clear hb1 HV
    go_wp2_with fail
    refine HC.out.mono ?_; rintro e w2 ⟨ab, cb, rfl, hI2, hb2, h1, h2⟩
    have HB2 := hid (HB1.out.trans (hb2.mono HB1.out.size))
    have HI2 := hid hI2
    clear hI2 hb2 HC HB1
    go_wp2_with fail
    go_loopw [5, 6, 7, 17] (fun v5 _ _ v17 w' => ∃ (i : Nat) (ab : Option Addr) (cb : Nat), v17 = .int .i64 i ∧ i ≤ xs.length ∧ v5 = .slice ab xs.length cb ∧ IntsAt w' ab (bestF xs i) ∧ xs.length ≤ cb ∧ cb ≤ maxLen ∧ Below W.heap.size W w') (fun _ _ _ v17 _ => xs.length - (intOf v17).toNat)
    case atStart => exact ⟨0, ab, cb, rfl, by omega, rfl, HI2.out, h1, h2, HB2.out⟩
    case round =>
      clear HI2 HB2 h1 h2
      obtain ⟨i, ad, cd, rfl, hi, rfl, hB, k1, k2, hb⟩ := hrel
      have HBb := hid hb
      have HB := hid hB
      clear hb hB
      by_cases hlt : i < xs.length
      · obtain ⟨b, off, rfl, hbl⟩ := HI.out.addr (by omega)
        have j0 : (0 : Int) ≤ (i : Int) := by omega
        have j1 : (i : Int) ≤ (xs.length : Int) := by omega
        have j2 : (i : Int) < (xs.length : Int) := by omega
        have j3 : (i : Int) ≤ (cap : Int) := by omega
        have j4 : (xs.length : Int) ≤ (cap : Int) := by omega
        have HD := hid (HI.out.drop i)
        have HT := hid (HI.out.take i)
        go_wp2_with fail
        refine wp_region_but_f (fun _ => True) 8 (by kernel_rfl) ?_
        intro Z0 hZ0
        have hZb : Below W.heap.size W Z0 := by rw [hZ0]; exact HBb.out.drew
        have HZ := hid hZb
        have HB0 : Hid (IntsAt Z0 ad (bestF xs i)) := by rw [hZ0]; exact HB
        clear hZ0 hZb HB HBb
        refine but_take (i := 0) (v := (.slice (some ⟨b, off, none⟩) xs.length cap)) rfl (by kernel_rfl) (by kernel_rfl) (by kernel_rfl) (by kernel_rfl) (fun _ _ _ h => h) (Or.inl ⟨by rfl, ?hy⟩) trivial ?_
        case hy => intro w hSw; (try dsimp only at hSw); go_simp; (try (intro hh; omega))
        try simp only [Act.put, List.setIfInBounds_toArray, List.set_cons_zero, List.set_cons_succ]
        refine but_take (i := 1) (v := (.int .i64 (i : Nat))) rfl (by kernel_rfl) (by kernel_rfl) (by kernel_rfl) (by kernel_rfl) (fun _ _ _ h => h) (Or.inl ⟨by rfl, ?hy⟩) trivial ?_
        case hy => intro w hSw; (try dsimp only at hSw); go_simp; (try (intro hh; omega))
        try simp only [Act.put, List.setIfInBounds_toArray, List.set_cons_zero, List.set_cons_succ]
        refine but_take (i := 2) (v := (.slice (some ⟨b, off + i, none⟩) (xs.length - i) (cap - i))) rfl (by kernel_rfl) (by kernel_rfl) (by kernel_rfl) (by kernel_rfl) (fun _ _ _ h => h) (Or.inl ⟨by rfl, ?hy⟩) trivial ?_
        case hy => intro w hSw; (try dsimp only at hSw); go_simp; (try (intro hh; omega))
        try simp only [Act.put, List.setIfInBounds_toArray, List.set_cons_zero, List.set_cons_succ]
        refine but_take (i := 3) (v := (.slice (some ⟨b, off, none⟩) xs.length cap)) rfl (by kernel_rfl) (by kernel_rfl) (by kernel_rfl) (by kernel_rfl) (fun _ _ _ h => h) (Or.inl ⟨by rfl, ?hy⟩) trivial ?_
        case hy => intro w hSw; (try dsimp only at hSw); go_simp; (try (intro hh; omega))
        try simp only [Act.put, List.setIfInBounds_toArray, List.set_cons_zero, List.set_cons_succ]
        refine but_take (i := 4) (v := (.int .i64 (i : Nat))) rfl (by kernel_rfl) (by kernel_rfl) (by kernel_rfl) (by kernel_rfl) (fun _ _ _ h => h) (Or.inl ⟨by rfl, ?hy⟩) trivial ?_
        case hy => intro w hSw; (try dsimp only at hSw); go_simp; (try (intro hh; omega))
        try simp only [Act.put, List.setIfInBounds_toArray, List.set_cons_zero, List.set_cons_succ]
        refine but_take (i := 5) (v := (.slice (some ⟨b, off, none⟩) i cap)) rfl (by kernel_rfl) (by kernel_rfl) (by kernel_rfl) (by kernel_rfl) (fun _ _ _ h => h) (Or.inl ⟨by rfl, ?hy⟩) trivial ?_
        case hy => intro w hSw; (try dsimp only at hSw); go_simp; (try (intro hh; omega))
        try simp only [Act.put, List.setIfInBounds_toArray, List.set_cons_zero, List.set_cons_succ]
        refine but_one (i := 6) (by kernel_rfl) ?_
        refine wpOp_one rfl (by rfl) (fun K' hK => ?_)
        go_simp
        refine hK _ _ ⟨fun _ => trivial, ?_⟩
        clear hK K'
        have hba := below_alloc Z0 (.cells #[.slice (some ⟨b, off + i, none⟩) (xs.length - i) (cap - i), .slice (some ⟨b, off, none⟩) i cap] 33)
        have hZa := HZ.out.trans (hba.mono HZ.out.size)
        have HC3 := hid (concat_any (xs.drop i) (xs.take i) (xs.length - i) i (by simp) (by simp; omega) (some ⟨b, off + i, none⟩) (some ⟨b, off, none⟩) (cap - i) cap Z0.heap.size _ (HD.out.below hZa) (HT.out.below hZa) (by simp) (by simp) (by simp) (by omega) (by omega))
        have HZb := hid hZa
        have HBz := hid (HB0.out.below hba)
        clear hba hZa HZ HB0
        try simp only [Act.put, List.setIfInBounds_toArray, List.set_cons_zero, List.set_cons_succ]
        refine but_one (i := 7) (by kernel_rfl) ?_
        refine wpOp_one rfl (by rfl) (fun K' hK => ?_)
        go_simp
        refine HC3.out.mono ?_; rintro e w4 ⟨at4, ct4, rfl, hI4, hb4, q1, q2⟩
        refine hK _ _ ⟨fun _ => trivial, ?_⟩
        clear hK K'
        have hlr : (xs.drop i ++ xs.take i).length = xs.length := rot_len xs i hi
        rw [hlr] at q1
        have hbz := HZb.out.trans (hb4.mono HZb.out.size)
        have HI4 : Hid (IntsAt w4 at4 (rot xs i)) := hid hI4
        have HB4 := hid (HBz.out.below hb4)
        have HW4 := hid hbz
        rw [hlr]
        clear hI4 hb4 hbz HC3 HBz HZb hlr
        try simp only [Act.put, List.setIfInBounds_toArray, List.set_cons_zero, List.set_cons_succ]
        refine but_one (i := 8) (by kernel_rfl) ?_
        refine wpOp_one rfl (by rfl) (fun K hK => ?_)
        go_simp
        refine hK _ _ ⟨fun h => absurd rfl h, but_done (by kernel_rfl) ?_ _⟩
        clear hK K
        try simp only [Act.put, List.setIfInBounds_toArray, List.set_cons_zero, List.set_cons_succ]
        have HCM := hid (compare_any (rot xs i) (bestF xs i) at4 ad ct4 cd w4 HI4.out HB4.out (by rw [rot_len xs i hi, bestF_len xs i hi]) (by rw [rot_len xs i hi]; unfold maxLen; omega))
        have hl1 := rot_len xs i hi
        have hl2 := bestF_len xs i hi
        rw [hl1, hl2] at HCM
        have HL := hid (show bestF xs (i + 1) = if ltW (rot xs i) (bestF xs i) = true then rot xs i else bestF xs i from rfl)
        clear hl1 hl2
        go_wp2_with fail
        refine HCM.out.mono ?_; rintro e w5 ⟨c, rfl, hcl, hb5⟩
        have HB5 := hid (HB4.out.below hb5)
        have HI5 := hid (HI4.out.below hb5)
        have HW5 := hid (HW4.out.trans (hb5.mono HW4.out.size))
        clear HB4 HI4 HW4 hb5 HCM
        by_cases hc0 : c < 0
        · rw [decide_eq_true hc0] at hcl
          have HL2 := HL.out
          rw [if_pos hcl.symm] at HL2
          have HL2 := hid HL2
          clear hcl HL
          go_wp2_with fail
          go_roundw
          case rel => exact ⟨i + 1, at4, ct4, by go_num, by omega, rfl, by rw [HL2.out]; exact HI5.out, q1, q2, HW5.out⟩
          case measure => simp [intOf]; omega
        · rw [decide_eq_false hc0] at hcl
          have HL2 := HL.out
          rw [← hcl, if_neg (by decide)] at HL2
          have HL2 := hid HL2
          clear hcl HL
          go_wp2_with fail
          go_roundw
          case rel => exact ⟨i + 1, ad, cd, by go_num, by omega, rfl, by rw [HL2.out]; exact HB5.out, k1, k2, HW5.out⟩
          case measure => simp [intOf]; omega
      · obtain rfl : i = xs.length := by omega
        have j2 : ¬ (xs.length : Int) < (xs.length : Int) := by omega
        have hlb := bestF_len xs xs.length (Nat.le_refl _)
        go_wp2_with fail
        go_ret2
        exact ⟨ad, cd, by rw [hlb]; rfl, HB.out, HBb.out, by rw [hlb]; exact k1, k2⟩
  · have d1 : (wrdE 6 xs == 0) = false := beq_eq_false_iff_ne.2 h0
    have d2 : (wrdE 6 xs != 0) = true := by rw [bne, d1]; rfl
    rw [frsR_bad h0]
    clear h0
    generalize wrdE 6 xs = ev at *
    go_enter Try.func60, Try.ntmps60
    go_wp2_with fail
    refine HV.out.mono ?_; rintro e w1 ⟨rfl, hb1⟩
    go_wp2_with fail
    go_ret2
    exact ⟨none, 0, rfl, fun i hi => absurd hi (Nat.not_lt_zero i), hb1, Nat.le_refl _, Nat.zero_le _⟩
end Go.Proofs.Ytmllbemjcfkmjaa
