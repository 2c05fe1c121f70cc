/- 'TopLattice' returns true. -/
import Derived.Test.YtphcgggohfbmfaaDoorSam
namespace Go.Proofs.YtphcgggohfbmfaaDoor
open Go.RowKit Go.Maps
set_option linter.unusedSimpArgs false
set_option linter.unusedVariables false

theorem ints_nats {w : World} {B : Nat} {v : Value} {l : List Nat} (h : w.ownsRow B 3 1 v l.length (l.map natV)) : ∃ a cap, v = .slice a l.length cap ∧ IntsAt w a (l.map fun i => ((i : Nat) : Int)) := by
  have em : l.map natV = (l.map fun i => ((i : Nat) : Int)).map (Value.int .i64) := by simp [natV, Function.comp_def]
  have el : l.length = (l.map fun i => ((i : Nat) : Int)).length := by simp
  rw [em, el] at h
  obtain ⟨a, cap, rfl, hI, _, _⟩ := own_ints h
  exact ⟨a, cap, by rw [← el], hI⟩
theorem pth_mem {cs : List (Nat × Nat)} {i : Nat} (h : i < cs.length) : pth cs i ∈ cs := by
  have e : pth cs i = cs[i] := by simp [pth, List.getD, h]
  rw [e]; exact List.getElem_mem h
def mth (ms : List Nat) (i : Nat) : Nat := ms.getD i 0
theorem nth_mth (ms : List Nat) (i : Nat) (h : i < ms.length) : nth (ms.map fun i => ((i : Nat) : Int)) i = ((mth ms i : Nat) : Int) := by
  simp [nth, mth, List.getD, h]
structure MenuAt (xs : List Int) (ms : List Nat) (i : Nat) : Prop where
  lt : mth ms i < 256
  feed : ∀ c, c < xs.length → rowN xs c &&& mth ms i ≠ 0
  low : ∀ k, k < i → mth ms k < 256
  apart : ∀ k, k < i → mth ms i &&& mth ms k ≠ mth ms i ∧ mth ms i &&& mth ms k ≠ mth ms k
theorem menus_facts (xs : List Int) (d : Nat) (hk : TblOK xs d) : ∀ i, i < (menusN (rowN xs) xs.length (2 ^ d)).length → MenuAt xs (menusN (rowN xs) xs.length (2 ^ d)) i := by
  have h2d : 2 ^ d ≤ 256 := by have := Nat.pow_le_pow_right (n := 2) (by omega) hk.d8; simpa using this
  have nd := menusN_nodup (rowN xs) xs.length (2 ^ d)
  have hall : ∀ m, m ∈ menusN (rowN xs) xs.length (2 ^ d) → m < 256 ∧ leastN (rowN xs) xs.length m = true := fun m hm => ⟨Nat.lt_of_lt_of_le (mem_menusN.1 hm).1 h2d, (mem_menusN.1 hm).2⟩
  generalize menusN (rowN xs) xs.length (2 ^ d) = ms at *
  intro i hi
  have hm : ∀ k, k < ms.length → mth ms k ∈ ms := fun k h => by
    have e : mth ms k = ms[k] := by simp [mth, List.getD, h]
    rw [e]; exact List.getElem_mem h
  have hL := hall _ (hm i hi)
  refine ⟨hL.1, ?_, fun k hk => (hall _ (hm k (by omega))).1, fun k hk => ?_⟩
  · have := hL.2
    unfold leastN at this
    rw [Bool.and_eq_true] at this
    exact feed_iff.1 this.1
  · have hK := hall _ (hm k (by omega))
    have hne : mth ms i ≠ mth ms k := by
      have e1 : mth ms i = ms[i] := by simp [mth, List.getD, hi]
      have e2 : mth ms k = ms[k]'(by omega) := by simp [mth, List.getD, show k < ms.length by omega]
      rw [e1, e2]
      intro e
      have := (List.getElem_inj nd).1 e
      omega
    refine ⟨fun e => hne (least_apart hK.1 hL.2 hK.2 e), fun e => hne (least_apart hL.1 hK.2 hL.2 ?_).symm⟩
    rw [Nat.and_comm]; exact e
theorem row_nat {xs : List Int} {d : Nat} (hk : TblOK xs d) (c : Nat) (hc : c < xs.length) : nth xs c = ((rowN xs c : Nat) : Int) ∧ rowN xs c < 256 := by
  have h2d : 2 ^ d ≤ 256 := by have := Nat.pow_le_pow_right (n := 2) (by omega) hk.d8; simpa using this
  have := hk.el c hc
  unfold rowN
  omega
set_option maxRecDepth 100000 in
set_option maxHeartbeats 4000000 in
theorem top_any (xs : List Int) (D : Int) (a : Option Addr) (cap : Nat) (W : World) (hI : IntsAt W a xs) (hm : xs.length ≤ maxLen) (hT : TabW W) :
    Calls Tryd.prog 3 #[.slice a xs.length cap, .int .i64 D] W fun e w' => e = .returned (.bool true) ∧ Below W.heap.size W w' := by
  have bA := below_alloc W (.cells #[.int .i64 3, .int .i64 6] 3)
  have hM := menus_any [3, 6] 3 val36 (some ⟨W.heap.size, 0, none⟩) 2 (W.alloc (.cells #[.int .i64 3, .int .i64 6] 3)) (intsAt_alloc W [3, 6] 3) (hT.below hT.lt bA bA.size)
  rw [show (2 : Nat) ^ 3 = 8 by decide, show ([3, 6] : List Int).length = 2 by rfl, menus36] at hM
  have HM := hid hM
  have HI := hid hI
  have HT := hid hT
  have HA := hid bA
  have Hm := hid hm
  clear hM hI hT bA hm
  go_enter Tryd.func3, Tryd.ntmps3
  go_wp2_with fail
  refine HM.out.mono ?_
  rintro e w1 ⟨v, rfl, ho, hb⟩
  obtain ⟨a1, c1, rfl, h1⟩ := ints_nats ho
  have HB1 := hid (HA.out.trans (hb.mono HA.out.size))
  have hS := same_any [2, 5] a1 (some ⟨w1.heap.size, 0, none⟩) c1 2 (w1.alloc (.cells #[.int .i64 2, .int .i64 5] 3)) (h1.below (below_alloc _ _)) (intsAt_alloc w1 [2, 5] 3) (by unfold maxLen; decide)
  have HS := hid hS
  have HA1 := hid (below_alloc w1 (.cells #[.int .i64 2, .int .i64 5] 3))
  clear hb ho h1 hS HM HA
  go_wp2_with fail
  refine HS.out.mono ?_
  rintro e w2 ⟨rfl, hb⟩
  have HB2 := hid (HB1.out.trans ((HA1.out.trans (hb.mono HA1.out.size)).mono HB1.out.size))
  clear hb HA1 HB1 HS
  by_cases h60 : 60 < xs.length
  · have i60 : (60 : Int) < (xs.length : Int) := by omega
    go_wp2_with fail
    go_ret
    exact ⟨rfl, HB2.out⟩
  · have i60 : ¬ (60 : Int) < (xs.length : Int) := by omega
    have hI2 := HI.out.below HB2.out
    have hT2 := HT.out.below HT.out.lt HB2.out HB2.out.size
    by_cases hv : valE xs D = 0
    · obtain ⟨⟨hd0, hd8⟩, hk⟩ := val_ok hv
      obtain ⟨d, rfl⟩ : ∃ d : Nat, D = d := ⟨D.toNat, by omega⟩
      rw [Int.toNat_natCast] at hk
      have HP := hid (pairs_any xs d hv a cap w2 hI2 hT2)
      have Hk := hid hk
      have Hv := hid hv
      clear hk hv hd0 hd8 hI2 hT2
      go_wp2_with fail
      refine HP.out.mono ?_
      rintro e w3 ⟨v, rfl, ho, hb⟩
      have hn8 := Hk.out.n8
      obtain ⟨ap, cp, rfl, hPA⟩ := own_pairs ho
      have HB3 := hid (HB2.out.trans (hb.mono HB2.out.size))
      have h256 : 2 ^ xs.length ≤ 256 := by have := Nat.pow_le_pow_right (n := 2) (by omega) hn8; simpa using this
      have hlen : (pairsN (rowN xs) xs.length d (2 ^ xs.length)).length ≤ 256 := Nat.le_trans (pairsN_le _ _ _ _) h256
      have HPd := hid (fun w hw => paired_any xs d Hv.out (pairsN (rowN xs) xs.length d (2 ^ xs.length)) (fun p => mem_pairsN) a cap ap cp w (HI.out.below (HB3.out.trans (hw.mono HB3.out.size))) (HT.out.below HT.out.lt (HB3.out.trans (hw.mono HB3.out.size)) (by have := HB3.out.size; have := hw.size; omega)) (hPA.below hw) hlen)
      have HPA := hid hPA
      clear hb ho HP HB2 hPA h256 hn8
      generalize pairsN (rowN xs) xs.length d (2 ^ xs.length) = cs at *
      generalize decide (60 < (xs.length : Int)) = q60 at *
      go_wp2_with fail
      go_loopw [8, 9] (fun v8 v9 w' => ∃ i : Nat, v8 = .int .i64 (i : Nat) ∧ i ≤ cs.length ∧ Below w3.heap.size w3 w') (fun v8 _ _ => cs.length - intOfV v8)
      case atStart => exact ⟨0, rfl, by omega, Below.refl _ _⟩
      case round =>
        obtain ⟨i, rfl, hi, hbo⟩ := hrel
        obtain ⟨wo, hwo⟩ : ∃ wo, wo = wr := ⟨_, rfl⟩
        subst hwo
        by_cases hlt : i < cs.length
        · have i1 : (i : Int) < (cs.length : Int) := by omega
          have Hbo := hid hbo
          have Hlt := hid hlt
          clear hlt hbo hi
          go_wp2_with fail
          go_loopw [9] (fun v9 w' => ∃ k : Nat, v9 = .int .i64 (k : Nat) ∧ k ≤ i ∧ Below wo.heap.size wo w') (fun v9 _ => i - intOfV v9)
          case atStart => exact ⟨0, rfl, by omega, Below.refl _ _⟩
          case round =>
            obtain ⟨k, rfl, hk, hb⟩ := hrel
            by_cases hki : k < i
            · have hlt := Hlt.out
              have hb3 := Hbo.out.trans (hb.mono Hbo.out.size)
              have hP := HPA.out.below hb3
              obtain ⟨b, off, hap, hbl, x0, x1⟩ := hP i hlt
              obtain ⟨b', off', hap', hbl', y0, y1⟩ := hP k (by omega)
              subst hap
              cases hap'
              have X0 := cell_regrown x0
              have X1 := cell_regrown x1
              have Y0 := cell_regrown y0
              have Y1 := cell_regrown y1
              have hpi : pth cs i ∈ cs := pth_mem hlt
              have hpk : pth cs k ∈ cs := pth_mem (by omega)
              have HC := hid (fun w hw => HPd.out w (hb3.trans (Below.mono hw hb3.size)) (pth cs i) (pth cs k) hpi hpk)
              have Hb := hid hb
              have Hki := hid hki
              have j1 : (k : Int) < (i : Int) := by omega
              have j2 : (0 : Int) ≤ (i : Int) := by omega
              have j3 : (0 : Int) ≤ (k : Int) := by omega
              have j4 : (k : Int) < (cs.length : Int) := by omega
              clear hlt hb3 hP hpi hpk hb hki hk x0 x1 y0 y1 HPd HPA
              unfold natV at *
              generalize pth cs i = pi at *
              generalize pth cs k = pk at *
              go_wp2_with fail
              refine wp_region_quiet_below (by kernel_rfl) (by kernel_rfl) ?_
              refine Qt.out ?_
              iterate 13 (refine qt_want (by kernel_rfl) (fun K hK => ?_); go_simp; first | (refine hK _ ?_; clear hK K) | (apply Exists.intro; refine ⟨fun p => ?_, hK _ ?_⟩; (go_at_call 7; exact Calls.regrown_of (HC.out _ (below_regrown _ p.d p.os))); clear hK K))
              refine qt_nil ?_
              intro _ hw'
              obtain ⟨p, hw''⟩ := hw'
              subst hw''
              go_wp2_with fail
              go_roundw
              case rel => exact ⟨k + 1, by go_num, Hki.out, Hb.out.trans ((below_regrown wr p.d p.os).mono Hb.out.size)⟩
              case measure => have := Hki.out; simp [intOfV] <;> omega
            · have j1 : ¬ (k : Int) < (i : Int) := by omega
              have Hb := hid (Hbo.out.trans (hb.mono Hbo.out.size))
              clear hki hb hk
              go_wp2_with fail
              go_roundw
              case rel => exact ⟨i + 1, by go_num, Hlt.out, Hb.out⟩
              case measure => have := Hlt.out; simp [intOfV] <;> omega
        · have i1 : ¬ (i : Int) < (cs.length : Int) := by omega
          have HBo := hid (HB3.out.trans (hbo.mono HB3.out.size))
          have HN := hid (menus_any xs d Hv.out a cap wo (HI.out.below HBo.out) (HT.out.below HT.out.lt HBo.out HBo.out.size))
          have HF := hid (menus_facts xs d Hk.out)
          have HR := hid (row_nat Hk.out)
          have h2d : 2 ^ d ≤ 256 := by have := Nat.pow_le_pow_right (n := 2) (by omega) Hk.out.d8; simpa using this
          have hml : (menusN (rowN xs) xs.length (2 ^ d)).length ≤ 256 := Nat.le_trans (menusN_le _ _ _) h2d
          clear h2d
          clear hlt hbo hi HPd HPA hlen HB3
          generalize menusN (rowN xs) xs.length (2 ^ d) = ms at *
          go_wp2_with fail
          refine HN.out.mono ?_
          rintro e w4 ⟨v, rfl, ho, hb⟩
          obtain ⟨a4, c4, rfl, h4⟩ := ints_nats ho
          have HB4 := hid (HBo.out.trans (hb.mono HBo.out.size))
          have HI4 := hid h4
          clear hb ho h4 HN HBo
          go_wp2_with fail
          go_loopw [11, 12, 13] (fun v11 v12 v13 w' => ∃ i : Nat, v11 = .int .i64 (i : Nat) ∧ i ≤ ms.length ∧ Below w4.heap.size w4 w') (fun v11 _ _ _ => ms.length - intOfV v11)
          case atStart => exact ⟨0, rfl, by omega, Below.refl _ _⟩
          case round =>
            obtain ⟨i2, rfl, hi2, hbo⟩ := hrel
            by_cases hlt : i2 < ms.length
            · have i2l : (i2 : Int) < (ms.length : Int) := by omega
              have Hbo := hid hbo
              have Hlt := hid hlt
              have hF := HF.out i2 hlt
              obtain ⟨w5, hw5⟩ : ∃ w5, w5 = wr := ⟨_, rfl⟩
              subst hw5
              clear hlt hbo hi2 HF
              go_wp2_with fail
              go_loopw [12] (fun v12 w' => ∃ c : Nat, v12 = .int .i64 (c : Nat) ∧ c ≤ xs.length ∧ Below w5.heap.size w5 w') (fun v12 _ => xs.length - intOfV v12)
              case atStart => exact ⟨0, rfl, by omega, Below.refl _ _⟩
              case round =>
                obtain ⟨c, rfl, hc, hb⟩ := hrel
                by_cases hcl : c < xs.length
                · have hb4 := Hbo.out.trans (hb.mono Hbo.out.size)
                  have hbW := HB4.out.trans (hb4.mono HB4.out.size)
                  have hR := HR.out c hcl
                  obtain ⟨b, off, hap, hbl, x0⟩ := HI.out.below hbW c hcl
                  obtain ⟨b', off', hap', hbl', y0⟩ := HI4.out.below hb4 i2 (by rw [List.length_map]; exact Hlt.out)
                  rw [hR.1] at x0
                  rw [nth_mth ms i2 Hlt.out] at y0
                  subst hap
                  subst hap'
                  have hband := bits_and_nat (rowN xs c) (mth ms i2) (by omega) (by have := hF.lt; omega)
                  have hq := hF.feed c hcl
                  have Hb := hid hb
                  have Hcl := hid hcl
                  have j1 : (c : Int) < (xs.length : Int) := by omega
                  have j2 : (0 : Int) ≤ (i2 : Int) := by omega
                  have j3 : (0 : Int) ≤ (c : Int) := by omega
                  clear hb4 hbW hR hb hcl hc hF HR Hv Hk Hm HT HI HI4
                  generalize rowN xs c = r at *
                  generalize mth ms i2 = m at *
                  have hne : (((r &&& m : Nat) : Int) == 0) = false := by simp; omega
                  generalize r &&& m = q at *
                  clear hq
                  go_wp2_with fail
                  go_quiet (fail)
                  go_wp2_with fail
                  go_roundw
                  case rel => exact ⟨c + 1, by go_num, Hcl.out, below_drewN Hb.out _⟩
                  case measure => have := Hcl.out; simp [intOfV] <;> omega
                · have j1 : ¬ (c : Int) < (xs.length : Int) := by omega
                  have Hb4 := hid (Hbo.out.trans (hb.mono Hbo.out.size))
                  have HF := hid hF
                  clear hb hcl hc hF HR Hv Hk Hm HT Hbo
                  go_wp2_with fail
                  obtain ⟨w6, hw6⟩ : ∃ w6, w6 = wr := ⟨_, rfl⟩
                  subst hw6
                  go_loopw [13] (fun v13 w' => ∃ k : Nat, v13 = .int .i64 (k : Nat) ∧ k ≤ i2 ∧ Below w6.heap.size w6 w') (fun v13 _ => i2 - intOfV v13)
                  case atStart => exact ⟨0, rfl, by omega, Below.refl _ _⟩
                  case round =>
                    obtain ⟨k, rfl, hk, hb⟩ := hrel
                    by_cases hki : k < i2
                    · have hlt := Hlt.out
                      have hb4 := Hb4.out.trans (hb.mono Hb4.out.size)
                      obtain ⟨b, off, hap, hbl, x0⟩ := HI4.out.below hb4 i2 (by rw [List.length_map]; exact hlt)
                      obtain ⟨b', off', hap', hbl', y0⟩ := HI4.out.below hb4 k (by rw [List.length_map]; omega)
                      subst hap
                      cases hap'
                      rw [nth_mth ms i2 hlt] at x0
                      rw [nth_mth ms k (by omega)] at y0
                      have hF := HF.out
                      have hband := bits_and_nat (mth ms i2) (mth ms k) (by have := hF.lt; omega) (by have := hF.low k hki; omega)
                      have hq := hF.apart k hki
                      have Hb := hid hb
                      have Hki := hid hki
                      have j2 : (k : Int) < (i2 : Int) := by omega
                      have j3 : (0 : Int) ≤ (i2 : Int) := by omega
                      have j4 : (0 : Int) ≤ (k : Int) := by omega
                      have j5 : (k : Int) < (ms.length : Int) := by omega
                      clear hb4 hb hki hk hF HF HI HI4 hlt Hb4 HB4
                      generalize mth ms i2 = r at *
                      generalize mth ms k = m at *
                      generalize r &&& m = q at *
                      have hn1 : (((q : Nat) : Int) == (r : Int)) = false := by have := hq.1; simp; omega
                      have hn2 : (((q : Nat) : Int) == (m : Int)) = false := by have := hq.2; simp; omega
                      clear hq
                      go_wp2_with fail
                      go_quiet (fail)
                      go_wp2_with fail
                      go_roundw
                      case rel => exact ⟨k + 1, by go_num, Hki.out, below_drewN Hb.out _⟩
                      case measure => have := Hki.out; simp [intOfV] <;> omega
                    · have j2 : ¬ (k : Int) < (i2 : Int) := by omega
                      have Hz := hid (Hb4.out.trans (hb.mono Hb4.out.size))
                      clear hb hki hk HF HI HI4 Hb4
                      go_wp2_with fail
                      go_roundw
                      case rel => exact ⟨i2 + 1, by go_num, Hlt.out, Hz.out⟩
                      case measure => have := Hlt.out; simp [intOfV] <;> omega
            · have i2l : ¬ (i2 : Int) < (ms.length : Int) := by omega
              have HBz := hid (HB4.out.trans (hbo.mono HB4.out.size))
              clear hlt hbo hi2 HF
              go_wp2_with fail
              go_ret
              exact ⟨rfl, HBz.out⟩
    · have HP := hid (pairs_err xs D hv a cap w2 hI2)
      have hne : (valE xs D == 0) = false := by simpa using hv
      clear hI2 hT2 hv
      generalize valE xs D = E at *
      go_wp2_with fail
      refine HP.out.mono ?_
      rintro e w3 ⟨rfl, hb⟩
      have HB3 := hid (HB2.out.trans (hb.mono HB2.out.size))
      clear hb HP
      go_wp2_with fail
      go_ret
      exact ⟨rfl, HB3.out⟩
end Go.Proofs.YtphcgggohfbmfaaDoor
