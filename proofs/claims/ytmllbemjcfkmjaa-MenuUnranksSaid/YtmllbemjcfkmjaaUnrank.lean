/- 'Unrank' and the document's: what they return. -/
import Derived.Test.YtmllbemjcfkmjaaUnLaw
import Derived.Test.YtmllbemjcfkmjaaTable
namespace Go.Proofs.Ytmllbemjcfkmjaa
open Go.RowKit
set_option linter.unusedSimpArgs false
set_option linter.unusedVariables false

set_option maxRecDepth 100000 in
set_option maxHeartbeats 4000000 in
theorem Unrank_any (m : Mac) (a a2 : Option Addr) (cap cap2 : Nat) (n r0 : Int) (W : World) (hM : MacAt W a cap a2 cap2 m) :
    Calls Try.prog 31 #[.agg #[.int .i64 m.L, .slice a m.nx.length cap, .slice a2 m.ac.length cap2], .int .i64 n, .int .i64 r0] W (IntsE (unkR m n r0) (unkE m n r0) W) := by
  have hb0 := below_alloc W (.cells #[.int .i64 m.L, .slice a m.nx.length cap, .slice a2 m.ac.length cap2] 25)
  have HM := hid (hM.below hb0)
  have Hv := hid (sized_any m a a2 cap cap2 n (W.alloc (.cells #[.int .i64 m.L, .slice a m.nx.length cap, .slice a2 m.ac.length cap2] 25)) HM.out)
  have HB := hid hb0
  clear hM hb0
  obtain ⟨i0, hi0, hz0, hz1, hz2⟩ := info_parts info3
  by_cases hv : sizE m n = 0
  · obtain ⟨hOK, h0, h20⟩ := sizE_zero.1 hv
    have R1 := hid (fun h1 h2 => unk_ok (m := m) (n := n) (r := r0) hv h1 h2)
    have R0 := hid (fun h => unk_no (m := m) (n := n) (r := r0) hv h)
    rw [hv] at Hv
    clear hv
    obtain ⟨nn, rfl⟩ : ∃ k : Nat, n = k := ⟨n.toNat, by omega⟩
    simp only [Int.toNat_natCast] at R1 R0
    have HN := hid hOK.n1
    have h64 := hOK.n64
    have HOK := hid hOK
    clear hOK
    go_enter Try.func31, Try.ntmps31
    go_wp2_with fail
    refine Hv.out.mono ?_; rintro e w1 ⟨rfl, hb1⟩
    have hX := box_at (B := W.heap.size + 1) (by simpa using hb1) rfl
    have x0 := hX.c0
    have x1 := hX.c1
    have x2 := hX.c2
    have xl := hX.lt
    have HM1 := hid (HM.out.below hb1)
    have Ht := hid (counts_any m a a2 cap cap2 nn w1 HM1.out HOK.out (by omega))
    have HB1 := hid (HB.out.trans (hb1.mono HB.out.size))
    clear hX hb1
    go_wp2_with fail
    refine Ht.out.mono ?_; rintro e w2 ⟨v, b, cp, rfl, hT, hb2⟩
    have HB2 := hid (HB1.out.trans (hb2.mono HB1.out.size))
    have HM2 := hid (HM1.out.below hb2)
    have y1 := (hb2.cell (p := ⟨W.heap.size, 1, none⟩) xl).trans x1
    have yl : W.heap.size < w2.heap.size := by have := hb2.size; omega
    have HY1 := hid y1
    obtain ⟨gk, t1, hlg, ht⟩ := hT.row nn (by omega)
    have t2 := ht 0 HN.out
    have hlb := hT.lt
    have e5 := hT.eq
    subst e5
    have HT := hid hT
    have hcb := cnt_bd m HOK.out.l6 nn 0
    unfold cntI at t2
    have hN := HN.out
    have i1 : (0 : Int) ≤ (nn : Int) := by omega
    have i2 : (nn : Int) < (nn : Int) + 1 := by omega
    have HC : Hid (cnt m nn ((0 : Nat) : Int) = cnt m nn 0) := hid rfl
    rw [HC.out] at t2
    clear hb2 ht hT x0 x1 x2 xl y1
    by_cases hr0 : r0 < 0
    · have R := hid (R0.out (.inl hr0))
      have hz := HB2.out
      generalize cnt m nn 0 = cv at *
      go_wp2_with fail
      go_ret2
      refine ⟨none, 0, by rw [R.out.1, R.out.2]; rfl, by rw [R.out.2]; exact fun i hi => absurd hi (Nat.not_lt_zero i), hz, by rw [R.out.2]; exact Nat.le_refl _, Nat.zero_le _⟩
    by_cases hr1 : cnt m nn 0 ≤ r0
    · have R := hid (R0.out (.inr hr1))
      have hz := HB2.out
      generalize cnt m nn 0 = cv at *
      go_wp2_with fail
      go_ret2
      refine ⟨none, 0, by rw [R.out.1, R.out.2]; rfl, by rw [R.out.2]; exact fun i hi => absurd hi (Nat.not_lt_zero i), hz, by rw [R.out.2]; exact Nat.le_refl _, Nat.zero_le _⟩
    have R := hid (R1.out (by omega) (by omega))
    have hrlt : r0 < cnt m nn 0 := by omega
    have hr0' : 0 ≤ r0 := by omega
    generalize hcv : cnt m nn 0 = cv at *
    have Hcv := hid hcv
    clear hcv
    go_wp2_with fail
    go_loopw [2, 10, 11, 12, 13] (fun v2 v10 v11 v12 v13 w' => ∃ (k s : Nat) (r : Int) (pre : List Int), k ≤ nn ∧ v12 = .int .i64 ((k : Int) - 1) ∧ v2 = .int .i64 r ∧ v11 = .int .i64 s ∧ w'.ownsRow w2.heap.size 3 1 v10 pre.length (pre.map (Value.int .i64)) ∧ Hid (pre.length = nn - k) ∧ Hid (unr m nn 0 r0 = pre ++ unr m k s r) ∧ 0 ≤ r ∧ Hid (r < cnt m k s) ∧ s < m.nx.length ∧ Below w2.heap.size w2 w') (fun _ _ _ v12 _ _ => (intOf v12 + 1).toNat)
    case atStart => exact ⟨nn, 0, r0, [], Nat.le_refl _, by first | rfl | go_num, rfl, rfl, World.ownsRow_nil _ _ _ _, hid (by simp), hid rfl, by omega, hid (by show r0 < cnt m nn 0; rw [Hcv.out]; exact hrlt), by omega, Below.refl _ _⟩
    case round =>
      obtain ⟨k, s, r, pre, hk, rfl, rfl, rfl, hown, HPL, HU, hr, HRL, hs, hb⟩ := hrel
      cases k with
      | zero =>
        obtain ⟨ap, cpp, rfl, hIp, hl1, hl2⟩ := own_ints hown
        have Hpre : Hid (unkR m nn r0 = pre) := hid (by rw [R.out.2, HU.out]; simp [unr])
        have hz := HB2.out.trans (hb.mono HB2.out.size)
        clear hown hb
        go_wp2_with fail
        go_ret2
        exact ⟨ap, cpp, by rw [R.out.1, Hpre.out]; rfl, by rw [Hpre.out]; exact hIp, hz, by rw [Hpre.out]; exact hl1, hl2⟩
      | succ k =>
        have e12 : (((k + 1 : Nat) : Int) - 1) = (k : Int) := by omega
        rw [e12]
        have hsw := hb.size
        have x1 := (hb.cell (p := ⟨W.heap.size, 1, none⟩) yl).trans HY1.out
        have xl : W.heap.size < wr.heap.size := by omega
        have hlbr : b < wr.heap.size := by omega
        obtain ⟨b1, o1, rfl, hb1, ra, rc, hc0, q1, q2, hIA⟩ := HM2.out.nx s hs
        have hc := (hb.cell (p := ⟨b1, o1 + s, none⟩) hb1).trans hc0
        have Hc0 := hid hc0
        have hb1r : b1 < wr.heap.size := by omega
        have hel := HOK.out.el s hs
        have hrl := HOK.out.len s hs
        have h6 := HOK.out.l6
        have h1L := HOK.out.l1
        have hl6 : (rowOf m s).length ≤ 6 := by omega
        have HTr := hid (HT.out.below hb)
        obtain ⟨gk', t1', hlg', ht'⟩ := HTr.out.row k (by omega)
        have Hht := hid ht'
        have HEl := hid hel
        have HIA := hid hIA
        have HLn : Hid ((rowOf m s).length = m.L.toNat) := hid (by omega)
        have hcb' := fun t => cnt_bd m h6 k t
        have HCB := hid hcb'
        have hS := six_le (show k ≤ 20 by omega)
        have HRL2 : Hid (r < sumS m k s m.L.toNat) := hid HRL.out
        have HS0 : Hid (sumS m k s 0 = 0) := hid rfl
        have HL1 : Hid (0 < m.L.toNat) := hid (by omega)
        have Hown := hid hown
        have Hb := hid hb
        have hrb : r ≤ 21936950640377856 := by
          have := cnt_bd m h6 (k + 1) (s : Int)
          have h7 := HRL.out
          have h8 : six (k + 1) = 6 * six k := rfl
          omega
        have i3 : (0 : Int) ≤ (s : Int) := by omega
        have i4 : (s : Int) < (m.nx.length : Int) := by omega
        have i5 : (0 : Int) ≤ (k : Int) := by omega
        have i6 : (k : Int) < (nn : Int) + 1 := by omega
        clear hel hIA hrl hcb' hown hb ht' h1L h6 t1 t2 e12 hc0
        have hlb' := hlbr
        obtain ⟨Y, hY⟩ : ∃ Y, Y = wr := ⟨_, rfl⟩
        subst hY
        go_wp2_with fail
        go_loopw [2, 13] (fun v2 v13 w' => ∃ (c : Nat) (r' : Int), Hid (c < m.L.toNat) ∧ v13 = .int .i64 c ∧ v2 = .int .i64 r' ∧ Hid (r' + sumS m k s c = r) ∧ 0 ≤ r' ∧ r' ≤ 21936950640377856 ∧ ∃ nd, w' = Y.drewN nd) (fun _ v13 _ => m.L.toNat - (intOf v13).toNat)
        case atStart => exact ⟨0, r, HL1, rfl, rfl, hid (by rw [HS0.out]; omega), hr, hrb, 0, rfl⟩
        case round =>
          obtain ⟨c, r', HcL, rfl, rfl, HRS, hr', hrb', nd, rfl⟩ := hrel
          have hcl : c < (rowOf m s).length := by rw [HLn.out]; exact HcL.out
          obtain ⟨br, or', rfl, hbr, ct0⟩ := HIA.out c hcl
          have ct := (Hb.out.cell (p := ⟨br, or' + c, none⟩) hbr).trans ct0
          have hbrY : br < Y.heap.size := by omega
          have hte := HEl.out c hcl
          obtain ⟨tn, htn⟩ : ∃ tn : Nat, nth (rowOf m s) c = (tn : Int) := ⟨(nth (rowOf m s) c).toNat, by omega⟩
          have HST : Hid (stepM m (s : Int) c = (tn : Int)) := hid (by show nth (rowOf m ((s : Int)).toNat) c = _; simpa using htn)
          rw [htn] at ct ct0 hte
          have Hct0 := hid ct0
          have htN : tn < m.nx.length := by omega
          have t3 := Hht.out tn htN
          have hcb := HCB.out (tn : Int)
          have HSS := hid (sumS_succ m k (s : Int) c)
          unfold cntI at t3
          have Hct := hid (show cnt m k (stepM m (s : Int) c) = cnt m k (tn : Int) by rw [HST.out])
          generalize hcv2 : cnt m k (tn : Int) = cv2 at *
          have HCV2 := hid hcv2
          clear hcv2 htn ct0
          have k0 : (0 : Int) ≤ (c : Int) := by omega
          have k1 : (c : Int) < ((rowOf m s).length : Int) := by omega
          have l1 : (tn : Int) < (m.nx.length : Int) := by omega
          have l0 : (0 : Int) ≤ (tn : Int) := by omega
          generalize six k = sx at *
          by_cases hge : cv2 ≤ r'
          · have HcL2 : Hid (c + 1 < m.L.toNat) := hid (by
              have h1 := HcL.out
              have h2 := HRS.out
              have h3 := HRL2.out
              have h4 := HSS.out
              rw [Hct.out] at h4
              by_cases e : c + 1 = m.L.toNat
              · rw [← e] at h3; omega
              · omega)
            have HRS2 : Hid ((r' - cv2) + sumS m k s (c + 1) = r) := hid (by
              have h2 := HRS.out
              have h4 := HSS.out
              rw [Hct.out] at h4
              omega)
            have wk : IntKind.i64.wrap (k : Int) = (k : Int) := IntWalk.i64_in _ (by omega)
            have wr' : IntKind.i64.wrap (r' - cv2) = r' - cv2 := IntWalk.i64_in _ (by omega)
            go_wp2_with fail
            go_quiet (fail)
            go_wp2_with fail
            go_quiet (fail)
            clear wk wr'
            go_wp2_with fail
            go_roundw
            case rel => exact ⟨c + 1, r' - cv2, HcL2, by go_num, rfl, HRS2, by omega, by omega, _, rfl⟩
            case measure => have := HcL.out; simp [intOf]; omega
          · have hgt : r' < cv2 := by omega
            have HUN : Hid (unr m (k + 1) s r = (c : Int) :: unr m k (tn : Int) r') := hid (by
              have h2 := HRS.out
              have h4 := HSS.out
              rw [Hct.out] at h4
              have := unr_step (m := m) HOK.out.l6 (k := k) (s := (s : Int)) (r := r) (a := c) (by omega) (by omega)
              rw [this, HST.out]
              congr 2
              omega)
            have HU2 : Hid (unr m nn 0 r0 = (pre ++ [(c : Int)]) ++ unr m k (tn : Int) r') := hid (by rw [HU.out, HUN.out]; simp)
            have HRL3 : Hid (r' < cnt m k (tn : Int)) := hid (by rw [HCV2.out]; exact hgt)
            have HPL2 : Hid ((pre ++ [(c : Int)]).length = nn - k) := hid (by have := HPL.out; simp; omega)
            have hpl : pre.length ≤ 20 := by have := HPL.out; omega
            have Hmap : Hid (pre.map (Value.int .i64) ++ [.int .i64 (c : Int)] = (pre ++ [(c : Int)]).map (Value.int .i64)) := hid (by simp)
            have Hlen : Hid (pre.length + 1 = (pre ++ [(c : Int)]).length) := hid (by simp)
            have wk : IntKind.i64.wrap (k : Int) = (k : Int) := IntWalk.i64_in _ (by omega)
            go_wp2_with fail
            go_quiet (fail)
            clear wk
            have hbZ : ∀ q, Below Y.heap.size Y ((Y.drewN nd).drewN q) := fun q => below_quiet (below_quiet (Below.refl _ _))
            generalize hZ : (Y.drewN nd).drewN _ = Z
            have hYZ : Below Y.heap.size Y Z := by rw [← hZ]; exact hbZ _
            clear hZ hbZ
            have hszZ := hYZ.size
            have z1 := (hYZ.cell (p := ⟨W.heap.size, 1, none⟩) xl).trans x1
            have zl : W.heap.size < Z.heap.size := by omega
            have zc := (hYZ.cell (p := ⟨b1, o1 + s, none⟩) hb1r).trans hc
            have zt := (hYZ.cell (p := ⟨br, or' + c, none⟩) hbrY).trans ct
            have Hz1 := hid z1
            have Hzc := hid zc
            have Hzt := hid zt
            have HownZ := hid (own_below Hown.out hYZ)
            have HbZ := hid (Hb.out.trans (hYZ.mono hsw))
            clear z1 zc zt hYZ
            go_wp2_with (at_builtin; go_loud (refine wpList_append_own _ rfl _ _ 33 rfl w2.heap.size 3 i0 (.int .i64 0) 1 8 Try.underlying33 hi0 hz0 hz1 hz2 rfl (by decide) _ _ _ rfl (HownZ.out.alloc _) ⟨Z.heap.size, 0, none⟩ 1 1 [.int .i64 (c : Int)] rfl rfl (news_1 Z (.int .i64 (c : Int)) 3).out (by simp [Value.oneCell']) (by unfold maxLen; omega) (by omega) (by simp; omega) ?_); intro v' w6 hown6 hgrow6 _; rw [Hmap.out, Hlen.out] at hown6; have hb6 := (HbZ.out.alloc HbZ.out.size (.cells #[.int .i64 (c : Int)] 3)).grown hgrow6 (by have := HbZ.out.size; simp at this ⊢; omega) (fun t ht => (HownZ.out.lt _ ht).1); have u1 := (hb6.cell (p := ⟨W.heap.size, 1, none⟩) yl).trans HY1.out; have uc := (hb6.cell (p := ⟨b1, o1 + s, none⟩) hb1).trans Hc0.out; have ut := (hb6.cell (p := ⟨br, or' + c, none⟩) hbr).trans Hct0.out; have hs6 := hb6.size; have ul : W.heap.size < w6.heap.size := by omega)
            clear HownZ HbZ hgrow6 u1 uc ut
            go_wp2_with fail
            go_roundw
            case rel => exact ⟨k, tn, r', pre ++ [(c : Int)], by omega, by first | rfl | go_num, rfl, rfl, hown6, HPL2, HU2, hr', HRL3, htN, hb6⟩
            case measure => first | (simp [intOf]; done) | (simp [intOf]; omega)
  · have R := hid (unk_bad (m := m) (n := n) (r := r0) hv)
    have d1 : (sizE m n == 0) = false := beq_eq_false_iff_ne.2 hv
    have d2 : (sizE m n != 0) = true := by rw [bne, d1]; rfl
    clear hv
    go_enter Try.func31, Try.ntmps31
    go_wp2_with fail
    refine Hv.out.mono ?_; rintro e w1 ⟨rfl, hb1⟩
    have hz := HB.out.trans (hb1.mono HB.out.size)
    clear hb1
    go_wp2_with fail
    go_ret2
    exact ⟨none, 0, by rw [R.out.1, R.out.2]; rfl, by rw [R.out.2]; exact fun i hi => absurd hi (Nat.not_lt_zero i), hz, by rw [R.out.2]; exact Nat.le_refl _, Nat.zero_le _⟩

set_option maxRecDepth 100000 in
set_option maxHeartbeats 4000000 in
theorem rUnrank_any (m : Mac) (a a2 : Option Addr) (cap cap2 : Nat) (n r0 : Int) (W : World) (hM : MacAt W a cap a2 cap2 m) :
    Calls Try.prog 33 #[.agg #[.int .i64 m.L, .slice a m.nx.length cap, .slice a2 m.ac.length cap2], .int .i64 n, .int .i64 r0] W (IntsE (unkR m n r0) (unkE m n r0) W) := by
  have hb0 := below_alloc W (.cells #[.int .i64 m.L, .slice a m.nx.length cap, .slice a2 m.ac.length cap2] 25)
  have HM := hid (hM.below hb0)
  have Hv := hid (rsized_any m a a2 cap cap2 n (W.alloc (.cells #[.int .i64 m.L, .slice a m.nx.length cap, .slice a2 m.ac.length cap2] 25)) HM.out)
  have HB := hid hb0
  clear hM hb0
  obtain ⟨i0, hi0, hz0, hz1, hz2⟩ := info_parts info3
  by_cases hv : sizE m n = 0
  · obtain ⟨hOK, h0, h20⟩ := sizE_zero.1 hv
    have R1 := hid (fun h1 h2 => unk_ok (m := m) (n := n) (r := r0) hv h1 h2)
    have R0 := hid (fun h => unk_no (m := m) (n := n) (r := r0) hv h)
    rw [hv] at Hv
    clear hv
    obtain ⟨nn, rfl⟩ : ∃ k : Nat, n = k := ⟨n.toNat, by omega⟩
    simp only [Int.toNat_natCast] at R1 R0
    have HN := hid hOK.n1
    have h64 := hOK.n64
    have HOK := hid hOK
    clear hOK
    go_enter Try.func33, Try.ntmps33
    go_wp2_with fail
    refine Hv.out.mono ?_; rintro e w1 ⟨rfl, hb1⟩
    have hX := box_at (B := W.heap.size + 1) (by simpa using hb1) rfl
    have x0 := hX.c0
    have x1 := hX.c1
    have x2 := hX.c2
    have xl := hX.lt
    have HM1 := hid (HM.out.below hb1)
    have Ht := hid (table_any m a a2 cap cap2 nn w1 HM1.out HOK.out (by omega))
    have HB1 := hid (HB.out.trans (hb1.mono HB.out.size))
    clear hX hb1
    go_wp2_with fail
    refine Ht.out.mono ?_; rintro e w2 ⟨v, b, cp, rfl, hT, hb2⟩
    have HB2 := hid (HB1.out.trans (hb2.mono HB1.out.size))
    have HM2 := hid (HM1.out.below hb2)
    have y1 := (hb2.cell (p := ⟨W.heap.size, 1, none⟩) xl).trans x1
    have yl : W.heap.size < w2.heap.size := by have := hb2.size; omega
    have HY1 := hid y1
    obtain ⟨gk, t1, hlg, ht⟩ := hT.row nn (by omega)
    have t2 := ht 0 HN.out
    have hlb := hT.lt
    have e5 := hT.eq
    subst e5
    have HT := hid hT
    have hcb := cnt_bd m HOK.out.l6 nn 0
    unfold cntI at t2
    have hN := HN.out
    have i1 : (0 : Int) ≤ (nn : Int) := by omega
    have i2 : (nn : Int) < (nn : Int) + 1 := by omega
    have HC : Hid (cnt m nn ((0 : Nat) : Int) = cnt m nn 0) := hid rfl
    rw [HC.out] at t2
    clear hb2 ht hT x0 x1 x2 xl y1
    by_cases hr0 : r0 < 0
    · have R := hid (R0.out (.inl hr0))
      have hz := HB2.out
      generalize cnt m nn 0 = cv at *
      go_wp2_with fail
      go_ret2
      refine ⟨none, 0, by rw [R.out.1, R.out.2]; rfl, by rw [R.out.2]; exact fun i hi => absurd hi (Nat.not_lt_zero i), hz, by rw [R.out.2]; exact Nat.le_refl _, Nat.zero_le _⟩
    by_cases hr1 : cnt m nn 0 ≤ r0
    · have R := hid (R0.out (.inr hr1))
      have hz := HB2.out
      generalize cnt m nn 0 = cv at *
      go_wp2_with fail
      go_ret2
      refine ⟨none, 0, by rw [R.out.1, R.out.2]; rfl, by rw [R.out.2]; exact fun i hi => absurd hi (Nat.not_lt_zero i), hz, by rw [R.out.2]; exact Nat.le_refl _, Nat.zero_le _⟩
    have R := hid (R1.out (by omega) (by omega))
    have hrlt : r0 < cnt m nn 0 := by omega
    have hr0' : 0 ≤ r0 := by omega
    generalize hcv : cnt m nn 0 = cv at *
    have Hcv := hid hcv
    clear hcv
    go_wp2_with fail
    go_loopw [2, 10, 11, 12, 13] (fun v2 v10 v11 v12 v13 w' => ∃ (k s : Nat) (r : Int) (pre : List Int), k ≤ nn ∧ v12 = .int .i64 k ∧ v2 = .int .i64 r ∧ v11 = .int .i64 s ∧ w'.ownsRow w2.heap.size 3 1 v10 pre.length (pre.map (Value.int .i64)) ∧ Hid (pre.length = nn - k) ∧ Hid (unr m nn 0 r0 = pre ++ unr m k s r) ∧ 0 ≤ r ∧ Hid (r < cnt m k s) ∧ s < m.nx.length ∧ Below w2.heap.size w2 w') (fun _ _ _ v12 _ _ => (intOf v12).toNat)
    case atStart => exact ⟨nn, 0, r0, [], Nat.le_refl _, rfl, rfl, rfl, World.ownsRow_nil _ _ _ _, hid (by simp), hid rfl, by omega, hid (by show r0 < cnt m nn 0; rw [Hcv.out]; exact hrlt), by omega, Below.refl _ _⟩
    case round =>
      obtain ⟨k, s, r, pre, hk, rfl, rfl, rfl, hown, HPL, HU, hr, HRL, hs, hb⟩ := hrel
      cases k with
      | zero =>
        obtain ⟨ap, cpp, rfl, hIp, hl1, hl2⟩ := own_ints hown
        have Hpre : Hid (unkR m nn r0 = pre) := hid (by rw [R.out.2, HU.out]; simp [unr])
        have hz := HB2.out.trans (hb.mono HB2.out.size)
        clear hown hb
        go_wp2_with fail
        go_ret2
        exact ⟨ap, cpp, by rw [R.out.1, Hpre.out]; rfl, by rw [Hpre.out]; exact hIp, hz, by rw [Hpre.out]; exact hl1, hl2⟩
      | succ k =>
        have e12 : (((k + 1 : Nat) : Int)) = (k : Int) + 1 := by omega
        rw [e12]
        have hsw := hb.size
        have x1 := (hb.cell (p := ⟨W.heap.size, 1, none⟩) yl).trans HY1.out
        have xl : W.heap.size < wr.heap.size := by omega
        have hlbr : b < wr.heap.size := by omega
        obtain ⟨b1, o1, rfl, hb1, ra, rc, hc0, q1, q2, hIA⟩ := HM2.out.nx s hs
        have hc := (hb.cell (p := ⟨b1, o1 + s, none⟩) hb1).trans hc0
        have Hc0 := hid hc0
        have hb1r : b1 < wr.heap.size := by omega
        have hel := HOK.out.el s hs
        have hrl := HOK.out.len s hs
        have h6 := HOK.out.l6
        have h1L := HOK.out.l1
        have hl6 : (rowOf m s).length ≤ 6 := by omega
        have HTr := hid (HT.out.below hb)
        obtain ⟨gk', t1', hlg', ht'⟩ := HTr.out.row k (by omega)
        have Hht := hid ht'
        have HEl := hid hel
        have HIA := hid hIA
        have HLn : Hid ((rowOf m s).length = m.L.toNat) := hid (by omega)
        have hcb' := fun t => cnt_bd m h6 k t
        have HCB := hid hcb'
        have hS := six_le (show k ≤ 20 by omega)
        have HRL2 : Hid (r < sumS m k s m.L.toNat) := hid HRL.out
        have HS0 : Hid (sumS m k s 0 = 0) := hid rfl
        have HL1 : Hid (0 < m.L.toNat) := hid (by omega)
        have Hown := hid hown
        have Hb := hid hb
        have hrb : r ≤ 21936950640377856 := by
          have := cnt_bd m h6 (k + 1) (s : Int)
          have h7 := HRL.out
          have h8 : six (k + 1) = 6 * six k := rfl
          omega
        have i3 : (0 : Int) ≤ (s : Int) := by omega
        have i4 : (s : Int) < (m.nx.length : Int) := by omega
        have i5 : (0 : Int) ≤ (k : Int) := by omega
        have i6 : (k : Int) < (nn : Int) + 1 := by omega
        clear hel hIA hrl hcb' hown hb ht' h1L h6 t1 t2 e12 hc0
        have hlb' := hlbr
        obtain ⟨Y, hY⟩ : ∃ Y, Y = wr := ⟨_, rfl⟩
        subst hY
        go_wp2_with fail
        go_loopw [2, 13] (fun v2 v13 w' => ∃ (c : Nat) (r' : Int), Hid (c < m.L.toNat) ∧ v13 = .int .i64 c ∧ v2 = .int .i64 r' ∧ Hid (r' + sumS m k s c = r) ∧ 0 ≤ r' ∧ r' ≤ 21936950640377856 ∧ ∃ nd, w' = Y.drewN nd) (fun _ v13 _ => m.L.toNat - (intOf v13).toNat)
        case atStart => exact ⟨0, r, HL1, rfl, rfl, hid (by rw [HS0.out]; omega), hr, hrb, 0, rfl⟩
        case round =>
          obtain ⟨c, r', HcL, rfl, rfl, HRS, hr', hrb', nd, rfl⟩ := hrel
          have hcl : c < (rowOf m s).length := by rw [HLn.out]; exact HcL.out
          obtain ⟨br, or', rfl, hbr, ct0⟩ := HIA.out c hcl
          have ct := (Hb.out.cell (p := ⟨br, or' + c, none⟩) hbr).trans ct0
          have hbrY : br < Y.heap.size := by omega
          have hte := HEl.out c hcl
          obtain ⟨tn, htn⟩ : ∃ tn : Nat, nth (rowOf m s) c = (tn : Int) := ⟨(nth (rowOf m s) c).toNat, by omega⟩
          have HST : Hid (stepM m (s : Int) c = (tn : Int)) := hid (by show nth (rowOf m ((s : Int)).toNat) c = _; simpa using htn)
          rw [htn] at ct ct0 hte
          have Hct0 := hid ct0
          have htN : tn < m.nx.length := by omega
          have t3 := Hht.out tn htN
          have hcb := HCB.out (tn : Int)
          have HSS := hid (sumS_succ m k (s : Int) c)
          unfold cntI at t3
          have Hct := hid (show cnt m k (stepM m (s : Int) c) = cnt m k (tn : Int) by rw [HST.out])
          generalize hcv2 : cnt m k (tn : Int) = cv2 at *
          have HCV2 := hid hcv2
          clear hcv2 htn ct0
          have k0 : (0 : Int) ≤ (c : Int) := by omega
          have k1 : (c : Int) < ((rowOf m s).length : Int) := by omega
          have l1 : (tn : Int) < (m.nx.length : Int) := by omega
          have l0 : (0 : Int) ≤ (tn : Int) := by omega
          generalize six k = sx at *
          by_cases hge : cv2 ≤ r'
          · have HcL2 : Hid (c + 1 < m.L.toNat) := hid (by
              have h1 := HcL.out
              have h2 := HRS.out
              have h3 := HRL2.out
              have h4 := HSS.out
              rw [Hct.out] at h4
              by_cases e : c + 1 = m.L.toNat
              · rw [← e] at h3; omega
              · omega)
            have HRS2 : Hid ((r' - cv2) + sumS m k s (c + 1) = r) := hid (by
              have h2 := HRS.out
              have h4 := HSS.out
              rw [Hct.out] at h4
              omega)
            have wk : IntKind.i64.wrap (k : Int) = (k : Int) := IntWalk.i64_in _ (by omega)
            have wr' : IntKind.i64.wrap (r' - cv2) = r' - cv2 := IntWalk.i64_in _ (by omega)
            go_wp2_with fail
            go_quiet (fail)
            go_wp2_with fail
            go_quiet (fail)
            clear wk wr'
            go_wp2_with fail
            go_roundw
            case rel => exact ⟨c + 1, r' - cv2, HcL2, by go_num, rfl, HRS2, by omega, by omega, _, rfl⟩
            case measure => have := HcL.out; simp [intOf]; omega
          · have hgt : r' < cv2 := by omega
            have HUN : Hid (unr m (k + 1) s r = (c : Int) :: unr m k (tn : Int) r') := hid (by
              have h2 := HRS.out
              have h4 := HSS.out
              rw [Hct.out] at h4
              have := unr_step (m := m) HOK.out.l6 (k := k) (s := (s : Int)) (r := r) (a := c) (by omega) (by omega)
              rw [this, HST.out]
              congr 2
              omega)
            have HU2 : Hid (unr m nn 0 r0 = (pre ++ [(c : Int)]) ++ unr m k (tn : Int) r') := hid (by rw [HU.out, HUN.out]; simp)
            have HRL3 : Hid (r' < cnt m k (tn : Int)) := hid (by rw [HCV2.out]; exact hgt)
            have HPL2 : Hid ((pre ++ [(c : Int)]).length = nn - k) := hid (by have := HPL.out; simp; omega)
            have hpl : pre.length ≤ 20 := by have := HPL.out; omega
            have Hmap : Hid (pre.map (Value.int .i64) ++ [.int .i64 (c : Int)] = (pre ++ [(c : Int)]).map (Value.int .i64)) := hid (by simp)
            have Hlen : Hid (pre.length + 1 = (pre ++ [(c : Int)]).length) := hid (by simp)
            have wk : IntKind.i64.wrap (k : Int) = (k : Int) := IntWalk.i64_in _ (by omega)
            go_wp2_with fail
            go_quiet (fail)
            clear wk
            have hbZ : ∀ q, Below Y.heap.size Y ((Y.drewN nd).drewN q) := fun q => below_quiet (below_quiet (Below.refl _ _))
            generalize hZ : (Y.drewN nd).drewN _ = Z
            have hYZ : Below Y.heap.size Y Z := by rw [← hZ]; exact hbZ _
            clear hZ hbZ
            have hszZ := hYZ.size
            have z1 := (hYZ.cell (p := ⟨W.heap.size, 1, none⟩) xl).trans x1
            have zl : W.heap.size < Z.heap.size := by omega
            have zc := (hYZ.cell (p := ⟨b1, o1 + s, none⟩) hb1r).trans hc
            have zt := (hYZ.cell (p := ⟨br, or' + c, none⟩) hbrY).trans ct
            have Hz1 := hid z1
            have Hzc := hid zc
            have Hzt := hid zt
            have HownZ := hid (own_below Hown.out hYZ)
            have HbZ := hid (Hb.out.trans (hYZ.mono hsw))
            clear z1 zc zt hYZ
            go_wp2_with (at_builtin; go_loud (refine wpList_append_own _ rfl _ _ 33 rfl w2.heap.size 3 i0 (.int .i64 0) 1 8 Try.underlying33 hi0 hz0 hz1 hz2 rfl (by decide) _ _ _ rfl (HownZ.out.alloc _) ⟨Z.heap.size, 0, none⟩ 1 1 [.int .i64 (c : Int)] rfl rfl (news_1 Z (.int .i64 (c : Int)) 3).out (by simp [Value.oneCell']) (by unfold maxLen; omega) (by omega) (by simp; omega) ?_); intro v' w6 hown6 hgrow6 _; rw [Hmap.out, Hlen.out] at hown6; have hb6 := (HbZ.out.alloc HbZ.out.size (.cells #[.int .i64 (c : Int)] 3)).grown hgrow6 (by have := HbZ.out.size; simp at this ⊢; omega) (fun t ht => (HownZ.out.lt _ ht).1); have u1 := (hb6.cell (p := ⟨W.heap.size, 1, none⟩) yl).trans HY1.out; have uc := (hb6.cell (p := ⟨b1, o1 + s, none⟩) hb1).trans Hc0.out; have ut := (hb6.cell (p := ⟨br, or' + c, none⟩) hbr).trans Hct0.out; have hs6 := hb6.size; have ul : W.heap.size < w6.heap.size := by omega)
            clear HownZ HbZ hgrow6 u1 uc ut
            go_wp2_with fail
            go_roundw
            case rel => exact ⟨k, tn, r', pre ++ [(c : Int)], by omega, by first | rfl | go_num, rfl, rfl, hown6, HPL2, HU2, hr', HRL3, htN, hb6⟩
            case measure => first | (simp [intOf]; done) | (simp [intOf]; omega)
  · have R := hid (unk_bad (m := m) (n := n) (r := r0) hv)
    have d1 : (sizE m n == 0) = false := beq_eq_false_iff_ne.2 hv
    have d2 : (sizE m n != 0) = true := by rw [bne, d1]; rfl
    clear hv
    go_enter Try.func33, Try.ntmps33
    go_wp2_with fail
    refine Hv.out.mono ?_; rintro e w1 ⟨rfl, hb1⟩
    have hz := HB.out.trans (hb1.mono HB.out.size)
    clear hb1
    go_wp2_with fail
    go_ret2
    exact ⟨none, 0, by rw [R.out.1, R.out.2]; rfl, by rw [R.out.2]; exact fun i hi => absurd hi (Nat.not_lt_zero i), hz, by rw [R.out.2]; exact Nat.le_refl _, Nat.zero_le _⟩
end Go.Proofs.Ytmllbemjcfkmjaa
