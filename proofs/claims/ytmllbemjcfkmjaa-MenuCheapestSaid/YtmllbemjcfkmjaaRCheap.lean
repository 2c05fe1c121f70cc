/- The document's 'Cheapest': what it returns. -/
import Derived.Test.YtmllbemjcfkmjaaCheap
import Derived.BigQuiet
namespace Go.Proofs.Ytmllbemjcfkmjaa
open Go.RowKit Go.Maps
set_option linter.unusedSimpArgs false
set_option linter.unusedVariables false

set_option maxRecDepth 100000 in
set_option maxHeartbeats 4000000 in
theorem rCheapest_any (m : Mac) (a a2 : Option Addr) (cap cap2 : Nat) (n : Int) (xs : List Int) (ax : Option Addr) (cx : Nat) (W : World) (hM : MacAt W a cap a2 cap2 m) (hI : IntsAt W ax xs) (hl : xs.length ≤ maxLen) :
    Calls Try.prog 55 #[.agg #[.int .i64 m.L, .slice a m.nx.length cap, .slice a2 m.ac.length cap2], .int .i64 n, .slice ax xs.length cx] W (ChePost m n xs W) := by
  have hb0 := below_alloc W (.cells #[.int .i64 m.L, .slice a m.nx.length cap, .slice a2 m.ac.length cap2] 25)
  have Hv := hid (scored_any m a a2 cap cap2 n xs ax cx (W.alloc (.cells #[.int .i64 m.L, .slice a m.nx.length cap, .slice a2 m.ac.length cap2] 25)) (hM.below hb0) (hI.below hb0) hl)
  have HX := hid (box_new0 W (.int .i64 m.L) (.slice a m.nx.length cap) (.slice a2 m.ac.length cap2) 25)
  have HM := hid (hM.below hb0)
  have HI := hid (hI.below hb0)
  have HB := hid hb0
  clear hM hI hb0 hl
  by_cases hE : scoE m n xs = 0
  · obtain ⟨⟨hOK, hn0, hn20⟩, hP⟩ := scoE_zero.1 hE
    have HE := hid hE
    have HOK := hid hOK
    have HP := hid hP
    have h64 := hOK.n64
    have hn1 := hOK.n1
    have Hac := hid hOK.ac
    rw [hE] at Hv
    obtain ⟨N0, rfl⟩ : ∃ N0 : Nat, n = (N0 : Int) := ⟨n.toNat, by omega⟩
    have hN0 : N0 ≤ 20 := by omega
    clear hE hOK hP hn0 hn20
    obtain ⟨i0, hi0, hz0, hz1, hz2⟩ := info_parts info3
    obtain ⟨i3, hi3, hy0, hy1, hy2⟩ := info_parts info33
    go_enter Try.func55, Try.ntmps55
    go_wp2_with fail
    refine Hv.out.mono ?_; rintro e U ⟨rfl, hbU⟩
    replace HX := hid (HX.out.belowB hbU)
    replace HM := hid (HM.out.below hbU)
    replace HI := hid (HI.out.below hbU)
    replace HB := hid (HB.out.trans (hbU.mono HB.out.size))
    clear hbU Hv
    go_wp2_with fail
    go_loopw [11, 12, 13, 14, 15] (fun v11 v12 v13 v14 v15 w' => ∃ (k : Nat) (g : Nat → Nat), k ≤ N0 + 1 ∧ v12 = .int .i64 k ∧ TabI U U.heap.size m.nx.length k (fewJ m xs) v11 g w' ∧ U.heap.size ≤ w'.heap.size) (fun _ v12 _ _ _ _ => N0 + 1 - (intOf v12).toNat)
    case atStart => exact ⟨0, fun _ => U.heap.size, by omega, rfl, ⟨Below.refl _ _, World.ownsRow_nil _ _ _ _, fun j hj => absurd hj (Nat.not_lt_zero j)⟩, Nat.le_refl _⟩
    case round =>
      obtain ⟨k, g, hk, rfl, hI', hsw⟩ := hrel
      by_cases hlt : k ≤ N0
      · obtain ⟨a5, k5, e5⟩ := row_shp hI'.own
        subst e5
        obtain ⟨Y, hY⟩ : ∃ Y, Y = wr := ⟨_, rfl⟩
        subst hY
        have hX := HX.out.belowB hI'.bl
        have x1 := hX.c1
        have xl := hX.lt
        have HT := hid hI'
        clear hX hI'
        cases k with
        | zero =>
          go_wp2_with (refine wpList_make_int (o := ⟨some 35, _, _, _, _, _⟩) _ rfl _ _ 33 rfl 3 (.int .i64 0) 8 Try.underlying33 info3 rfl .i64 .i64 _ _ m.nx.length rfl rfl rfl rfl (by omega) (by omega) ?_; intro w1 hr1 hz1 hb1)
          have p1 := none_zero (fun s : Nat => accM m (s : Int)) nonC hr1
          clear hr1 hz1 x1 xl
          go_loopw [14, 15] (fun v14 v15 w' => ∃ s : Nat, s ≤ m.nx.length ∧ v14 = .int .i64 s ∧ w'.rowIs Y.heap.size 3 m.nx.length (rowI (noneN (fun s : Nat => accM m (s : Int)) nonC s)) ∧ Below Y.heap.size Y w') (fun v14 _ _ => m.nx.length - (intOf v14).toNat)
          case atStart => exact ⟨0, by omega, rfl, p1, hb1⟩
          case round =>
            clear p1 hb1
            obtain ⟨s, hs, rfl, q1, qb⟩ := hrel
            have hI' := HT.out.below hsw qb
            have hX := HX.out.belowB hI'.bl
            have x0 := hX.c0
            have x2 := hX.c2
            have xl := hX.lt
            by_cases hls : s < m.nx.length
            · have hMk := HM.out.below hI'.bl
              obtain ⟨b2, o2, rfl, hb2, c2⟩ := hMk.ac s (by rw [Hac.out]; exact hls)
              have z1 := q1.cell hls
              have y1 := q1.frozen s
              have hlB := q1.lt
              have i1 : (0 : Int) ≤ (s : Int) := by omega
              have i2 : (s : Int) < (m.nx.length : Int) := by omega
              have i3' : (s : Int) < (m.ac.length : Int) := by rw [Hac.out]; omega
              have ha : accM m (s : Int) = m.ac.getD s false := rfl
              have h1L := HOK.out.l1
              have dL : decide ((0 : Int) < m.L) = true := decide_eq_true (by omega)
              have hWY : W.heap.size < Y.heap.size := by have := HX.out.lt; omega
              clear hMk hI' hX
              unfold rowI at z1
              generalize m.ac.getD s false = x at *
              cases x with
              | false =>
                have t1 := none_set q1 ha
                have t3 := qb.setCell (p := ⟨Y.heap.size, s, none⟩) (Nat.le_refl _) (.int .i64 nonC)
                unfold nonC at t1 t3
                have H1 := hid t1
                have H3 := hid t3
                have x0' : (wr.setCell ⟨Y.heap.size, s, none⟩ (.int .i64 1099511627776)).cell? ⟨W.heap.size, 0, none⟩ = some (.int .i64 m.L) := by
                  rw [t3.cell (p := ⟨W.heap.size, 0, none⟩) hWY, ← qb.cell (p := ⟨W.heap.size, 0, none⟩) hWY]
                  exact x0
                clear q1 qb ha t1 t3
                go_wp2_with fail
                go_loopw [15] (fun v15 w' => v15 = .int .i64 0 ∧ w' = wr.setCell ⟨Y.heap.size, s, none⟩ (.int .i64 1099511627776)) (fun _ _ => 0)
                case atStart => exact ⟨rfl, rfl⟩
                case round =>
                  obtain ⟨rfl, rfl⟩ := hrel
                  go_wp2_with fail
                  go_roundw
                  case rel => exact ⟨s + 1, by omega, by go_num, H1.out, H3.out⟩
                  case measure => simp [intOf]; omega
              | true =>
                have t1 := none_skip q1 ha
                clear q1 ha
                go_wp2_with fail
                go_loopw [15] (fun v15 w' => v15 = .int .i64 0 ∧ w' = wr) (fun _ _ => 0)
                case atStart => exact ⟨rfl, rfl⟩
                case round =>
                  obtain ⟨rfl, rfl⟩ := hrel
                  go_wp2_with fail
                  go_roundw
                  case rel => exact ⟨s + 1, by omega, by go_num, t1, qb⟩
                  case measure => simp [intOf]; omega
            · obtain rfl : s = m.nx.length := by omega
              have hsz := qb.size
              have HJ := hid hI'
              have Hr := hid (pd_base (m := m) (xs := xs) q1)
              clear hI' q1 qb hX x0 x2
              go_wp2_with (at_builtin; go_loud (refine wpList_append_own_at (o := ⟨some 96, _, _, _, _, _⟩) _ rfl _ _ 22 rfl U.heap.size 33 i3 (.slice none 0 0) 1 24 Try.underlying22 hi3 hy0 hy1 hy2 rfl (by decide) _ _ _ rfl (HJ.out.own.alloc _) ⟨wr.heap.size, 0, none⟩ 1 1 [.slice (some ⟨Y.heap.size, 0, none⟩) m.nx.length m.nx.length] rfl rfl (news_1 wr (.slice (some ⟨Y.heap.size, 0, none⟩) m.nx.length m.nx.length) 33).out (by simp [Value.oneCell']) (by unfold maxLen; omega) (by omega) (by simp; omega) ?_); intro v' w6 hown6 hgrow6 _ hat6)
              have hJ := HJ.out.push (by omega) (gn := Y.heap.size) (by omega) Hr.out hgrow6 hown6
              have hs6 : U.heap.size ≤ w6.heap.size := by have := hgrow6.size; simp at this; omega
              clear HJ Hr hgrow6 hown6 hat6
              go_wp2_with fail
              go_roundw
              case rel => exact ⟨_ + 1, _, by omega, by go_num, hJ, hs6⟩
              case measure => first | (simp [intOf]; done) | (simp [intOf]; omega)
        | succ k =>
          go_wp2_with (refine wpList_make_int (o := ⟨some 35, _, _, _, _, _⟩) _ rfl _ _ 33 rfl 3 (.int .i64 0) 8 Try.underlying33 info3 rfl .i64 .i64 _ _ m.nx.length rfl rfl rfl rfl (by omega) (by omega) ?_; intro w1 hr1 hz1 hb1)
          have p1 := pdZ_zero (m := m) (xs := xs) (k := k) hr1
          have dk : decide ((0 : Int) < (k : Int) + 1) = true := decide_eq_true (by omega)
          clear hr1 hz1 x1 xl
          go_loopw [14, 15] (fun v14 v15 w' => ∃ s : Nat, s ≤ m.nx.length ∧ v14 = .int .i64 s ∧ w'.rowIs Y.heap.size 3 m.nx.length (rowI (pdZ m xs k s)) ∧ Below Y.heap.size Y w') (fun v14 _ _ => m.nx.length - (intOf v14).toNat)
          case atStart => exact ⟨0, by omega, rfl, p1, hb1⟩
          case round =>
            clear p1 hb1
            obtain ⟨s, hs, rfl, q1, qb⟩ := hrel
            by_cases hls : s < m.nx.length
            · have z1 := q1.cell hls
              have y1 := q1.frozen s
              have hlB := q1.lt
              have p2 := pd_first q1
              have qb2 := qb.setCell (p := ⟨Y.heap.size, s, none⟩) (Nat.le_refl _) (.int .i64 nonC)
              unfold nonC at p2 qb2
              have hI' := HT.out.below hsw qb
              have hMk := HM.out.below HT.out.bl
              obtain ⟨b1, o1, rfl, hb1, ra, rc, hc0, r1, r2, hIA⟩ := hMk.nx s hls
              have hrl := HOK.out.len s hls
              have hrel := HOK.out.el s hls
              have h6 := HOK.out.l6
              have h1L := HOK.out.l1
              have HLn : Hid ((rowOf m s).length = m.L.toNat) := hid (by omega)
              have HLi : Hid (((rowOf m s).length : Int) = m.L) := hid hrl
              have hl6 : (rowOf m s).length ≤ 6 := by omega
              have Hxl : Hid (xs.length = (rowOf m s).length) := hid (by have := HP.out.len; omega)
              have i1 : (0 : Int) ≤ (s : Int) := by omega
              have i2 : (s : Int) < (m.nx.length : Int) := by omega
              have HEl := hid hrel
              have HIA := hid hIA
              have Hc0 := hid hc0
              have Hp := hid p2
              have Hqb := hid qb2
              have Hhc := hid hb1
              unfold rowI at z1
              clear hI' hMk hrl hrel hIA q1 qb hb1 hc0 p2 qb2
              obtain ⟨w0, hw0⟩ : ∃ w0, w0 = wr := ⟨_, rfl⟩
              subst hw0
              go_wp2_with fail
              clear z1 y1 hlB
              go_loopw [15] (fun v15 w' => ∃ a : Nat, a ≤ (rowOf m s).length ∧ v15 = .int .i64 a ∧ w'.rowIs Y.heap.size 3 m.nx.length (rowI (pdC m xs k s a)) ∧ Below Y.heap.size Y w') (fun v15 _ => (rowOf m s).length - (intOf v15).toNat)
              case atStart => exact ⟨0, by omega, rfl, Hp.out, Hqb.out⟩
              case round =>
                clear Hp Hqb
                obtain ⟨a, ha, rfl, p1, qb⟩ := hrel
                have hI' := HT.out.below hsw qb
                have hX := HX.out.belowB hI'.bl
                have x0 := hX.c0
                have x1 := hX.c1
                have xl := hX.lt
                clear hX
                by_cases hla : a < (rowOf m s).length
                · have da : decide ((a : Int) < m.L) = true := decide_eq_true (by rw [← HLi.out]; omega)
                  have hc := (qb.cell (p := ⟨b1, o1 + s, none⟩) Hhc.out).trans Hc0.out
                  obtain ⟨b', o', rfl, hb', c1⟩ := (HIA.out.below qb) a hla
                  obtain ⟨bp, op, rfl, hbp, cp⟩ := (HI.out.below hI'.bl) a (by rw [Hxl.out]; exact hla)
                  have hel := HEl.out a hla
                  obtain ⟨tn, htn⟩ : ∃ tn : Nat, nth (rowOf m s) a = (tn : Int) := ⟨(nth (rowOf m s) a).toNat, by omega⟩
                  rw [htn] at c1 hel
                  have htl : tn < m.nx.length := by omega
                  obtain ⟨b6, k6, e6, _, c5⟩ := own_cell hI'.own k (by omega)
                  cases e6
                  rw [List.getElem?_map, List.getElem?_range (by omega), Option.map_some] at c5
                  have ct := (hI'.rows k (by omega)).2.cell htl
                  have z1 := p1.cell hls
                  have y1 := p1.frozen s
                  have hlB := p1.lt
                  have hbc := few_bd HP.out k (tn : Int)
                  have hpx := HP.out.el a (by rw [Hxl.out]; exact hla)
                  have hst : stepM m (s : Int) a = (tn : Int) := by show nth (rowOf m ((s : Int)).toNat) a = _; simpa using htn
                  have hrb := fewF_bd HP.out.el (f := fun b => few m xs k (stepM m (s : Int) b)) (B := 20 * k) (by omega) (fun b => few_bd HP.out k _) a (by rw [Hxl.out]; omega)
                  have ez : pdC m xs k s a s = ddI (fewF xs (fun b => few m xs k (stepM m (s : Int) b)) a) := by unfold pdC; rw [if_neg (by omega), if_pos rfl]
                  unfold rowI at z1
                  unfold fewJ at ct
                  rw [ez] at z1
                  have HPS := hid (fun (z : Int) => @pd_step _ _ _ _ _ _ _ _ p1 z)
                  rw [hst] at HPS
                  have hds := dd_step (r := fewF xs (fun b => few m xs k (stepM m (s : Int) b)) a) (c := few m xs k (tn : Int)) (p := nth xs a) hrb.1 (by omega) hbc.1 (by omega) hpx.1 hpx.2
                  have hd1 := dd_bd (c := few m xs k (tn : Int)) hbc.1 (by omega)
                  have hd2 := dd_bd (c := fewF xs (fun b => few m xs k (stepM m (s : Int) b)) a) hrb.1 (by omega)
                  unfold nonC at hd1 hd2
                  have hds2 : (if nth xs a + ddI (few m xs k (tn : Int)) < ddI (fewF xs (fun b => few m xs k (stepM m (s : Int) b)) a) then nth xs a + ddI (few m xs k (tn : Int)) else ddI (fewF xs (fun b => few m xs k (stepM m (s : Int) b)) a)) = ddI (fewS (fewF xs (fun b => few m xs k (stepM m (s : Int) b)) a) (few m xs k (tn : Int)) (nth xs a)) := by
                    rw [← hds]
                    split <;> split <;> omega
                  have H1 := hid (HPS.out _ hds2)
                  clear hds hds2 HPS
                  generalize ddI (fewF xs (fun b => few m xs k (stepM m (s : Int) b)) a) = rv at *
                  generalize ddI (few m xs k (tn : Int)) = cv at *
                  generalize nth xs a = pv at *
                  have i3' : (0 : Int) ≤ (a : Int) := by omega
                  have i4 : (a : Int) < ((rowOf m s).length : Int) := by omega
                  have i4' : (a : Int) < (xs.length : Int) := by rw [Hxl.out]; omega
                  have i5 : (0 : Int) ≤ (k : Int) := by omega
                  have i6 : (k : Int) < (k : Int) + 1 := by omega
                  have i7 : (0 : Int) ≤ (tn : Int) := by omega
                  have i8 : (tn : Int) < (m.nx.length : Int) := by omega
                  have wk : IntKind.i64.wrap (k : Int) = (k : Int) := IntWalk.i64_in _ (by omega)
                  have Hqb := hid qb
                  clear ez htn hel hst p1 hI' qb hrb hbc
                  go_wp2_with fail
                  refine wp_region_still_tail 28 (by kernel_rfl) (by kernel_rfl) ?_
                  simp only [List.take_succ_cons, List.take_zero, List.drop_succ_cons, List.drop_zero]
                  refine St.out ?_
                  iterate 28 (refine st_want (by kernel_rfl) (fun K hK => ?_); go_simp; refine hK _ ?_; clear hK K)
                  refine st_nil ?_
                  change wpList _ _ _ _ _ wr.drew
                  clear wk
                  go_wp2_with fail
                  go_roundw
                  case rel => exact ⟨a + 1, by omega, by go_num, H1.out, (Hqb.out.setCell (p := ⟨Y.heap.size, s, none⟩) (Nat.le_refl _) _).drew⟩
                  case measure => simp [intOf]; omega
                · have da : decide ((a : Int) < m.L) = false := decide_eq_false (by rw [← HLi.out]; omega)
                  obtain rfl : a = (rowOf m s).length := by omega
                  have p2 := pd_next p1 HLn.out
                  clear p1
                  go_wp2_with fail
                  go_roundw
                  case rel => exact ⟨s + 1, by omega, by go_num, p2, qb⟩
                  case measure => simp [intOf]; omega
            · obtain rfl : s = m.nx.length := by omega
              have hI' := HT.out.below hsw qb
              have hsz := qb.size
              have HJ := hid hI'
              have Hr := hid (pd_end q1)
              clear hI' q1 qb
              go_wp2_with (at_builtin; go_loud (refine wpList_append_own_at (o := ⟨some 96, _, _, _, _, _⟩) _ rfl _ _ 22 rfl U.heap.size 33 i3 (.slice none 0 0) 1 24 Try.underlying22 hi3 hy0 hy1 hy2 rfl (by decide) _ _ _ rfl (HJ.out.own.alloc _) ⟨wr.heap.size, 0, none⟩ 1 1 [.slice (some ⟨Y.heap.size, 0, none⟩) m.nx.length m.nx.length] rfl rfl (news_1 wr (.slice (some ⟨Y.heap.size, 0, none⟩) m.nx.length m.nx.length) 33).out (by simp [Value.oneCell']) (by unfold maxLen; omega) (by omega) (by simp; omega) ?_); intro v' w6 hown6 hgrow6 _ hat6)
              have hJ := HJ.out.push (by omega) (gn := Y.heap.size) (by omega) Hr.out hgrow6 hown6
              have hs6 : U.heap.size ≤ w6.heap.size := by have := hgrow6.size; simp at this; omega
              clear HJ Hr hgrow6 hown6 hat6
              go_wp2_with fail
              go_roundw
              case rel => exact ⟨_ + 1, _, by omega, by go_num, hJ, hs6⟩
              case measure => first | (simp [intOf]; done) | (simp [intOf]; omega)
      · obtain rfl : k = N0 + 1 := by omega
        have ek : ((N0 + 1 : Nat) : Int) = (N0 : Int) + 1 := by omega
        rw [ek]
        clear ek
        obtain ⟨b5, k5, hT⟩ := hI'.at (by omega)
        have hbU := hI'.bl
        clear hI' hsw hlt
        have e5 := hT.eq
        subst e5
        obtain ⟨gn, c5, hgn, hrow⟩ := hT.row N0 (by omega)
        have c6 := hrow 0 (by omega)
        have hlb := hT.lt
        have i1 : (0 : Int) ≤ (N0 : Int) := by omega
        have i2 : (N0 : Int) < (N0 : Int) + 1 := by omega
        unfold fewJ at c6
        have HT := hid hT
        have HbU := hid hbU
        have hfb := few_bd HP.out N0 0
        rw [show ((0 : Nat) : Int) = 0 from rfl] at c6
        clear hrow hT hbU
        by_cases hneg : few m xs N0 0 < 0
        · have HR := hid (che_no (m := m) (n := (N0 : Int)) (xs := xs) (by rw [Int.toNat_natCast]; omega))
          have d0 := (dd_none (c := few m xs N0 0) hfb.1 (by omega)).2 hneg
          unfold nonC at d0
          have d1 : decide ((1099511627776 : Int) ≤ ddI (few m xs N0 0)) = true := decide_eq_true d0
          clear hneg d0 hfb
          generalize ddI (few m xs N0 0) = fv at *
          go_wp2_with fail
          refine bodyPost_ret (results_tmp4 rfl _ _ _) rfl ?_
          exact ⟨none, 0, by rw [HR.out.1, HR.out.2.1, HR.out.2.2, HE.out]; rfl, by rw [HR.out.2.2]; exact fun j hj => absurd hj (Nat.not_lt_zero j), HB.out.trans (HbU.out.mono HB.out.size), by rw [HR.out.2.2]; exact Nat.le_refl _, Nat.zero_le _⟩
        · have hpos : 0 ≤ few m xs N0 0 := by omega
          have HR := hid (che_yes (m := m) (n := (N0 : Int)) (xs := xs) ⟨HE.out, by rw [Int.toNat_natCast]; exact hpos⟩)
          have d0 := fun h => hneg ((dd_none (c := few m xs N0 0) hfb.1 (by omega)).1 h)
          unfold nonC at d0
          have d1 : decide ((1099511627776 : Int) ≤ ddI (few m xs N0 0)) = false := decide_eq_false d0
          rw [dd_small hpos] at c6 d1
          have Hpos := hid hpos
          rw [Int.toNat_natCast] at HR
          obtain ⟨fv, hfv⟩ : ∃ fv, fv = few m xs N0 0 := ⟨_, rfl⟩
          rw [← hfv] at c6 d1
          have Hfv := hid hfv
          have HC5 := hid c5
          have HC6 := hid c6
          have Hgn := hid hgn
          have Hlb := hid hlb
          clear hneg d0 hfb hpos hfv
          go_wp2_with fail
          clear d1 c5 c6 i1 i2 hlb hgn
          obtain ⟨T0, hT0⟩ : ∃ T0, T0 = wr := ⟨_, rfl⟩
          subst hT0
          go_loopw [16, 17, 18, 19] (fun v16 v17 v18 v19 w' => ∃ (j s : Nat) (pre : List Int), j ≤ N0 ∧ v18 = .int .i64 (j : Int) ∧ s < m.nx.length ∧ v17 = .int .i64 s ∧ 0 ≤ few m xs j (s : Int) ∧ w'.ownsRow T0.heap.size 3 1 v16 pre.length (pre.map (Value.int .i64)) ∧ pre.length = N0 - j ∧ pre ++ cheW m xs j (s : Int) = cheW m xs N0 0 ∧ Below T0.heap.size T0 w') (fun _ _ v18 _ _ => (intOf v18).toNat)
          case atStart => exact ⟨N0, 0, [], Nat.le_refl _, rfl, by omega, rfl, Hpos.out, World.ownsRow_nil _ _ _ _, by simp, rfl, Below.refl _ _⟩
          case round =>
            obtain ⟨j, s, pre, hj, rfl, hs, rfl, hp0, hown, hpl, hpre, hbw⟩ := hrel
            obtain ⟨aw, cw, ew⟩ := row_shp hown
            subst ew
            cases j with
            | zero =>
              have HZ := hid (HB.out.trans ((HbU.out.trans (hbw.mono HbU.out.size)).mono HB.out.size))
              have hpr : pre = cheW m xs N0 0 := by simpa [cheW] using hpre
              obtain ⟨aw', cw', ew, hIw, k1, k2⟩ := own_ints hown
              cases ew
              have HIw := hid hIw
              have Hpr := hid hpr
              have c5 := (hbw.cell (p := ⟨b5, N0, none⟩) Hlb.out).trans HC5.out
              have c6 := (hbw.cell (p := ⟨gn, 0, none⟩) Hgn.out).trans HC6.out
              have l5 := Nat.lt_of_lt_of_le Hlb.out hbw.size
              have l6 := Nat.lt_of_lt_of_le Hgn.out hbw.size
              have i1 : (0 : Int) ≤ (N0 : Int) := by omega
              have i2 : (N0 : Int) < (N0 : Int) + 1 := by omega
              clear hown hbw hIw hpr hpre hp0 hpl
              go_wp2_with fail
              go_quiet (fail)
              go_wp2_with fail
              refine bodyPost_ret (results_tmp4 rfl _ _ _) rfl ?_
              exact ⟨aw, cw, by rw [HR.out.1, HR.out.2.1, HR.out.2.2, HE.out, ← Hpr.out, ← Hfv.out]; rfl, by rw [HR.out.2.2, ← Hpr.out]; exact HIw.out, below_quiet HZ.out, by rw [HR.out.2.2, ← Hpr.out]; exact k1, k2⟩
            | succ j =>
              have hrl := HOK.out.len s hs
              have hrel := HOK.out.el s hs
              have h6 := HOK.out.l6
              have h1L := HOK.out.l1
              have HLn : Hid ((rowOf m s).length = m.L.toNat) := hid (by omega)
              have hl6 : (rowOf m s).length ≤ 6 := by omega
              have Hxl : Hid (xs.length = (rowOf m s).length) := hid (by have := HP.out.len; omega)
              have HEl := hid hrel
              have HF := hid (fst_ok HP.out hp0)
              have Hp0 := hid hp0
              have Hown := hid hown
              have Hpre := hid hpre
              have Hbw := hid hbw
              have i1 : (0 : Int) ≤ (s : Int) := by omega
              have i2 : (s : Int) < (m.nx.length : Int) := by omega
              have ej : ((j + 1 : Nat) : Int) = (j : Int) + 1 := by omega
              rw [ej]
              have i3' : (0 : Int) ≤ (j : Int) := by omega
              have i3a : (0 : Int) < (j : Int) + 1 := by omega
              clear ej hrl hrel h6 h1L hp0 hown hpre hbw
              obtain ⟨wo, hwo⟩ : ∃ wo, wo = wr := ⟨_, rfl⟩
              subst hwo
              go_wp2_with fail
              go_loopw [19] (fun v19 w' => ∃ a : Nat, a ≤ fstA m xs j (s : Int) ∧ v19 = .int .i64 a ∧ Below wo.heap.size wo w') (fun v19 _ => (rowOf m s).length - (intOf v19).toNat)
              case atStart => exact ⟨0, Nat.zero_le _, rfl, Below.refl _ _⟩
              case round =>
                obtain ⟨a, ha, rfl, hbo⟩ := hrel
                have hal : a < (rowOf m s).length := by have := HF.out.1; have := HLn.out; omega
                have hTw := Hbw.out.trans (hbo.mono Hbw.out.size)
                have hUw := HbU.out.trans (hTw.mono HbU.out.size)
                have hX := HX.out.belowB hUw
                have x1 := hX.c1
                have xl := hX.lt
                have hXT := HX.out.belowB HbU.out
                have xT1 := hXT.c1
                have hlW := hXT.lt
                obtain ⟨b1, o1, ea, hb1T, ra, rc, hc0T, r1, r2, hIAT⟩ := (HM.out.below HbU.out).nx s hs
                subst ea
                obtain ⟨b', o', rfl, hbT, c1T⟩ := hIAT a hal
                obtain ⟨bp, op, eap, hbp, cp⟩ := (HI.out.below hUw) a (by rw [Hxl.out]; exact hal)
                have hel := HEl.out a hal
                obtain ⟨tn, htn⟩ : ∃ tn : Nat, nth (rowOf m s) a = (tn : Int) := ⟨(nth (rowOf m s) a).toNat, by omega⟩
                rw [htn] at c1T hel
                have hc0 := (hTw.cell (p := ⟨b1, o1 + s, none⟩) hb1T).trans hc0T
                have c1 := (hTw.cell (p := ⟨b', o' + a, none⟩) hbT).trans c1T
                have hb1 := Nat.lt_of_lt_of_le hb1T hTw.size
                have hb' := Nat.lt_of_lt_of_le hbT hTw.size
                have HxT := hid xT1
                have HlW := hid hlW
                have Hb1T := hid hb1T
                have Hc0T := hid hc0T
                have HbT := hid hbT
                have Hc1T := hid c1T
                clear xT1 hlW hb1T hc0T hbT c1T hXT hIAT
                have htl : tn < m.nx.length := by omega
                have hst : stepM m (s : Int) a = (tn : Int) := by show nth (rowOf m ((s : Int)).toNat) a = _; simpa using htn
                obtain ⟨gj, c5, hgj, hrow⟩ := (HT.out.below hTw).row j (by omega)
                have ct := hrow tn htl
                obtain ⟨gj2, c52, hgj2, hrow2⟩ := (HT.out.below hTw).row (j + 1) (by omega)
                have ct2 := hrow2 s hs
                have hlb := Nat.lt_of_lt_of_le HT.out.lt hTw.size
                unfold fewJ at ct ct2
                have hbc := dd_bd (c := few m xs j (tn : Int)) (few_bd HP.out j (tn : Int)).1 (by have := (few_bd HP.out j (tn : Int)).2; omega)
                have hbs := dd_bd (c := few m xs (j + 1) (s : Int)) (few_bd HP.out (j + 1) (s : Int)).1 (by have := (few_bd HP.out (j + 1) (s : Int)).2; omega)
                unfold nonC at hbc hbs
                have hpx := HP.out.el a (by rw [Hxl.out]; exact hal)
                have Hfd := hid (fstP_doc HP.out (k := j) (by omega) Hp0.out (a := a) (by have := HLn.out; omega))
                rw [hst] at Hfd
                have i4 : (0 : Int) ≤ (a : Int) := by omega
                have i5 : (a : Int) < ((rowOf m s).length : Int) := by omega
                have i6 : (a : Int) < (xs.length : Int) := by rw [Hxl.out]; omega
                have i7 : (0 : Int) ≤ (tn : Int) := by omega
                have i8 : (tn : Int) < (m.nx.length : Int) := by omega
                have i9 : (j : Int) < (N0 : Int) + 1 := by omega
                have i10 : (j : Int) + 1 < (N0 : Int) + 1 := by omega
                have i11 : (0 : Int) ≤ (j : Int) + 1 := by omega
                have Hst := hid hst
                have Hbo := hid hbo
                have HTw := hid hTw
                have c52' : wr.cell? ⟨b5, j + 1, none⟩ = some (.slice (some ⟨gj2, 0, none⟩) m.nx.length m.nx.length) := c52
                clear hrow hrow2 hst htn hel hX hbo hTw hUw c52
                by_cases hlt : a < fstA m xs j (s : Int)
                · have hno := HF.out.2.2 a hlt
                  have hno2 : ¬ (nth xs a + ddI (few m xs j (tn : Int)) = ddI (few m xs (j + 1) (s : Int))) := fun h => by
                    rw [Hfd.out.1 h] at hno; cases hno
                  clear Hfd hno
                  generalize ddI (few m xs j (tn : Int)) = cv at *
                  generalize ddI (few m xs (j + 1) (s : Int)) = lv at *
                  generalize nth xs a = pv at *
                  have d1 : (pv + cv == lv) = false := beq_eq_false_iff_ne.2 hno2
                  have d2 : (pv + cv != lv) = true := by rw [bne, d1]; rfl
                  clear hno2
                  subst eap
                  go_wp2_with fail
                  go_quiet (fail)
                  go_wp2_with fail
                  go_roundw
                  case rel => exact ⟨a + 1, by omega, by go_num, below_quiet Hbo.out⟩
                  case measure => simp [intOf]; omega
                · obtain rfl : a = fstA m xs j (s : Int) := by omega
                  have g2 := Hfd.out.2 HF.out.2.1
                  have hg1 := (fstP_iff.1 HF.out.2.1).1
                  rw [Hst.out] at hg1
                  have Hcw : Hid (cheW m xs (j + 1) (s : Int) = ((fstA m xs j (s : Int) : Nat) : Int) :: cheW m xs j (tn : Int)) := hid (by rw [← Hst.out]; rfl)
                  have HG1 := hid hg1
                  have hpl2 : pre.length + 1 = N0 - j := by omega
                  have hpk : pre.length ≤ 20 := by omega
                  have Hpl2 := hid hpl2
                  clear hpl hpl2
                  clear Hfd HF Hst hg1
                  generalize ddI (few m xs j (tn : Int)) = cv at *
                  generalize ddI (few m xs (j + 1) (s : Int)) = lv at *
                  generalize nth xs (fstA m xs j (s : Int)) = pv at *
                  generalize fstA m xs j (s : Int) = an at *
                  have d1 : (pv + cv == lv) = true := beq_iff_eq.2 g2
                  have d2 : (pv + cv != lv) = false := by rw [bne, d1]; rfl
                  subst eap
                  go_wp2_with fail
                  go_quiet (fail)
                  have Hox := hid (own_below Hown.out (below_quiet (n := nq) Hbo.out))
                  have HTx := hid (below_quiet (n := nq) HTw.out)
                  generalize wr.drewN nq = w7 at *
                  clear x1 xl hc0 c1 hb1 hb' c5 c52' ct ct2 hlb hgj hgj2 cp hbp
                  go_wp2_with (at_builtin; go_loud (refine wpList_append_own_at (o := ⟨some 142, _, _, _, _, _⟩) _ rfl _ _ 33 rfl T0.heap.size 3 i0 (.int .i64 0) 1 8 Try.underlying33 hi0 hz0 hz1 hz2 rfl (by decide) _ _ _ rfl (Hox.out.alloc _) ⟨w7.heap.size, 0, none⟩ 1 1 [.int .i64 (an : Nat)] rfl rfl (news_1 w7 (.int .i64 (an : Nat)) 3).out (by simp [Value.oneCell']) (by unfold maxLen; omega) (by omega) (by have := HTx.out.size; simp; omega) ?_); intro v' w6 hown6 hgrow6 _ hat6; obtain ⟨aw6, cw6, ew6⟩ := row_shp hown6; subst ew6; have hb6 : Below T0.heap.size T0 w6 := (HTx.out.alloc HTx.out.size _).grown hgrow6 (by have := HTx.out.size; simp; omega) (fun g hg => (Hox.out.lt g hg).1); have q1 := (hb6.cell (p := ⟨W.heap.size, 1, none⟩) HlW.out).trans HxT.out; have q2 := (hb6.cell (p := ⟨b1, o1 + s, none⟩) Hb1T.out).trans Hc0T.out; have q3 := (hb6.cell (p := ⟨b', o' + an, none⟩) HbT.out).trans Hc1T.out; have l1 := Nat.lt_of_lt_of_le HlW.out hb6.size; have l2 := Nat.lt_of_lt_of_le Hb1T.out hb6.size; have l3 := Nat.lt_of_lt_of_le HbT.out hb6.size; have H6 := hid hb6; have hown7 : w6.ownsRow T0.heap.size 3 1 (.slice aw6 (pre.length + 1) cw6) (pre ++ [(an : Int)]).length ((pre ++ [(an : Int)]).map (Value.int .i64)) := (by rw [List.length_append, List.map_append]; exact hown6); have H7 := hid hown7; clear hb6 hown6 hgrow6 hat6 hown7 Hox HTx)
                  go_wp2_with fail
                  go_roundw
                  case rel => exact ⟨j, tn, pre ++ [(an : Int)], by omega, by go_num, htl, rfl, HG1.out, H7.out, by have := Hpl2.out; simp; omega, by rw [← Hpre.out, Hcw.out, List.append_assoc]; rfl, H6.out⟩
                  case measure => first | (simp [intOf]; done) | (simp [intOf]; omega)
  · have d1 : (scoE m n xs == 0) = false := beq_eq_false_iff_ne.2 hE
    have d2 : (scoE m n xs != 0) = true := by rw [bne, d1]; rfl
    have HR := hid (che_no (m := m) (n := n) (xs := xs) (fun h => hE h.1))
    unfold ChePost
    rw [HR.out.1, HR.out.2.1, HR.out.2.2]
    clear hE HR
    generalize scoE m n xs = ev at *
    go_enter Try.func55, Try.ntmps55
    go_wp2_with fail
    refine Hv.out.mono ?_; rintro e w1 ⟨rfl, hb1⟩
    have hz := HB.out.trans (hb1.mono HB.out.size)
    clear hb1
    go_wp2_with fail
    refine bodyPost_ret (results_tmp4 rfl _ _ _) rfl ?_
    exact ⟨none, 0, rfl, fun j hj => absurd hj (Nat.not_lt_zero j), hz, Nat.le_refl _, Nat.zero_le _⟩
end Go.Proofs.Ytmllbemjcfkmjaa
