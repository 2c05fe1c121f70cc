/- 'Cheapest': what it returns. -/
import Derived.Test.YtmllbemjcfkmjaaScoErr
import Derived.BigQuiet
namespace Go.Proofs.Ytmllbemjcfkmjaa
open Go.RowKit Go.Maps
set_option linter.unusedSimpArgs false
set_option linter.unusedVariables false

def ChePost (m : Mac) (n : Int) (xs : List Int) (W : World) (e : Ending) (w' : World) : Prop :=
  ∃ ax cx, e = .returned (.tuple #[.slice ax (cheR m n xs).length cx, .int .i64 (cheN m n xs), .bool (cheB m n xs), .int .i64 (scoE m n xs)]) ∧ IntsAt w' ax (cheR m n xs) ∧ Below W.heap.size W w' ∧ (cheR m n xs).length ≤ cx ∧ cx ≤ maxLen
set_option maxRecDepth 100000 in
set_option maxHeartbeats 4000000 in
theorem Cheapest_any (m : Mac) (a a2 : Option Addr) (cap cap2 : Nat) (n : Int) (xs : List Int) (ax : Option Addr) (cx : Nat) (W : World) (hM : MacAt W a cap a2 cap2 m) (hI : IntsAt W ax xs) (hl : xs.length ≤ maxLen) :
    Calls Try.prog 54 #[.agg #[.int .i64 m.L, .slice a m.nx.length cap, .slice a2 m.ac.length cap2], .int .i64 n, .slice ax xs.length cx] W (ChePost m n xs W) := by
  have hb0 := below_alloc W (.cells #[.int .i64 m.L, .slice a m.nx.length cap, .slice a2 m.ac.length cap2] 25)
  have Hv := hid (pointed_any m a a2 cap cap2 n xs ax cx (W.alloc (.cells #[.int .i64 m.L, .slice a m.nx.length cap, .slice a2 m.ac.length cap2] 25)) (hM.below hb0) (hI.below hb0) hl)
  have HX := hid (box_new0 W (.int .i64 m.L) (.slice a m.nx.length cap) (.slice a2 m.ac.length cap2) 25)
  have HM := hid (hM.below hb0)
  have HI := hid (hI.below hb0)
  have HB := hid hb0
  clear hM hI hb0 hl
  by_cases hE : scoE m n xs = 0
  · obtain ⟨⟨hOK, hn0, hn20⟩, hP⟩ := scoE_zero.1 hE
    have HE := hid hE
    have HOK := hid hOK
    have HP := hid hP
    have h64 := hOK.n64
    have hn1 := hOK.n1
    have Hac := hid hOK.ac
    rw [hE] at Hv
    obtain ⟨N0, rfl⟩ : ∃ N0 : Nat, n = (N0 : Int) := ⟨n.toNat, by omega⟩
    have hN0 : N0 ≤ 20 := by omega
    clear hE hOK hP hn0 hn20
    obtain ⟨i0, hi0, hz0, hz1, hz2⟩ := info_parts info3
    obtain ⟨i3, hi3, hy0, hy1, hy2⟩ := info_parts info33
    go_enter Try.func54, Try.ntmps54
    go_wp2_with fail
    refine Hv.out.mono ?_; rintro e U ⟨rfl, hbU⟩
    replace HX := hid (HX.out.belowB hbU)
    replace HM := hid (HM.out.below hbU)
    replace HI := hid (HI.out.below hbU)
    replace HB := hid (HB.out.trans (hbU.mono HB.out.size))
    have x1 := HX.out.c1
    have xl := HX.out.lt
    clear hbU Hv
    go_wp2_with (refine wpList_make_int (o := ⟨some 38, _, _, _, _, _⟩) _ rfl _ _ 33 rfl 3 (.int .i64 0) 8 Try.underlying33 info3 rfl .i64 .i64 _ _ m.nx.length rfl rfl rfl rfl (by omega) (by omega) ?_; intro w1 hr1 hz1' hb1; have hX := HX.out.belowB hb1; have x1' := hX.c1; have x2' := hX.c2; have xl' := hX.lt; have xl3 : W.heap.size < U.heap.size + 1 := Nat.lt_succ_of_lt HX.out.lt; clear x1 xl hX)
    have hown : (w1.alloc (.cells #[.slice (some ⟨U.heap.size, 0, none⟩) m.nx.length m.nx.length] 33)).ownsRow U.heap.size 33 1 (.slice (some ⟨U.heap.size + 1, 0, none⟩) 1 1) 1 [.slice (some ⟨U.heap.size, 0, none⟩) m.nx.length m.nx.length] := by
      have := own_new1 w1 (.slice (some ⟨U.heap.size, 0, none⟩) m.nx.length m.nx.length) 33 U.heap.size (by omega)
      rw [hz1'] at this
      exact this
    have hr2 := none_zero (fun s : Nat => accM m (s : Int)) (-1) (hr1.alloc (.cells #[.slice (some ⟨U.heap.size, 0, none⟩) m.nx.length m.nx.length] 33))
    have hb2 := hb1.alloc (o := .cells #[.slice (some ⟨U.heap.size, 0, none⟩) m.nx.length m.nx.length] 33) hb1.size
    clear hr1 hb1 hz1' x1' x2' xl' xl3
    go_loopw [12, 13, 43] (fun v12 v13 v43 w' => ∃ k : Nat, k ≤ m.nx.length ∧ v43 = .int .i64 k ∧ w'.rowIs U.heap.size 3 m.nx.length (rowI (noneN (fun s : Nat => accM m (s : Int)) (-1) k)) ∧ w'.ownsRow U.heap.size 33 1 (.slice (some ⟨U.heap.size + 1, 0, none⟩) 1 1) 1 [.slice (some ⟨U.heap.size, 0, none⟩) m.nx.length m.nx.length] ∧ Below U.heap.size U w') (fun _ _ v43 _ => m.nx.length - (intOf v43).toNat)
    case atStart => exact ⟨0, by omega, rfl, hr2, hown, hb2⟩
    case round =>
      clear hr2 hown hb2
      obtain ⟨k, hk, rfl, q1, qo, qb⟩ := hrel
      by_cases hlt : k < m.nx.length
      · have hMk := HM.out.below qb
        obtain ⟨b2, o2, rfl, hb2, c2⟩ := hMk.ac k (by rw [Hac.out]; exact hlt)
        obtain ⟨b5, k5, e5, _, c5⟩ := own_cell qo 0 (by omega)
        cases e5
        have c5' : wr.cell? ⟨U.heap.size + 1, 0, none⟩ = some (.slice (some ⟨U.heap.size, 0, none⟩) m.nx.length m.nx.length) := c5
        have z1 := q1.cell hlt
        have y1 := q1.frozen k
        have hlB := q1.lt
        have i1 : (0 : Int) ≤ (k : Int) := by omega
        have i2 : (k : Int) < (m.nx.length : Int) := by omega
        have i3' : (k : Int) < (m.ac.length : Int) := by rw [Hac.out]; omega
        have ha : accM m (k : Int) = m.ac.getD k false := rfl
        clear c5 hMk
        unfold rowI at z1
        generalize m.ac.getD k false = x at *
        cases x with
        | false =>
          have t1 := none_set q1 ha
          have t2 := own_row_set qo q1 k (.int .i64 (-1))
          have t3 := qb.setCell (p := ⟨U.heap.size, k, none⟩) (Nat.le_refl _) (.int .i64 (-1))
          have H1 := hid t1
          have H2 := hid t2
          clear q1 qo qb ha t1 t2
          go_wp2_with fail
          go_roundw
          case rel => exact ⟨k + 1, by omega, by go_num, H1.out, H2.out, t3⟩
          case measure => simp [intOf]; omega
        | true =>
          have t1 := none_skip q1 ha
          clear q1 ha
          go_wp2_with fail
          go_roundw
          case rel => exact ⟨k + 1, by omega, by go_num, t1, qo, qb⟩
          case measure => simp [intOf]; omega
      · obtain rfl : k = m.nx.length := by omega
        have hT : TabI U U.heap.size m.nx.length 1 (fewI m xs) (.slice (some ⟨U.heap.size + 1, 0, none⟩) 1 1) (fun _ => U.heap.size) wr :=
          ⟨qb, qo, fun j hj => by obtain rfl : j = 0 := by omega
                                  exact ⟨Nat.le_refl _, pf_base q1⟩⟩
        have hsw : U.heap.size ≤ wr.heap.size := qb.size
        have i4 : m.ac.length ≤ m.nx.length := by rw [Hac.out]; omega
        have d4 : decide (m.nx.length < m.ac.length) = false := decide_eq_false (by omega)
        clear q1 qo qb
        go_wp2_with fail
        clear i4 d4
        go_loopw [11, 14, 15, 16, 17, 18, 19, 57, 66, 78] (fun v11 v14 v15 v16 v17 v18 v19 v57 v66 v78 w' => ∃ (k : Nat) (g : Nat → Nat), k ≤ N0 ∧ v57 = .int .i64 k ∧ TabI U U.heap.size m.nx.length (k + 1) (fewI m xs) v11 g w' ∧ U.heap.size ≤ w'.heap.size) (fun _ _ _ _ _ _ _ v57 _ _ _ => N0 - (intOf v57).toNat)
        case atStart => exact ⟨0, fun _ => U.heap.size, by omega, rfl, hT, hsw⟩
        case round =>
          clear hT hsw hlt hk
          obtain ⟨k, g, hk, rfl, hI', hsw⟩ := hrel
          by_cases hlt : k < N0
          · obtain ⟨b5, k5, e5, hl5, _⟩ := own_cell hI'.own 0 (by omega)
            subst e5
            obtain ⟨Y, hY⟩ : ∃ Y, Y = wr := ⟨_, rfl⟩
            subst hY
            have hX := HX.out.belowB hI'.bl
            have x1 := hX.c1
            have xl := hX.lt
            have HT := hid hI'
            clear hX hI'
            go_wp2_with (refine wpList_make_int (o := ⟨some 63, _, _, _, _, _⟩) _ rfl _ _ 33 rfl 3 (.int .i64 0) 8 Try.underlying33 info3 rfl .i64 .i64 _ _ m.nx.length rfl rfl rfl rfl (by omega) (by omega) ?_; intro w1 hr1 hz1 hb1)
            have p1 := pfZ_zero (m := m) (xs := xs) (k := k) hr1
            clear hr1 hz1 x1 xl
            go_loopw [16, 17, 18, 19, 66, 78] (fun v16 v17 v18 v19 v66 v78 w' => ∃ s : Nat, s ≤ m.nx.length ∧ v66 = .int .i64 s ∧ w'.rowIs Y.heap.size 3 m.nx.length (rowI (pfZ m xs k s)) ∧ Below Y.heap.size Y w') (fun _ _ _ _ v66 _ _ => m.nx.length - (intOf v66).toNat)
            case atStart => exact ⟨0, by omega, rfl, p1, hb1⟩
            case round =>
              clear p1 hb1
              obtain ⟨s, hs, rfl, p1, qb⟩ := hrel
              by_cases hls : s < m.nx.length
              · have z1 := p1.cell hls
                have y1 := p1.frozen s
                have hlB := p1.lt
                have p2 := pf_first p1
                have qb2 := qb.setCell (p := ⟨Y.heap.size, s, none⟩) (Nat.le_refl _) (.int .i64 (-1))
                have hI' := HT.out.below hsw qb2
                have hX := HX.out.belowB hI'.bl
                have x1 := hX.c1
                have xl := hX.lt
                have hMk := HM.out.below HT.out.bl
                obtain ⟨b1, o1, rfl, hb1, ra, rc, hc0, r1, r2, hIA⟩ := hMk.nx s hls
                have hc := (qb2.cell (p := ⟨b1, o1 + s, none⟩) hb1).trans hc0
                have hrl := HOK.out.len s hls
                have hrel := HOK.out.el s hls
                have h6 := HOK.out.l6
                have h1L := HOK.out.l1
                have HLn : Hid ((rowOf m s).length = m.L.toNat) := hid (by omega)
                have hl6 : (rowOf m s).length ≤ 6 := by omega
                have hxl : xs.length = (rowOf m s).length := by have := HP.out.len; omega
                have i1 : (0 : Int) ≤ (s : Int) := by omega
                have i2 : (s : Int) < (m.nx.length : Int) := by omega
                have HEl := hid hrel
                have HIA := hid hIA
                have Hp := hid p2
                have Hqb := hid qb2
                have Hhc := hid hb1
                have Hxl := hid hxl
                unfold rowI at z1
                clear hI' hX hMk hrl hrel h6 h1L hIA p1 p2 qb hb1 hc0 hxl
                obtain ⟨w0, hw0⟩ : ∃ w0, w0 = wr := ⟨_, rfl⟩
                subst hw0
                go_wp2_with fail
                clear z1 y1 hlB x1 xl
                go_loopw [17, 18, 19, 78] (fun v17 v18 v19 v78 w' => ∃ a : Nat, a ≤ (rowOf m s).length ∧ v78 = .int .i64 a ∧ w'.rowIs Y.heap.size 3 m.nx.length (rowI (pfC m xs k s a)) ∧ Below Y.heap.size Y w') (fun _ _ _ v78 _ => (rowOf m s).length - (intOf v78).toNat)
                case atStart => exact ⟨0, by omega, rfl, Hp.out, Hqb.out⟩
                case round =>
                  clear Hp Hqb Hhc hc
                  obtain ⟨a, ha, rfl, p1, qb⟩ := hrel
                  by_cases hla : a < (rowOf m s).length
                  · have hI' := HT.out.below hsw qb
                    obtain ⟨b', o', rfl, hb', c1⟩ := (HIA.out.below qb) a hla
                    obtain ⟨bp, op, rfl, hbp, cp⟩ := (HI.out.below hI'.bl) a (by rw [Hxl.out]; exact hla)
                    have hel := HEl.out a hla
                    obtain ⟨tn, htn⟩ : ∃ tn : Nat, nth (rowOf m s) a = (tn : Int) := ⟨(nth (rowOf m s) a).toNat, by omega⟩
                    rw [htn] at c1 hel
                    have htl : tn < m.nx.length := by omega
                    obtain ⟨b6, k6, e6, _, c5⟩ := own_cell hI'.own k (by omega)
                    cases e6
                    rw [List.getElem?_map, List.getElem?_range (by omega), Option.map_some] at c5
                    have ct := (hI'.rows k (by omega)).2.cell htl
                    have z1 := p1.cell hls
                    have y1 := p1.frozen s
                    have hlB := p1.lt
                    have hbc := few_bd HP.out k (tn : Int)
                    have hpx := HP.out.el a (by rw [Hxl.out]; exact hla)
                    have hst : stepM m (s : Int) a = (tn : Int) := by show nth (rowOf m ((s : Int)).toNat) a = _; simpa using htn
                    have hrb := fewF_bd HP.out.el (f := fun b => few m xs k (stepM m (s : Int) b)) (B := 20 * k) (by omega) (fun b => few_bd HP.out k _) a (by rw [Hxl.out]; omega)
                    have ez : pfC m xs k s a s = fewF xs (fun b => few m xs k (stepM m (s : Int) b)) a := by unfold pfC; rw [if_neg (by omega), if_pos rfl]
                    unfold rowI at z1
                    unfold fewI at ct
                    rw [ez] at z1
                    have HPS := hid (fun (z : Int) => @pf_step _ _ _ _ _ _ _ _ p1 z)
                    have HPK := hid (pf_keep p1)
                    rw [hst] at HPS HPK
                    generalize fewF xs (fun b => few m xs k (stepM m (s : Int) b)) a = rv at *
                    generalize few m xs k (tn : Int) = cv at *
                    generalize nth xs a = pv at *
                    have i3' : (0 : Int) ≤ (a : Int) := by omega
                    have i4 : (a : Int) < ((rowOf m s).length : Int) := by omega
                    have i4' : (a : Int) < (xs.length : Int) := by rw [Hxl.out]; omega
                    have i5 : (0 : Int) ≤ (k : Int) := by omega
                    have i6 : (k : Int) < (k : Int) + 1 := by omega
                    have i7 : (0 : Int) ≤ (tn : Int) := by omega
                    have i8 : (tn : Int) < (m.nx.length : Int) := by omega
                    have Hqb := hid qb
                    clear ez htn hel hst p1 hI' qb
                    by_cases g1 : 0 ≤ cv
                    · by_cases g2 : rv < 0
                      · have H1 := hid (HPS.out (cv + pv) (by unfold fewS; rw [if_pos (by omega)]))
                        have d1 : decide (0 ≤ cv) = true := decide_eq_true g1
                        have d2 : decide (rv < 0) = true := decide_eq_true g2
                        clear HPS HPK
                        go_wp2_with fail
                        go_quiet (fail)
                        go_wp2_with fail
                        go_roundw
                        case rel => exact ⟨a + 1, by omega, by go_num, H1.out, (below_quiet Hqb.out).setCell (p := ⟨Y.heap.size, s, none⟩) (Nat.le_refl _) (.int .i64 (cv + pv))⟩
                        case measure => simp [intOf]; omega
                      · by_cases g3 : cv + pv < rv
                        · have H1 := hid (HPS.out (cv + pv) (by unfold fewS; rw [if_pos (by omega)]))
                          have d1 : decide (0 ≤ cv) = true := decide_eq_true g1
                          have d2 : decide (rv < 0) = false := decide_eq_false g2
                          have d3 : decide (cv + pv < rv) = true := decide_eq_true g3
                          clear HPS HPK
                          go_wp2_with fail
                          go_quiet (fail)
                          go_wp2_with fail
                          go_roundw
                          case rel => exact ⟨a + 1, by omega, by go_num, H1.out, (below_quiet Hqb.out).setCell (p := ⟨Y.heap.size, s, none⟩) (Nat.le_refl _) (.int .i64 (cv + pv))⟩
                          case measure => simp [intOf]; omega
                        · have H1 := hid (HPK.out (by unfold fewS; rw [if_neg (by omega)]))
                          have d1 : decide (0 ≤ cv) = true := decide_eq_true g1
                          have d2 : decide (rv < 0) = false := decide_eq_false g2
                          have d3 : decide (cv + pv < rv) = false := decide_eq_false g3
                          clear HPS HPK
                          go_wp2_with fail
                          go_quiet (fail)
                          go_wp2_with fail
                          go_roundw
                          case rel => exact ⟨a + 1, by omega, by go_num, rowIs_drewN H1.out nq, below_quiet Hqb.out⟩
                          case measure => simp [intOf]; omega
                    · have H1 := hid (HPK.out (by unfold fewS; rw [if_neg (by omega)]))
                      have d1 : decide (0 ≤ cv) = false := decide_eq_false g1
                      clear HPS HPK g1
                      go_wp2_with fail
                      go_quiet (fail)
                      go_wp2_with fail
                      go_roundw
                      case rel => exact ⟨a + 1, by omega, by go_num, rowIs_drewN H1.out nq, below_quiet Hqb.out⟩
                      case measure => simp [intOf]; omega
                  · obtain rfl : a = (rowOf m s).length := by omega
                    have p2 := pf_next p1 HLn.out
                    clear p1
                    go_wp2_with fail
                    go_roundw
                    case rel => exact ⟨s + 1, by omega, by go_num, p2, qb⟩
                    case measure => simp [intOf]; omega
              · obtain rfl : s = m.nx.length := by omega
                have hI' := HT.out.below hsw qb
                have hsz := qb.size
                have HJ := hid hI'
                have Hr := hid (pf_end p1)
                clear hI' p1 qb
                go_wp2_with (at_builtin; go_loud (refine wpList_append_own_at (o := ⟨some 126, _, _, _, _, _⟩) _ rfl _ _ 22 rfl U.heap.size 33 i3 (.slice none 0 0) 1 24 Try.underlying22 hi3 hy0 hy1 hy2 rfl (by decide) _ _ _ rfl (HJ.out.own.alloc _) ⟨wr.heap.size, 0, none⟩ 1 1 [.slice (some ⟨Y.heap.size, 0, none⟩) m.nx.length m.nx.length] rfl rfl (news_1 wr (.slice (some ⟨Y.heap.size, 0, none⟩) m.nx.length m.nx.length) 33).out (by simp [Value.oneCell']) (by unfold maxLen; omega) (by omega) (by simp; omega) ?_); intro v' w6 hown6 hgrow6 _ hat6)
                have hJ := HJ.out.push (by omega) (gn := Y.heap.size) (by omega) Hr.out hgrow6 hown6
                have hs6 : U.heap.size ≤ w6.heap.size := by have := hgrow6.size; simp at this; omega
                clear HJ Hr hgrow6 hown6 hat6
                go_wp2_with fail
                go_roundw
                case rel => exact ⟨k + 1, _, by omega, by go_num, hJ, hs6⟩
                case measure => simp [intOf]; omega
          · obtain rfl : k = N0 := by omega
            obtain ⟨b5, k5, hT⟩ := hI'.at (by omega)
            have hbU := hI'.bl
            clear hI' hsw hlt
            have e5 := hT.eq
            subst e5
            obtain ⟨gn, c5, hgn, hrow⟩ := hT.row k (by omega)
            have c6 := hrow 0 (by omega)
            have hlb := hT.lt
            have i1 : (0 : Int) ≤ (k : Int) := by omega
            have i2 : (k : Int) < (k : Int) + 1 := by omega
            unfold fewI at c6
            have HT := hid hT
            have HbU := hid hbU
            clear hrow hT hbU
            by_cases hneg : few m xs k 0 < 0
            · have HR := hid (che_no (m := m) (n := (k : Int)) (xs := xs) (by rw [Int.toNat_natCast]; omega))
              have d1 : decide (few m xs k 0 < 0) = true := decide_eq_true hneg
              rw [show ((0 : Nat) : Int) = 0 from rfl] at c6
              clear hneg
              generalize few m xs k 0 = fv at *
              go_wp2_with fail
              refine bodyPost_ret (results_tmp4 rfl _ _ _) rfl ?_
              exact ⟨none, 0, by rw [HR.out.1, HR.out.2.1, HR.out.2.2, HE.out]; rfl, by rw [HR.out.2.2]; exact fun j hj => absurd hj (Nat.not_lt_zero j), HB.out.trans (HbU.out.mono HB.out.size), by rw [HR.out.2.2]; exact Nat.le_refl _, Nat.zero_le _⟩
            · have hpos : 0 ≤ few m xs k 0 := by omega
              have HR := hid (che_yes (m := m) (n := (k : Int)) (xs := xs) ⟨HE.out, by rw [Int.toNat_natCast]; exact hpos⟩)
              have d1 : decide (few m xs k 0 < 0) = false := decide_eq_false hneg
              have Hpos := hid hpos
              have hfb := few_bd HP.out k 0
              rw [show ((0 : Nat) : Int) = 0 from rfl] at c6
              have Hfb := hid hfb
              clear hneg hfb
              rw [Int.toNat_natCast] at HR
              obtain ⟨fv, hfv⟩ : ∃ fv, fv = few m xs k 0 := ⟨_, rfl⟩
              rw [← hfv] at c6 d1
              have Hfv := hid hfv
              clear hpos hfv
              go_wp2_with fail
              clear d1 c5 c6 i1 i2 hlb hgn
              obtain ⟨T0, hT0⟩ : ∃ T0, T0 = wr := ⟨_, rfl⟩
              subst hT0
              go_loopw [21, 22, 23, 24, 25, 26, 27, 149] (fun v21 v22 v23 v24 v25 v26 v27 v149 w' => ∃ (j s : Nat) (pre : List Int), j ≤ k ∧ v24 = .int .i64 ((j : Int) - 1) ∧ s < m.nx.length ∧ v22 = .int .i64 s ∧ v23 = .int .i64 (few m xs j (s : Int)) ∧ 0 ≤ few m xs j (s : Int) ∧ w'.ownsRow T0.heap.size 3 1 v21 pre.length (pre.map (Value.int .i64)) ∧ pre.length = k - j ∧ pre ++ cheW m xs j (s : Int) = cheW m xs k 0 ∧ Below T0.heap.size T0 w') (fun _ _ _ v24 _ _ _ _ _ => (intOf v24 + 1).toNat)
              case atStart => exact ⟨k, 0, [], Nat.le_refl _, rfl, by omega, rfl, by rw [Hfv.out]; rfl, Hpos.out, World.ownsRow_nil _ _ _ _, by simp, rfl, Below.refl _ _⟩
              case round =>
                obtain ⟨j, s, pre, hj, rfl, hs, rfl, rfl, hp0, hown, hpl, hpre, hbw⟩ := hrel
                obtain ⟨aw, cw, ew⟩ := row_shp hown
                subst ew
                cases j with
                | zero =>
                  have HZ := hid (HB.out.trans ((HbU.out.trans (hbw.mono HbU.out.size)).mono HB.out.size))
                  have hpr : pre = cheW m xs k 0 := by simpa [cheW] using hpre
                  obtain ⟨aw', cw', ew, hIw, k1, k2⟩ := own_ints hown
                  cases ew
                  have HIw := hid hIw
                  have Hpr := hid hpr
                  have hng : ¬ (0 : Int) ≤ ((0 : Nat) : Int) - 1 := by decide
                  clear hown hbw hIw hpr hpre hp0 hpl
                  go_wp2_with fail
                  refine bodyPost_ret (results_tmp4 rfl _ _ _) rfl ?_
                  exact ⟨aw, cw, by rw [HR.out.1, HR.out.2.1, HR.out.2.2, HE.out, ← Hpr.out, ← Hfv.out]; rfl, by rw [HR.out.2.2, ← Hpr.out]; exact HIw.out, HZ.out, by rw [HR.out.2.2, ← Hpr.out]; exact k1, k2⟩
                | succ j =>
                  have hUw := HbU.out.trans (hbw.mono HbU.out.size)
                  have hX := HX.out.belowB hUw
                  have x1 := hX.c1
                  have xl := hX.lt
                  obtain ⟨b1, o1, rfl, hb1, ra, rc, hc0, r1, r2, hIA⟩ := (HM.out.below hUw).nx s hs
                  have hrl := HOK.out.len s hs
                  have hrel := HOK.out.el s hs
                  have h6 := HOK.out.l6
                  have h1L := HOK.out.l1
                  have HLn : Hid ((rowOf m s).length = m.L.toNat) := hid (by omega)
                  have hl6 : (rowOf m s).length ≤ 6 := by omega
                  have Hxl : Hid (xs.length = (rowOf m s).length) := hid (by have := HP.out.len; omega)
                  have HEl := hid hrel
                  have HIA := hid hIA
                  have HF := hid (fst_ok HP.out hp0)
                  have Hp0 := hid hp0
                  have Hown := hid hown
                  have Hpre := hid hpre
                  have Hbw := hid hbw
                  have HUw := hid hUw
                  have i1 : (0 : Int) ≤ (s : Int) := by omega
                  have i2 : (s : Int) < (m.nx.length : Int) := by omega
                  have ej : (((j + 1 : Nat) : Int)) - 1 = (j : Int) := by omega
                  rw [ej]
                  have i3' : (0 : Int) ≤ (j : Int) := by omega
                  clear ej hX hUw hrl hrel h6 h1L hIA hp0 hown hpre hbw
                  obtain ⟨wo, hwo⟩ : ∃ wo, wo = wr := ⟨_, rfl⟩
                  subst hwo
                  go_wp2_with fail
                  clear x1 xl hc0 hb1
                  go_loopw [21, 22, 23, 25, 26, 27, 149] (fun v21 v22 v23 v25 v26 v27 v149 w' => ∃ a : Nat, a ≤ fstA m xs j (s : Int) ∧ v149 = .int .i64 a ∧ v21 = .slice aw pre.length cw ∧ v22 = .int .i64 s ∧ v23 = .int .i64 (few m xs (j + 1) (s : Int)) ∧ w' = wo) (fun _ _ _ _ _ _ v149 _ => (rowOf m s).length - (intOf v149).toNat)
                  case atStart => exact ⟨0, Nat.zero_le _, rfl, rfl, rfl, rfl, rfl⟩
                  case round =>
                    obtain ⟨a, ha, rfl, rfl, rfl, rfl, rfl⟩ := hrel
                    have hal : a < (rowOf m s).length := by have := HF.out.1; have := HLn.out; omega
                    obtain ⟨b', o', rfl, hb', c1⟩ := HIA.out a hal
                    obtain ⟨bp, op, rfl, hbp, cp⟩ := (HI.out.below HUw.out) a (by rw [Hxl.out]; exact hal)
                    have hel := HEl.out a hal
                    obtain ⟨tn, htn⟩ : ∃ tn : Nat, nth (rowOf m s) a = (tn : Int) := ⟨(nth (rowOf m s) a).toNat, by omega⟩
                    rw [htn] at c1 hel
                    have htl : tn < m.nx.length := by omega
                    have hst : stepM m (s : Int) a = (tn : Int) := by show nth (rowOf m ((s : Int)).toNat) a = _; simpa using htn
                    obtain ⟨gj, c5, hgj, hrow⟩ := (HT.out.below Hbw.out).row j (by omega)
                    have ct := hrow tn htl
                    have hlb := Nat.lt_of_lt_of_le HT.out.lt Hbw.out.size
                    unfold fewI at ct
                    have hbc := few_bd HP.out j (tn : Int)
                    have hbs := few_bd HP.out (j + 1) (s : Int)
                    have hpx := HP.out.el a (by rw [Hxl.out]; exact hal)
                    have Hfi := hid (fstP_iff (m := m) (xs := xs) (k := j) (s := (s : Int)) (a := a))
                    rw [hst] at Hfi
                    have i4 : (0 : Int) ≤ (a : Int) := by omega
                    have i5 : (a : Int) < ((rowOf m s).length : Int) := by omega
                    have i6 : (a : Int) < (xs.length : Int) := by rw [Hxl.out]; omega
                    have i7 : (0 : Int) ≤ (tn : Int) := by omega
                    have i8 : (tn : Int) < (m.nx.length : Int) := by omega
                    have i9 : (j : Int) < (k : Int) + 1 := by omega
                    have Hst := hid hst
                    clear hrow hst htn hel
                    by_cases hlt : a < fstA m xs j (s : Int)
                    · have hno := HF.out.2.2 a hlt
                      have hno2 : ¬ (0 ≤ few m xs j (tn : Int) ∧ few m xs j (tn : Int) + nth xs a = few m xs (j + 1) (s : Int)) := fun h => by
                        rw [Hfi.out.2 h] at hno; cases hno
                      clear Hfi hno
                      generalize few m xs j (tn : Int) = cv at *
                      generalize few m xs (j + 1) (s : Int) = lv at *
                      generalize nth xs a = pv at *
                      by_cases g1 : 0 ≤ cv
                      · have d1 : decide (0 ≤ cv) = true := decide_eq_true g1
                        have d2 : (cv + pv == lv) = false := beq_eq_false_iff_ne.2 (fun h => hno2 ⟨g1, h⟩)
                        clear hno2
                        go_wp2_with fail
                        go_roundw
                        case rel => refine ⟨a + 1, by omega, by go_num, ?_⟩; simp
                        case measure => simp [intOf]; omega
                      · have d1 : decide (0 ≤ cv) = false := decide_eq_false g1
                        clear hno2
                        go_wp2_with fail
                        go_roundw
                        case rel => refine ⟨a + 1, by omega, by go_num, ?_⟩; simp
                        case measure => simp [intOf]; omega
                    · obtain rfl : a = fstA m xs j (s : Int) := by omega
                      obtain ⟨g1, g2⟩ := Hfi.out.1 HF.out.2.1
                      have Hcw : Hid (cheW m xs (j + 1) (s : Int) = ((fstA m xs j (s : Int) : Nat) : Int) :: cheW m xs j (tn : Int)) := hid (by rw [← Hst.out]; rfl)
                      have HG1 := hid g1
                      have hpl2 : pre.length + 1 = k - j := by omega
                      have hpk : pre.length ≤ 20 := by omega
                      obtain ⟨fc, hfc⟩ : ∃ fc, fc = few m xs j (tn : Int) := ⟨_, rfl⟩
                      rw [← hfc] at ct g1 g2 hbc
                      have Hfc := hid hfc
                      clear Hfi hfc HF Hst
                      generalize few m xs (j + 1) (s : Int) = lv at *
                      generalize nth xs (fstA m xs j (s : Int)) = pv at *
                      generalize fstA m xs j (s : Int) = an at *
                      have d1 : decide (0 ≤ fc) = true := decide_eq_true g1
                      have d2 : (fc + pv == lv) = true := beq_iff_eq.2 g2
                      go_wp2_with (at_builtin; go_loud (refine wpList_append_own_at (o := ⟨some 176, _, _, _, _, _⟩) _ rfl _ _ 33 rfl T0.heap.size 3 i0 (.int .i64 0) 1 8 Try.underlying33 hi0 hz0 hz1 hz2 rfl (by decide) _ _ _ rfl (Hown.out.alloc _) ⟨wr.heap.size, 0, none⟩ 1 1 [.int .i64 (an : Nat)] rfl rfl (news_1 wr (.int .i64 (an : Nat)) 3).out (by simp [Value.oneCell']) (by unfold maxLen; omega) (by omega) (by have := Hbw.out.size; simp; omega) ?_); intro v' w6 hown6 hgrow6 _ hat6)
                      have hb6 : Below T0.heap.size T0 w6 := (Hbw.out.alloc Hbw.out.size _).grown hgrow6 (by have := Hbw.out.size; simp; omega) fun g hg => (Hown.out.lt g hg).1
                      have H6 := hid hb6
                      have hown7 : w6.ownsRow T0.heap.size 3 1 v' (pre ++ [(an : Int)]).length ((pre ++ [(an : Int)]).map (Value.int .i64)) := by
                        rw [List.length_append, List.map_append]
                        exact hown6
                      have H7 := hid hown7
                      clear hb6 hown6 hgrow6 hat6 hown7 Hown Hbw
                      go_wp2_with fail
                      go_roundw
                      case rel => exact ⟨j, tn, pre ++ [(an : Int)], by omega, rfl, htl, rfl, by rw [Hfc.out], HG1.out, H7.out, by simp; omega, by rw [← Hpre.out, Hcw.out, List.append_assoc]; rfl, H6.out⟩
                      case measure => first | (simp [intOf]; done) | (simp [intOf]; omega)
  · have d1 : (scoE m n xs == 0) = false := beq_eq_false_iff_ne.2 hE
    have d2 : (scoE m n xs != 0) = true := by rw [bne, d1]; rfl
    have HR := hid (che_no (m := m) (n := n) (xs := xs) (fun h => hE h.1))
    unfold ChePost
    rw [HR.out.1, HR.out.2.1, HR.out.2.2]
    clear hE HR
    generalize scoE m n xs = ev at *
    go_enter Try.func54, Try.ntmps54
    go_wp2_with fail
    refine Hv.out.mono ?_; rintro e w1 ⟨rfl, hb1⟩
    have hz := HB.out.trans (hb1.mono HB.out.size)
    clear hb1
    go_wp2_with fail
    refine bodyPost_ret (results_tmp4 rfl _ _ _) rfl ?_
    exact ⟨none, 0, rfl, fun j hj => absurd hj (Nat.not_lt_zero j), hz, Nat.le_refl _, Nat.zero_le _⟩
end Go.Proofs.Ytmllbemjcfkmjaa
