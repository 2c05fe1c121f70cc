/- The document's 'table': how many words of each length are accepted from each state. -/
import Derived.Test.YtmllbemjcfkmjaaCounts
namespace Go.Proofs.Ytmllbemjcfkmjaa
open Go.RowKit Go.Maps
set_option linter.unusedSimpArgs false
set_option linter.unusedVariables false

set_option maxRecDepth 100000 in
set_option maxHeartbeats 4000000 in
theorem table_any (m : Mac) (a a2 : Option Addr) (cap cap2 : Nat) (n : Nat) (W : World) (hM : MacAt W a cap a2 cap2 m) (hOK : MacOK m) (hn : n ≤ 20) :
    Calls Try.prog 75 #[.agg #[.int .i64 m.L, .slice a m.nx.length cap, .slice a2 m.ac.length cap2], .int .i64 n] W (TabPost (n + 1) m.nx.length (cntI m) W) := by
  have hb0 := below_alloc W (.cells #[.int .i64 m.L, .slice a m.nx.length cap, .slice a2 m.ac.length cap2] 25)
  have HM := hid (hM.below hb0)
  have HBz := hid hb0
  have h64 := hOK.n64
  have hn1 := hOK.n1
  have Hac := hid hOK.ac
  have HOK := hid hOK
  clear hM hb0 hOK
  obtain ⟨i3, hi3, hy0, hy1, hy2⟩ := info_parts info33
  go_enter Try.func75, Try.ntmps75
  go_wp2_with fail
  generalize hV : W.alloc (.cells #[.int .i64 m.L, .slice a m.nx.length cap, .slice a2 m.ac.length cap2] 25) = V at *
  have HV := hid hV
  have HVs : Hid (V.heap.size = W.heap.size + 1) := hid (by rw [← hV]; simp)
  clear hV
  go_loopw [5, 6, 7, 8, 9] (fun v5 v6 v7 v8 v9 w' => ∃ (k : Nat) (g : Nat → Nat), k ≤ n + 1 ∧ v6 = .int .i64 k ∧ TabI V (W.heap.size + 1) m.nx.length k (cntI m) v5 g w' ∧ W.heap.size + 1 ≤ w'.heap.size) (fun _ v6 _ _ _ _ => n + 1 - (intOf v6).toNat)
  case atStart => exact ⟨0, fun _ => W.heap.size + 1, by omega, rfl, ⟨Below.refl _ _, World.ownsRow_nil _ _ _ _, fun j hj => absurd hj (Nat.not_lt_zero j)⟩, by rw [HVs.out]; exact Nat.le_refl _⟩
  case round =>
    obtain ⟨k, g, hk, rfl, hI, hsw⟩ := hrel
    by_cases hlt : k ≤ n
    · obtain ⟨a5, k5, e5⟩ := row_shp hI.own
      subst e5
      obtain ⟨Y, hY⟩ : ∃ Y, Y = wr := ⟨_, rfl⟩
      subst hY
      have hX := box_at (B := W.heap.size + 1) (by rw [HV.out]; exact hI.bl) rfl
      have x1 := hX.c1
      have xl := hX.lt
      have HI := hid hI
      clear hX hI
      cases k with
      | zero =>
        go_wp2_with (refine wpList_make_int (o := ⟨some 18, _, _, _, _, _⟩) _ rfl _ _ 33 rfl 3 (.int .i64 0) 8 Try.underlying33 info3 rfl .i64 .i64 _ _ m.nx.length rfl rfl rfl rfl (by omega) (by omega) ?_; intro w1 hr1 hz1 hb1)
        have p1 := bit_zero (fun s : Nat => accM m (s : Int)) hr1
        clear hr1 hz1 x1 xl
        go_loopw [8, 9] (fun v8 v9 w' => ∃ s : Nat, s ≤ m.nx.length ∧ v8 = .int .i64 s ∧ w'.rowIs Y.heap.size 3 m.nx.length (rowI (bitN (fun s : Nat => accM m (s : Int)) s)) ∧ Below Y.heap.size Y w') (fun v8 _ _ => m.nx.length - (intOf v8).toNat)
        case atStart => exact ⟨0, by omega, rfl, p1, hb1⟩
        case round =>
          clear p1 hb1
          obtain ⟨s, hs, rfl, q1, qb⟩ := hrel
          have hI' := HI.out.below hsw qb
          have hX := box_at (B := W.heap.size + 1) (by rw [HV.out]; exact hI'.bl) rfl
          have x0 := hX.c0
          have x1 := hX.c1
          have x2 := hX.c2
          have xl := hX.lt
          by_cases hls : s < m.nx.length
          · have hMk := HM.out.below (by rw [HVs.out]; exact hI'.bl)
            obtain ⟨b2, o2, rfl, hb2, c2⟩ := hMk.ac s (by rw [Hac.out]; exact hls)
            have z1 := q1.cell hls
            have y1 := q1.frozen s
            have hlB := q1.lt
            have i1 : (0 : Int) ≤ (s : Int) := by omega
            have i2 : (s : Int) < (m.nx.length : Int) := by omega
            have i3 : (s : Int) < (m.ac.length : Int) := by rw [Hac.out]; omega
            have ha : accM m (s : Int) = m.ac.getD s false := rfl
            have h1L := HOK.out.l1
            have hWY : W.heap.size < Y.heap.size := by omega
            clear hMk hI' hX
            unfold rowI at z1
            generalize m.ac.getD s false = x at *
            cases x with
            | true =>
              have t1 := bit_yes q1 ha
              have t3 := qb.setCell (p := ⟨Y.heap.size, s, none⟩) (Nat.le_refl _) (.int .i64 1)
              have H1 := hid t1
              have x0' : (wr.setCell ⟨Y.heap.size, s, none⟩ (.int .i64 1)).cell? ⟨W.heap.size, 0, none⟩ = some (.int .i64 m.L) := by
                rw [t3.cell (p := ⟨W.heap.size, 0, none⟩) hWY, ← qb.cell (p := ⟨W.heap.size, 0, none⟩) hWY]
                exact x0
              clear q1 qb ha t1
              go_wp2_with fail
              go_loopw [9] (fun v9 w' => v9 = .int .i64 0 ∧ w' = wr.setCell ⟨Y.heap.size, s, none⟩ (.int .i64 1)) (fun _ _ => 0)
              case atStart => exact ⟨rfl, rfl⟩
              case round =>
                obtain ⟨rfl, rfl⟩ := hrel
                go_wp2_with fail
                go_roundw
                case rel => exact ⟨s + 1, by omega, by go_num, H1.out, t3⟩
                case measure => simp [intOf]; omega
            | false =>
              have t1 := bit_no q1 ha
              clear q1 ha
              go_wp2_with fail
              go_loopw [9] (fun v9 w' => v9 = .int .i64 0 ∧ w' = wr) (fun _ _ => 0)
              case atStart => exact ⟨rfl, rfl⟩
              case round =>
                obtain ⟨rfl, rfl⟩ := hrel
                go_wp2_with fail
                go_roundw
                case rel => exact ⟨s + 1, by omega, by go_num, t1, qb⟩
                case measure => simp [intOf]; omega
          · obtain rfl : s = m.nx.length := by omega
            have hsz := qb.size
            have HJ := hid hI'
            have Hr := hid (bit_cnt q1)
            clear hI' q1 qb hX x0 x2
            go_wp2_with (at_builtin; go_loud (refine wpList_append_own_at (o := ⟨some 72, _, _, _, _, _⟩) _ rfl _ _ 22 rfl (W.heap.size + 1) 33 i3 (.slice none 0 0) 1 24 Try.underlying22 hi3 hy0 hy1 hy2 rfl (by decide) _ _ _ rfl (HJ.out.own.alloc _) ⟨wr.heap.size, 0, none⟩ 1 1 [.slice (some ⟨Y.heap.size, 0, none⟩) m.nx.length m.nx.length] rfl rfl (news_1 wr (.slice (some ⟨Y.heap.size, 0, none⟩) m.nx.length m.nx.length) 33).out (by simp [Value.oneCell']) (by unfold maxLen; omega) (by omega) (by simp; omega) ?_); intro v' w6 hown6 hgrow6 _ hat6)
            have hJ := HJ.out.push (by omega) (gn := Y.heap.size) (by omega) Hr.out hgrow6 hown6
            have hs6 : W.heap.size + 1 ≤ w6.heap.size := by have := hgrow6.size; simp at this; omega
            clear HJ Hr hgrow6 hown6 hat6
            go_wp2_with fail
            go_roundw
            case rel => exact ⟨_ + 1, _, by omega, by go_num, hJ, hs6⟩
            case measure => first | (simp [intOf]; done) | (simp [intOf]; omega)
      | succ k =>
        go_wp2_with (refine wpList_make_int (o := ⟨some 18, _, _, _, _, _⟩) _ rfl _ _ 33 rfl 3 (.int .i64 0) 8 Try.underlying33 info3 rfl .i64 .i64 _ _ m.nx.length rfl rfl rfl rfl (by omega) (by omega) ?_; intro w1 hr1 hz1 hb1)
        have p1 := ptC_zero (m := m) (k := k) hr1
        have dk : ((k : Int) + 1 == 0) = false := beq_eq_false_iff_ne.2 (by omega)
        clear hr1 hz1 x1 xl
        go_loopw [8, 9] (fun v8 v9 w' => ∃ s : Nat, s ≤ m.nx.length ∧ v8 = .int .i64 s ∧ w'.rowIs Y.heap.size 3 m.nx.length (rowI (ptC m k s 0)) ∧ Below Y.heap.size Y w') (fun v8 _ _ => m.nx.length - (intOf v8).toNat)
        case atStart => exact ⟨0, by omega, rfl, p1, hb1⟩
        case round =>
          clear p1 hb1
          obtain ⟨s, hs, rfl, q1, qb⟩ := hrel
          have hI' := HI.out.below hsw qb
          have hX := box_at (B := W.heap.size + 1) (by rw [HV.out]; exact hI'.bl) rfl
          have x0 := hX.c0
          have x1 := hX.c1
          have x2 := hX.c2
          have xl := hX.lt
          by_cases hls : s < m.nx.length
          · have hMk := HM.out.below (by rw [HVs.out]; exact HI.out.bl)
            obtain ⟨b1, o1, rfl, hb1, ra, rc, hc0, r1, r2, hIA⟩ := hMk.nx s hls
            have hrl := HOK.out.len s hls
            have hrel := HOK.out.el s hls
            have h6 := HOK.out.l6
            have h1L := HOK.out.l1
            have HLn : Hid ((rowOf m s).length = m.L.toNat) := hid (by omega)
            have HLi : Hid (((rowOf m s).length : Int) = m.L) := hid hrl
            have hl6 : (rowOf m s).length ≤ 6 := by omega
            have i1 : (0 : Int) ≤ (s : Int) := by omega
            have i2 : (s : Int) < (m.nx.length : Int) := by omega
            have HEl := hid hrel
            have HIA := hid hIA
            have Hc0 := hid hc0
            obtain ⟨w0, hw0⟩ : ∃ w0, w0 = wr := ⟨_, rfl⟩
            subst hw0
            have Hp := hid q1
            have Hqb := hid qb
            have Hhc := hid hb1
            clear hI' hX hMk hrl hrel hIA q1 qb hb1 hc0
            go_wp2_with fail
            go_loopw [9] (fun v9 w' => ∃ a : Nat, a ≤ (rowOf m s).length ∧ v9 = .int .i64 a ∧ w'.rowIs Y.heap.size 3 m.nx.length (rowI (ptC m k s a)) ∧ Below Y.heap.size Y w') (fun v9 _ => (rowOf m s).length - (intOf v9).toNat)
            case atStart => exact ⟨0, by omega, rfl, Hp.out, Hqb.out⟩
            case round =>
              clear Hp Hqb x1 xl x0 x2
              obtain ⟨a, ha, rfl, p1, qb⟩ := hrel
              have hI' := HI.out.below hsw qb
              have hX := box_at (B := W.heap.size + 1) (by rw [HV.out]; exact hI'.bl) rfl
              have x0 := hX.c0
              have x1 := hX.c1
              have xl := hX.lt
              clear hX
              by_cases hla : a < (rowOf m s).length
              · have da : decide ((a : Int) < m.L) = true := decide_eq_true (by rw [← HLi.out]; omega)
                have hc := (qb.cell (p := ⟨b1, o1 + s, none⟩) Hhc.out).trans Hc0.out
                obtain ⟨b', o', rfl, hb', c1⟩ := (HIA.out.below qb) a hla
                have hel := HEl.out a hla
                obtain ⟨tn, htn⟩ : ∃ tn : Nat, nth (rowOf m s) a = (tn : Int) := ⟨(nth (rowOf m s) a).toNat, by omega⟩
                rw [htn] at c1 hel
                have htl : tn < m.nx.length := by omega
                obtain ⟨b6, k6, e6, _, c5⟩ := own_cell hI'.own k (by omega)
                cases e6
                rw [List.getElem?_map, List.getElem?_range (by omega), Option.map_some] at c5
                have ct := (hI'.rows k (by omega)).2.cell htl
                have z1 := p1.cell hls
                have y1 := p1.frozen s
                have hlB := p1.lt
                have hbp := ptC_bd m HOK.out.l6 k s a (by rw [← HLn.out]; omega)
                have hbc := cnt_bd m HOK.out.l6 k (tn : Int)
                have h6 := six_le (show k ≤ 20 by omega)
                have t1 := ptC_step p1 (t := (tn : Int)) (by show _ = nth (rowOf m ((s : Int)).toNat) a; simpa using htn.symm)
                have t2 := qb.setCell (p := ⟨Y.heap.size, s, none⟩) (Nat.le_refl _) (.int .i64 (ptC m k s a s + cnt m k (tn : Int)))
                unfold rowI at z1
                unfold cntI at ct
                generalize ptC m k s a s = pv at *
                generalize cnt m k (tn : Int) = cv at *
                generalize six k = sx at *
                have i3 : (0 : Int) ≤ (a : Int) := by omega
                have i4 : (a : Int) < ((rowOf m s).length : Int) := by omega
                have i5 : (0 : Int) ≤ (k : Int) := by omega
                have i6 : (k : Int) < (k : Int) + 1 := by omega
                have i7 : (0 : Int) ≤ (tn : Int) := by omega
                have i8 : (tn : Int) < (m.nx.length : Int) := by omega
                have H1 := hid t1
                have H2 := hid t2
                have HE := hid HEl.out
                clear p1 qb hI' t1 t2 htn hel
                have wk : IntKind.i64.wrap (k : Int) = (k : Int) := IntWalk.i64_in _ (by omega)
                go_wp2_with fail
                refine wp_region_still_tail 21 (by kernel_rfl) (by kernel_rfl) ?_
                simp only [List.take_succ_cons, List.take_zero, List.drop_succ_cons, List.drop_zero]
                refine St.out ?_
                iterate 21 (refine st_want (by kernel_rfl) (fun K hK => ?_); go_simp; refine hK _ ?_; clear hK K)
                refine st_nil ?_
                change wpList _ _ _ _ _ wr.drew
                clear wk
                go_wp2_with fail
                go_roundw
                case rel => exact ⟨a + 1, by omega, by go_num, H1.out, H2.out.drew⟩
                case measure => simp [intOf]; omega
              · have da : decide ((a : Int) < m.L) = false := decide_eq_false (by rw [← HLi.out]; omega)
                obtain rfl : a = (rowOf m s).length := by omega
                have p2 := ptC_next p1 HLn.out
                clear p1
                go_wp2_with fail
                go_roundw
                case rel => exact ⟨s + 1, by omega, by go_num, p2, qb⟩
                case measure => simp [intOf]; omega
          · obtain rfl : s = m.nx.length := by omega
            have hsz := qb.size
            have HJ := hid hI'
            have Hr := hid (ptC_end q1)
            clear hI' q1 qb hX x0 x2
            go_wp2_with (at_builtin; go_loud (refine wpList_append_own_at (o := ⟨some 72, _, _, _, _, _⟩) _ rfl _ _ 22 rfl (W.heap.size + 1) 33 i3 (.slice none 0 0) 1 24 Try.underlying22 hi3 hy0 hy1 hy2 rfl (by decide) _ _ _ rfl (HJ.out.own.alloc _) ⟨wr.heap.size, 0, none⟩ 1 1 [.slice (some ⟨Y.heap.size, 0, none⟩) m.nx.length m.nx.length] rfl rfl (news_1 wr (.slice (some ⟨Y.heap.size, 0, none⟩) m.nx.length m.nx.length) 33).out (by simp [Value.oneCell']) (by unfold maxLen; omega) (by omega) (by simp; omega) ?_); intro v' w6 hown6 hgrow6 _ hat6)
            have hJ := HJ.out.push (by omega) (gn := Y.heap.size) (by omega) Hr.out hgrow6 hown6
            have hs6 : W.heap.size + 1 ≤ w6.heap.size := by have := hgrow6.size; simp at this; omega
            clear HJ Hr hgrow6 hown6 hat6
            go_wp2_with fail
            go_roundw
            case rel => exact ⟨_ + 1, _, by omega, by go_num, hJ, hs6⟩
            case measure => first | (simp [intOf]; done) | (simp [intOf]; omega)

    · obtain rfl : k = n + 1 := by omega
      obtain ⟨b5, k5, hT⟩ := hI.at (by omega)
      have hbW : Below W.heap.size W wr := HBz.out.trans (hI.bl.mono (by omega))
      clear hI
      go_wp2_with fail
      go_ret
      exact ⟨_, _, _, rfl, hT, hbW⟩
end Go.Proofs.Ytmllbemjcfkmjaa
