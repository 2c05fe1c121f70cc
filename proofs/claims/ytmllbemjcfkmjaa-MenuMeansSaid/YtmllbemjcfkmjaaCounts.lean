/- 'counts' and the document's 'table': how many words of each length are accepted from each state. -/
import Derived.Test.YtmllbemjcfkmjaaTab
import Derived.Test.YtmllbemjcfkmjaaStillSt
namespace Go.Proofs.Ytmllbemjcfkmjaa
open Go.RowKit Go.Maps
set_option linter.unusedSimpArgs false
set_option linter.unusedVariables false

def TabPost (n N : Nat) (f : Nat → Nat → Int) (W : World) (e : Ending) (w' : World) : Prop :=
  ∃ v b cap, e = .returned v ∧ TabAt w' v n N f b cap ∧ Below W.heap.size W w'
theorem news_1 (w : World) (x : Value) (e : TypeId) : Hid (∀ t u, ([x])[t]? = some u → (w.alloc (.cells #[x] e)).cell? ((⟨w.heap.size, 0, none⟩ : Addr).add t) = some u) := by
  have := World.news_of_block (cs := #[x]) (t := e) (fr := (0, 0)) (heap_alloc_new w (.cells #[x] e))
  exact hid (by simpa using this)
theorem row_shp {w : World} {B n : Nat} {e : TypeId} {v : Value} {xs : List Value} (h : w.ownsRow B e 1 v n xs) : ∃ a cap, v = .slice a n cap := by
  rcases h.2 with ⟨rfl, rfl⟩ | ⟨g, cap, cur, rfl, _⟩
  · exact ⟨_, _, rfl⟩
  · exact ⟨_, _, rfl⟩
theorem own_new1 (w : World) (x : Value) (e : TypeId) (B : Nat) (hB : B ≤ w.heap.size) : (w.alloc (.cells #[x] e)).ownsRow B e 1 (.slice (some ⟨w.heap.size, 0, none⟩) 1 1) 1 [x] :=
  ⟨rfl, .inr ⟨w.heap.size, 1, #[x], rfl, hB, heap_alloc_new w _, Nat.le_refl _, by unfold maxLen; omega, rfl, rfl⟩⟩
theorem own_row_set {w : World} {B n b N : Nat} {v : Value} {xs : List Value} {f : Nat → Value} (h : w.ownsRow B 33 1 v n xs) (hr : w.rowIs b 3 N f) (i : Nat) (u : Value) : (w.setCell ⟨b, i, none⟩ u).ownsRow B 33 1 v n xs :=
  h.kept (but_store (World.grownBy.refl _ (some b)) i u) (by
    cases hv : v.ownBlock with
    | none => exact .inl rfl
    | some g => exact .inr (by rw [← hv]; exact own_row_ne hr h (by decide)))

set_option maxRecDepth 100000 in
set_option maxHeartbeats 4000000 in
theorem counts_any (m : Mac) (a a2 : Option Addr) (cap cap2 : Nat) (n : Nat) (W : World) (hM : MacAt W a cap a2 cap2 m) (hOK : MacOK m) (hn : n ≤ 20) :
    Calls Try.prog 74 #[.agg #[.int .i64 m.L, .slice a m.nx.length cap, .slice a2 m.ac.length cap2], .int .i64 n] W (TabPost (n + 1) m.nx.length (cntI m) W) := by
  have hb0 := below_alloc W (.cells #[.int .i64 m.L, .slice a m.nx.length cap, .slice a2 m.ac.length cap2] 25)
  have HM := hid (hM.below hb0)
  have HBz := hid hb0
  have h64 := hOK.n64
  have hn1 := hOK.n1
  have Hac := hid hOK.ac
  have HOK := hid hOK
  clear hM hb0 hOK
  obtain ⟨i3, hi3, hy0, hy1, hy2⟩ := info_parts info33
  go_enter Try.func74, Try.ntmps74
  go_wp2_with (refine wpList_make_int (o := ⟨some 16, _, _, _, _, _⟩) _ rfl _ _ 33 rfl 3 (.int .i64 0) 8 Try.underlying33 info3 rfl .i64 .i64 _ _ m.nx.length rfl rfl rfl rfl (by omega) (by omega) ?_; intro w1 hr1 hz1 hb1; have hX := box_at hb1 (by simp); have x1 := hX.c1; have x2 := hX.c2; have xl := hX.lt; clear hX)
  generalize hV : W.alloc (.cells #[.int .i64 m.L, .slice a m.nx.length cap, .slice a2 m.ac.length cap2] 25) = V at *
  have HV := hid hV
  have hVs : V.heap.size = W.heap.size + 1 := by rw [← hV]; simp
  clear hV
  rw [hVs] at hr1 hz1 hb1
  have hown : (w1.alloc (.cells #[.slice (some ⟨W.heap.size + 1, 0, none⟩) m.nx.length m.nx.length] 33)).ownsRow (W.heap.size + 1) 33 1 (.slice (some ⟨W.heap.size + 1 + 1, 0, none⟩) 1 1) 1 [.slice (some ⟨W.heap.size + 1, 0, none⟩) m.nx.length m.nx.length] := by
    have := own_new1 w1 (.slice (some ⟨W.heap.size + 1, 0, none⟩) m.nx.length m.nx.length) 33 (W.heap.size + 1) (by omega)
    rw [hz1] at this
    exact this
  have hr2 := bit_zero (fun s : Nat => accM m (s : Int)) (hr1.alloc (.cells #[.slice (some ⟨W.heap.size + 1, 0, none⟩) m.nx.length m.nx.length] 33))
  have hb2 := hb1.alloc (o := .cells #[.slice (some ⟨W.heap.size + 1, 0, none⟩) m.nx.length m.nx.length] 33) (by omega)
  have HVs := hid hVs
  clear hVs hr1 hb1 hz1 x1 x2 xl
  go_loopw [6, 7, 21] (fun v6 v7 v21 w' => ∃ k : Nat, k ≤ m.nx.length ∧ v21 = .int .i64 k ∧ w'.rowIs (W.heap.size + 1) 3 m.nx.length (rowI (bitN (fun s : Nat => accM m (s : Int)) k)) ∧ w'.ownsRow (W.heap.size + 1) 33 1 (.slice (some ⟨W.heap.size + 1 + 1, 0, none⟩) 1 1) 1 [.slice (some ⟨W.heap.size + 1, 0, none⟩) m.nx.length m.nx.length] ∧ Below (W.heap.size + 1) V w') (fun _ _ v21 _ => m.nx.length - (intOf v21).toNat)
  case atStart => exact ⟨0, by omega, rfl, hr2, hown, hb2⟩
  case round =>
    clear hr2 hown hb2
    obtain ⟨k, hk, rfl, q1, qo, qb⟩ := hrel
    by_cases hlt : k < m.nx.length
    · have hMk := HM.out.below (by rw [HVs.out]; exact qb)
      obtain ⟨b2, o2, rfl, hb2, c2⟩ := hMk.ac k (by rw [Hac.out]; exact hlt)
      obtain ⟨b5, k5, e5, _, c5⟩ := own_cell qo 0 (by omega)
      cases e5
      have c5' : wr.cell? ⟨W.heap.size + 1 + 1, 0, none⟩ = some (.slice (some ⟨W.heap.size + 1, 0, none⟩) m.nx.length m.nx.length) := c5
      have z1 := q1.cell hlt
      have y1 := q1.frozen k
      have hlB := q1.lt
      have i1 : (0 : Int) ≤ (k : Int) := by omega
      have i2 : (k : Int) < (m.nx.length : Int) := by omega
      have i3 : (k : Int) < (m.ac.length : Int) := by rw [Hac.out]; omega
      have ha : accM m (k : Int) = m.ac.getD k false := rfl
      clear c5 hMk
      unfold rowI at z1
      generalize m.ac.getD k false = x at *
      cases x with
      | true =>
        have t1 := bit_yes q1 ha
        have t2 := own_row_set qo q1 k (.int .i64 1)
        have t3 := qb.setCell (p := ⟨W.heap.size + 1, k, none⟩) (Nat.le_refl _) (.int .i64 1)
        have H1 := hid t1
        have H2 := hid t2
        clear q1 qo qb ha t1 t2
        go_wp2_with fail
        go_roundw
        case rel => exact ⟨k + 1, by omega, by go_num, H1.out, H2.out, t3⟩
        case measure => simp [intOf]; omega
      | false =>
        have t1 := bit_no q1 ha
        clear q1 ha
        go_wp2_with fail
        go_roundw
        case rel => exact ⟨k + 1, by omega, by go_num, t1, qo, qb⟩
        case measure => simp [intOf]; omega
    · obtain rfl : k = m.nx.length := by omega
      have hT : TabI V (W.heap.size + 1) m.nx.length 1 (cntI m) (.slice (some ⟨W.heap.size + 1 + 1, 0, none⟩) 1 1) (fun _ => W.heap.size + 1) wr :=
        ⟨qb, qo, fun j hj => by obtain rfl : j = 0 := by omega
                                exact ⟨Nat.le_refl _, bit_cnt q1⟩⟩
      have hsw : W.heap.size + 1 ≤ wr.heap.size := by have := q1.lt; omega
      have i4 : m.ac.length ≤ m.nx.length := by rw [Hac.out]; omega
      have d4 : decide (m.nx.length < m.ac.length) = false := decide_eq_false (by omega)
      clear q1 qo qb
      go_wp2_with fail
      clear i4 d4
      go_loopw [5, 8, 9, 10, 12, 34, 43, 52] (fun v5 v8 v9 v10 v12 v34 v43 v52 w' => ∃ (k : Nat) (g : Nat → Nat), k ≤ n ∧ v34 = .int .i64 k ∧ TabI V (W.heap.size + 1) m.nx.length (k + 1) (cntI m) v5 g w' ∧ W.heap.size + 1 ≤ w'.heap.size) (fun _ _ _ _ _ v34 _ _ _ => n - (intOf v34).toNat)
      case atStart => exact ⟨0, fun _ => W.heap.size + 1, by omega, rfl, hT, hsw⟩
      case round =>
        clear hT hsw hlt hk
        obtain ⟨k, g, hk, rfl, hI, hsw⟩ := hrel
        by_cases hlt : k < n
        · obtain ⟨b5, k5, e5, hl5, _⟩ := own_cell hI.own 0 (by omega)
          subst e5
          obtain ⟨Y, hY⟩ : ∃ Y, Y = wr := ⟨_, rfl⟩
          subst hY
          have hX := box_at (B := W.heap.size + 1) (by rw [HV.out]; exact hI.bl) rfl
          have x1 := hX.c1
          have xl := hX.lt
          have HI := hid hI
          clear hX hI
          go_wp2_with (refine wpList_make_int (o := ⟨some 40, _, _, _, _, _⟩) _ rfl _ _ 33 rfl 3 (.int .i64 0) 8 Try.underlying33 info3 rfl .i64 .i64 _ _ m.nx.length rfl rfl rfl rfl (by omega) (by omega) ?_; intro w1 hr1 hz1 hb1)
          have p1 := ptC_zero (m := m) (k := k) hr1
          clear hr1 hz1 x1 xl
          go_loopw [10, 12, 43, 52] (fun v10 v12 v43 v52 w' => ∃ s : Nat, s ≤ m.nx.length ∧ v43 = .int .i64 s ∧ w'.rowIs Y.heap.size 3 m.nx.length (rowI (ptC m k s 0)) ∧ Below Y.heap.size Y w') (fun _ _ v43 _ _ => m.nx.length - (intOf v43).toNat)
          case atStart => exact ⟨0, by omega, rfl, p1, hb1⟩
          case round =>
            clear p1 hb1
            obtain ⟨s, hs, rfl, p1, qb⟩ := hrel
            by_cases hls : s < m.nx.length
            · have hI' := HI.out.below hsw qb
              have hX := box_at (B := W.heap.size + 1) (by rw [HV.out]; exact hI'.bl) rfl
              have x1 := hX.c1
              have xl := hX.lt
              have hMk := HM.out.below (by rw [HVs.out]; exact HI.out.bl)
              obtain ⟨b1, o1, rfl, hb1, ra, rc, hc0, r1, r2, hIA⟩ := hMk.nx s hls
              have hc := (qb.cell (p := ⟨b1, o1 + s, none⟩) hb1).trans hc0
              have hrl := HOK.out.len s hls
              have hrel := HOK.out.el s hls
              have h6 := HOK.out.l6
              have h1L := HOK.out.l1
              have HLn : Hid ((rowOf m s).length = m.L.toNat) := hid (by omega)
              have hl6 : (rowOf m s).length ≤ 6 := by omega
              have i1 : (0 : Int) ≤ (s : Int) := by omega
              have i2 : (s : Int) < (m.nx.length : Int) := by omega
              have HEl := hid hrel
              have HIA := hid hIA
              obtain ⟨w0, hw0⟩ : ∃ w0, w0 = wr := ⟨_, rfl⟩
              subst hw0
              have Hp := hid p1
              have Hqb := hid qb
              have Hhc := hid hb1
              clear hI' hX hMk hrl hrel h6 h1L hIA p1 qb hb1 hc0
              go_wp2_with fail
              go_loopw [12, 52] (fun v12 v52 w' => ∃ a : Nat, a ≤ (rowOf m s).length ∧ v52 = .int .i64 a ∧ w'.rowIs Y.heap.size 3 m.nx.length (rowI (ptC m k s a)) ∧ Below Y.heap.size Y w') (fun _ v52 _ => (rowOf m s).length - (intOf v52).toNat)
              case atStart => exact ⟨0, by omega, rfl, Hp.out, Hqb.out⟩
              case round =>
                clear Hp Hqb Hhc x1 xl hc
                obtain ⟨a, ha, rfl, p1, qb⟩ := hrel
                by_cases hla : a < (rowOf m s).length
                · have hI' := HI.out.below hsw qb
                  obtain ⟨b', o', rfl, hb', c1⟩ := (HIA.out.below qb) a hla
                  have hel := HEl.out a hla
                  obtain ⟨tn, htn⟩ : ∃ tn : Nat, nth (rowOf m s) a = (tn : Int) := ⟨(nth (rowOf m s) a).toNat, by omega⟩
                  rw [htn] at c1 hel
                  have htl : tn < m.nx.length := by omega
                  obtain ⟨b6, k6, e6, _, c5⟩ := own_cell hI'.own k (by omega)
                  cases e6
                  rw [List.getElem?_map, List.getElem?_range (by omega), Option.map_some] at c5
                  have ct := (hI'.rows k (by omega)).2.cell htl
                  have z1 := p1.cell hls
                  have y1 := p1.frozen s
                  have hlB := p1.lt
                  have hbp := ptC_bd m HOK.out.l6 k s a (by rw [← HLn.out]; omega)
                  have hbc := cnt_bd m HOK.out.l6 k (tn : Int)
                  have h6 := six_le (show k ≤ 20 by omega)
                  have t1 := ptC_step p1 (t := (tn : Int)) (by show _ = nth (rowOf m ((s : Int)).toNat) a; simpa using htn.symm)
                  have t2 := qb.setCell (p := ⟨Y.heap.size, s, none⟩) (Nat.le_refl _) (.int .i64 (ptC m k s a s + cnt m k (tn : Int)))
                  unfold rowI at z1
                  unfold cntI at ct
                  generalize ptC m k s a s = pv at *
                  generalize cnt m k (tn : Int) = cv at *
                  generalize six k = sx at *
                  have i3 : (0 : Int) ≤ (a : Int) := by omega
                  have i4 : (a : Int) < ((rowOf m s).length : Int) := by omega
                  have i5 : (0 : Int) ≤ (k : Int) := by omega
                  have i6 : (k : Int) < (k : Int) + 1 := by omega
                  have i7 : (0 : Int) ≤ (tn : Int) := by omega
                  have i8 : (tn : Int) < (m.nx.length : Int) := by omega
                  have H1 := hid t1
                  have H2 := hid t2
                  have HE := hid HEl.out
                  clear p1 qb hI' t1 t2 htn hel
                  go_wp2_with fail
                  refine wp_region_still_tail 13 (by kernel_rfl) (by kernel_rfl) ?_
                  simp only [List.take_succ_cons, List.take_zero, List.drop_succ_cons, List.drop_zero]
                  refine St.out ?_
                  iterate 13 (refine st_want (by kernel_rfl) (fun K hK => ?_); go_simp; refine hK _ ?_; clear hK K)
                  refine st_nil ?_
                  change wpList _ _ _ _ _ wr.drew
                  go_wp2_with fail
                  go_roundw
                  case rel => exact ⟨a + 1, by omega, by go_num, H1.out, H2.out.drew⟩
                  case measure => simp [intOf]; omega
                · obtain rfl : a = (rowOf m s).length := by omega
                  have p2 := ptC_next p1 HLn.out
                  clear p1
                  go_wp2_with fail
                  go_roundw
                  case rel => exact ⟨s + 1, by omega, by go_num, p2, qb⟩
                  case measure => simp [intOf]; omega
            · obtain rfl : s = m.nx.length := by omega
              have hI' := HI.out.below hsw qb
              have hsz := qb.size
              have HJ := hid hI'
              have Hr := hid (ptC_end p1)
              clear hI' p1 qb
              go_wp2_with (at_builtin; go_loud (refine wpList_append_own_at (o := ⟨some 74, _, _, _, _, _⟩) _ rfl _ _ 22 rfl (W.heap.size + 1) 33 i3 (.slice none 0 0) 1 24 Try.underlying22 hi3 hy0 hy1 hy2 rfl (by decide) _ _ _ rfl (HJ.out.own.alloc _) ⟨wr.heap.size, 0, none⟩ 1 1 [.slice (some ⟨Y.heap.size, 0, none⟩) m.nx.length m.nx.length] rfl rfl (news_1 wr (.slice (some ⟨Y.heap.size, 0, none⟩) m.nx.length m.nx.length) 33).out (by simp [Value.oneCell']) (by unfold maxLen; omega) (by omega) (by simp; omega) ?_); intro v' w6 hown6 hgrow6 _ hat6)
              have hJ := HJ.out.push (by omega) (gn := Y.heap.size) (by omega) Hr.out hgrow6 hown6
              have hs6 : W.heap.size + 1 ≤ w6.heap.size := by have := hgrow6.size; simp at this; omega
              clear HJ Hr hgrow6 hown6 hat6
              go_wp2_with fail
              go_roundw
              case rel => exact ⟨k + 1, _, by omega, by go_num, hJ, hs6⟩
              case measure => simp [intOf]; omega
        · obtain rfl : k = n := by omega
          obtain ⟨b5, k5, hT⟩ := hI.at (by omega)
          have hbW : Below W.heap.size W wr := HBz.out.trans (hI.bl.mono (by omega))
          clear hI
          go_wp2_with fail
          go_ret
          exact ⟨_, _, _, rfl, hT, hbW⟩
end Go.Proofs.Ytmllbemjcfkmjaa
