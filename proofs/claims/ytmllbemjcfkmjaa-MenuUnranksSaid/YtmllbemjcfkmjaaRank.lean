/- Texts of the menu seat in one: Counts, Table, Err, Count, RankLaw, Rank. -/
import Derived.Test.YtmllbemjcfkmjaaTab
import Derived.Test.YtmllbemjcfkmjaaPlainOut
/- 'counts' and the document's 'table': how many words of each length are accepted from each state. -/
namespace Go.Proofs.Ytmllbemjcfkmjaa
open Go.RowKit Go.Maps
set_option linter.unusedSimpArgs false
set_option linter.unusedVariables false

def TabPost (n N : Nat) (f : Nat → Nat → Int) (W : World) (e : Ending) (w' : World) : Prop :=
  ∃ v b cap, e = .returned v ∧ TabAt w' v n N f b cap ∧ Below W.heap.size W w'
theorem news_1 (w : World) (x : Value) (e : TypeId) : Hid (∀ t u, ([x])[t]? = some u → (w.alloc (.cells #[x] e)).cell? ((⟨w.heap.size, 0, none⟩ : Addr).add t) = some u) := by
  have := World.news_of_block (cs := #[x]) (t := e) (fr := (0, 0)) (heap_alloc_new w (.cells #[x] e))
  exact hid (by simpa using this)
theorem row_shp {w : World} {B n : Nat} {e : TypeId} {v : Value} {xs : List Value} (h : w.ownsRow B e 1 v n xs) : ∃ a cap, v = .slice a n cap := by
  rcases h.2 with ⟨rfl, rfl⟩ | ⟨g, cap, cur, rfl, _⟩
  · exact ⟨_, _, rfl⟩
  · exact ⟨_, _, rfl⟩
theorem own_new1 (w : World) (x : Value) (e : TypeId) (B : Nat) (hB : B ≤ w.heap.size) : (w.alloc (.cells #[x] e)).ownsRow B e 1 (.slice (some ⟨w.heap.size, 0, none⟩) 1 1) 1 [x] :=
  ⟨rfl, .inr ⟨w.heap.size, 1, #[x], rfl, hB, heap_alloc_new w _, Nat.le_refl _, by unfold maxLen; omega, rfl, rfl⟩⟩
theorem own_row_set {w : World} {B n b N : Nat} {v : Value} {xs : List Value} {f : Nat → Value} (h : w.ownsRow B 33 1 v n xs) (hr : w.rowIs b 3 N f) (i : Nat) (u : Value) : (w.setCell ⟨b, i, none⟩ u).ownsRow B 33 1 v n xs :=
  h.kept (but_store (World.grownBy.refl _ (some b)) i u) (by
    cases hv : v.ownBlock with
    | none => exact .inl rfl
    | some g => exact .inr (by rw [← hv]; exact own_row_ne hr h (by decide)))

set_option maxRecDepth 100000 in
set_option maxHeartbeats 4000000 in
theorem counts_any (m : Mac) (a a2 : Option Addr) (cap cap2 : Nat) (n : Nat) (W : World) (hM : MacAt W a cap a2 cap2 m) (hOK : MacOK m) (hn : n ≤ 20) :
    Calls Try.prog 74 #[.agg #[.int .i64 m.L, .slice a m.nx.length cap, .slice a2 m.ac.length cap2], .int .i64 n] W (TabPost (n + 1) m.nx.length (cntI m) W) := by
  have hb0 := below_alloc W (.cells #[.int .i64 m.L, .slice a m.nx.length cap, .slice a2 m.ac.length cap2] 25)
  have HM := hid (hM.below hb0)
  have HBz := hid hb0
  have h64 := hOK.n64
  have hn1 := hOK.n1
  have Hac := hid hOK.ac
  have HOK := hid hOK
  clear hM hb0 hOK
  obtain ⟨i3, hi3, hy0, hy1, hy2⟩ := info_parts info33
  go_enter Try.func74, Try.ntmps74
  go_wp2_with (refine wpList_make_int (o := ⟨some 16, _, _, _, _, _⟩) _ rfl _ _ 33 rfl 3 (.int .i64 0) 8 Try.underlying33 info3 rfl .i64 .i64 _ _ m.nx.length rfl rfl rfl rfl (by omega) (by omega) ?_; intro w1 hr1 hz1 hb1; have hX := box_at hb1 (by simp); have x1 := hX.c1; have x2 := hX.c2; have xl := hX.lt; clear hX)
  generalize hV : W.alloc (.cells #[.int .i64 m.L, .slice a m.nx.length cap, .slice a2 m.ac.length cap2] 25) = V at *
  have HV := hid hV
  have hVs : V.heap.size = W.heap.size + 1 := by rw [← hV]; simp
  clear hV
  rw [hVs] at hr1 hz1 hb1
  have hown : (w1.alloc (.cells #[.slice (some ⟨W.heap.size + 1, 0, none⟩) m.nx.length m.nx.length] 33)).ownsRow (W.heap.size + 1) 33 1 (.slice (some ⟨W.heap.size + 1 + 1, 0, none⟩) 1 1) 1 [.slice (some ⟨W.heap.size + 1, 0, none⟩) m.nx.length m.nx.length] := by
    have := own_new1 w1 (.slice (some ⟨W.heap.size + 1, 0, none⟩) m.nx.length m.nx.length) 33 (W.heap.size + 1) (by omega)
    rw [hz1] at this
    exact this
  have hr2 := bit_zero (fun s : Nat => accM m (s : Int)) (hr1.alloc (.cells #[.slice (some ⟨W.heap.size + 1, 0, none⟩) m.nx.length m.nx.length] 33))
  have hb2 := hb1.alloc (o := .cells #[.slice (some ⟨W.heap.size + 1, 0, none⟩) m.nx.length m.nx.length] 33) (by omega)
  have HVs := hid hVs
  clear hVs hr1 hb1 hz1 x1 x2 xl
  go_loopw [6, 7, 21] (fun v6 v7 v21 w' => ∃ k : Nat, k ≤ m.nx.length ∧ v21 = .int .i64 k ∧ w'.rowIs (W.heap.size + 1) 3 m.nx.length (rowI (bitN (fun s : Nat => accM m (s : Int)) k)) ∧ w'.ownsRow (W.heap.size + 1) 33 1 (.slice (some ⟨W.heap.size + 1 + 1, 0, none⟩) 1 1) 1 [.slice (some ⟨W.heap.size + 1, 0, none⟩) m.nx.length m.nx.length] ∧ Below (W.heap.size + 1) V w') (fun _ _ v21 _ => m.nx.length - (intOf v21).toNat)
  case atStart => exact ⟨0, by omega, rfl, hr2, hown, hb2⟩
  case round =>
    clear hr2 hown hb2
    obtain ⟨k, hk, rfl, q1, qo, qb⟩ := hrel
    by_cases hlt : k < m.nx.length
    · have hMk := HM.out.below (by rw [HVs.out]; exact qb)
      obtain ⟨b2, o2, rfl, hb2, c2⟩ := hMk.ac k (by rw [Hac.out]; exact hlt)
      obtain ⟨b5, k5, e5, _, c5⟩ := own_cell qo 0 (by omega)
      cases e5
      have c5' : wr.cell? ⟨W.heap.size + 1 + 1, 0, none⟩ = some (.slice (some ⟨W.heap.size + 1, 0, none⟩) m.nx.length m.nx.length) := c5
      have z1 := q1.cell hlt
      have y1 := q1.frozen k
      have hlB := q1.lt
      have i1 : (0 : Int) ≤ (k : Int) := by omega
      have i2 : (k : Int) < (m.nx.length : Int) := by omega
      have i3 : (k : Int) < (m.ac.length : Int) := by rw [Hac.out]; omega
      have ha : accM m (k : Int) = m.ac.getD k false := rfl
      clear c5 hMk
      unfold rowI at z1
      generalize m.ac.getD k false = x at *
      cases x with
      | true =>
        have t1 := bit_yes q1 ha
        have t2 := own_row_set qo q1 k (.int .i64 1)
        have t3 := qb.setCell (p := ⟨W.heap.size + 1, k, none⟩) (Nat.le_refl _) (.int .i64 1)
        have H1 := hid t1
        have H2 := hid t2
        clear q1 qo qb ha t1 t2
        go_wp2_with fail
        go_roundw
        case rel => exact ⟨k + 1, by omega, by go_num, H1.out, H2.out, t3⟩
        case measure => simp [intOf]; omega
      | false =>
        have t1 := bit_no q1 ha
        clear q1 ha
        go_wp2_with fail
        go_roundw
        case rel => exact ⟨k + 1, by omega, by go_num, t1, qo, qb⟩
        case measure => simp [intOf]; omega
    · obtain rfl : k = m.nx.length := by omega
      have hT : TabI V (W.heap.size + 1) m.nx.length 1 (cntI m) (.slice (some ⟨W.heap.size + 1 + 1, 0, none⟩) 1 1) (fun _ => W.heap.size + 1) wr :=
        ⟨qb, qo, fun j hj => by obtain rfl : j = 0 := by omega
                                exact ⟨Nat.le_refl _, bit_cnt q1⟩⟩
      have hsw : W.heap.size + 1 ≤ wr.heap.size := by have := q1.lt; omega
      have i4 : m.ac.length ≤ m.nx.length := by rw [Hac.out]; omega
      have d4 : decide (m.nx.length < m.ac.length) = false := decide_eq_false (by omega)
      clear q1 qo qb
      go_wp2_with fail
      clear i4 d4
      go_loopw [5, 8, 9, 10, 12, 34, 43, 52] (fun v5 v8 v9 v10 v12 v34 v43 v52 w' => ∃ (k : Nat) (g : Nat → Nat), k ≤ n ∧ v34 = .int .i64 k ∧ TabI V (W.heap.size + 1) m.nx.length (k + 1) (cntI m) v5 g w' ∧ W.heap.size + 1 ≤ w'.heap.size) (fun _ _ _ _ _ v34 _ _ _ => n - (intOf v34).toNat)
      case atStart => exact ⟨0, fun _ => W.heap.size + 1, by omega, rfl, hT, hsw⟩
      case round =>
        clear hT hsw hlt hk
        obtain ⟨k, g, hk, rfl, hI, hsw⟩ := hrel
        by_cases hlt : k < n
        · obtain ⟨b5, k5, e5, hl5, _⟩ := own_cell hI.own 0 (by omega)
          subst e5
          obtain ⟨Y, hY⟩ : ∃ Y, Y = wr := ⟨_, rfl⟩
          subst hY
          have hX := box_at (B := W.heap.size + 1) (by rw [HV.out]; exact hI.bl) rfl
          have x1 := hX.c1
          have xl := hX.lt
          have HI := hid hI
          clear hX hI
          go_wp2_with (refine wpList_make_int (o := ⟨some 40, _, _, _, _, _⟩) _ rfl _ _ 33 rfl 3 (.int .i64 0) 8 Try.underlying33 info3 rfl .i64 .i64 _ _ m.nx.length rfl rfl rfl rfl (by omega) (by omega) ?_; intro w1 hr1 hz1 hb1)
          have p1 := ptC_zero (m := m) (k := k) hr1
          clear hr1 hz1 x1 xl
          go_loopw [10, 12, 43, 52] (fun v10 v12 v43 v52 w' => ∃ s : Nat, s ≤ m.nx.length ∧ v43 = .int .i64 s ∧ w'.rowIs Y.heap.size 3 m.nx.length (rowI (ptC m k s 0)) ∧ Below Y.heap.size Y w') (fun _ _ v43 _ _ => m.nx.length - (intOf v43).toNat)
          case atStart => exact ⟨0, by omega, rfl, p1, hb1⟩
          case round =>
            clear p1 hb1
            obtain ⟨s, hs, rfl, p1, qb⟩ := hrel
            by_cases hls : s < m.nx.length
            · have hI' := HI.out.below hsw qb
              have hX := box_at (B := W.heap.size + 1) (by rw [HV.out]; exact hI'.bl) rfl
              have x1 := hX.c1
              have xl := hX.lt
              have hMk := HM.out.below (by rw [HVs.out]; exact HI.out.bl)
              obtain ⟨b1, o1, rfl, hb1, ra, rc, hc0, r1, r2, hIA⟩ := hMk.nx s hls
              have hc := (qb.cell (p := ⟨b1, o1 + s, none⟩) hb1).trans hc0
              have hrl := HOK.out.len s hls
              have hrel := HOK.out.el s hls
              have h6 := HOK.out.l6
              have h1L := HOK.out.l1
              have HLn : Hid ((rowOf m s).length = m.L.toNat) := hid (by omega)
              have hl6 : (rowOf m s).length ≤ 6 := by omega
              have i1 : (0 : Int) ≤ (s : Int) := by omega
              have i2 : (s : Int) < (m.nx.length : Int) := by omega
              have HEl := hid hrel
              have HIA := hid hIA
              obtain ⟨w0, hw0⟩ : ∃ w0, w0 = wr := ⟨_, rfl⟩
              subst hw0
              have Hp := hid p1
              have Hqb := hid qb
              have Hhc := hid hb1
              clear hI' hX hMk hrl hrel h6 h1L hIA p1 qb hb1 hc0
              go_wp2_with fail
              go_loopw [12, 52] (fun v12 v52 w' => ∃ a : Nat, a ≤ (rowOf m s).length ∧ v52 = .int .i64 a ∧ w'.rowIs Y.heap.size 3 m.nx.length (rowI (ptC m k s a)) ∧ Below Y.heap.size Y w') (fun _ v52 _ => (rowOf m s).length - (intOf v52).toNat)
              case atStart => exact ⟨0, by omega, rfl, Hp.out, Hqb.out⟩
              case round =>
                clear Hp Hqb Hhc x1 xl hc
                obtain ⟨a, ha, rfl, p1, qb⟩ := hrel
                by_cases hla : a < (rowOf m s).length
                · have hI' := HI.out.below hsw qb
                  obtain ⟨b', o', rfl, hb', c1⟩ := (HIA.out.below qb) a hla
                  have hel := HEl.out a hla
                  obtain ⟨tn, htn⟩ : ∃ tn : Nat, nth (rowOf m s) a = (tn : Int) := ⟨(nth (rowOf m s) a).toNat, by omega⟩
                  rw [htn] at c1 hel
                  have htl : tn < m.nx.length := by omega
                  obtain ⟨b6, k6, e6, _, c5⟩ := own_cell hI'.own k (by omega)
                  cases e6
                  rw [List.getElem?_map, List.getElem?_range (by omega), Option.map_some] at c5
                  have ct := (hI'.rows k (by omega)).2.cell htl
                  have z1 := p1.cell hls
                  have y1 := p1.frozen s
                  have hlB := p1.lt
                  have hbp := ptC_bd m HOK.out.l6 k s a (by rw [← HLn.out]; omega)
                  have hbc := cnt_bd m HOK.out.l6 k (tn : Int)
                  have h6 := six_le (show k ≤ 20 by omega)
                  have t1 := ptC_step p1 (t := (tn : Int)) (by show _ = nth (rowOf m ((s : Int)).toNat) a; simpa using htn.symm)
                  have t2 := qb.setCell (p := ⟨Y.heap.size, s, none⟩) (Nat.le_refl _) (.int .i64 (ptC m k s a s + cnt m k (tn : Int)))
                  unfold rowI at z1
                  unfold cntI at ct
                  generalize ptC m k s a s = pv at *
                  generalize cnt m k (tn : Int) = cv at *
                  generalize six k = sx at *
                  have i3 : (0 : Int) ≤ (a : Int) := by omega
                  have i4 : (a : Int) < ((rowOf m s).length : Int) := by omega
                  have i5 : (0 : Int) ≤ (k : Int) := by omega
                  have i6 : (k : Int) < (k : Int) + 1 := by omega
                  have i7 : (0 : Int) ≤ (tn : Int) := by omega
                  have i8 : (tn : Int) < (m.nx.length : Int) := by omega
                  have H1 := hid t1
                  have H2 := hid t2
                  have HE := hid HEl.out
                  clear p1 qb hI' t1 t2 htn hel
                  go_wp2_with fail
                  refine wp_region_still_tail 13 (by kernel_rfl) (by kernel_rfl) ?_
                  simp only [List.take_succ_cons, List.take_zero, List.drop_succ_cons, List.drop_zero]
                  refine St.out ?_
                  iterate 13 (refine st_want (by kernel_rfl) (fun K hK => ?_); go_simp; refine hK _ ?_; clear hK K)
                  refine st_nil ?_
                  change wpList _ _ _ _ _ wr.drew
                  go_wp2_with fail
                  go_roundw
                  case rel => exact ⟨a + 1, by omega, by go_num, H1.out, H2.out.drew⟩
                  case measure => simp [intOf]; omega
                · obtain rfl : a = (rowOf m s).length := by omega
                  have p2 := ptC_next p1 HLn.out
                  clear p1
                  go_wp2_with fail
                  go_roundw
                  case rel => exact ⟨s + 1, by omega, by go_num, p2, qb⟩
                  case measure => simp [intOf]; omega
            · obtain rfl : s = m.nx.length := by omega
              have hI' := HI.out.below hsw qb
              have hsz := qb.size
              have HJ := hid hI'
              have Hr := hid (ptC_end p1)
              clear hI' p1 qb
              go_wp2_with (at_builtin; go_loud (refine wpList_append_own_at (o := ⟨some 74, _, _, _, _, _⟩) _ rfl _ _ 22 rfl (W.heap.size + 1) 33 i3 (.slice none 0 0) 1 24 Try.underlying22 hi3 hy0 hy1 hy2 rfl (by decide) _ _ _ rfl (HJ.out.own.alloc _) ⟨wr.heap.size, 0, none⟩ 1 1 [.slice (some ⟨Y.heap.size, 0, none⟩) m.nx.length m.nx.length] rfl rfl (news_1 wr (.slice (some ⟨Y.heap.size, 0, none⟩) m.nx.length m.nx.length) 33).out (by simp [Value.oneCell']) (by unfold maxLen; omega) (by omega) (by simp; omega) ?_); intro v' w6 hown6 hgrow6 _ hat6)
              have hJ := HJ.out.push (by omega) (gn := Y.heap.size) (by omega) Hr.out hgrow6 hown6
              have hs6 : W.heap.size + 1 ≤ w6.heap.size := by have := hgrow6.size; simp at this; omega
              clear HJ Hr hgrow6 hown6 hat6
              go_wp2_with fail
              go_roundw
              case rel => exact ⟨k + 1, _, by omega, by go_num, hJ, hs6⟩
              case measure => simp [intOf]; omega
        · obtain rfl : k = n := by omega
          obtain ⟨b5, k5, hT⟩ := hI.at (by omega)
          have hbW : Below W.heap.size W wr := HBz.out.trans (hI.bl.mono (by omega))
          clear hI
          go_wp2_with fail
          go_ret
          exact ⟨_, _, _, rfl, hT, hbW⟩
end Go.Proofs.Ytmllbemjcfkmjaa
/- The document's 'table': how many words of each length are accepted from each state. -/
namespace Go.Proofs.Ytmllbemjcfkmjaa
open Go.RowKit Go.Maps
set_option linter.unusedSimpArgs false
set_option linter.unusedVariables false

set_option maxRecDepth 100000 in
set_option maxHeartbeats 4000000 in
theorem table_any (m : Mac) (a a2 : Option Addr) (cap cap2 : Nat) (n : Nat) (W : World) (hM : MacAt W a cap a2 cap2 m) (hOK : MacOK m) (hn : n ≤ 20) :
    Calls Try.prog 75 #[.agg #[.int .i64 m.L, .slice a m.nx.length cap, .slice a2 m.ac.length cap2], .int .i64 n] W (TabPost (n + 1) m.nx.length (cntI m) W) := by
  have hb0 := below_alloc W (.cells #[.int .i64 m.L, .slice a m.nx.length cap, .slice a2 m.ac.length cap2] 25)
  have HM := hid (hM.below hb0)
  have HBz := hid hb0
  have h64 := hOK.n64
  have hn1 := hOK.n1
  have Hac := hid hOK.ac
  have HOK := hid hOK
  clear hM hb0 hOK
  obtain ⟨i3, hi3, hy0, hy1, hy2⟩ := info_parts info33
  go_enter Try.func75, Try.ntmps75
  go_wp2_with fail
  generalize hV : W.alloc (.cells #[.int .i64 m.L, .slice a m.nx.length cap, .slice a2 m.ac.length cap2] 25) = V at *
  have HV := hid hV
  have HVs : Hid (V.heap.size = W.heap.size + 1) := hid (by rw [← hV]; simp)
  clear hV
  go_loopw [5, 6, 7, 8, 9] (fun v5 v6 v7 v8 v9 w' => ∃ (k : Nat) (g : Nat → Nat), k ≤ n + 1 ∧ v6 = .int .i64 k ∧ TabI V (W.heap.size + 1) m.nx.length k (cntI m) v5 g w' ∧ W.heap.size + 1 ≤ w'.heap.size) (fun _ v6 _ _ _ _ => n + 1 - (intOf v6).toNat)
  case atStart => exact ⟨0, fun _ => W.heap.size + 1, by omega, rfl, ⟨Below.refl _ _, World.ownsRow_nil _ _ _ _, fun j hj => absurd hj (Nat.not_lt_zero j)⟩, by rw [HVs.out]; exact Nat.le_refl _⟩
  case round =>
    obtain ⟨k, g, hk, rfl, hI, hsw⟩ := hrel
    by_cases hlt : k ≤ n
    · obtain ⟨a5, k5, e5⟩ := row_shp hI.own
      subst e5
      obtain ⟨Y, hY⟩ : ∃ Y, Y = wr := ⟨_, rfl⟩
      subst hY
      have hX := box_at (B := W.heap.size + 1) (by rw [HV.out]; exact hI.bl) rfl
      have x1 := hX.c1
      have xl := hX.lt
      have HI := hid hI
      clear hX hI
      cases k with
      | zero =>
        go_wp2_with (refine wpList_make_int (o := ⟨some 18, _, _, _, _, _⟩) _ rfl _ _ 33 rfl 3 (.int .i64 0) 8 Try.underlying33 info3 rfl .i64 .i64 _ _ m.nx.length rfl rfl rfl rfl (by omega) (by omega) ?_; intro w1 hr1 hz1 hb1)
        have p1 := bit_zero (fun s : Nat => accM m (s : Int)) hr1
        clear hr1 hz1 x1 xl
        go_loopw [8, 9] (fun v8 v9 w' => ∃ s : Nat, s ≤ m.nx.length ∧ v8 = .int .i64 s ∧ w'.rowIs Y.heap.size 3 m.nx.length (rowI (bitN (fun s : Nat => accM m (s : Int)) s)) ∧ Below Y.heap.size Y w') (fun v8 _ _ => m.nx.length - (intOf v8).toNat)
        case atStart => exact ⟨0, by omega, rfl, p1, hb1⟩
        case round =>
          clear p1 hb1
          obtain ⟨s, hs, rfl, q1, qb⟩ := hrel
          have hI' := HI.out.below hsw qb
          have hX := box_at (B := W.heap.size + 1) (by rw [HV.out]; exact hI'.bl) rfl
          have x0 := hX.c0
          have x1 := hX.c1
          have x2 := hX.c2
          have xl := hX.lt
          by_cases hls : s < m.nx.length
          · have hMk := HM.out.below (by rw [HVs.out]; exact hI'.bl)
            obtain ⟨b2, o2, rfl, hb2, c2⟩ := hMk.ac s (by rw [Hac.out]; exact hls)
            have z1 := q1.cell hls
            have y1 := q1.frozen s
            have hlB := q1.lt
            have i1 : (0 : Int) ≤ (s : Int) := by omega
            have i2 : (s : Int) < (m.nx.length : Int) := by omega
            have i3 : (s : Int) < (m.ac.length : Int) := by rw [Hac.out]; omega
            have ha : accM m (s : Int) = m.ac.getD s false := rfl
            have h1L := HOK.out.l1
            have hWY : W.heap.size < Y.heap.size := by omega
            clear hMk hI' hX
            unfold rowI at z1
            generalize m.ac.getD s false = x at *
            cases x with
            | true =>
              have t1 := bit_yes q1 ha
              have t3 := qb.setCell (p := ⟨Y.heap.size, s, none⟩) (Nat.le_refl _) (.int .i64 1)
              have H1 := hid t1
              have x0' : (wr.setCell ⟨Y.heap.size, s, none⟩ (.int .i64 1)).cell? ⟨W.heap.size, 0, none⟩ = some (.int .i64 m.L) := by
                rw [t3.cell (p := ⟨W.heap.size, 0, none⟩) hWY, ← qb.cell (p := ⟨W.heap.size, 0, none⟩) hWY]
                exact x0
              clear q1 qb ha t1
              go_wp2_with fail
              go_loopw [9] (fun v9 w' => v9 = .int .i64 0 ∧ w' = wr.setCell ⟨Y.heap.size, s, none⟩ (.int .i64 1)) (fun _ _ => 0)
              case atStart => exact ⟨rfl, rfl⟩
              case round =>
                obtain ⟨rfl, rfl⟩ := hrel
                go_wp2_with fail
                go_roundw
                case rel => exact ⟨s + 1, by omega, by go_num, H1.out, t3⟩
                case measure => simp [intOf]; omega
            | false =>
              have t1 := bit_no q1 ha
              clear q1 ha
              go_wp2_with fail
              go_loopw [9] (fun v9 w' => v9 = .int .i64 0 ∧ w' = wr) (fun _ _ => 0)
              case atStart => exact ⟨rfl, rfl⟩
              case round =>
                obtain ⟨rfl, rfl⟩ := hrel
                go_wp2_with fail
                go_roundw
                case rel => exact ⟨s + 1, by omega, by go_num, t1, qb⟩
                case measure => simp [intOf]; omega
          · obtain rfl : s = m.nx.length := by omega
            have hsz := qb.size
            have HJ := hid hI'
            have Hr := hid (bit_cnt q1)
            clear hI' q1 qb hX x0 x2
            go_wp2_with (at_builtin; go_loud (refine wpList_append_own_at (o := ⟨some 72, _, _, _, _, _⟩) _ rfl _ _ 22 rfl (W.heap.size + 1) 33 i3 (.slice none 0 0) 1 24 Try.underlying22 hi3 hy0 hy1 hy2 rfl (by decide) _ _ _ rfl (HJ.out.own.alloc _) ⟨wr.heap.size, 0, none⟩ 1 1 [.slice (some ⟨Y.heap.size, 0, none⟩) m.nx.length m.nx.length] rfl rfl (news_1 wr (.slice (some ⟨Y.heap.size, 0, none⟩) m.nx.length m.nx.length) 33).out (by simp [Value.oneCell']) (by unfold maxLen; omega) (by omega) (by simp; omega) ?_); intro v' w6 hown6 hgrow6 _ hat6)
            have hJ := HJ.out.push (by omega) (gn := Y.heap.size) (by omega) Hr.out hgrow6 hown6
            have hs6 : W.heap.size + 1 ≤ w6.heap.size := by have := hgrow6.size; simp at this; omega
            clear HJ Hr hgrow6 hown6 hat6
            go_wp2_with fail
            go_roundw
            case rel => exact ⟨_ + 1, _, by omega, by go_num, hJ, hs6⟩
            case measure => first | (simp [intOf]; done) | (simp [intOf]; omega)
      | succ k =>
        go_wp2_with (refine wpList_make_int (o := ⟨some 18, _, _, _, _, _⟩) _ rfl _ _ 33 rfl 3 (.int .i64 0) 8 Try.underlying33 info3 rfl .i64 .i64 _ _ m.nx.length rfl rfl rfl rfl (by omega) (by omega) ?_; intro w1 hr1 hz1 hb1)
        have p1 := ptC_zero (m := m) (k := k) hr1
        have dk : ((k : Int) + 1 == 0) = false := beq_eq_false_iff_ne.2 (by omega)
        clear hr1 hz1 x1 xl
        go_loopw [8, 9] (fun v8 v9 w' => ∃ s : Nat, s ≤ m.nx.length ∧ v8 = .int .i64 s ∧ w'.rowIs Y.heap.size 3 m.nx.length (rowI (ptC m k s 0)) ∧ Below Y.heap.size Y w') (fun v8 _ _ => m.nx.length - (intOf v8).toNat)
        case atStart => exact ⟨0, by omega, rfl, p1, hb1⟩
        case round =>
          clear p1 hb1
          obtain ⟨s, hs, rfl, q1, qb⟩ := hrel
          have hI' := HI.out.below hsw qb
          have hX := box_at (B := W.heap.size + 1) (by rw [HV.out]; exact hI'.bl) rfl
          have x0 := hX.c0
          have x1 := hX.c1
          have x2 := hX.c2
          have xl := hX.lt
          by_cases hls : s < m.nx.length
          · have hMk := HM.out.below (by rw [HVs.out]; exact HI.out.bl)
            obtain ⟨b1, o1, rfl, hb1, ra, rc, hc0, r1, r2, hIA⟩ := hMk.nx s hls
            have hrl := HOK.out.len s hls
            have hrel := HOK.out.el s hls
            have h6 := HOK.out.l6
            have h1L := HOK.out.l1
            have HLn : Hid ((rowOf m s).length = m.L.toNat) := hid (by omega)
            have HLi : Hid (((rowOf m s).length : Int) = m.L) := hid hrl
            have hl6 : (rowOf m s).length ≤ 6 := by omega
            have i1 : (0 : Int) ≤ (s : Int) := by omega
            have i2 : (s : Int) < (m.nx.length : Int) := by omega
            have HEl := hid hrel
            have HIA := hid hIA
            have Hc0 := hid hc0
            obtain ⟨w0, hw0⟩ : ∃ w0, w0 = wr := ⟨_, rfl⟩
            subst hw0
            have Hp := hid q1
            have Hqb := hid qb
            have Hhc := hid hb1
            clear hI' hX hMk hrl hrel hIA q1 qb hb1 hc0
            go_wp2_with fail
            go_loopw [9] (fun v9 w' => ∃ a : Nat, a ≤ (rowOf m s).length ∧ v9 = .int .i64 a ∧ w'.rowIs Y.heap.size 3 m.nx.length (rowI (ptC m k s a)) ∧ Below Y.heap.size Y w') (fun v9 _ => (rowOf m s).length - (intOf v9).toNat)
            case atStart => exact ⟨0, by omega, rfl, Hp.out, Hqb.out⟩
            case round =>
              clear Hp Hqb x1 xl x0 x2
              obtain ⟨a, ha, rfl, p1, qb⟩ := hrel
              have hI' := HI.out.below hsw qb
              have hX := box_at (B := W.heap.size + 1) (by rw [HV.out]; exact hI'.bl) rfl
              have x0 := hX.c0
              have x1 := hX.c1
              have xl := hX.lt
              clear hX
              by_cases hla : a < (rowOf m s).length
              · have da : decide ((a : Int) < m.L) = true := decide_eq_true (by rw [← HLi.out]; omega)
                have hc := (qb.cell (p := ⟨b1, o1 + s, none⟩) Hhc.out).trans Hc0.out
                obtain ⟨b', o', rfl, hb', c1⟩ := (HIA.out.below qb) a hla
                have hel := HEl.out a hla
                obtain ⟨tn, htn⟩ : ∃ tn : Nat, nth (rowOf m s) a = (tn : Int) := ⟨(nth (rowOf m s) a).toNat, by omega⟩
                rw [htn] at c1 hel
                have htl : tn < m.nx.length := by omega
                obtain ⟨b6, k6, e6, _, c5⟩ := own_cell hI'.own k (by omega)
                cases e6
                rw [List.getElem?_map, List.getElem?_range (by omega), Option.map_some] at c5
                have ct := (hI'.rows k (by omega)).2.cell htl
                have z1 := p1.cell hls
                have y1 := p1.frozen s
                have hlB := p1.lt
                have hbp := ptC_bd m HOK.out.l6 k s a (by rw [← HLn.out]; omega)
                have hbc := cnt_bd m HOK.out.l6 k (tn : Int)
                have h6 := six_le (show k ≤ 20 by omega)
                have t1 := ptC_step p1 (t := (tn : Int)) (by show _ = nth (rowOf m ((s : Int)).toNat) a; simpa using htn.symm)
                have t2 := qb.setCell (p := ⟨Y.heap.size, s, none⟩) (Nat.le_refl _) (.int .i64 (ptC m k s a s + cnt m k (tn : Int)))
                unfold rowI at z1
                unfold cntI at ct
                generalize ptC m k s a s = pv at *
                generalize cnt m k (tn : Int) = cv at *
                generalize six k = sx at *
                have i3 : (0 : Int) ≤ (a : Int) := by omega
                have i4 : (a : Int) < ((rowOf m s).length : Int) := by omega
                have i5 : (0 : Int) ≤ (k : Int) := by omega
                have i6 : (k : Int) < (k : Int) + 1 := by omega
                have i7 : (0 : Int) ≤ (tn : Int) := by omega
                have i8 : (tn : Int) < (m.nx.length : Int) := by omega
                have H1 := hid t1
                have H2 := hid t2
                have HE := hid HEl.out
                clear p1 qb hI' t1 t2 htn hel
                have wk : IntKind.i64.wrap (k : Int) = (k : Int) := IntWalk.i64_in _ (by omega)
                go_wp2_with fail
                refine wp_region_still_tail 21 (by kernel_rfl) (by kernel_rfl) ?_
                simp only [List.take_succ_cons, List.take_zero, List.drop_succ_cons, List.drop_zero]
                refine St.out ?_
                iterate 21 (refine st_want (by kernel_rfl) (fun K hK => ?_); go_simp; refine hK _ ?_; clear hK K)
                refine st_nil ?_
                change wpList _ _ _ _ _ wr.drew
                clear wk
                go_wp2_with fail
                go_roundw
                case rel => exact ⟨a + 1, by omega, by go_num, H1.out, H2.out.drew⟩
                case measure => simp [intOf]; omega
              · have da : decide ((a : Int) < m.L) = false := decide_eq_false (by rw [← HLi.out]; omega)
                obtain rfl : a = (rowOf m s).length := by omega
                have p2 := ptC_next p1 HLn.out
                clear p1
                go_wp2_with fail
                go_roundw
                case rel => exact ⟨s + 1, by omega, by go_num, p2, qb⟩
                case measure => simp [intOf]; omega
          · obtain rfl : s = m.nx.length := by omega
            have hsz := qb.size
            have HJ := hid hI'
            have Hr := hid (ptC_end q1)
            clear hI' q1 qb hX x0 x2
            go_wp2_with (at_builtin; go_loud (refine wpList_append_own_at (o := ⟨some 72, _, _, _, _, _⟩) _ rfl _ _ 22 rfl (W.heap.size + 1) 33 i3 (.slice none 0 0) 1 24 Try.underlying22 hi3 hy0 hy1 hy2 rfl (by decide) _ _ _ rfl (HJ.out.own.alloc _) ⟨wr.heap.size, 0, none⟩ 1 1 [.slice (some ⟨Y.heap.size, 0, none⟩) m.nx.length m.nx.length] rfl rfl (news_1 wr (.slice (some ⟨Y.heap.size, 0, none⟩) m.nx.length m.nx.length) 33).out (by simp [Value.oneCell']) (by unfold maxLen; omega) (by omega) (by simp; omega) ?_); intro v' w6 hown6 hgrow6 _ hat6)
            have hJ := HJ.out.push (by omega) (gn := Y.heap.size) (by omega) Hr.out hgrow6 hown6
            have hs6 : W.heap.size + 1 ≤ w6.heap.size := by have := hgrow6.size; simp at this; omega
            clear HJ Hr hgrow6 hown6 hat6
            go_wp2_with fail
            go_roundw
            case rel => exact ⟨_ + 1, _, by omega, by go_num, hJ, hs6⟩
            case measure => first | (simp [intOf]; done) | (simp [intOf]; omega)

    · obtain rfl : k = n + 1 := by omega
      obtain ⟨b5, k5, hT⟩ := hI.at (by omega)
      have hbW : Below W.heap.size W wr := HBz.out.trans (hI.bl.mono (by omega))
      clear hI
      go_wp2_with fail
      go_ret
      exact ⟨_, _, _, rfl, hT, hbW⟩
end Go.Proofs.Ytmllbemjcfkmjaa
/- The errors of a word, of a length, and of a machine with one: what they are. -/
namespace Go.Proofs.Ytmllbemjcfkmjaa
open Go.RowKit
set_option linter.unusedSimpArgs false
set_option linter.unusedVariables false

structure WordOK (L : Int) (xs : List Int) : Prop where
  l20 : xs.length ≤ 20
  el : ∀ i, i < xs.length → 0 ≤ nth xs i ∧ nth xs i < L
open Classical in
noncomputable def wrdE (L : Int) (xs : List Int) : Int := if 20 < xs.length then 4 else if WordOK L xs then 0 else 1
open Classical in
noncomputable def wodE (m : Mac) (xs : List Int) : Int := if valE m = 0 then wrdE m.L xs else valE m
open Classical in
noncomputable def sizE (m : Mac) (n : Int) : Int := if valE m = 0 then (if 0 ≤ n ∧ n ≤ 20 then 0 else 1) else valE m
theorem wodE_ok {m : Mac} (h : valE m = 0) (xs : List Int) : wodE m xs = wrdE m.L xs := by unfold wodE; rw [if_pos h]
theorem wodE_bad {m : Mac} (h : valE m ≠ 0) (xs : List Int) : wodE m xs = valE m := by unfold wodE; rw [if_neg h]
theorem sizE_bad {m : Mac} (h : valE m ≠ 0) (n : Int) : sizE m n = valE m := by unfold sizE; rw [if_neg h]
theorem sizE_ok {m : Mac} {n : Int} (h : valE m = 0) (h0 : 0 ≤ n) (h2 : n ≤ 20) : sizE m n = 0 := by unfold sizE; rw [if_pos h, if_pos ⟨h0, h2⟩]
theorem sizE_out {m : Mac} {n : Int} (h : valE m = 0) (h0 : n < 0 ∨ 20 < n) : sizE m n = 1 := by unfold sizE; rw [if_pos h, if_neg (by omega)]
theorem wrdE_long {L : Int} {xs : List Int} (h : 20 < xs.length) : wrdE L xs = 4 := by unfold wrdE; rw [if_pos h]
theorem wrdE_ok {L : Int} {xs : List Int} (h : WordOK L xs) : wrdE L xs = 0 := by unfold wrdE; rw [if_neg (by have := h.l20; omega), if_pos h]
theorem wrdE_bad {L : Int} {xs : List Int} (h : xs.length ≤ 20) (h2 : ¬ WordOK L xs) : wrdE L xs = 1 := by unfold wrdE; rw [if_neg (by omega), if_neg h2]
theorem wrdE_zero {L : Int} {xs : List Int} : wrdE L xs = 0 ↔ WordOK L xs := by
  constructor
  · intro h
    unfold wrdE at h
    split at h
    · cases h
    · split at h
      · assumption
      · cases h
  · exact wrdE_ok
theorem wodE_zero {m : Mac} {xs : List Int} : wodE m xs = 0 ↔ MacOK m ∧ WordOK m.L xs := by
  by_cases h : valE m = 0
  · rw [wodE_ok h, wrdE_zero]
    exact ⟨fun h2 => ⟨valE_zero.1 h, h2⟩, fun h2 => h2.2⟩
  · rw [wodE_bad h]
    exact ⟨fun h2 => absurd h2 h, fun h2 => absurd (valE_ok h2.1) h⟩
theorem sizE_zero {m : Mac} {n : Int} : sizE m n = 0 ↔ MacOK m ∧ 0 ≤ n ∧ n ≤ 20 := by
  by_cases h : valE m = 0
  · by_cases h2 : 0 ≤ n ∧ n ≤ 20
    · exact ⟨fun _ => ⟨valE_zero.1 h, h2⟩, fun _ => sizE_ok h h2.1 h2.2⟩
    · rw [sizE_out h (by omega)]
      exact ⟨(fun h => by cases h), fun h3 => absurd h3.2 h2⟩
  · rw [sizE_bad h]
    exact ⟨fun h2 => absurd h2 h, fun h2 => absurd (valE_ok h2.1) h⟩
def outI (L : Int) (x : Int) : Bool := decide (x < 0) || decide (L ≤ x)
theorem outI_no {L x : Int} : outI L x = false ↔ 0 ≤ x ∧ x < L := by
  unfold outI
  rw [Bool.or_eq_false_iff, decide_eq_false_iff_not, decide_eq_false_iff_not]
  omega
theorem word_any {L : Int} {xs : List Int} (hl : xs.length ≤ 20) : anyI (outI L) xs = false ↔ WordOK L xs := by
  rw [anyI_no]
  exact ⟨fun h => ⟨hl, fun i hi => outI_no.1 (h i hi)⟩, fun h i hi => outI_no.2 (h.el i hi)⟩

theorem clos117 (x L : Int) (H : Nat) (w : World) (hc : w.cell? ⟨H, 0, none⟩ = some (.int .i64 L)) :
    Calls Try.prog 117 #[.int .i64 x, .pointer (some ⟨H, 0, none⟩)] w fun e w' => e = .returned (.bool (outI L x)) ∧ w = w' := by
  by_cases h1 : x < 0
  · go_enter Try.func117, Try.ntmps117
    go_wp2
    go_ret
    exact ⟨by simp [outI, h1], rfl⟩
  · go_enter Try.func117, Try.ntmps117
    go_wp2
    go_ret
    exact ⟨by simp [outI]; omega, rfl⟩
theorem fn117 (L : Int) (H : Nat) (w : World) (hc : w.cell? ⟨H, 0, none⟩ = some (.int .i64 L)) : Hid (FnP 117 #[] #[.pointer (some ⟨H, 0, none⟩)] (outI L) w) :=
  hid ⟨run_enter Try.func117 (by kernel_rfl) rfl, fun x => clos117 x L H w hc⟩

set_option maxRecDepth 100000 in
theorem isWord_any (L : Int) (xs : List Int) (a : Option Addr) (cap : Nat) (W : World) (hI : IntsAt W a xs) (hl : xs.length ≤ maxLen) :
    Calls Try.prog 99 #[.slice a xs.length cap, .int .i64 L] W fun e w' => e = .returned (.int .i64 (wrdE L xs)) ∧ Below W.heap.size W w' := by
  have hb0 := below_alloc W (.cells #[.int .i64 L] 3)
  by_cases h20 : xs.length ≤ 20
  · have Hc := hid (containsFunc_any 117 #[] #[.pointer (some ⟨W.heap.size, 0, none⟩)] (outI L) xs a cap (W.alloc (.cells #[.int .i64 L] 3)) (hI.below hb0) hl (fn117 L W.heap.size (W.alloc (.cells #[.int .i64 L] 3)) (by simp)))
    have HA := hid (word_any (L := L) h20)
    clear hl
    cases hA : anyI (outI L) xs
    · have R := hid (wrdE_ok (HA.out.1 hA))
      rw [hA] at Hc
      clear hA HA
      go_enter Try.func99, Try.ntmps99
      go_wp2_with fail
      refine Hc.out.mono ?_; rintro e w' ⟨rfl, rfl⟩
      go_wp2_with fail
      go_ret
      exact ⟨by rw [R.out]; rfl, hb0⟩
    · have R := hid (wrdE_bad h20 fun h => by rw [HA.out.2 h] at hA; cases hA)
      rw [hA] at Hc
      clear hA HA
      go_enter Try.func99, Try.ntmps99
      go_wp2_with fail
      refine Hc.out.mono ?_; rintro e w' ⟨rfl, rfl⟩
      go_wp2_with fail
      go_ret
      exact ⟨by rw [R.out]; rfl, hb0⟩
  · have R := hid (wrdE_long (L := L) (show 20 < xs.length by omega))
    have d1 : decide ((20 : Int) < (xs.length : Int)) = true := decide_eq_true (by omega)
    have d2 : decide (20 < xs.length) = true := decide_eq_true (by omega)
    go_enter Try.func99, Try.ntmps99
    go_wp2_with fail
    go_ret
    exact ⟨by rw [R.out]; rfl, hb0⟩

set_option maxRecDepth 100000 in
theorem letters_any (L : Int) (hL : 1 ≤ L) (hL6 : L ≤ 6) (xs : List Int) (a : Option Addr) (cap : Nat) (W : World) (hI : IntsAt W a xs) (hl : xs.length ≤ maxLen) :
    Calls Try.prog 103 #[.slice a xs.length cap, .int .i64 L] W fun e w' => e = .returned (.int .i64 (wrdE L xs)) ∧ Below W.heap.size W w' := by
  by_cases h20 : xs.length ≤ 20
  · go_enter Try.func103, Try.ntmps103
    go_wp2_with fail
    go_loop [5] (fun v5 => ∃ k : Nat, k ≤ xs.length ∧ v5 = .int .i64 k ∧ Hid (∀ j, j < k → 0 ≤ nth xs j ∧ nth xs j < L)) (fun v5 => xs.length - (intOf v5).toNat)
    case atStart => exact ⟨0, by omega, rfl, hid fun j hj => by omega⟩
    case round =>
      obtain ⟨k, hk, rfl, HE⟩ := hrel
      by_cases hlt : k < xs.length
      · obtain ⟨b, off, rfl, hbl, c1⟩ := hI k hlt
        by_cases hin : 0 ≤ nth xs k ∧ nth xs k ≤ L - 1
        · have Hw := hid (fun w => within_yes (nth xs k) 0 (L - 1) w hin.1 hin.2)
          go_wp2_with fail
          refine (Hw.out _).mono ?_; rintro e w' ⟨rfl, rfl⟩
          go_wp2_with fail
          go_round
          case rel => exact ⟨k + 1, by omega, by go_num, hid fun i hi => by
            by_cases e : i = k
            · subst e; exact ⟨hin.1, by omega⟩
            · exact HE.out i (by omega)⟩
          case measure => simp [intOf]; omega
        · have Hw := hid (fun w => within_no (nth xs k) 0 (L - 1) w (by omega))
          have R := hid (wrdE_bad (L := L) h20 fun h => hin (by have := h.el k hlt; omega))
          clear hin
          go_wp2_with fail
          refine (Hw.out _).mono ?_; rintro e w' ⟨rfl, rfl⟩
          go_wp2_with fail
          go_ret
          exact ⟨by rw [R.out]; rfl, Below.refl _ _⟩
      · obtain rfl : k = xs.length := by omega
        have R := hid (wrdE_ok ⟨h20, HE.out⟩)
        go_wp2_with fail
        go_ret
        exact ⟨by rw [R.out]; rfl, Below.refl _ _⟩
  · have R := hid (wrdE_long (L := L) (show 20 < xs.length by omega))
    have d1 : decide ((20 : Int) < (xs.length : Int)) = true := decide_eq_true (by omega)
    have d2 : decide (20 < xs.length) = true := decide_eq_true (by omega)
    go_enter Try.func103, Try.ntmps103
    go_wp2_with fail
    go_ret
    exact ⟨by rw [R.out]; rfl, Below.refl _ _⟩

set_option maxRecDepth 100000 in
theorem worded_any (m : Mac) (a a2 : Option Addr) (cap cap2 : Nat) (xs : List Int) (ax : Option Addr) (cx : Nat) (W : World) (hM : MacAt W a cap a2 cap2 m) (hI : IntsAt W ax xs) (hl : xs.length ≤ maxLen) :
    Calls Try.prog 67 #[.agg #[.int .i64 m.L, .slice a m.nx.length cap, .slice a2 m.ac.length cap2], .slice ax xs.length cx] W fun e w' => e = .returned (.int .i64 (wodE m xs)) ∧ Below W.heap.size W w' := by
  have hb0 := below_alloc W (.cells #[.int .i64 m.L, .slice a m.nx.length cap, .slice a2 m.ac.length cap2] 25)
  have Hv := hid (Validate_any m a a2 cap cap2 (W.alloc (.cells #[.int .i64 m.L, .slice a m.nx.length cap, .slice a2 m.ac.length cap2] 25)) (hM.below hb0))
  have HI := hid (hI.below hb0)
  have Hl := hid hl
  have HB := hid hb0
  clear hl hI hM hb0
  by_cases hv : valE m = 0
  · have R := hid (wodE_ok hv xs)
    have HO := hid (valE_zero.1 hv)
    rw [hv] at Hv
    clear hv
    go_enter Try.func67, Try.ntmps67
    go_wp2_with fail
    refine Hv.out.mono ?_; rintro e w1 ⟨rfl, hb1⟩
    have hX := box_at (B := W.heap.size + 1) (by simpa using hb1) rfl
    have x0 := hX.c0
    have xl := hX.lt
    have Hi := hid (isWord_any m.L xs ax cx w1 (HI.out.below hb1) Hl.out)
    have HB1 := hid (HB.out.trans (hb1.mono HB.out.size))
    clear hX hb1
    go_wp2_with fail
    refine Hi.out.mono ?_; rintro e w2 ⟨rfl, hb2⟩
    have hz := HB1.out.trans (hb2.mono HB1.out.size)
    clear hb2
    go_wp2_with fail
    go_ret
    exact ⟨by rw [R.out]; rfl, hz⟩
  · have R := hid (wodE_bad hv xs)
    have d1 : (valE m == 0) = false := beq_eq_false_iff_ne.2 hv
    have d2 : (valE m != 0) = true := by rw [bne, d1]; rfl
    clear hv
    go_enter Try.func67, Try.ntmps67
    go_wp2_with fail
    refine Hv.out.mono ?_; rintro e w1 ⟨rfl, hb1⟩
    have hz := HB.out.trans (hb1.mono HB.out.size)
    clear hb1
    go_wp2_with fail
    go_ret
    exact ⟨by rw [R.out]; rfl, hz⟩

set_option maxRecDepth 100000 in
theorem both_any (m : Mac) (a a2 : Option Addr) (cap cap2 : Nat) (xs : List Int) (ax : Option Addr) (cx : Nat) (W : World) (hM : MacAt W a cap a2 cap2 m) (hI : IntsAt W ax xs) (hl : xs.length ≤ maxLen) :
    Calls Try.prog 69 #[.agg #[.int .i64 m.L, .slice a m.nx.length cap, .slice a2 m.ac.length cap2], .slice ax xs.length cx] W fun e w' => e = .returned (.int .i64 (wodE m xs)) ∧ Below W.heap.size W w' := by
  have hb0 := below_alloc W (.cells #[.int .i64 m.L, .slice a m.nx.length cap, .slice a2 m.ac.length cap2] 25)
  have Hv := hid (rValidate_any m a a2 cap cap2 (W.alloc (.cells #[.int .i64 m.L, .slice a m.nx.length cap, .slice a2 m.ac.length cap2] 25)) (hM.below hb0))
  have HI := hid (hI.below hb0)
  have Hl := hid hl
  have HB := hid hb0
  clear hl hI hM hb0
  by_cases hv : valE m = 0
  · have R := hid (wodE_ok hv xs)
    have HO := hid (valE_zero.1 hv)
    rw [hv] at Hv
    clear hv
    go_enter Try.func69, Try.ntmps69
    go_wp2_with fail
    refine Hv.out.mono ?_; rintro e w1 ⟨rfl, hb1⟩
    have hX := box_at (B := W.heap.size + 1) (by simpa using hb1) rfl
    have x0 := hX.c0
    have xl := hX.lt
    have Hi := hid (letters_any m.L HO.out.l1 HO.out.l6 xs ax cx w1 (HI.out.below hb1) Hl.out)
    have HB1 := hid (HB.out.trans (hb1.mono HB.out.size))
    clear hX hb1
    go_wp2_with fail
    refine Hi.out.mono ?_; rintro e w2 ⟨rfl, hb2⟩
    have hz := HB1.out.trans (hb2.mono HB1.out.size)
    clear hb2
    go_wp2_with fail
    go_ret
    exact ⟨by rw [R.out]; rfl, hz⟩
  · have R := hid (wodE_bad hv xs)
    have d1 : (valE m == 0) = false := beq_eq_false_iff_ne.2 hv
    have d2 : (valE m != 0) = true := by rw [bne, d1]; rfl
    clear hv
    go_enter Try.func69, Try.ntmps69
    go_wp2_with fail
    refine Hv.out.mono ?_; rintro e w1 ⟨rfl, hb1⟩
    have hz := HB.out.trans (hb1.mono HB.out.size)
    clear hb1
    go_wp2_with fail
    go_ret
    exact ⟨by rw [R.out]; rfl, hz⟩

set_option maxRecDepth 100000 in
theorem sized_any (m : Mac) (a a2 : Option Addr) (cap cap2 : Nat) (n : Int) (W : World) (hM : MacAt W a cap a2 cap2 m) :
    Calls Try.prog 76 #[.agg #[.int .i64 m.L, .slice a m.nx.length cap, .slice a2 m.ac.length cap2], .int .i64 n] W fun e w' => e = .returned (.int .i64 (sizE m n)) ∧ Below W.heap.size W w' := by
  have hb0 := below_alloc W (.cells #[.int .i64 m.L, .slice a m.nx.length cap, .slice a2 m.ac.length cap2] 25)
  have Hv := hid (Validate_any m a a2 cap cap2 (W.alloc (.cells #[.int .i64 m.L, .slice a m.nx.length cap, .slice a2 m.ac.length cap2] 25)) (hM.below hb0))
  have HB := hid hb0
  clear hM hb0
  by_cases hv : valE m = 0
  · rw [hv] at Hv
    by_cases h0 : n < 0
    · have R := hid (sizE_out hv (.inl h0))
      clear hv
      go_enter Try.func76, Try.ntmps76
      go_wp2_with fail
      refine Hv.out.mono ?_; rintro e w1 ⟨rfl, hb1⟩
      have hz := HB.out.trans (hb1.mono HB.out.size)
      clear hb1
      go_wp2_with fail
      go_ret
      exact ⟨by rw [R.out]; rfl, hz⟩
    by_cases h1 : 20 < n
    · have R := hid (sizE_out hv (.inr h1))
      clear hv
      go_enter Try.func76, Try.ntmps76
      go_wp2_with fail
      refine Hv.out.mono ?_; rintro e w1 ⟨rfl, hb1⟩
      have hz := HB.out.trans (hb1.mono HB.out.size)
      clear hb1
      go_wp2_with fail
      go_ret
      exact ⟨by rw [R.out]; rfl, hz⟩
    have R := hid (sizE_ok hv (show 0 ≤ n by omega) (show n ≤ 20 by omega))
    clear hv
    go_enter Try.func76, Try.ntmps76
    go_wp2_with fail
    refine Hv.out.mono ?_; rintro e w1 ⟨rfl, hb1⟩
    have hz := HB.out.trans (hb1.mono HB.out.size)
    clear hb1
    go_wp2_with fail
    go_ret
    exact ⟨by rw [R.out]; rfl, hz⟩
  · have R := hid (sizE_bad hv n)
    have d1 : (valE m == 0) = false := beq_eq_false_iff_ne.2 hv
    have d2 : (valE m != 0) = true := by rw [bne, d1]; rfl
    clear hv
    go_enter Try.func76, Try.ntmps76
    go_wp2_with fail
    refine Hv.out.mono ?_; rintro e w1 ⟨rfl, hb1⟩
    have hz := HB.out.trans (hb1.mono HB.out.size)
    clear hb1
    go_wp2_with fail
    go_ret
    exact ⟨by rw [R.out]; rfl, hz⟩

set_option maxRecDepth 100000 in
theorem rsized_any (m : Mac) (a a2 : Option Addr) (cap cap2 : Nat) (n : Int) (W : World) (hM : MacAt W a cap a2 cap2 m) :
    Calls Try.prog 77 #[.agg #[.int .i64 m.L, .slice a m.nx.length cap, .slice a2 m.ac.length cap2], .int .i64 n] W fun e w' => e = .returned (.int .i64 (sizE m n)) ∧ Below W.heap.size W w' := by
  have hb0 := below_alloc W (.cells #[.int .i64 m.L, .slice a m.nx.length cap, .slice a2 m.ac.length cap2] 25)
  have Hv := hid (rValidate_any m a a2 cap cap2 (W.alloc (.cells #[.int .i64 m.L, .slice a m.nx.length cap, .slice a2 m.ac.length cap2] 25)) (hM.below hb0))
  have HB := hid hb0
  clear hM hb0
  by_cases hv : valE m = 0
  · rw [hv] at Hv
    by_cases h0 : 0 ≤ n ∧ n ≤ 20
    · have R := hid (sizE_ok hv h0.1 h0.2)
      have Hw := hid (fun w => within_yes n 0 20 w h0.1 h0.2)
      clear hv
      go_enter Try.func77, Try.ntmps77
      go_wp2_with fail
      refine Hv.out.mono ?_; rintro e w1 ⟨rfl, hb1⟩
      have hz := HB.out.trans (hb1.mono HB.out.size)
      clear hb1
      go_wp2_with fail
      refine (Hw.out _).mono ?_; rintro e w2 ⟨rfl, rfl⟩
      go_wp2_with fail
      go_ret
      exact ⟨by rw [R.out]; rfl, hz⟩
    · have R := hid (sizE_out hv (show n < 0 ∨ 20 < n by omega))
      have Hw := hid (fun w => within_no n 0 20 w (by omega))
      clear hv h0
      go_enter Try.func77, Try.ntmps77
      go_wp2_with fail
      refine Hv.out.mono ?_; rintro e w1 ⟨rfl, hb1⟩
      have hz := HB.out.trans (hb1.mono HB.out.size)
      clear hb1
      go_wp2_with fail
      refine (Hw.out _).mono ?_; rintro e w2 ⟨rfl, rfl⟩
      go_wp2_with fail
      go_ret
      exact ⟨by rw [R.out]; rfl, hz⟩
  · have R := hid (sizE_bad hv n)
    have d1 : (valE m == 0) = false := beq_eq_false_iff_ne.2 hv
    have d2 : (valE m != 0) = true := by rw [bne, d1]; rfl
    clear hv
    go_enter Try.func77, Try.ntmps77
    go_wp2_with fail
    refine Hv.out.mono ?_; rintro e w1 ⟨rfl, hb1⟩
    have hz := HB.out.trans (hb1.mono HB.out.size)
    clear hb1
    go_wp2_with fail
    go_ret
    exact ⟨by rw [R.out]; rfl, hz⟩
end Go.Proofs.Ytmllbemjcfkmjaa
/- 'Count' and the document's: what they return. -/
namespace Go.Proofs.Ytmllbemjcfkmjaa
open Go.RowKit Go.Maps
set_option linter.unusedSimpArgs false
set_option linter.unusedVariables false

open Classical in
noncomputable def cntN (m : Mac) (n : Int) : Int := if sizE m n = 0 then cnt m n.toNat 0 else 0
theorem cntN_ok {m : Mac} {n : Int} (h : sizE m n = 0) : cntN m n = cnt m n.toNat 0 := by unfold cntN; rw [if_pos h]
theorem cntN_bad {m : Mac} {n : Int} (h : sizE m n ≠ 0) : cntN m n = 0 := by unfold cntN; rw [if_neg h]

set_option maxRecDepth 100000 in
set_option maxHeartbeats 1000000 in
theorem Count_any (m : Mac) (a a2 : Option Addr) (cap cap2 : Nat) (n : Int) (W : World) (hM : MacAt W a cap a2 cap2 m) :
    Calls Try.prog 40 #[.agg #[.int .i64 m.L, .slice a m.nx.length cap, .slice a2 m.ac.length cap2], .int .i64 n] W fun e w' => e = .returned (.tuple #[.int .i64 (cntN m n), .int .i64 (sizE m n)]) ∧ Below W.heap.size W w' := by
  have hb0 := below_alloc W (.cells #[.int .i64 m.L, .slice a m.nx.length cap, .slice a2 m.ac.length cap2] 25)
  have HM := hid (hM.below hb0)
  have Hv := hid (sized_any m a a2 cap cap2 n (W.alloc (.cells #[.int .i64 m.L, .slice a m.nx.length cap, .slice a2 m.ac.length cap2] 25)) HM.out)
  have HB := hid hb0
  clear hM hb0
  by_cases hv : sizE m n = 0
  · have R := hid (cntN_ok hv)
    obtain ⟨hOK, h0, h20⟩ := sizE_zero.1 hv
    have RS := hid hv
    rw [hv] at Hv
    clear hv
    obtain ⟨k, rfl⟩ : ∃ k : Nat, n = k := ⟨n.toNat, by omega⟩
    have HN := hid hOK.n1
    have HOK := hid hOK
    clear hOK
    go_enter Try.func40, Try.ntmps40
    go_wp2_with fail
    refine Hv.out.mono ?_; rintro e w1 ⟨rfl, hb1⟩
    have hX := box_at (B := W.heap.size + 1) (by simpa using hb1) rfl
    have x0 := hX.c0
    have x1 := hX.c1
    have x2 := hX.c2
    have xl := hX.lt
    have Ht := hid (counts_any m a a2 cap cap2 k w1 (HM.out.below hb1) HOK.out (by omega))
    have HB1 := hid (HB.out.trans (hb1.mono HB.out.size))
    clear hX hb1
    go_wp2_with fail
    refine Ht.out.mono ?_; rintro e w2 ⟨v, b, cp, rfl, hT, hb2⟩
    have hz := HB1.out.trans (hb2.mono HB1.out.size)
    obtain ⟨gk, t1, hlg, ht⟩ := hT.row k (by omega)
    have t2 := ht 0 HN.out
    have hlb := hT.lt
    have e5 := hT.eq
    subst e5
    unfold cntI at t2
    have hN := HN.out
    have i1 : (0 : Int) ≤ (k : Int) := by omega
    have i2 : (k : Int) < (k : Int) + 1 := by omega
    clear hb2 ht hT x0 x1 x2 xl
    go_wp2_with fail
    go_ret2
    exact ⟨by rw [R.out, RS.out]; rfl, hz⟩
  · have R := hid (cntN_bad hv)
    have d1 : (sizE m n == 0) = false := beq_eq_false_iff_ne.2 hv
    have d2 : (sizE m n != 0) = true := by rw [bne, d1]; rfl
    clear hv
    go_enter Try.func40, Try.ntmps40
    go_wp2_with fail
    refine Hv.out.mono ?_; rintro e w1 ⟨rfl, hb1⟩
    have hz := HB.out.trans (hb1.mono HB.out.size)
    clear hb1
    go_wp2_with fail
    go_ret2
    exact ⟨by rw [R.out]; rfl, hz⟩

set_option maxRecDepth 100000 in
set_option maxHeartbeats 1000000 in
theorem rCount_any (m : Mac) (a a2 : Option Addr) (cap cap2 : Nat) (n : Int) (W : World) (hM : MacAt W a cap a2 cap2 m) :
    Calls Try.prog 41 #[.agg #[.int .i64 m.L, .slice a m.nx.length cap, .slice a2 m.ac.length cap2], .int .i64 n] W fun e w' => e = .returned (.tuple #[.int .i64 (cntN m n), .int .i64 (sizE m n)]) ∧ Below W.heap.size W w' := by
  have hb0 := below_alloc W (.cells #[.int .i64 m.L, .slice a m.nx.length cap, .slice a2 m.ac.length cap2] 25)
  have HM := hid (hM.below hb0)
  have Hv := hid (rsized_any m a a2 cap cap2 n (W.alloc (.cells #[.int .i64 m.L, .slice a m.nx.length cap, .slice a2 m.ac.length cap2] 25)) HM.out)
  have HB := hid hb0
  clear hM hb0
  by_cases hv : sizE m n = 0
  · have R := hid (cntN_ok hv)
    obtain ⟨hOK, h0, h20⟩ := sizE_zero.1 hv
    have RS := hid hv
    rw [hv] at Hv
    clear hv
    obtain ⟨k, rfl⟩ : ∃ k : Nat, n = k := ⟨n.toNat, by omega⟩
    have HN := hid hOK.n1
    have HOK := hid hOK
    clear hOK
    go_enter Try.func41, Try.ntmps41
    go_wp2_with fail
    refine Hv.out.mono ?_; rintro e w1 ⟨rfl, hb1⟩
    have hX := box_at (B := W.heap.size + 1) (by simpa using hb1) rfl
    have x0 := hX.c0
    have x1 := hX.c1
    have x2 := hX.c2
    have xl := hX.lt
    have Ht := hid (table_any m a a2 cap cap2 k w1 (HM.out.below hb1) HOK.out (by omega))
    have HB1 := hid (HB.out.trans (hb1.mono HB.out.size))
    clear hX hb1
    go_wp2_with fail
    refine Ht.out.mono ?_; rintro e w2 ⟨v, b, cp, rfl, hT, hb2⟩
    have hz := HB1.out.trans (hb2.mono HB1.out.size)
    obtain ⟨gk, t1, hlg, ht⟩ := hT.row k (by omega)
    have t2 := ht 0 HN.out
    have hlb := hT.lt
    have e5 := hT.eq
    subst e5
    unfold cntI at t2
    have hN := HN.out
    have i1 : (0 : Int) ≤ (k : Int) := by omega
    have i2 : (k : Int) < (k : Int) + 1 := by omega
    clear hb2 ht hT x0 x1 x2 xl
    go_wp2_with fail
    go_ret2
    exact ⟨by rw [R.out, RS.out]; rfl, hz⟩
  · have R := hid (cntN_bad hv)
    have d1 : (sizE m n == 0) = false := beq_eq_false_iff_ne.2 hv
    have d2 : (sizE m n != 0) = true := by rw [bne, d1]; rfl
    clear hv
    go_enter Try.func41, Try.ntmps41
    go_wp2_with fail
    refine Hv.out.mono ?_; rintro e w1 ⟨rfl, hb1⟩
    have hz := HB.out.trans (hb1.mono HB.out.size)
    clear hb1
    go_wp2_with fail
    go_ret2
    exact ⟨by rw [R.out]; rfl, hz⟩
end Go.Proofs.Ytmllbemjcfkmjaa
/- The state behind a word, its rank; plainly. -/
namespace Go.Proofs.Ytmllbemjcfkmjaa
open Go.RowKit
set_option linter.unusedSimpArgs false
set_option linter.unusedVariables false

def runF (m : Mac) (xs : List Int) (s : Int) : Nat → Int
  | 0 => s
  | j + 1 => stepM m (runF m xs s j) (nth xs j).toNat
def runN (m : Mac) (xs : List Int) (j : Nat) : Int := runF m xs 0 j
theorem step_in {m : Mac} (h : MacOK m) {s : Int} (h0 : 0 ≤ s) (h1 : s < m.nx.length) {a : Int} (a0 : 0 ≤ a) (a1 : a < m.L) : 0 ≤ stepM m s a.toNat ∧ stepM m s a.toNat < m.nx.length := by
  have hl := h.len s.toNat (by omega)
  exact h.el s.toNat (by omega) a.toNat (by omega)
theorem runF_in {m : Mac} {xs : List Int} (h : MacOK m) (hw : WordOK m.L xs) {s : Int} (h0 : 0 ≤ s) (h1 : s < m.nx.length) (j : Nat) (hj : j ≤ xs.length) : 0 ≤ runF m xs s j ∧ runF m xs s j < m.nx.length := by
  induction j with
  | zero => exact ⟨h0, h1⟩
  | succ j ih =>
    have ih := ih (by omega)
    have he := hw.el j (by omega)
    exact step_in h ih.1 ih.2 he.1 he.2
theorem runN_in {m : Mac} {xs : List Int} (h : MacOK m) (hw : WordOK m.L xs) (j : Nat) (hj : j ≤ xs.length) : 0 ≤ runN m xs j ∧ runN m xs j < m.nx.length :=
  runF_in h hw (Int.le_refl _) (by have := h.n1; omega) j hj
def innR (m : Mac) (xs : List Int) (j t : Nat) : Int := sumTo (fun b => cnt m (xs.length - 1 - j) (stepM m (runN m xs j) b)) t
def rkN (m : Mac) (xs : List Int) (i : Nat) : Int := sumTo (fun j => innR m xs j (nth xs j).toNat) i
theorem innR_bd {m : Mac} {xs : List Int} (h : MacOK m) (hl : xs.length ≤ 20) (j t : Nat) (ht : t ≤ 6) : 0 ≤ innR m xs j t ∧ innR m xs j t ≤ 21936950640377856 := by
  have h6 := six_le (show xs.length - 1 - j ≤ 20 by omega)
  have := sumTo_bd (fun b => cnt m (xs.length - 1 - j) (stepM m (runN m xs j) b)) 3656158440062976 t fun d _ => by
    have := cnt_bd m h.l6 (xs.length - 1 - j) (stepM m (runN m xs j) d)
    omega
  unfold innR
  omega
theorem rkN_bd {m : Mac} {xs : List Int} (h : MacOK m) (hw : WordOK m.L xs) (i : Nat) (hi : i ≤ xs.length) : 0 ≤ rkN m xs i ∧ rkN m xs i ≤ 438739012807557120 := by
  have := sumTo_bd (fun j => innR m xs j (nth xs j).toNat) 21936950640377856 i fun d hd => innR_bd h hw.l20 d _ (by have := hw.el d (by omega); have := h.l6; omega)
  have := hw.l20
  unfold rkN
  omega
open Classical in
noncomputable def rnkE (m : Mac) (xs : List Int) : Int := if wodE m xs = 0 then (if accM m (runN m xs xs.length) = true then 0 else 9) else wodE m xs
open Classical in
noncomputable def rnkN (m : Mac) (xs : List Int) : Int := if rnkE m xs = 0 then rkN m xs xs.length else 0
theorem rnk_ok {m : Mac} {xs : List Int} (h : wodE m xs = 0) (ha : accM m (runN m xs xs.length) = true) : rnkE m xs = 0 ∧ rnkN m xs = rkN m xs xs.length := by
  have e : rnkE m xs = 0 := by unfold rnkE; rw [if_pos h, if_pos ha]
  exact ⟨e, by unfold rnkN; rw [if_pos e]⟩
theorem rnk_no {m : Mac} {xs : List Int} (h : wodE m xs = 0) (ha : accM m (runN m xs xs.length) = false) : rnkE m xs = 9 ∧ rnkN m xs = 0 := by
  have e : rnkE m xs = 9 := by unfold rnkE; rw [if_pos h, ha, if_neg (by decide)]
  exact ⟨e, by unfold rnkN; rw [e, if_neg (by decide)]⟩
theorem rnk_bad {m : Mac} {xs : List Int} (h : wodE m xs ≠ 0) : rnkE m xs = wodE m xs ∧ rnkN m xs = 0 := by
  have e : rnkE m xs = wodE m xs := by unfold rnkE; rw [if_neg h]
  exact ⟨e, by unfold rnkN; rw [e, if_neg h]⟩
theorem rnkE_zero {m : Mac} {xs : List Int} : rnkE m xs = 0 ↔ (MacOK m ∧ WordOK m.L xs) ∧ accM m (runN m xs xs.length) = true := by
  by_cases h : wodE m xs = 0
  · cases ha : accM m (runN m xs xs.length)
    · rw [(rnk_no h ha).1]
      exact ⟨(fun h => by cases h), fun h => by cases h.2⟩
    · exact ⟨fun _ => ⟨wodE_zero.1 h, rfl⟩, fun _ => (rnk_ok h ha).1⟩
  · rw [(rnk_bad h).1]
    exact ⟨fun h2 => absurd h2 h, fun h2 => absurd (wodE_zero.2 h2.1) h⟩
end Go.Proofs.Ytmllbemjcfkmjaa
/- 'Rank': what it returns. -/
namespace Go.Proofs.Ytmllbemjcfkmjaa
open Go.RowKit
set_option linter.unusedSimpArgs false
set_option linter.unusedVariables false

set_option maxRecDepth 100000 in
set_option maxHeartbeats 2000000 in
theorem Rank_any (m : Mac) (a a2 : Option Addr) (cap cap2 : Nat) (xs : List Int) (ax : Option Addr) (cx : Nat) (W : World) (hM : MacAt W a cap a2 cap2 m) (hI : IntsAt W ax xs) (hl : xs.length ≤ maxLen) :
    Calls Try.prog 29 #[.agg #[.int .i64 m.L, .slice a m.nx.length cap, .slice a2 m.ac.length cap2], .slice ax xs.length cx] W fun e w' => e = .returned (.tuple #[.int .i64 (rnkN m xs), .int .i64 (rnkE m xs)]) ∧ Below W.heap.size W w' := by
  have hb0 := below_alloc W (.cells #[.int .i64 m.L, .slice a m.nx.length cap, .slice a2 m.ac.length cap2] 25)
  have HM := hid (hM.below hb0)
  have HI := hid (hI.below hb0)
  have Hv := hid (worded_any m a a2 cap cap2 xs ax cx (W.alloc (.cells #[.int .i64 m.L, .slice a m.nx.length cap, .slice a2 m.ac.length cap2] 25)) HM.out HI.out hl)
  have HB := hid hb0
  clear hM hb0 hI hl
  by_cases hv : wodE m xs = 0
  · obtain ⟨hOK, hW⟩ := wodE_zero.1 hv
    have HV := hid hv
    rw [hv] at Hv
    have HN := hid hOK.n1
    have HOK := hid hOK
    have HW := hid hW
    have h20 := hW.l20
    have h64 := hOK.n64
    have HA := hid hOK.ac
    clear hOK hv hW
    go_enter Try.func29, Try.ntmps29
    go_wp2_with fail
    refine Hv.out.mono ?_; rintro e w1 ⟨rfl, hb1⟩
    have hX := box_at (B := W.heap.size + 1) (by simpa using hb1) rfl
    have x0 := hX.c0
    have x1 := hX.c1
    have x2 := hX.c2
    have xl := hX.lt
    have HM1 := hid (HM.out.below hb1)
    have HI1 := hid (HI.out.below hb1)
    have Ht := hid (counts_any m a a2 cap cap2 xs.length w1 HM1.out HOK.out h20)
    have HB1 := hid (HB.out.trans (hb1.mono HB.out.size))
    have HX := hid hX
    clear hX hb1
    go_wp2_with fail
    refine Ht.out.mono ?_; rintro e w2 ⟨v, b, cp, rfl, hT, hb2⟩
    have hz := HB1.out.trans (hb2.mono HB1.out.size)
    have y0 := (hb2.cell (p := ⟨W.heap.size, 0, none⟩) xl).trans x0
    have y1 := (hb2.cell (p := ⟨W.heap.size, 1, none⟩) xl).trans x1
    have y2 := (hb2.cell (p := ⟨W.heap.size, 2, none⟩) xl).trans x2
    have HM2 := hid (HM1.out.below hb2)
    have HI2 := hid (HI1.out.below hb2)
    have yl : W.heap.size < w2.heap.size := by have := hb2.size; omega
    have hlb := hT.lt
    have e5 := hT.eq
    subst e5
    have HT := hid hT
    clear hb2 hT x0 x1 x2 xl
    go_wp2_with fail
    go_loop [8, 9, 10, 11, 13, 26, 39] (fun v8 v9 v10 v11 v13 v26 v39 => ∃ i : Nat, i ≤ xs.length ∧ v26 = .int .i64 i ∧ v8 = .int .i64 (runN m xs i) ∧ v9 = .int .i64 (rkN m xs i)) (fun _ _ _ _ _ v26 _ => xs.length - (intOf v26).toNat)
    case atStart => exact ⟨0, by omega, rfl, rfl, rfl⟩
    case round =>
      obtain ⟨i, hi, rfl, rfl, rfl⟩ := hrel
      have hs := runN_in HOK.out HW.out i hi
      have hR := rkN_bd HOK.out HW.out i hi
      by_cases hlt : i < xs.length
      · have hwe := HW.out.el i hlt
        have HR1 : Hid (runN m xs (i + 1) = nth (rowOf m (runN m xs i).toNat) (nth xs i).toNat) := hid rfl
        have HR2 : Hid (rkN m xs (i + 1) = rkN m xs i + innR m xs i (nth xs i).toNat) := hid rfl
        have HR3 : Hid (∀ t, innR m xs i (t + 1) = innR m xs i t + cnt m (xs.length - 1 - i) (nth (rowOf m (runN m xs i).toNat) t)) := hid fun t => rfl
        obtain ⟨sn, hsn⟩ : ∃ sn : Nat, runN m xs i = (sn : Int) := ⟨(runN m xs i).toNat, by omega⟩
        obtain ⟨an, han⟩ : ∃ an : Nat, nth xs i = (an : Int) := ⟨(nth xs i).toNat, by omega⟩
        obtain ⟨bx, ox, rfl, hbx, c1⟩ := HI2.out i hlt
        rw [han] at c1 hwe HR1 HR2
        rw [hsn] at HR1 HR3 hs
        simp only [Int.toNat_natCast] at HR1 HR2 HR3
        have hsl : sn < m.nx.length := by omega
        obtain ⟨b1, o1, rfl, hb1, ra, rc, hc, r1, r2, hIA⟩ := HM2.out.nx sn hsl
        have hrl := HOK.out.len sn hsl
        have hel := HOK.out.el sn hsl
        have h6 := HOK.out.l6
        have hal : an < (rowOf m sn).length := by omega
        have hl6 : (rowOf m sn).length ≤ 6 := by omega
        obtain ⟨br, or', rfl, hbr, ca⟩ := hIA an hal
        have HIA := hid hIA
        have HEl := hid hel
        have Hrk := hid (innR_bd HOK.out h20 i)
        have Hsn := hid hsn
        have Han := hid han
        have Hrl := hid hrl
        have hIb : innR m xs i 0 = 0 := rfl
        have HI0 := hid hIb
        rw [hsn]
        generalize rkN m xs i = rv at *
        have i1 : (0 : Int) ≤ (i : Int) := by omega
        have i2 : (i : Int) < (xs.length : Int) := by omega
        have i3 : (0 : Int) ≤ (sn : Int) := by omega
        have i4 : (sn : Int) < (m.nx.length : Int) := by omega
        have i5 : (0 : Int) ≤ (an : Int) := by omega
        have i6 : (an : Int) ≤ (rc : Int) := by omega
        have i7 : (an : Int) < ((rowOf m sn).length : Int) := by omega
        clear hsn han hIA hel hIb hrl
        go_wp2_with fail
        go_loop [9, 13, 39] (fun v9 v13 v39 => ∃ t : Nat, t ≤ an ∧ v39 = .int .i64 t ∧ v9 = .int .i64 (rv + innR m xs i t)) (fun _ _ v39 => an - (intOf v39).toNat)
        case atStart => exact ⟨0, by omega, rfl, by rw [HI0.out, Int.add_zero]⟩
        case round =>
          obtain ⟨t, ht, rfl, rfl⟩ := hrel
          by_cases htl : t < an
          · have hc2 := (HIA.out t (by omega))
            obtain ⟨br', or'', e', hbr', ct⟩ := hc2
            cases e'
            have hte := HEl.out t (by omega)
            have HR4 := hid (HR3.out t)
            obtain ⟨tn, htn⟩ : ∃ tn : Nat, nth (rowOf m sn) t = (tn : Int) := ⟨(nth (rowOf m sn) t).toNat, by omega⟩
            rw [htn] at ct hte HR4
            have htN : tn < m.nx.length := by omega
            obtain ⟨gk, t1, hlg, ht2⟩ := HT.out.row (xs.length - 1 - i) (by omega)
            have t3 := ht2 tn htN
            have hcb := cnt_bd m HOK.out.l6 (xs.length - 1 - i) (tn : Int)
            have h6' := six_le (show xs.length - 1 - i ≤ 20 by omega)
            have hib := Hrk.out t (by omega)
            unfold cntI at t3
            generalize cnt m (xs.length - 1 - i) (tn : Int) = cv at *
            generalize innR m xs i t = iv at *
            generalize six (xs.length - 1 - i) = sx at *
            have ej : ((xs.length : Int) - 1 - (i : Int)) = ((xs.length - 1 - i : Nat) : Int) := by omega
            have Hej := hid ej
            obtain ⟨jn, hjn⟩ : ∃ jn, jn = xs.length - 1 - i := ⟨_, rfl⟩
            rw [← hjn] at t1 ej
            have j1 : (jn : Int) < (xs.length : Int) + 1 := by omega
            have j0 : (0 : Int) ≤ (jn : Int) := by omega
            have k1 : (t : Int) < (an : Int) := by omega
            have k0 : (0 : Int) ≤ (t : Int) := by omega
            have l1 : (tn : Int) < (m.nx.length : Int) := by omega
            have l0 : (0 : Int) ≤ (tn : Int) := by omega
            clear ht2 hjn htn
            go_wp2_with fail
            clear ej
            go_round
            case rel => exact ⟨t + 1, by omega, by go_num, by rw [HR4.out, ← Int.add_assoc]⟩
            case measure => simp [intOf]; omega
          · obtain rfl : t = an := by omega
            have j7 : (0 : Int) ≤ (t : Int) := by omega
            go_wp2_with fail
            go_round
            case rel => exact ⟨i + 1, by omega, by go_num, by rw [HR1.out], by rw [HR2.out]⟩
            case measure => simp [intOf]; omega
      · obtain rfl : i = xs.length := by omega
        have R1 := hid (fun h => rnk_ok (m := m) (xs := xs) HV.out h)
        have R0 := hid (fun h => rnk_no (m := m) (xs := xs) HV.out h)
        obtain ⟨sn, hsn⟩ : ∃ sn : Nat, runN m xs xs.length = (sn : Int) := ⟨(runN m xs xs.length).toNat, by omega⟩
        have hacc : accM m (runN m xs xs.length) = m.ac.getD sn false := by rw [hsn]; rfl
        rw [hsn] at hs
        obtain ⟨b2, o2, rfl, hb2, c2⟩ := HM2.out.ac sn (by rw [HA.out]; omega)
        have i1 : (0 : Int) ≤ (sn : Int) := by omega
        have i3 : (sn : Int) < (m.ac.length : Int) := by rw [HA.out]; omega
        rw [hsn]
        have HS := hid hsn
        generalize m.ac.getD sn false = x at *
        have HC := hid hacc
        clear hsn hacc
        generalize rkN m xs xs.length = rv at *
        cases x with
        | true =>
          have R := hid (R1.out HC.out)
          go_wp2_with fail
          go_ret2
          exact ⟨by rw [R.out.1, R.out.2]; rfl, hz⟩
        | false =>
          have R := hid (R0.out HC.out)
          go_wp2_with fail
          go_ret2
          exact ⟨by rw [R.out.1, R.out.2]; rfl, hz⟩
  · have R := hid (rnk_bad hv)
    have d1 : (wodE m xs == 0) = false := beq_eq_false_iff_ne.2 hv
    have d2 : (wodE m xs != 0) = true := by rw [bne, d1]; rfl
    clear hv
    go_enter Try.func29, Try.ntmps29
    go_wp2_with fail
    refine Hv.out.mono ?_; rintro e w1 ⟨rfl, hb1⟩
    have hz := HB.out.trans (hb1.mono HB.out.size)
    clear hb1
    go_wp2_with fail
    go_ret2
    exact ⟨by rw [R.out.1, R.out.2]; rfl, hz⟩
end Go.Proofs.Ytmllbemjcfkmjaa
