/- 'CountPoints': what it returns. -/
import Derived.Test.YtmllbemjcfkmjaaPtsLaw
import Derived.Test.YtmllbemjcfkmjaaScoErr
import Derived.BigQuiet
import Derived.Deep.MidRow
import Derived.Deep.OwnRows
namespace Go.Proofs.Ytmllbemjcfkmjaa
open Go.RowKit Go.Maps
set_option linter.unusedSimpArgs false
set_option linter.unusedVariables false

/-! ### a table in one block -/
def gridF (F : Nat → Nat → Int) (i : Nat) : Value := .int .i64 (F (i / 401) (i % 401))
theorem grid_at {s q : Nat} (hq : q < 401) : (s * 401 + q) / 401 = s ∧ (s * 401 + q) % 401 = q := by omega
section
variable {w : World} {b N : Nat} {F G : Nat → Nat → Int}
theorem grid_cell (h : w.rowIs b 97 (N * 401) (gridF F)) {s q : Nat} (hs : s < N) (hq : q < 401) : w.cell? ⟨b, s * 401 + q, none⟩ = some (.int .i64 (F s q)) := by
  have h1 : s * 401 + q < N * 401 := by omega
  have := h.cell h1
  rw [this]
  unfold gridF
  rw [(grid_at hq).1, (grid_at hq).2]
theorem grid_same (h : w.rowIs b 97 (N * 401) (gridF F)) (hg : ∀ s q, s < N → q < 401 → F s q = G s q) : w.rowIs b 97 (N * 401) (gridF G) := h.congr fun i hi => by
  unfold gridF
  rw [hg _ _ (by omega) (by omega)]
theorem grid_set (h : w.rowIs b 97 (N * 401) (gridF F)) {s q : Nat} (hq : q < 401) {z : Int} (hz : z = G s q) (hg : ∀ t r, t < N → r < 401 → ¬ (t = s ∧ r = q) → F t r = G t r) : (w.setCell ⟨b, s * 401 + q, none⟩ (.int .i64 z)).rowIs b 97 (N * 401) (gridF G) := by
  refine (h.set (s * 401 + q) _).congr fun i hi => ?_
  unfold gridF
  by_cases e : i = s * 401 + q
  · subst e
    rw [(grid_at hq).1, (grid_at hq).2, hz]
    simp
  · rw [if_neg e, hg _ _ (by omega) (by omega) (by omega)]
end
theorem info97 : (Try.prog.info? 97).map (fun i => (i.zero, i.size, i.bytes)) = some (some (.agg (Array.replicate 401 (.int .i64 0))), 401, 3208) := by kernel_rfl
set_option maxRecDepth 100000 in
theorem run_index97 (w : World) (C : Array Value) (q : Nat) (hq : q < 401) (x : Int) (h : C[q]? = some (.int .i64 x)) : (Instr.index 97 (.agg C) (.int .i64 (q : Int))).run Try.prog w = .ok (.int .i64 x) w := by
  have hn : 0 ≤ (q : Int) ∧ (q : Int) < (401 : Nat) := by omega
  have hw : IntKind.i64.wrap (q : Int) = (q : Int) := IntWalk.i64_in _ (by omega)
  have h3 : (Try.prog.info? 3).map (fun i => (i.zero, i.size, i.bytes)) = some (some (.int .i64 0), 1, 8) := info3
  obtain ⟨i, hi, h0⟩ := Option.map_eq_some_iff.1 h3
  simp only [Prod.mk.injEq] at h0
  have hp : (Go.part 3 C q).run Try.prog w = .ok (.int .i64 x) w := by
    unfold Go.part
    simp [isAgg, run_underlying Try.underlying3, h, Sem.run_bind, Result.andThen]
  have hso : (sizeOf 3).run Try.prog w = .ok 1 w := by simp [sizeOf, typeInfo, hi, h0.2.1]
  simp only [Instr.index, asIntOf, Sem.run_bind, Sem.run_pure, Result.andThen_ok, run_underlying Try.underlying97, if_pos hn, hso, Nat.mul_one, Int.toNat_natCast]
  exact hp
theorem wpList_make_grid (w : World) {ops : Array Oper} {rest : List Oper} {o : Oper} {a : Act} {Q : Exit → Act → World → Prop}
    (hg : o.guard = none) (l c : Operand) (hop : o.op = Op.makeSlice 96 l c) (kl kc : IntKind) (n : Nat) (hl : a.eval l = .int kl (n : Int)) (hc : a.eval c = .int kc (n : Int)) (hn : n ≤ 64)
    (hK : ∀ w', w'.rowIs w.heap.size 97 (n * 401) (gridF fun _ _ => 0) → w'.heap.size = w.heap.size + 1 → Below w.heap.size w w' → wpList Try.prog ops Q rest (a.put o.dst (.slice (some ⟨w.heap.size, 0, none⟩) n n)) w') :
    wpList Try.prog ops Q (o :: rest) a w := by
  refine wpList_plain hg fun K hK' => ?_
  obtain ⟨i, hi, h0⟩ := Option.map_eq_some_iff.1 info97
  simp only [Prod.mk.injEq] at h0
  obtain ⟨hz, hs, hb⟩ := h0
  have hrun := run_make (P := Try.prog) w 96 97 i _ Try.underlying96 hi hz kl kc n n (by omega) (Int.le_refl _) (by rw [hb]; omega) (by omega)
  simp only [Int.toNat_natCast, hs] at hrun
  unfold Oper.wp
  simp only [execOp, hop, hl, hc, Sem.run_bind, hrun, Result.andThen_ok, Sem.run_pure]
  refine hK' _ _ (hK _ ?_ (by simp) (below_alloc _ _))
  refine ⟨_, heap_alloc_new w _, size_madeCells _ _, fun j hj => ?_⟩
  unfold gridF
  simp [madeCells, hj, Value.cells]
  have hm : j % 401 < (Array.replicate 401 (Value.int IntKind.i64 0)).size := by simp; omega
  rw [getElem!_pos (Array.replicate 401 (Value.int IntKind.i64 0)) (j % 401) hm]
  simp

set_option maxRecDepth 100000 in
set_option maxHeartbeats 4000000 in
theorem CountPoints_any (m : Mac) (a a2 : Option Addr) (cap cap2 : Nat) (n : Int) (xs : List Int) (ax : Option Addr) (cx : Nat) (tot : Int) (W : World) (hM : MacAt W a cap a2 cap2 m) (hI : IntsAt W ax xs) (hl : xs.length ≤ maxLen) :
    Calls Try.prog 52 #[.agg #[.int .i64 m.L, .slice a m.nx.length cap, .slice a2 m.ac.length cap2], .int .i64 n, .slice ax xs.length cx, .int .i64 tot] W fun e w' => e = .returned (.tuple #[.int .i64 (cpN m n xs tot), .int .i64 (scoE m n xs)]) ∧ Below W.heap.size W w' := by
  have hb0 := below_alloc W (.cells #[.int .i64 m.L, .slice a m.nx.length cap, .slice a2 m.ac.length cap2] 25)
  have Hv := hid (pointed_any m a a2 cap cap2 n xs ax cx (W.alloc (.cells #[.int .i64 m.L, .slice a m.nx.length cap, .slice a2 m.ac.length cap2] 25)) (hM.below hb0) (hI.below hb0) hl)
  have HX := hid (box_new0 W (.int .i64 m.L) (.slice a m.nx.length cap) (.slice a2 m.ac.length cap2) 25)
  have HM := hid (hM.below hb0)
  have HI := hid (hI.below hb0)
  have HB := hid hb0
  clear hM hI hb0 hl
  by_cases hE : scoE m n xs = 0
  · obtain ⟨⟨hOK, hn0, hn20⟩, hP⟩ := scoE_zero.1 hE
    have HE := hid hE
    rw [hE] at Hv ⊢
    by_cases ht : 0 ≤ tot ∧ tot ≤ 400
    · have HOK := hid hOK
      have HP := hid hP
      have h64 := hOK.n64
      have hn1 := hOK.n1
      have Hac := hid hOK.ac
      obtain ⟨N0, rfl⟩ : ∃ N0 : Nat, n = (N0 : Int) := ⟨n.toNat, by omega⟩
      obtain ⟨T0, rfl⟩ : ∃ T0 : Nat, tot = (T0 : Int) := ⟨tot.toNat, by omega⟩
      have hN0 : N0 ≤ 20 := by omega
      have hT0 : T0 ≤ 400 := by omega
      have HR : Hid (cpN m (N0 : Int) xs (T0 : Int) = accS m (fun s => wy m xs N0 s T0) m.nx.length) := hid (by
        by_cases h2 : (T0 : Int) ≤ 20 * (N0 : Int)
        · rw [cpN_yes ⟨HE.out, by omega, h2⟩]; rfl
        · rw [cpN_far HE.out (by omega)]; rfl)
      clear hE hOK hP hn0 hn20 ht
      go_enter Try.func52, Try.ntmps52
      go_wp2_with fail
      refine Hv.out.mono ?_; rintro e U ⟨rfl, hbU⟩
      replace HX := hid (HX.out.belowB hbU)
      replace HM := hid (HM.out.below hbU)
      replace HI := hid (HI.out.below hbU)
      replace HB := hid (HB.out.trans (hbU.mono HB.out.size))
      have x1 := HX.out.c1
      have xl := HX.out.lt
      clear hbU Hv
      go_wp2_with (refine wpList_make_grid (o := ⟨some 37, _, _, _, _, _⟩) _ rfl _ _ rfl .i64 .i64 m.nx.length rfl rfl (by omega) ?_; intro w1 hr1 hz1 hb1; have z0 := grid_cell hr1 (s := 0) (q := 0) (by omega) (by omega); have zf := hr1.frozen 0; have zl := hr1.lt; clear x1 xl)
      have hq0 := grid_set hr1 (s := 0) (q := 0) (by omega) (z := 1) (G := wy m xs 0) (by rfl) (fun t r ht hr hne => by
        unfold wy reach
        rw [wyN_skip (fun e => hne (by cases e; exact ⟨rfl, rfl⟩))]
        rfl)
      have hb2 := hb1.setCell (p := ⟨U.heap.size, 0 * 401 + 0, none⟩) (Nat.le_refl _) (.int .i64 1)
      have H0 := hid hq0
      have HB2 := hid hb2
      clear hr1 hz1 hb1 z0 zf zl hq0 hb2
      go_loopw [11, 12, 42] (fun v11 v12 v42 w' => ∃ (k g : Nat), k ≤ N0 ∧ v42 = .int .i64 k ∧ v11 = .slice (some ⟨g, 0, none⟩) m.nx.length m.nx.length ∧ U.heap.size ≤ g ∧ w'.rowIs g 97 (m.nx.length * 401) (gridF (wy m xs k)) ∧ Below U.heap.size U w') (fun _ _ v42 _ => N0 - (intOf v42).toNat)
      case atStart => exact ⟨0, U.heap.size, by omega, rfl, rfl, Nat.le_refl _, H0.out, HB2.out⟩
      case round =>
        clear H0 HB2
        obtain ⟨k, g, hk, rfl, rfl, hgU, hg, hbw⟩ := hrel
        have hX := HX.out.belowB hbw
        have x1 := hX.c1
        have x2 := hX.c2
        have xl := hX.lt
        clear hX
        by_cases hlt : k < N0
        · obtain ⟨Y, hY⟩ : ∃ Y, Y = wr := ⟨_, rfl⟩
          subst hY
          have Hg := hid hg
          have Hbw := hid hbw
          have hgl := hg.lt
          clear hg hbw x2
          go_wp2_with (refine wpList_make_grid (o := ⟨some 47, _, _, _, _, _⟩) _ rfl _ _ rfl .i64 .i64 m.nx.length rfl rfl (by omega) ?_; intro w1 hr1 hz1 hb1; clear x1 xl)
          have p1 := grid_same (G := pP m xs k 0 0 0) hr1 (fun t r _ _ => pP_zero.symm)
          clear hr1 hz1
          go_loopw [50] (fun v50 w' => ∃ s : Nat, s ≤ m.nx.length ∧ v50 = .int .i64 s ∧ w'.rowIs Y.heap.size 97 (m.nx.length * 401) (gridF (pP m xs k s 0 0)) ∧ Below Y.heap.size Y w') (fun v50 _ => m.nx.length - (intOf v50).toNat)
          case atStart => exact ⟨0, by omega, rfl, p1, hb1⟩
          case round =>
            clear p1 hb1
            obtain ⟨s, hs, rfl, p1, qb⟩ := hrel
            by_cases hls : s < m.nx.length
            · have hgo := rowIs_below Hg.out qb hgl
              obtain ⟨C, hC⟩ : ∃ C : List Value, C = (List.range 401).map fun q => .int .i64 (wy m xs k s q) := ⟨_, rfl⟩
              have hrg : wr.rangeAt g (s * 401) C := by
                intro j v hv
                have hj : j < 401 := by
                  have := (List.getElem?_eq_some_iff.1 hv).1
                  rw [hC] at this
                  simpa using this
                rw [grid_cell hgo hls hj, ← hv, hC]
                simp [hj]
              have hCi : (Try.prog.info? 97).map (·.size) = some C.length := by
                rw [hC]
                obtain ⟨i, hi, h0⟩ := Option.map_eq_some_iff.1 info97
                simp only [Prod.mk.injEq] at h0
                rw [hi]
                simp [h0.2.1]
              have hCq : ∀ q, q < 401 → C.toArray[q]? = some (.int .i64 (wy m xs k s q)) := fun q hq => by
                rw [hC, List.getElem?_toArray, List.getElem?_map, List.getElem?_range hq]
                rfl
              have HIX : Hid (∀ q : Nat, q < 401 → ∀ w, (Instr.index 97 (.agg C.toArray) (.int .i64 (q : Int))).run Try.prog w = .ok (.int .i64 (wy m xs k s q)) w) := hid (fun q hq w => run_index97 w C.toArray q hq _ (hCq q hq))
              have i1 : (0 : Int) ≤ (s : Int) := by omega
              have i2 : (s : Int) < (m.nx.length : Int) := by omega
              have Hrg := hid hrg
              have HCi := hid hCi
              have Hp := hid p1
              have Hqb := hid qb
              clear hgo hrg hCi p1 qb hC hCq
              obtain ⟨w0, hw0⟩ : ∃ w0, w0 = wr := ⟨_, rfl⟩
              subst hw0
              go_wp2_with (refine wpList_load_mid (op := ⟨some 56, _, _, _, _, _⟩) rfl _ _ rfl g (s * 401) rfl C (.array 401 3) Hrg.out Try.underlying97 rfl HCi.out ?_)
              clear Hrg HCi
              go_loopw [57] (fun v57 w' => ∃ p : Nat, p ≤ 401 ∧ v57 = .int .i64 p ∧ w'.rowIs Y.heap.size 97 (m.nx.length * 401) (gridF (pP m xs k s p 0)) ∧ Below Y.heap.size Y w') (fun v57 _ => 401 - (intOf v57).toNat)
              case atStart => exact ⟨0, by omega, rfl, Hp.out, Hqb.out⟩
              case round =>
                clear Hp Hqb
                obtain ⟨p, hp, rfl, p1, qb⟩ := hrel
                by_cases hlp : p < 401
                · have hix := HIX.out p hlp
                  have i3' : (p : Int) < 401 := by omega
                  have hwb := wy_bd (m := m) (xs := xs) HOK.out.l6 k s p
                  have hwf := fun h => wy_far HOK.out HP.out (k := k) (t := s) (q := p) h
                  have hsk := fun (t q : Nat) (h : wy m xs k s p = 0) => pP_skip (m := m) (xs := xs) (k := k) (s := s) (p := p) (t := t) (q := q) h
                  have Hsk := hid hsk
                  have Hwf := hid hwf
                  have Hwb := hid hwb
                  obtain ⟨wv, hwv⟩ : ∃ wv, wv = wy m xs k s p := ⟨_, rfl⟩
                  rw [← hwv] at hix Hsk Hwf Hwb
                  have Hwv := hid hwv
                  clear hsk hwf hwb hwv
                  by_cases h0 : wv = 0
                  · have d1 : (wv == 0) = true := beq_iff_eq.2 h0
                    have p2 := grid_same (G := pP m xs k s (p + 1) 0) p1 (fun t r _ _ => Hsk.out t r h0)
                    clear h0 p1
                    go_wp2_with fail
                    go_roundw
                    case rel => exact ⟨p + 1, by omega, by go_num, p2, qb⟩
                    case measure => simp [intOf]; omega
                  · have d1 : (wv == 0) = false := beq_eq_false_iff_ne.2 h0
                    have hp20 : p ≤ 20 * k := by
                      by_cases h : 20 * k < p
                      · exact absurd (Hwf.out h) h0
                      · omega
                    clear Hsk Hwf h0
                    have hUw := Hbw.out.trans (qb.mono Hbw.out.size)
                    have hX := HX.out.belowB hUw
                    have x1 := hX.c1
                    have xl := hX.lt
                    obtain ⟨b1, o1, rfl, hb1, ra, rc, hcU, r1, r2, hIA⟩ := HM.out.nx s hls
                    have hc0 := (hUw.cell (p := ⟨b1, o1 + s, none⟩) hb1).trans hcU
                    have hb1' := Nat.lt_of_lt_of_le hb1 hUw.size
                    have hrl := HOK.out.len s hls
                    have hrel := HOK.out.el s hls
                    have h6 := HOK.out.l6
                    have h1L := HOK.out.l1
                    have HLn : Hid ((rowOf m s).length = m.L.toNat) := hid (by omega)
                    have hl6 : (rowOf m s).length ≤ 6 := by omega
                    have Hxl : Hid (xs.length = (rowOf m s).length) := hid (by have := HP.out.len; omega)
                    have HEl := hid hrel
                    have HIA := hid hIA
                    have Hp := hid p1
                    have Hqb := hid qb
                    clear hX hrl hrel h6 h1L hIA p1 qb hUw
                    obtain ⟨w2, hw2⟩ : ∃ w2, w2 = wr := ⟨_, rfl⟩
                    subst hw2
                    go_wp2_with fail
                    clear x1 xl hc0 hb1 hb1' hcU hix
                    go_loopw [69] (fun v69 w' => ∃ b : Nat, b ≤ (rowOf m s).length ∧ v69 = .int .i64 b ∧ w'.rowIs Y.heap.size 97 (m.nx.length * 401) (gridF (pP m xs k s p b)) ∧ Below Y.heap.size Y w') (fun v69 _ => (rowOf m s).length - (intOf v69).toNat)
                    case atStart => exact ⟨0, by omega, rfl, Hp.out, Hqb.out⟩
                    case round =>
                      clear Hp
                      obtain ⟨b, hb, rfl, p1, qb⟩ := hrel
                      by_cases hla : b < (rowOf m s).length
                      · have hUw := Hbw.out.trans (qb.mono Hbw.out.size)
                        obtain ⟨b', o', rfl, hb', c1⟩ := (HIA.out.below hUw) b hla
                        obtain ⟨bp, op, rfl, hbp, cp⟩ := (HI.out.below hUw) b (by rw [Hxl.out]; exact hla)
                        have hel := HEl.out b hla
                        have hpx := HP.out.el b (by rw [Hxl.out]; exact hla)
                        obtain ⟨tn, htn⟩ : ∃ tn : Nat, nth (rowOf m s) b = (tn : Int) := ⟨(nth (rowOf m s) b).toNat, by omega⟩
                        obtain ⟨pn, hpn⟩ : ∃ pn : Nat, nth xs b = (pn : Int) := ⟨(nth xs b).toNat, by omega⟩
                        have hst : stN m s b = tn := by
                          show (nth (rowOf m ((s : Int)).toNat) b).toNat = tn
                          rw [Int.toNat_natCast, htn, Int.toNat_natCast]
                        have hpt : ptN xs b = pn := by unfold ptN; rw [hpn, Int.toNat_natCast]
                        rw [htn] at c1 hel
                        rw [hpn] at cp hpx
                        have htl : tn < m.nx.length := by omega
                        have hq : p + pn < 401 := by omega
                        have z1 := grid_cell p1 htl hq
                        have y1 := p1.frozen (tn * 401 + (p + pn))
                        have hlB := p1.lt
                        have hpb := pP_bd HOK.out HP.out (k := k) (p := p) (a := b) (t := tn) (q := p + pn) hls
                        have h6a := six_le (show k + 1 ≤ 20 by omega)
                        have h6b := six_le (show k ≤ 20 by omega)
                        have t1 := grid_set p1 (s := tn) (q := p + pn) hq (z := pP m xs k s p b tn (p + pn) + wv) (G := pP m xs k s p (b + 1)) (by rw [pP_step (by have := HLn.out; omega), hst, hpt, if_pos ⟨rfl, rfl⟩, Hwv.out]) (fun t r _ _ hne => by rw [pP_step (by have := HLn.out; omega), hst, hpt, if_neg hne, Int.add_zero])
                        have t2 := qb.setCell (p := ⟨Y.heap.size, tn * 401 + (p + pn), none⟩) (Nat.le_refl _) (.int .i64 (pP m xs k s p b tn (p + pn) + wv))
                        have hwb := Hwb.out
                        generalize pP m xs k s p b tn (p + pn) = pv at *
                        generalize six k = sx at *
                        generalize six (k + 1) = sy at *
                        have H1 := hid t1
                        have H2 := hid t2
                        have i4 : (0 : Int) ≤ (b : Int) := by omega
                        have i5 : (b : Int) < ((rowOf m s).length : Int) := by omega
                        have i6 : (b : Int) < (xs.length : Int) := by rw [Hxl.out]; omega
                        have i7 : (0 : Int) ≤ (tn : Int) := by omega
                        have i8 : (tn : Int) < (m.nx.length : Int) := by omega
                        have i9 : (0 : Int) ≤ (p : Int) + (pn : Int) := by omega
                        have i10 : (p : Int) + (pn : Int) < 401 := by omega
                        have wk : IntKind.i64.wrap ((p : Int) + (pn : Int)) = (p : Int) + (pn : Int) := IntWalk.i64_in _ (by omega)
                        have hts : ((p : Int) + (pn : Int)).toNat = p + pn := by omega
                        clear t1 t2 p1 qb hUw htn hpn hel
                        go_wp2_with fail
                        refine wp_region_still_tail 15 (by kernel_rfl) (by kernel_rfl) ?_
                        simp only [List.take_succ_cons, List.take_zero, List.drop_succ_cons, List.drop_zero]
                        refine St.out ?_
                        iterate 15 (refine st_want (by kernel_rfl) (fun K hK => ?_); go_simp; refine hK _ ?_; clear hK K)
                        refine st_nil ?_
                        change wpList _ _ _ _ _ wr.drew
                        clear wk hts
                        go_wp2_with fail
                        go_roundw
                        case rel => exact ⟨b + 1, by omega, by go_num, H1.out, H2.out.drew⟩
                        case measure => simp [intOf]; omega
                      · obtain rfl : b = (rowOf m s).length := by omega
                        have p2 := grid_same (G := pP m xs k s (p + 1) 0) p1 (fun t r _ _ => by rw [HLn.out]; exact pP_next)
                        clear p1
                        go_wp2_with fail
                        go_roundw
                        case rel => exact ⟨p + 1, by omega, by go_num, p2, qb⟩
                        case measure => simp [intOf]; omega
                · obtain rfl : p = 401 := by omega
                  have p2 := grid_same (G := pP m xs k (s + 1) 0 0) p1 (fun t r _ hr => pP_row hr)
                  clear p1
                  go_wp2_with fail
                  go_roundw
                  case rel => exact ⟨s + 1, by omega, by go_num, p2, qb⟩
                  case measure => simp [intOf]; omega
            · obtain rfl : s = m.nx.length := by omega
              have p2 := grid_same (G := wy m xs (k + 1)) p1 (fun t r _ _ => pP_end HOK.out HP.out)
              have hUw := Hbw.out.trans (qb.mono Hbw.out.size)
              clear p1
              have hYU := Hbw.out.size
              go_wp2_with fail
              go_roundw
              case rel => exact ⟨k + 1, Y.heap.size, by omega, by go_num, by rfl, hYU, p2, hUw⟩
              case measure => simp [intOf]; omega
        · obtain rfl : k = N0 := by omega
          have Hg := hid hg
          have HZ := hid hbw
          have hgl := hg.lt
          have i4 : m.ac.length ≤ m.nx.length := by rw [Hac.out]; omega
          clear hg hbw x1
          obtain ⟨Y, hY⟩ : ∃ Y, Y = wr := ⟨_, rfl⟩
          subst hY
          go_wp2_with fail
          clear x2 xl
          go_loopw [18, 97] (fun v18 v97 w' => ∃ s : Nat, s ≤ m.nx.length ∧ v97 = .int .i64 s ∧ v18 = .int .i64 (accS m (fun s => wy m xs k s T0) s) ∧ w' = Y) (fun _ v97 _ => m.nx.length - (intOf v97).toNat)
          case atStart => exact ⟨0, by omega, rfl, rfl, rfl⟩
          case round =>
            obtain ⟨s, hs, rfl, rfl, rfl⟩ := hrel
            by_cases hls : s < m.nx.length
            · obtain ⟨b2, o2, rfl, hb2, c2⟩ := (HM.out.below HZ.out).ac s (by rw [Hac.out]; exact hls)
              have z1 := grid_cell Hg.out hls (show T0 < 401 by omega)
              have i1 : (0 : Int) ≤ (s : Int) := by omega
              have i2 : (s : Int) < (m.nx.length : Int) := by omega
              have i3' : (s : Int) < (m.ac.length : Int) := by rw [Hac.out]; omega
              have i5 : (T0 : Int) < 401 := by omega
              have i6 : (0 : Int) ≤ (T0 : Int) := by omega
              have ha : accM m (s : Int) = m.ac.getD s false := rfl
              have hs1 : accS m (fun s => wy m xs k s T0) (s + 1) = accS m (fun s => wy m xs k s T0) s + (if accM m (s : Int) = true then wy m xs k s T0 else 0) := rfl
              have hwb := wy_bd (m := m) (xs := xs) HOK.out.l6 k s T0
              have h6b := six_le (show k ≤ 20 by omega)
              have hab := accS_bd (m := m) (f := fun s => wy m xs k s T0) (B := 3656158440062976) (by omega) (fun s => by have := wy_bd (m := m) (xs := xs) HOK.out.l6 k s T0; omega) s
              have hab2 : accS m (fun s => wy m xs k s T0) s ≤ 233994140163  * 1000000 := by omega
              rw [ha] at hs1
              have Hs1 := hid hs1
              generalize m.ac.getD s false = x at *
              generalize wy m xs k s T0 = wv at *
              generalize accS m (fun s => wy m xs k s T0) s = av at *
              clear ha hs1
              cases x with
              | true =>
                rw [if_pos rfl] at Hs1
                go_wp2_with fail
                go_roundw
                case rel => exact ⟨s + 1, by omega, by go_num, by rw [Hs1.out], trivial⟩
                case measure => simp [intOf]; omega
              | false =>
                rw [if_neg (by decide), Int.add_zero] at Hs1
                go_wp2_with fail
                go_roundw
                case rel => exact ⟨s + 1, by omega, by go_num, by rw [Hs1.out], trivial⟩
                case measure => simp [intOf]; omega
            · obtain rfl : s = m.nx.length := by omega
              have i5 : ¬ (m.nx.length : Int) < (m.ac.length : Int) := by rw [Hac.out]; omega
              rw [← HR.out]
              go_wp2_with fail
              go_ret2
              exact ⟨rfl, HB.out.trans (HZ.out.mono HB.out.size)⟩
    · have HR := hid (cpN_no (m := m) (n := n) (xs := xs) (total := tot) (fun h => ht ⟨h.2.1, by omega⟩))
      rw [HR.out]
      by_cases hneg : tot < 0
      · have d1 : decide (tot < 0) = true := decide_eq_true hneg
        clear hE hOK hP HR ht hneg
        go_enter Try.func52, Try.ntmps52
        go_wp2_with fail
        refine Hv.out.mono ?_; rintro e w1 ⟨rfl, hb1⟩
        have hz := HB.out.trans (hb1.mono HB.out.size)
        clear hb1
        go_wp2_with fail
        go_ret2
        exact ⟨rfl, hz⟩
      · have d1 : decide (tot < 0) = false := decide_eq_false hneg
        have d2 : decide (400 < tot) = true := decide_eq_true (by omega)
        clear hE hOK hP HR ht hneg
        go_enter Try.func52, Try.ntmps52
        go_wp2_with fail
        refine Hv.out.mono ?_; rintro e w1 ⟨rfl, hb1⟩
        have hz := HB.out.trans (hb1.mono HB.out.size)
        clear hb1
        go_wp2_with fail
        go_ret2
        exact ⟨rfl, hz⟩
  · have d1 : (scoE m n xs == 0) = false := beq_eq_false_iff_ne.2 hE
    have d2 : (scoE m n xs != 0) = true := by rw [bne, d1]; rfl
    have HR := hid (cpN_no (m := m) (n := n) (xs := xs) (total := tot) (fun h => hE h.1))
    rw [HR.out]
    clear hE HR
    generalize scoE m n xs = ev at *
    go_enter Try.func52, Try.ntmps52
    go_wp2_with fail
    refine Hv.out.mono ?_; rintro e w1 ⟨rfl, hb1⟩
    have hz := HB.out.trans (hb1.mono HB.out.size)
    clear hb1
    go_wp2_with fail
    go_ret2
    exact ⟨rfl, hz⟩
end Go.Proofs.Ytmllbemjcfkmjaa
