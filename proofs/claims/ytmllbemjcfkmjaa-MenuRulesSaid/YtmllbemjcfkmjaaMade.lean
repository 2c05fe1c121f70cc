/- The document's 'made': the plain form of a rule's machine. -/
import Derived.Test.YtmllbemjcfkmjaaRuleInv
import Derived.Deep.DeepCutAuto
import Derived.StillTailTactics
namespace Go.Proofs.Ytmllbemjcfkmjaa
open Go.RowKit Go.Maps
set_option linter.unusedSimpArgs false
set_option linter.unusedVariables false

theorem gen_plain {W w' : World} {L : Nat} {la : Lang} {e : Ending} (h : GenPost W 0 L la e w') : PlainPost W L la e w' := by
  rcases h with ⟨_, h⟩ | ⟨h, _⟩
  · exact h
  · exact absurd rfl h
theorem rows_cells {w : World} {B b n cap i : Nat} {S : List Int} (h : w.ownsRow B 122 4 (.slice (some ⟨b, 0, none⟩) n cap) S.length (rowsR S)) (hi : i < S.length) : w.cell? ⟨b, i * 4, none⟩ = some (.int .i64 (rL (S.getD i 0) - 1)) ∧ w.cell? ⟨b, i * 4 + 1, none⟩ = some (.int .i64 (rB (S.getD i 0) - 1)) ∧
    w.cell? ⟨b, i * 4 + 2, none⟩ = some (.int .i64 (rT (S.getD i 0))) ∧ w.cell? ⟨b, i * 4 + 3, none⟩ = some (.bool (decide (rX (S.getD i 0) = 1))) := by
  obtain ⟨g, cap', e, hge, hlt⟩ := h.form (by omega)
  cases e
  refine ⟨?_, ?_, ?_, ?_⟩
  · rw [h.cellAt (i * 4) (by omega)]
    exact (rowsR_get S i hi 0 (by omega)).trans rfl
  · rw [h.cellAt (i * 4 + 1) (by omega)]
    exact (rowsR_get S i hi 1 (by omega)).trans rfl
  · rw [h.cellAt (i * 4 + 2) (by omega)]
    exact (rowsR_get S i hi 2 (by omega)).trans rfl
  · rw [h.cellAt (i * 4 + 3) (by omega)]
    exact (rowsR_get S i hi 3 (by omega)).trans rfl
structure RulAt (w : World) (H : Nat) (k L a b : Int) : Prop where
  lt : H < w.heap.size
  c0 : w.cell? ⟨H, 0, none⟩ = some (.int .i64 k)
  c1 : w.cell? ⟨H, 1, none⟩ = some (.int .i64 L)
  c2 : w.cell? ⟨H, 2, none⟩ = some (.int .i64 a)
  c3 : w.cell? ⟨H, 3, none⟩ = some (.int .i64 b)
theorem RulAt.below {w w' : World} {H : Nat} {k L a b : Int} (h : RulAt w H k L a b) (hb : Below w.heap.size w w') : RulAt w' H k L a b :=
  ⟨Nat.lt_of_lt_of_le h.lt hb.size, (hb.cell (p := ⟨H, 0, none⟩) h.lt).trans h.c0, (hb.cell (p := ⟨H, 1, none⟩) h.lt).trans h.c1, (hb.cell (p := ⟨H, 2, none⟩) h.lt).trans h.c2, (hb.cell (p := ⟨H, 3, none⟩) h.lt).trans h.c3⟩
theorem rul_new (W : World) (k L a b : Int) : RulAt (W.alloc (.cells #[.int .i64 k, .int .i64 L, .int .i64 a, .int .i64 b] 92)) W.heap.size k L a b :=
  ⟨by simp, by simp, by simp, by simp, by simp⟩
def recQ (c : Int) : Nat → Value := rowQ (.int .i64 (rL c - 1)) (.int .i64 (rB c - 1)) (.int .i64 (rT c)) (.bool (decide (rX c = 1)))

theorem rec_set {w : World} {H : Nat} {f : Nat → Value} (h : w.rowIs H 122 4 f) (c : Int) : ((((w.setCell ⟨H, 0, none⟩ (.int .i64 (rL c - 1))).setCell ⟨H, 1, none⟩ (.int .i64 (rB c - 1))).setCell ⟨H, 2, none⟩ (.int .i64 (rT c))).setCell ⟨H, 3, none⟩ (.bool (decide (rX c = 1)))).rowIs H 122 4 (recQ c) := by
  refine ((((h.set 0 _).set 1 _).set 2 _).set 3 _).congr fun i hi => ?_
  unfold recQ rowQ
  have : i = 0 ∨ i = 1 ∨ i = 2 ∨ i = 3 := by omega
  rcases this with rfl | rfl | rfl | rfl <;> simp
theorem below_set4 {B H : Nat} {W w : World} (h : Below B W w) (hH : B ≤ H) (c : Int) : Below B W ((((w.setCell ⟨H, 0, none⟩ (.int .i64 (rL c - 1))).setCell ⟨H, 1, none⟩ (.int .i64 (rB c - 1))).setCell ⟨H, 2, none⟩ (.int .i64 (rT c))).setCell ⟨H, 3, none⟩ (.bool (decide (rX c = 1)))) :=
  (((h.setCell (p := ⟨H, 0, none⟩) hH _).setCell (p := ⟨H, 1, none⟩) hH _).setCell (p := ⟨H, 2, none⟩) hH _).setCell (p := ⟨H, 3, none⟩) hH _
theorem part_in {L : Nat} {step : Int → Nat → Int} {lo hi : Int} (h : AutoOK L step lo hi) (i c : Nat) (hc : c ≤ L) (hi' : i < (raw L step i).length) : ∀ y, y ∈ part L step i c → lo ≤ y ∧ y < hi := fun y hy => by
  have hsub : part L step i c <+: part L step i L := part_pre (L := L) (step := step) i hc
  rw [part_all i hi'] at hsub
  exact raw_in h (i + 1) y (hsub.subset hy)

set_option maxRecDepth 100000 in
set_option maxHeartbeats 4000000 in
theorem made_any (k a b : Int) (N : Nat) (h1 : 1 ≤ N) (h6 : N ≤ 6) (W : World) :
    Calls Try.prog 85 #[rulV k (N : Nat) a b] W (PlainPost W N (laA N (ruS k a b) (ruA k b) 0)) := by
  have hC1 : ∀ c, recD c → ∀ d, d < 6 → ∀ w, Calls Try.prog 113 #[rulV k (N : Nat) a b, recV c, .int .i64 (d : Nat)] w fun e w' => e = .returned (recV (ruS k a b c d)) ∧ Below w.heap.size w w' := fun c hc d hd w => rnext_any k (N : Nat) a b hc.1 hc.2 hd w
  have hC2 : ∀ c w, Calls Try.prog 114 #[rulV k (N : Nat) a b, recV c] w fun e w' => e = .returned (.bool (ruA k b c)) ∧ Below w.heap.size w w' := fun c w => rkeeps_any k (N : Nat) a b c w
  have hA0 : AutoOK N (ruS k a b) 0 2156 := ru_auto h1 h6 k a b
  unfold rulV at *
  generalize ruS k a b = st at *
  generalize ruA k b = ac at *
  have HC1 := hid hC1
  have HC2 := hid hC2
  have HA := hid hA0
  have hbA := below_alloc W (.cells #[.int .i64 k, .int .i64 (N : Nat), .int .i64 a, .int .i64 b] 92)
  have hbB := below_alloc (W.alloc (.cells #[.int .i64 k, .int .i64 (N : Nat), .int .i64 a, .int .i64 b] 92)) (.cells #[.int .i64 0, .slice none 0 0, .slice none 0 0] 25)
  have hsA : (W.alloc (.cells #[.int .i64 k, .int .i64 (N : Nat), .int .i64 a, .int .i64 b] 92)).heap.size = W.heap.size + 1 := by simp
  rw [hsA] at hbB
  have hs0 : ((W.alloc (.cells #[.int .i64 k, .int .i64 (N : Nat), .int .i64 a, .int .i64 b] 92)).alloc (.cells #[.int .i64 0, .slice none 0 0, .slice none 0 0] 25)).heap.size = W.heap.size + 1 + 1 := by simp
  have hr0 := (PlO.start (W.alloc (.cells #[.int .i64 k, .int .i64 (N : Nat), .int .i64 a, .int .i64 b] 92)) 0 (fun _ => []) (fun _ => undef)).out
  rw [hsA] at hr0
  have HR0 := hid ((rul_new W k (N : Nat) a b).below (below_alloc _ (.cells #[.int .i64 0, .slice none 0 0, .slice none 0 0] 25)))
  obtain ⟨l0, hl0⟩ := key122 (c := 0) (by omega) (by omega)
  rw [rec0] at hl0
  obtain ⟨w4, hrun, hM4, hg4, hz4⟩ := (mapOf_new Try.prog 122 (((W.alloc (.cells #[.int .i64 k, .int .i64 (N : Nat), .int .i64 a, .int .i64 b] 92)).alloc (.cells #[.int .i64 0, .slice none 0 0, .slice none 0 0] 25)).alloc (.cells #[.int .i64 (-1), .int .i64 (-1), .int .i64 0, .bool false] 122))).insert law122 Try.underlying124 (x := .agg #[.int .i64 (-1), .int .i64 (-1), .int .i64 0, .bool false]) (v := .int .i64 0) hl0 rfl
  have hUs : (((W.alloc (.cells #[.int .i64 k, .int .i64 (N : Nat), .int .i64 a, .int .i64 b] 92)).alloc (.cells #[.int .i64 0, .slice none 0 0, .slice none 0 0] 25)).alloc (.cells #[.int .i64 (-1), .int .i64 (-1), .int .i64 0, .bool false] 122)).heap.size = W.heap.size + 1 + 1 + 1 := by simp
  have hz4' : w4.heap.size = W.heap.size + 1 + 1 + 1 + 1 := by rw [hz4]; simp
  rw [hUs] at hrun hg4 hM4
  have hb4 : Below ((W.alloc (.cells #[.int .i64 k, .int .i64 (N : Nat), .int .i64 a, .int .i64 b] 92)).alloc (.cells #[.int .i64 0, .slice none 0 0, .slice none 0 0] 25)).heap.size ((W.alloc (.cells #[.int .i64 k, .int .i64 (N : Nat), .int .i64 a, .int .i64 b] 92)).alloc (.cells #[.int .i64 0, .slice none 0 0, .slice none 0 0] 25)) w4 := (((below_alloc ((W.alloc (.cells #[.int .i64 k, .int .i64 (N : Nat), .int .i64 a, .int .i64 b] 92)).alloc (.cells #[.int .i64 0, .slice none 0 0, .slice none 0 0] 25)) _).alloc (by simp) _)).grown hg4 (by simp <;> omega) fun k hk => by cases hk; have := hs0; omega
  have hO := mk_start (V := ((W.alloc (.cells #[.int .i64 k, .int .i64 (N : Nat), .int .i64 a, .int .i64 b] 92)).alloc (.cells #[.int .i64 0, .slice none 0 0, .slice none 0 0] 25))) (w4 := w4) N (fun j => rowP N st j N) (fun _ => .slice none 0 0) (by
    rw [hs0]
    refine hM4.congr (fun y => ?_)
    rw [show ([0] : List Int) = [] ++ [0] from rfl, ← gE_new (l := []) (D := recD) recV_inj (fun _ h => by cases h) (k := 0) ⟨by omega, by omega⟩ (by simp) y, rec0]
    first | done | rfl) (by rw [hs0]; exact hg4) (by rw [hs0]; exact hz4')
  rw [hs0] at hO
  have hX4 := HR0.out.below hb4
  have x1 := hX4.c1
  have xl4 := hX4.lt
  have HO := hid hO
  have HRs := hid hr0
  have Hs0 := hid hs0
  have HBB := hid hbB
  have HBA := hid hbA
  have HN1 := hid h1
  have HN6 := hid h6
  clear hC1 hC2 hA0 hbA hbB hsA hr0 hl0 hM4 hg4 hz4 hUs hb4 hO hX4 hs0 h1 h6
  obtain ⟨i0, hi0, hz0, hz1, hz2⟩ := info_parts info3
  obtain ⟨i3, hi3, hy0, hy1, hy2⟩ := info_parts info33
  obtain ⟨i4, hi4, hw0, hw1, hw2⟩ := info_parts info4
  obtain ⟨i8, hi8, hq0, hq1, hq2⟩ := info_parts info122
  have hmm := @run_makeMap Try.prog
  go_enter Try.func85, Try.ntmps85
  go_wp2_with fail
  clear hmm hrun x1 xl4 hz4'
  generalize ((W.alloc (.cells #[.int .i64 k, .int .i64 (N : Nat), .int .i64 a, .int .i64 b] 92)).alloc (.cells #[.int .i64 0, .slice none 0 0, .slice none 0 0] 25)) = V at *
  generalize w4.alloc (.cells #[.int .i64 (N : Nat), .slice none 0 0, .slice none 0 0] 25) = w5 at *
  go_loopw [4, 7, 8, 9, 10, 11, 12] (fun v4 v7 v8 v9 v10 v11 v12 w' => ∃ (i : Nat) (vn vb : Value) (Q : Nat → Value), v7 = .int .i64 i ∧ i ≤ (raw N st i).length ∧ MkO V (W.heap.size + 1 + 1 + 1) (W.heap.size + 1 + 1 + 1 + 1) N i (fun j => rowP N st j N) (raw N st i) (raw N st i) (((raw N st i).take i).map ac) v4 vn vb Q w') (fun _ v7 _ _ _ _ _ _ => 5100 - (intOf v7).toNat)
  case atStart => exact ⟨0, _, _, _, rfl, by omega, HO.out⟩
  case round =>
    clear HO
    obtain ⟨i, vn, vb, Q, rfl, hi, hO⟩ := hrel
    have hlS := raw_len HA.out i
    have hX := HR0.out.below hO.bl
    have x0 := hX.c0
    have x1 := hX.c1
    have x2 := hX.c2
    have x3 := hX.c3
    have xl := hX.lt
    have hp1 := raw_pos (L := N) (step := st) i
    obtain ⟨b4, k4, rfl, hb4, hVb4, _⟩ := hO.cells (i := 0) (by omega)
    by_cases hlr : i < (raw N st i).length
    · have i2 : (i : Int) < ((raw N st i).length : Int) := by omega
      have HO := hid hO
      have Hlr := hid hlr
      have Hi := hid hi
      clear hO hX hi hp1
      go_wp2_with fail
      clear x0 x1 x2 x3 xl
      go_loopw [4, 8, 9, 10, 11, 12] (fun v4 v8 v9 v10 v11 v12 w' => ∃ (c : Nat), v9 = .int .i64 c ∧ c ≤ N ∧ MkJ V (W.heap.size + 1 + 1 + 1) (W.heap.size + 1 + 1 + 1 + 1) N i (fun j => rowP N st j N) (part N st i c) (part N st i c) (((raw N st i).take i).map ac) v4 vn vb v8 Q c (rowP N st i c) w') (fun _ _ v9 _ _ _ _ => N - (intOf v9).toNat)
      case atStart => exact ⟨0, rfl, by omega, HO.out.inner⟩
      case round =>
        clear HO i2 hb4 hVb4
        obtain ⟨c, rfl, hc, hJ⟩ := hrel
        have hpl := part_len HA.out i c hlr hc
        have hX := HR0.out.below hJ.O.bl
        have x0 := hX.c0
        have x1 := hX.c1
        have x2 := hX.c2
        have x3 := hX.c3
        have xl := hX.lt
        by_cases hlc : c < N
        · obtain ⟨hig, hgt⟩ := part_get N st i c hlr
          obtain ⟨b5, k5, rfl, hb5, hVb5, c0, c1, c2, c3⟩ := hJ.O.cells hig
          obtain ⟨a8, k8, e8⟩ := row_shape hJ.own8
          subst e8
          have hgs : (part N st i c).getD i 0 = (raw N st i).getD i 0 := hgt
          rw [hgs] at c0 c1 c2 c3
          have hsD : recD ((raw N st i).getD i 0) := raw_in HA.out i _ (by simp [List.getD, hlr])
          have HP := hid (part_old N st i c)
          have HF := hid (part_fresh N st i c)
          have HR := hid (rowP_succ N st i c)
          have hxD : recD (st ((raw N st i).getD i 0) c) := HA.out.cl _ hsD.1 hsD.2 c hlc
          have hSD : ∀ y, y ∈ part N st i c → recD y := fun y hy => part_in HA.out i c (by omega) hlr y hy
          have hC0 := fun w => HC1.out _ hsD c (by have := HN6.out; omega) w
          unfold recV rvV at hC0
          have HC := hid hC0
          have HD := hid hxD
          have HSD := hid hSD
          have Hlc := hid hlc
          have HJ := hid hJ
          have Hpl := hid hpl
          have i3 : (0 : Int) ≤ (c : Int) := by omega
          have i5 : (c : Int) < (N : Int) := by omega
          have i6 : (0 : Int) ≤ (i : Int) := by omega
          have i7 : (i : Int) < ((part N st i c).length : Int) := by omega
          have HS : Hid (∀ w', Below wr.heap.size wr w' → w'.cell? ⟨W.heap.size, 0, none⟩ = some (.int .i64 k) ∧ w'.cell? ⟨W.heap.size, 1, none⟩ = some (.int .i64 (N : Nat)) ∧ w'.cell? ⟨W.heap.size, 2, none⟩ = some (.int .i64 a) ∧ w'.cell? ⟨W.heap.size, 3, none⟩ = some (.int .i64 b) ∧ w'.cell? ⟨b5, i * 4, none⟩ = some (.int .i64 (rL ((raw N st i).getD i 0) - 1)) ∧ w'.cell? ⟨b5, i * 4 + 1, none⟩ = some (.int .i64 (rB ((raw N st i).getD i 0) - 1)) ∧ w'.cell? ⟨b5, i * 4 + 2, none⟩ = some (.int .i64 (rT ((raw N st i).getD i 0))) ∧ w'.cell? ⟨b5, i * 4 + 3, none⟩ = some (.bool (decide (rX ((raw N st i).getD i 0) = 1)))) := hid (fun w' hb => ⟨(hX.below hb).c0, (hX.below hb).c1, (hX.below hb).c2, (hX.below hb).c3, (hb.cell (p := ⟨b5, i * 4, none⟩) hb5).trans c0, (hb.cell (p := ⟨b5, i * 4 + 1, none⟩) hb5).trans c1, (hb.cell (p := ⟨b5, i * 4 + 2, none⟩) hb5).trans c2, (hb.cell (p := ⟨b5, i * 4 + 3, none⟩) hb5).trans c3⟩)
          have hVw := hJ.O.bl.size
          clear hC0 hxD hSD hsD hgs hgt hig hJ hpl hX hlc
          generalize (raw N st i).getD i 0 = s at *
          generalize st s c = x at *
          go_upto_region 11 with fail
          clear x0 x1 x2 x3 xl c0 c1 c2 c3 hb5 hVb5
          go_cut [10] from 29 to 62 (fun v10 wx => ∃ H : Nat, v10 = .pointer (some ⟨H, 0, none⟩) ∧ wr.heap.size ≤ H ∧ wx.rowIs H 122 4 (recQ x) ∧ MkJ V (W.heap.size + 1 + 1 + 1) (W.heap.size + 1 + 1 + 1 + 1) N i (fun j => rowP N st j N) (part N st i c) (part N st i c) (((raw N st i).take i).map ac) (.slice (some ⟨b5, 0, none⟩) (part N st i c).length k5) vn vb (.slice a8 c k8) Q c (rowP N st i c) wx)
          case first =>
            have hd : Below wr.heap.size wr wr.drew := (Below.refl _ _).drew
            have H20 : Hid (wr.drew.cell? ⟨W.heap.size, 0, none⟩ = some (.int .i64 k) ∧ wr.drew.cell? ⟨W.heap.size, 1, none⟩ = some (.int .i64 (N : Nat)) ∧ wr.drew.cell? ⟨W.heap.size, 2, none⟩ = some (.int .i64 a) ∧ wr.drew.cell? ⟨W.heap.size, 3, none⟩ = some (.int .i64 b) ∧ wr.drew.cell? ⟨b5, i * 4, none⟩ = some (.int .i64 (rL s - 1)) ∧ wr.drew.cell? ⟨b5, i * 4 + 1, none⟩ = some (.int .i64 (rB s - 1)) ∧ wr.drew.cell? ⟨b5, i * 4 + 2, none⟩ = some (.int .i64 (rT s)) ∧ wr.drew.cell? ⟨b5, i * 4 + 3, none⟩ = some (.bool (decide (rX s = 1)))) := hid (HS.out _ hd)
            have HJ6 := hid (HJ.out.below hd)
            have Hd := hid hd
            clear hd HJ
            refine wp_region_but_d2 (fun w' => w'.cell? ⟨W.heap.size, 0, none⟩ = some (.int .i64 k) ∧ w'.cell? ⟨W.heap.size, 1, none⟩ = some (.int .i64 (N : Nat)) ∧ w'.cell? ⟨W.heap.size, 2, none⟩ = some (.int .i64 a) ∧ w'.cell? ⟨W.heap.size, 3, none⟩ = some (.int .i64 b) ∧ w'.cell? ⟨b5, i * 4, none⟩ = some (.int .i64 (rL s - 1)) ∧ w'.cell? ⟨b5, i * 4 + 1, none⟩ = some (.int .i64 (rB s - 1)) ∧ w'.cell? ⟨b5, i * 4 + 2, none⟩ = some (.int .i64 (rT s)) ∧ w'.cell? ⟨b5, i * 4 + 3, none⟩ = some (.bool (decide (rX s = 1)))) 8 (by kernel_rfl) ?_
            intro Z0 hZ0
            rw [← hZ0] at H20 HJ6 Hd
            clear hZ0
            refine but_take (i := 0) (v := (.agg #[.int .i64 k, .int .i64 (N : Nat), .int .i64 a, .int .i64 b])) rfl (by kernel_rfl) (by kernel_rfl) (by kernel_rfl) (by kernel_rfl) (fun _ _ _ h => h) (Or.inl ⟨by rfl, ?hy⟩) H20.out ?_
            case hy => intro w hSw; (try dsimp only at hSw); go_simp
            try simp only [Act.put, List.setIfInBounds_toArray, List.set_cons_zero, List.set_cons_succ]
            refine but_take (i := 1) (v := (.slice (some ⟨b5, 0, none⟩) (part N st i c).length k5)) rfl (by kernel_rfl) (by kernel_rfl) (by kernel_rfl) (by kernel_rfl) (fun _ _ _ h => h) (Or.inl ⟨by rfl, ?hy⟩) H20.out ?_
            case hy => intro w hSw; (try dsimp only at hSw); go_simp
            try simp only [Act.put, List.setIfInBounds_toArray, List.set_cons_zero, List.set_cons_succ]
            refine but_take (i := 2) (v := (.int .i64 (i : Nat))) rfl (by kernel_rfl) (by kernel_rfl) (by kernel_rfl) (by kernel_rfl) (fun _ _ _ h => h) (Or.inl ⟨by rfl, ?hy⟩) H20.out ?_
            case hy => intro w hSw; (try dsimp only at hSw); go_simp
            try simp only [Act.put, List.setIfInBounds_toArray, List.set_cons_zero, List.set_cons_succ]
            refine but_take (i := 3) (v := (.pointer (some ⟨b5, i * 4, none⟩))) rfl (by kernel_rfl) (by kernel_rfl) (by kernel_rfl) (by kernel_rfl) (fun _ _ _ h => h) (Or.inl ⟨by rfl, ?hy⟩) H20.out ?_
            case hy => intro w hSw; (try dsimp only at hSw); go_simp
            try simp only [Act.put, List.setIfInBounds_toArray, List.set_cons_zero, List.set_cons_succ]
            refine but_take (i := 4) (v := (.agg #[.int .i64 (rL s - 1), .int .i64 (rB s - 1), .int .i64 (rT s), .bool (decide (rX s = 1))])) rfl (by kernel_rfl) (by kernel_rfl) (by kernel_rfl) (by kernel_rfl) (fun _ _ _ h => h) (Or.inl ⟨by rfl, ?hy⟩) H20.out ?_
            case hy => intro w hSw; (try dsimp only at hSw); go_simp
            try simp only [Act.put, List.setIfInBounds_toArray, List.set_cons_zero, List.set_cons_succ]
            refine but_take (i := 5) (v := (.int .i64 (c : Nat))) rfl (by kernel_rfl) (by kernel_rfl) (by kernel_rfl) (by kernel_rfl) (fun _ _ _ h => h) (Or.inl ⟨by rfl, ?hy⟩) H20.out ?_
            case hy => intro w hSw; (try dsimp only at hSw); go_simp
            try simp only [Act.put, List.setIfInBounds_toArray, List.set_cons_zero, List.set_cons_succ]
            refine but_two2 (i := 6) (j := 7) (by kernel_rfl) ?_ ?_
            · refine wpOp_one rfl (by rfl) (fun K' hK => ?_)
              go_simp
              refine (HC.out Z0).mono ?_
              rintro e w9 ⟨rfl, hb9⟩
              have hbz := Hd.out.trans (hb9.mono Hd.out.size)
              refine hK _ _ ⟨fun _ => HS.out _ hbz, ?_⟩
              clear hK K'
              try simp only [Act.put, List.setIfInBounds_toArray, List.set_cons_zero, List.set_cons_succ]
              refine but_one (i := 7) (by kernel_rfl) ?_
              refine wpOp_one rfl (by rfl) (fun K' hK => ?_)
              go_simp
              refine hK _ _ ⟨fun _ => HS.out _ (hbz.alloc hbz.size _), ?_⟩
              clear hK K'
              try simp only [Act.put, List.setIfInBounds_toArray, List.set_cons_zero, List.set_cons_succ]
              refine but_one (i := 8) (by kernel_rfl) ?_
              refine wpOp_one rfl (by rfl) (fun K' hK => ?_)
              go_simp
              refine hK _ _ ⟨fun h => absurd rfl h, but_done (by kernel_rfl) ?_ _⟩
              clear hK K'
              try simp only [Act.put, List.setIfInBounds_toArray, List.set_cons_zero, List.set_cons_succ]
              have hR := World.rowIs_alloc w9 #[.int .i64 (rL x - 1), .int .i64 (rB x - 1), .int .i64 (rT x), .bool (decide (rX x = 1))] 122 (recQ x) (rowQ_at _ _ _ _)
              have hJ9 := HJ6.out.below (hb9.alloc hb9.size (.cells #[.int .i64 (rL x - 1), .int .i64 (rB x - 1), .int .i64 (rT x), .bool (decide (rX x = 1))] 122))
              have hge := hbz.size
              go_wp2_with fail
              go_meet
              skip
              exact ⟨_, rfl, hge, hR, hJ9⟩
            · refine wpOp_one rfl (by rfl) (fun K' hK => ?_)
              go_simp
              have hbA := below_alloc Z0 (.cells #[.int .i64 0, .int .i64 0, .int .i64 0, .bool false] 122)
              refine hK _ _ ⟨fun _ => HS.out _ (Hd.out.trans (hbA.mono Hd.out.size)), ?_⟩
              clear hK K'
              try simp only [Act.put, List.setIfInBounds_toArray, List.set_cons_zero, List.set_cons_succ]
              refine but_one (i := 6) (by kernel_rfl) ?_
              refine wpOp_one rfl (by rfl) (fun K' hK => ?_)
              go_simp
              refine (HC.out (Z0.alloc (.cells #[.int .i64 0, .int .i64 0, .int .i64 0, .bool false] 122))).mono ?_
              rintro e w9 ⟨rfl, hb9⟩
              have hbz := Hd.out.trans ((hbA.trans (hb9.mono (by simp))).mono Hd.out.size)
              refine hK _ _ ⟨fun _ => HS.out _ hbz, ?_⟩
              clear hK K'
              try simp only [Act.put, List.setIfInBounds_toArray, List.set_cons_zero, List.set_cons_succ]
              have hq : w9.rowIs Z0.heap.size 122 4 (rowQ (.int .i64 0) (.int .i64 0) (.int .i64 0) (.bool false)) := rowIs_below (World.rowIs_alloc Z0 #[.int .i64 0, .int .i64 0, .int .i64 0, .bool false] 122 (rowQ (.int .i64 0) (.int .i64 0) (.int .i64 0) (.bool false)) (rowQ_at _ _ _ _)) hb9 (by simp)
              have hql := hq.lt
              have f0 := hq.frozen 0
              have f1 := hq.frozen 1
              have f2 := hq.frozen 2
              have f3 := hq.frozen 3
              have g0 := hq.cell (i := 0) (by omega)
              have g1 := hq.cell (i := 1) (by omega)
              have g2 := hq.cell (i := 2) (by omega)
              have g3 := hq.cell (i := 3) (by omega)
              have hrow := rec_set hq x
              have hbw : Below Z0.heap.size Z0 w9 := hbA.trans (hb9.mono (by simp))
              have hJ9 := HJ6.out.below (below_set4 hbw (Nat.le_refl _) x)
              have hge := Hd.out.size
              refine but_one (i := 8) (by kernel_rfl) ?_
              refine wpOp_one rfl (by rfl) (fun K' hK => ?_)
              go_simp
              refine hK _ _ ⟨fun h => absurd rfl h, but_done (by kernel_rfl) ?_ _⟩
              clear hK K' g0 g1 g2 g3 f0 f1 f2 f3 hql
              try simp only [Act.put, List.setIfInBounds_toArray, List.set_cons_zero, List.set_cons_succ]
              go_wp2_with fail
              go_meet
              exact ⟨_, rfl, hge, hrow, hJ9⟩
          case rest =>
            obtain ⟨H, rfl, hge, hRc, hJ⟩ := hcut
            have h6 := HN6.out
            have hmb := HJ.out.O.map.lt
            have hHmb : H ≠ W.heap.size + 1 + 1 + 1 := by omega
            have q0 := hRc.cell (i := 0) (by omega)
            have q1 := hRc.cell (i := 1) (by omega)
            have q2 := hRc.cell (i := 2) (by omega)
            have q3 := hRc.cell (i := 3) (by omega)
            have ql := hRc.lt
            simp only [recQ, rowQ, if_true, if_false, show (1 : Nat) ≠ 0 by omega, show (2 : Nat) ≠ 0 by omega, show (2 : Nat) ≠ 1 by omega, show (3 : Nat) ≠ 0 by omega, show (3 : Nat) ≠ 1 by omega, show (3 : Nat) ≠ 2 by omega, ite_true, ite_false] at q0 q1 q2 q3
            obtain ⟨l, hl⟩ := key122 HD.out.1 HD.out.2
            clear HJ HS hge hmb hVw
            by_cases hs : x ∈ part N st i c
            · have hlook := hJ.O.map.look_yes law122 Try.underlying124 hl (gE_yes recV_inj HSD.out hs) true
              simp only [if_true] at hlook
              unfold recV rvV at hlook
              have ex := HP.out hs
              have hR := HR.out
              rw [ex] at hR
              have HR1 := hid hR
              have Hex := hid ex
              have HJ := hid hJ
              clear hR ex hJ HR HP HF hs hRc hl hHmb
              generalize idx (part N st i c) x = n at *
              go_wp2_with (at_builtin; go_loud (refine wpList_append_own_at (o := ⟨some 62, _, _, _, _, _⟩) _ rfl _ _ 33 rfl V.heap.size 3 i0 (.int .i64 0) 1 8 Try.underlying33 hi0 hz0 hz1 hz2 rfl (by decide) _ _ _ rfl (HJ.out.own8.alloc _) ⟨wc.heap.size, 0, none⟩ 1 1 [.int .i64 (n : Nat)] rfl rfl (news_one wc (.int .i64 (n : Nat)) 3).out (by simp [Value.oneCell']) (by have := HN6.out; have := Hlc.out; unfold maxLen; omega) (by have := HN6.out; have := Hlc.out; omega) (by have := HJ.out.O.bl.size; simp; omega) ?_); intro v' w6 hown6 hgrow6 _ hat6)
              rw [HR1.out] at hown6
              have hJ6 := HJ.out.push8 hgrow6 hown6 hat6
              clear HJ hgrow6 hown6 hat6 q0 q1 q2 q3 ql hlook
              go_wp2_with fail
              go_roundw
              case rel => exact ⟨c + 1, by go_num, Hlc.out, by rw [Hex.out]; exact hJ6⟩
              case measure => have := Hlc.out; simp [intOf]; omega
            · obtain ⟨ef, en⟩ := HF.out hs
              have hno := gE_no recV_inj HSD.out HD.out hs
              have hlook := hJ.O.map.look_no law122 Try.underlying124 (zero3 wc) hl hno true
              simp only [if_true] at hlook
              obtain ⟨w2, hrun2, hM2, hg2, hz9⟩ := hJ.O.map.insert law122 Try.underlying124 (v := .int .i64 ((part N st i c).length : Nat)) hl hno
              have hM3 := hM2.congr (gE_new recV_inj HSD.out HD.out hs)
              have hlen1 : (part N st i c ++ [x]).length = (part N st i c).length + 1 := by simp
              rw [← hlen1] at hM3
              have hR2 := rowIs_map hRc hJ.O.map hg2 hHmb
              have HJ2 := hid (hJ.insert hg2 hM3)
              unfold recV rvV at hlook hrun2
              have HE : Hid (rowsR (part N st i c) ++ [.int .i64 (rL x - 1), .int .i64 (rB x - 1), .int .i64 (rT x), .bool (decide (rX x = 1))] = rowsR (part N st i c ++ [x])) := hid (rowsR_snoc _ _).symm
              have HSL : Hid ((part N st i c).length + 1 = (part N st i c ++ [x]).length) := hid (by simp)
              have hR := HR.out
              rw [en] at hR
              have HR1 := hid hR
              have Hef := hid ef
              have p0 := hR2.cell (i := 0) (by omega)
              have p1 := hR2.cell (i := 1) (by omega)
              have p2 := hR2.cell (i := 2) (by omega)
              have p3 := hR2.cell (i := 3) (by omega)
              have pl := hR2.lt
              simp only [recQ, rowQ, if_true, if_false, show (1 : Nat) ≠ 0 by omega, show (2 : Nat) ≠ 0 by omega, show (2 : Nat) ≠ 1 by omega, show (3 : Nat) ≠ 0 by omega, show (3 : Nat) ≠ 1 by omega, show (3 : Nat) ≠ 2 by omega, ite_true, ite_false] at p0 p1 p2 p3
              have hV2 := HJ2.out.O.bl.size
              have hnw := news_four w2 (.int .i64 (rL x - 1)) (.int .i64 (rB x - 1)) (.int .i64 (rT x)) (.bool (decide (rX x = 1))) 122
              clear hz9 hM2 hg2 hM3 hlen1 hR ef en HR HP HF hs hJ hRc hR2 hl hno hHmb
              go_wp2_with (first | (at_builtin; go_loud (refine wpList_append_own_at (o := ⟨some 58, _, _, _, _, _⟩) _ rfl _ _ 123 rfl V.heap.size 122 i8 (.agg #[.int .i64 0, .int .i64 0, .int .i64 0, .bool false]) 4 32 Try.underlying123 hi8 hq0 hq1 hq2 rfl (by decide) _ _ _ rfl (HJ2.out.O.st.alloc _) ⟨w2.heap.size, 0, none⟩ 1 1 [.int .i64 (rL x - 1), .int .i64 (rB x - 1), .int .i64 (rT x), .bool (decide (rX x = 1))] rfl rfl hnw.out (by simp [Value.oneCell']) (by have := Hpl.out; unfold maxLen; omega) (by have := Hpl.out; omega) (by simp; omega) ?_); intro v3 w3 hown3 hgrow3 _ hat3; obtain ⟨b6, k6, e6⟩ := row_shapeZ hown3; subst e6; rw [HE.out] at hown3; have HJ3 := (hid (HJ2.out.push (S' := part N st i c ++ [x]) hgrow3 (HSL.out ▸ hown3))); have hV3 := HJ3.out.O.bl.size; clear hown3 hgrow3 hat3) | (at_builtin; go_loud (refine wpList_append_own_at (o := ⟨some 62, _, _, _, _, _⟩) _ rfl _ _ 33 rfl V.heap.size 3 i0 (.int .i64 0) 1 8 Try.underlying33 hi0 hz0 hz1 hz2 rfl (by decide) _ _ _ rfl (HJ3.out.own8.alloc _) ⟨w3.heap.size, 0, none⟩ 1 1 [.int .i64 ((part N st i c).length : Nat)] rfl rfl (news_one w3 (.int .i64 ((part N st i c).length : Nat)) 3).out (by simp [Value.oneCell']) (by have := HN6.out; have := Hlc.out; unfold maxLen; omega) (by have := HN6.out; have := Hlc.out; omega) (by have := HJ3.out.O.bl.size; simp; omega) ?_); intro v' w6 hown6 hgrow6 _ hat6))
              rw [HR1.out] at hown6
              have hJ6 := HJ3.out.push8 hgrow6 hown6 hat6
              clear HJ2 HJ3 hgrow6 hown6 hat6 q0 q1 q2 q3 ql p0 p1 p2 p3 pl hlook hrun2
              go_wp2_with fail
              go_roundw
              case rel => exact ⟨c + 1, by go_num, Hlc.out, by rw [Hef.out]; rw [← HSL.out] at hJ6; exact hJ6⟩
              case measure => have := Hlc.out; simp [intOf]; omega
        · obtain rfl : N = c := by omega
          have hpa := part_all (step := st) i hlr
          rw [hpa] at hJ
          obtain ⟨a8, k8, e8⟩ := row_shape hJ.own8
          obtain ⟨an, kn, en⟩ := row_shape hJ.O.nx
          obtain ⟨ab, kb, eb⟩ := row_shape hJ.O.ac
          subst e8 en eb
          have hlr1 : i < (raw N st (i + 1)).length := by have := (raw_pre (L := N) (step := st) (show i ≤ i + 1 by omega)).length_le; omega
          have hgs : (raw N st (i + 1)).getD i 0 = (raw N st i).getD i 0 := by
            have := pre_get' (raw_pre (L := N) (step := st) (show i ≤ i + 1 by omega)) hlr
            simp [List.getD, this]
          obtain ⟨b5, k5, rfl, _⟩ := hJ.O.cells hlr1
          have o1 := hJ.O.out.cell (i := 1) (by omega)
          have hltO := hJ.O.out.lt
          simp only [outF, if_true, if_false, show (1 : Nat) ≠ 0 by omega, show (2 : Nat) ≠ 0 by omega, show (2 : Nat) ≠ 1 by omega, ite_true, ite_false] at o1
          have HJ := hid hJ
          have hVw := hJ.O.bl.size
          have Hlr1 := hid hlr1
          have hbl : (((raw N st i).take i).map ac).length = i := by simp; omega
          have HBS : Hid (((raw N st (i + 1)).take (i + 1)).map ac = ((raw N st i).take i).map ac ++ [ac ((raw N st i).getD i 0)]) := hid (by
            rw [raw_take hlr, List.map_append]
            rfl)
          have i10 : ¬ ((N : Nat) : Int) < (N : Int) := by omega
          have i2 : (0 : Int) ≤ (i : Int) := by omega
          have i7 : (i : Int) < ((raw N st (i + 1)).length : Int) := by omega
          have hgl := raw_len HA.out (i + 1)
          clear hJ hpa hX hpl hlr1
          go_wp2_with (at_builtin; go_loud (refine wpList_append_own_at (o := ⟨some 67, _, _, _, _, _⟩) _ rfl _ _ 22 rfl V.heap.size 33 i3 (.slice none 0 0) 1 24 Try.underlying22 hi3 hy0 hy1 hy2 rfl (by decide) _ _ _ rfl (HJ.out.O.nx.alloc _) ⟨wr.heap.size, 0, none⟩ 1 1 [.slice a8 N k8] rfl rfl (news_one wr (.slice a8 N k8) 33).out (by simp [Value.oneCell']) (by unfold maxLen; omega) (by omega) (by simp; omega) ?_); intro vn' w3 hown3 hgrow3 hj1 hj2; clear hj1 hj2; obtain ⟨an', kn', en'⟩ := row_shape hown3; subst en'; have ho3 := row_keptZ HJ.out.O.out HJ.out.O.nx (by decide) hgrow3; have o3 := (ho3.cell (i := 1) (by omega)); have y3 := (ho3.frozen 1); have l3 := ho3.lt; simp only [outF, if_true, if_false, show (1 : Nat) ≠ 0 by omega, show (2 : Nat) ≠ 0 by omega, show (2 : Nat) ≠ 1 by omega, ite_true, ite_false] at o3; clear ho3 o1)
          have hO2 := HJ.out.close hgrow3 hown3
          clear HJ hgrow3 hown3 o3 y3 l3 x0 x1 x2 x3 xl hltO hVw
          generalize w3.setCell ⟨W.heap.size + 1 + 1 + 1 + 1, 1, none⟩ (.slice an' (i + 1) kn') = w6 at *
          generalize ((raw N st i).take i).map ac = bs at *
          have Hbl := hid hbl
          generalize (raw N st i).getD i 0 = s at *
          have HS : Hid (∀ w' : World, Below V.heap.size V w' → w'.rowIs (W.heap.size + 1 + 1 + 1 + 1) 25 3 (outF N (.slice an' (i + 1) kn') (.slice ab bs.length kb)) → w'.ownsRow V.heap.size 122 4 (.slice (some ⟨b5, 0, none⟩) (raw N st (i + 1)).length k5) (raw N st (i + 1)).length (rowsR (raw N st (i + 1))) → w'.cell? ⟨W.heap.size + 1 + 1 + 1 + 1, 2, none⟩ = some (.slice ab bs.length kb) ∧ w'.cell? ⟨W.heap.size, 0, none⟩ = some (.int .i64 k) ∧ w'.cell? ⟨W.heap.size, 1, none⟩ = some (.int .i64 (N : Nat)) ∧ w'.cell? ⟨W.heap.size, 2, none⟩ = some (.int .i64 a) ∧ w'.cell? ⟨W.heap.size, 3, none⟩ = some (.int .i64 b) ∧ w'.cell? ⟨b5, i * 4, none⟩ = some (.int .i64 (rL s - 1)) ∧ w'.cell? ⟨b5, i * 4 + 1, none⟩ = some (.int .i64 (rB s - 1)) ∧ w'.cell? ⟨b5, i * 4 + 2, none⟩ = some (.int .i64 (rT s)) ∧ w'.cell? ⟨b5, i * 4 + 3, none⟩ = some (.bool (decide (rX s = 1)))) := hid (fun w' hb ho hs => by
            have hr := HR0.out.below hb
            have hc := rows_cells hs Hlr1.out
            rw [hgs] at hc
            have h2 := ho.cell (i := 2) (by omega)
            simp only [outF, if_true, if_false, show (1 : Nat) ≠ 0 by omega, show (2 : Nat) ≠ 0 by omega, show (2 : Nat) ≠ 1 by omega, ite_true, ite_false] at h2
            exact ⟨h2, hr.c0, hr.c1, hr.c2, hr.c3, hc.1, hc.2.1, hc.2.2.1, hc.2.2.2⟩)
          have hC0 := fun w => HC2.out s w
          unfold recV rvV at hC0
          have HC := hid hC0
          have HO6 := hid (hO2.below (Below.refl w6.heap.size w6).drew)
          have H20 : Hid (w6.drew.cell? ⟨W.heap.size + 1 + 1 + 1 + 1, 2, none⟩ = some (.slice ab bs.length kb) ∧ w6.drew.cell? ⟨W.heap.size, 0, none⟩ = some (.int .i64 k) ∧ w6.drew.cell? ⟨W.heap.size, 1, none⟩ = some (.int .i64 (N : Nat)) ∧ w6.drew.cell? ⟨W.heap.size, 2, none⟩ = some (.int .i64 a) ∧ w6.drew.cell? ⟨W.heap.size, 3, none⟩ = some (.int .i64 b) ∧ w6.drew.cell? ⟨b5, i * 4, none⟩ = some (.int .i64 (rL s - 1)) ∧ w6.drew.cell? ⟨b5, i * 4 + 1, none⟩ = some (.int .i64 (rB s - 1)) ∧ w6.drew.cell? ⟨b5, i * 4 + 2, none⟩ = some (.int .i64 (rT s)) ∧ w6.drew.cell? ⟨b5, i * 4 + 3, none⟩ = some (.bool (decide (rX s = 1)))) := hid (HS.out _ HO6.out.bl HO6.out.out HO6.out.st)
          clear hO2 hC0 hbl hgs
          refine wp_region_but_d2 (fun w' => w'.cell? ⟨W.heap.size + 1 + 1 + 1 + 1, 2, none⟩ = some (.slice ab bs.length kb) ∧ w'.cell? ⟨W.heap.size, 0, none⟩ = some (.int .i64 k) ∧ w'.cell? ⟨W.heap.size, 1, none⟩ = some (.int .i64 (N : Nat)) ∧ w'.cell? ⟨W.heap.size, 2, none⟩ = some (.int .i64 a) ∧ w'.cell? ⟨W.heap.size, 3, none⟩ = some (.int .i64 b) ∧ w'.cell? ⟨b5, i * 4, none⟩ = some (.int .i64 (rL s - 1)) ∧ w'.cell? ⟨b5, i * 4 + 1, none⟩ = some (.int .i64 (rB s - 1)) ∧ w'.cell? ⟨b5, i * 4 + 2, none⟩ = some (.int .i64 (rT s)) ∧ w'.cell? ⟨b5, i * 4 + 3, none⟩ = some (.bool (decide (rX s = 1)))) 11 (by kernel_rfl) ?_
          intro Z0 hZ0
          rw [← hZ0] at H20 HO6
          clear hZ0
          refine but_take (i := 0) (v := (.pointer (some ⟨W.heap.size + 1 + 1 + 1 + 1, 2, none⟩))) rfl (by kernel_rfl) (by kernel_rfl) (by kernel_rfl) (by kernel_rfl) (fun _ _ _ h => h) (Or.inl ⟨by rfl, ?hy⟩) H20.out ?_
          case hy => intro w hSw; (try dsimp only at hSw); go_simp
          try simp only [Act.put, List.setIfInBounds_toArray, List.set_cons_zero, List.set_cons_succ]
          refine but_take (i := 1) (v := (.slice ab bs.length kb)) rfl (by kernel_rfl) (by kernel_rfl) (by kernel_rfl) (by kernel_rfl) (fun _ _ _ h => h) (Or.inl ⟨by rfl, ?hy⟩) H20.out ?_
          case hy => intro w hSw; (try dsimp only at hSw); go_simp
          try simp only [Act.put, List.setIfInBounds_toArray, List.set_cons_zero, List.set_cons_succ]
          refine but_take (i := 2) (v := (.agg #[.int .i64 k, .int .i64 (N : Nat), .int .i64 a, .int .i64 b])) rfl (by kernel_rfl) (by kernel_rfl) (by kernel_rfl) (by kernel_rfl) (fun _ _ _ h => h) (Or.inl ⟨by rfl, ?hy⟩) H20.out ?_
          case hy => intro w hSw; (try dsimp only at hSw); go_simp
          try simp only [Act.put, List.setIfInBounds_toArray, List.set_cons_zero, List.set_cons_succ]
          refine but_take (i := 3) (v := (.slice (some ⟨b5, 0, none⟩) (raw N st (i + 1)).length k5)) rfl (by kernel_rfl) (by kernel_rfl) (by kernel_rfl) (by kernel_rfl) (fun _ _ _ h => h) (Or.inl ⟨by rfl, ?hy⟩) H20.out ?_
          case hy => intro w hSw; (try dsimp only at hSw); go_simp
          try simp only [Act.put, List.setIfInBounds_toArray, List.set_cons_zero, List.set_cons_succ]
          refine but_take (i := 4) (v := (.int .i64 (i : Nat))) rfl (by kernel_rfl) (by kernel_rfl) (by kernel_rfl) (by kernel_rfl) (fun _ _ _ h => h) (Or.inl ⟨by rfl, ?hy⟩) H20.out ?_
          case hy => intro w hSw; (try dsimp only at hSw); go_simp
          try simp only [Act.put, List.setIfInBounds_toArray, List.set_cons_zero, List.set_cons_succ]
          refine but_take (i := 5) (v := (.pointer (some ⟨b5, i * 4, none⟩))) rfl (by kernel_rfl) (by kernel_rfl) (by kernel_rfl) (by kernel_rfl) (fun _ _ _ h => h) (Or.inl ⟨by rfl, ?hy⟩) H20.out ?_
          case hy => intro w hSw; (try dsimp only at hSw); go_simp
          try simp only [Act.put, List.setIfInBounds_toArray, List.set_cons_zero, List.set_cons_succ]
          refine but_take (i := 6) (v := (.agg #[.int .i64 (rL s - 1), .int .i64 (rB s - 1), .int .i64 (rT s), .bool (decide (rX s = 1))])) rfl (by kernel_rfl) (by kernel_rfl) (by kernel_rfl) (by kernel_rfl) (fun _ _ _ h => h) (Or.inl ⟨by rfl, ?hy⟩) H20.out ?_
          case hy => intro w hSw; (try dsimp only at hSw); go_simp
          try simp only [Act.put, List.setIfInBounds_toArray, List.set_cons_zero, List.set_cons_succ]
          refine but_one (i := 7) (by kernel_rfl) ?_
          refine wpOp_one rfl (by rfl) (fun K hK => ?_)
          go_simp
          refine (HC.out Z0).mono ?_
          rintro e w9 ⟨rfl, hb9⟩
          have HO9 := hid (HO6.out.below hb9)
          refine hK _ _ ⟨fun _ => HS.out _ HO9.out.bl HO9.out.out HO9.out.st, ?_⟩
          clear hK K HO6 hb9
          try simp only [Act.put, List.setIfInBounds_toArray, List.set_cons_zero, List.set_cons_succ]
          refine but_one (i := 8) (by kernel_rfl) ?_
          refine wpOp_one rfl (by rfl) (fun K hK => ?_)
          go_simp
          have hOa := HO9.out.below (below_alloc w9 (.cells #[.bool (ac s)] 4))
          refine hK _ _ ⟨fun _ => HS.out _ hOa.bl hOa.out hOa.st, ?_⟩
          clear hK K hOa
          try simp only [Act.put, List.setIfInBounds_toArray, List.set_cons_zero, List.set_cons_succ]
          refine but_one (i := 9) (by kernel_rfl) ?_
          refine wpOp_one rfl (by rfl) (fun K hK => ?_)
          refine wp_append_own_at _ _ _ (by rfl) V.heap.size 4 i4 (.bool false) 1 1 Try.underlying23 hi4 hw0 hw1 hw2 rfl (by omega) (.slice ab bs.length kb) bs.length (bs.map Value.bool) (by rfl) (HO9.out.ac.alloc _) ⟨w9.heap.size, 0, none⟩ 1 1 [.bool (ac s)] (by rfl) (by rfl) (World.news_of_block (cs := #[.bool (ac s)]) (t := 4) (fr := (0, 0)) (heap_alloc_new w9 _)) (by simp [Value.oneCell']) (by have := Hbl.out; unfold maxLen; omega) (by have := Hbl.out; omega) (by have := HO9.out.bl.size; simp; omega) ?_
          intro v' w8 hown8 hgrow8 hat8
          obtain ⟨ab', kb', eb'⟩ := row_shape hown8
          subst eb'
          have ho8 := row_keptZ HO9.out.out HO9.out.ac (by decide) hgrow8
          have hst8 := own_keptG HO9.out.st hgrow8 (own_typesG HO9.out.st HO9.out.ac (by decide))
          have hbl8 := blZ_kept HO9.out.bl HO9.out.ac hgrow8
          have o8 := ho8.cell (i := 2) (by omega)
          have y8 := ho8.frozen 2
          have l8 := ho8.lt
          simp only [outF, if_true, if_false, show (1 : Nat) ≠ 0 by omega, show (2 : Nat) ≠ 0 by omega, show (2 : Nat) ≠ 1 by omega, ite_true, ite_false] at o8
          have H22 := hid (HS.out _ hbl8 ho8 hst8)
          refine hK _ _ ⟨fun _ => H22.out, ?_⟩
          clear hK K ho8 hst8 hbl8 H20 hat8
          try simp only [Act.put, List.setIfInBounds_toArray, List.set_cons_zero, List.set_cons_succ]
          refine but_one (i := 10) (by kernel_rfl) ?_
          refine wpOp_one rfl (by rfl) (fun K hK => ?_)
          go_simp
          refine hK _ _ ⟨fun _ => H22.out, ?_⟩
          clear hK K H22
          try simp only [Act.put, List.setIfInBounds_toArray, List.set_cons_zero, List.set_cons_succ]
          refine but_one (i := 11) (by kernel_rfl) ?_
          refine wpOp_one rfl (by rfl) (fun K hK => ?_)
          go_simp
          refine hK _ _ ⟨fun h => absurd rfl h, but_done (by kernel_rfl) ?_ _⟩
          clear hK K
          try simp only [Act.put, List.setIfInBounds_toArray, List.set_cons_zero, List.set_cons_succ]
          have hO3 := HO9.out.accept (ac s) hgrow8 hown8
          rw [← HBS.out] at hO3
          have HO3 := hid hO3
          clear hO3 HO9 hgrow8 hown8 o8 y8 l8
          go_wp2_with fail
          go_roundw
          case rel => exact ⟨i + 1, _, _, _, by go_num, by omega, HO3.out⟩
          case measure => simp [intOf]; omega
    · have hle : (raw N st i).length ≤ i := by omega
      have hil : i = (raw N st i).length := by omega
      have hE := raw_end HA.out i hle
      have hE' : EndOK ((N : Int).toNat) st (raw N st i) := hE
      have hn5 := raw_le HA.out (by omega) i
      have i2 : ¬ (i : Int) < ((raw N st i).length : Int) := by omega
      rw [List.take_of_length_le hle] at hO
      have o0 := hO.out.cell (i := 0) (by omega)
      have o1 := hO.out.cell (i := 1) (by omega)
      have o2 := hO.out.cell (i := 2) (by omega)
      have ol := hO.out.lt
      simp only [outF, if_true, if_false, show (1 : Nat) ≠ 0 by omega, show (2 : Nat) ≠ 0 by omega, show (2 : Nat) ≠ 1 by omega, ite_true, ite_false] at o0 o1 o2
      obtain ⟨an, cn, ab, cb, e1, e2, hMP⟩ := hO.mac (z := (N : Int)) (step := st) (ac := ac) (by simp) hil rfl (fun j hj => rowP_rowA i j hj hi) (by omega)
      subst e1 e2
      have hC0 := told_any _ an ab cn cb wr hMP (prod_big (L := (N : Int)) (by have := HN1.out; omega) (by have := HN6.out; omega) hE' hn5)
      rw [prod_n, prod_acl, prod_la (L := (N : Int)) hE', ← hil] at hC0
      have hC1 := hC0.mono fun e w' h => plainZ (z := (N : Int)) (L := N) rfl h
      have HC := hid hC1
      have hbz := hO.bl
      have hzb := (HBA.out.trans (HBB.out.mono (by omega))).trans (hbz.mono (by rw [Hs0.out]; omega))
      have hr := rowIs_below HRs.out hbz HRs.out.lt
      have Hr := hid hr
      have HZb := hid hzb
      clear hO hMP hC0 hC1 hbz hzb hr hX hle hE hE' hil
      go_wp2_with fail
      refine HC.out.mono ?_
      rintro e wP ⟨F, hF, hbP, ⟨h64, base, an', cn', ab', cb', hbase, rfl, hMA⟩ | ⟨h64, rfl⟩⟩
      · have HF := hid hF
        have HMA := hid hMA
        have hrP := rowIs_below Hr.out hbP Hr.out.lt
        have hzP := HZb.out.trans (hbP.mono HZb.out.size)
        have hl1 := Hr.out.lt
        clear hF hMA HC o0 o1 o2 ol x0 x1 x2 x3 xl hbP
        have f0 := hrP.frozen 0
        have f1 := hrP.frozen 1
        have f2 := hrP.frozen 2
        have x0 := hrP.cell (i := 0) (by omega)
        have x1 := hrP.cell (i := 1) (by omega)
        have x2 := hrP.cell (i := 2) (by omega)
        have xl2 := hrP.lt
        have HC := hid (res_set hrP (.int .i64 (N : Nat)) (.slice an' F.length cn') (.slice ab' F.length cb'))
        simp only [outF, if_true, if_false, show (1 : Nat) ≠ 0 by omega, show (2 : Nat) ≠ 0 by omega, show (2 : Nat) ≠ 1 by omega, ite_true, ite_false] at x0 x1 x2
        clear hrP
        go_wp2_with fail
        have o0 := HC.out.c0
        have o1 := HC.out.c1
        have o2 := HC.out.c2
        exact bodyPost_ret (v := .tuple #[.agg #[.int .i64 (N : Nat), .slice an' F.length cn', .slice ab' F.length cb'], .int .i64 0]) (by simp [results, Try.results85, go_sem, o0, o1, o2]) rfl (gen_plain (gen_ok rfl rfl HF.out hzP (by omega) (by omega) h64 HMA.out))
      · have HF := hid hF
        have hrP := rowIs_below Hr.out hbP Hr.out.lt
        have hzP := HZb.out.trans (hbP.mono HZb.out.size)
        clear hF HC o0 o1 o2 ol x0 x1 x2 x3 xl hbP
        have f0 := hrP.frozen 0
        have f1 := hrP.frozen 1
        have f2 := hrP.frozen 2
        have x0 := hrP.cell (i := 0) (by omega)
        have x1 := hrP.cell (i := 1) (by omega)
        have x2 := hrP.cell (i := 2) (by omega)
        have xl2 := hrP.lt
        have HC := hid (res_set hrP (.int .i64 0) (.slice none 0 0) (.slice none 0 0))
        simp only [outF, if_true, if_false, show (1 : Nat) ≠ 0 by omega, show (2 : Nat) ≠ 0 by omega, show (2 : Nat) ≠ 1 by omega, ite_true, ite_false] at x0 x1 x2
        clear hrP
        go_wp2_with fail
        have o0 := HC.out.c0
        have o1 := HC.out.c1
        have o2 := HC.out.c2
        exact bodyPost_ret (v := .tuple #[.agg #[.int .i64 0, .slice none 0 0, .slice none 0 0], .int .i64 4]) (by simp [results, Try.results85, go_sem, o0, o1, o2]) rfl (gen_plain (gen_large rfl HF.out hzP (by omega) h64))
end Go.Proofs.Ytmllbemjcfkmjaa
