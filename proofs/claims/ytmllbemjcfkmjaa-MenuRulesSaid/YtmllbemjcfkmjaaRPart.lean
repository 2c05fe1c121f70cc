/- The document's 'Part' and 'Same': what they return. -/
import Derived.Test.YtmllbemjcfkmjaaSameLaw
import Derived.Test.YtmllbemjcfkmjaaDocWalk
import Derived.Test.YtmllbemjcfkmjaaFront
import Derived.BigQuiet
import Derived.Deep.DeepCutAuto
namespace Go.Proofs.Ytmllbemjcfkmjaa
open Go.RowKit Go.Maps
set_option linter.unusedSimpArgs false
set_option linter.unusedVariables false

theorem meas_lt {N i : Nat} {x : Int} (h : i < N) (hx : x = (i : Int) + 1) : N - (intOf (.int .i64 x)).toNat < N - (intOf (.int .i64 (i : Int))).toNat := by
  subst hx
  simp [intOf]
  omega
def PartPost (m k : Mac) (W : World) (e : Ending) (w' : World) : Prop :=
  ∃ ax cx, e = .returned (.tuple #[.slice ax (parW m k).length cx, .bool (parB m k), .int .i64 (paiE m k)]) ∧ IntsAt w' ax (parW m k) ∧ Below W.heap.size W w' ∧ (parW m k).length ≤ cx ∧ cx ≤ maxLen
set_option maxRecDepth 100000 in
set_option maxHeartbeats 4000000 in
theorem rPart_any (m k : Mac) (a a2 : Option Addr) (cap cap2 : Nat) (b b2 : Option Addr) (dap dap2 : Nat) (W : World) (hM : MacAt W a cap a2 cap2 m) (hK : MacAt W b dap b2 dap2 k) :
    Calls Try.prog 59 #[.agg #[.int .i64 m.L, .slice a m.nx.length cap, .slice a2 m.ac.length cap2], .agg #[.int .i64 k.L, .slice b k.nx.length dap, .slice b2 k.ac.length dap2]] W (PartPost m k W) := by
  have hb0 : Below W.heap.size W ((W.alloc (.cells #[.int .i64 m.L, .slice a m.nx.length cap, .slice a2 m.ac.length cap2] 25)).alloc (.cells #[.int .i64 k.L, .slice b k.nx.length dap, .slice b2 k.ac.length dap2] 25)) := (below_alloc W _).alloc (by simp) _
  have HV := hid (rpair_any m k a a2 cap cap2 b b2 dap dap2 ((W.alloc (.cells #[.int .i64 m.L, .slice a m.nx.length cap, .slice a2 m.ac.length cap2] 25)).alloc (.cells #[.int .i64 k.L, .slice b k.nx.length dap, .slice b2 k.ac.length dap2] 25)) (hM.below hb0) (hK.below hb0))
  have HX : Hid (BoxAt W.heap.size ((W.alloc (.cells #[.int .i64 m.L, .slice a m.nx.length cap, .slice a2 m.ac.length cap2] 25)).alloc (.cells #[.int .i64 k.L, .slice b k.nx.length dap, .slice b2 k.ac.length dap2] 25)) (.int .i64 m.L) (.slice a m.nx.length cap) (.slice a2 m.ac.length cap2)) := hid (box_fst (Below.refl _ _) rfl)
  have HY : Hid (BoxAt (W.heap.size + 1) ((W.alloc (.cells #[.int .i64 m.L, .slice a m.nx.length cap, .slice a2 m.ac.length cap2] 25)).alloc (.cells #[.int .i64 k.L, .slice b k.nx.length dap, .slice b2 k.ac.length dap2] 25)) (.int .i64 k.L) (.slice b k.nx.length dap) (.slice b2 k.ac.length dap2)) := hid (box_snd (Below.refl _ _) rfl)
  have HM := hid (hM.below hb0)
  have HK := hid (hK.below hb0)
  have HB := hid hb0
  clear hM hK hb0
  by_cases hE : paiE m k = 0
  · obtain ⟨hm, hk, hL⟩ := paiE_zero.1 hE
    have HP := hid (show (MacOK m ∧ MacOK k ∧ m.L = k.L) ∧ paiE m k = 0 from ⟨⟨hm, hk, hL⟩, hE⟩)
    have HA := hid (jn_auto hm hk hL)
    rw [hE] at HV
    clear hm hk hL hE
    go_enter Try.func59, Try.ntmps59
    go_wp2_with fail
    refine HV.out.mono ?_; rintro e w1 ⟨rfl, hb1⟩
    replace HX := hid (HX.out.below hb1)
    replace HY := hid (HY.out.below hb1)
    replace HM := hid (HM.out.below hb1)
    replace HK := hid (HK.out.below hb1)
    replace HB := hid (HB.out.trans (hb1.mono HB.out.size))
    have HW := hid (walk_any m k a a2 cap cap2 b b2 dap dap2 w1 HM.out HK.out HP.out.1.1 HP.out.1.2.1 HP.out.1.2.2)
    have x0 := HX.out.c0
    have x1 := HX.out.c1
    have x2 := HX.out.c2
    have xl := HX.out.lt
    have y0 := HY.out.c0
    have y1 := HY.out.c1
    have y2 := HY.out.c2
    have yl := HY.out.lt
    clear HV hb1
    go_wp2_with fail
    refine HW.out.mono ?_
    rintro e w2 ⟨n, v, R, V, mb, hn, hn2, hI, rfl, _, hb2⟩
    clear x0 x1 x2 xl y0 y1 y2 yl HW
    replace HX := hid (HX.out.below hb2)
    replace HY := hid (HY.out.below hb2)
    replace HM := hid (HM.out.below hb2)
    replace HK := hid (HK.out.below hb2)
    replace HB := hid (HB.out.trans (hb2.mono HB.out.size))
    have HI := hid hI
    have Hn := hid (show n = (raw m.L.toNat (jnS m k) n).length ∧ n ≤ 5100 by have := raw_len HA.out n; omega)
    obtain ⟨bo, co, rfl, hbo, _, _, _, _⟩ := hI.cells (i := 0) (raw_pos n)
    clear hb2 hn hn2 hI
    go_wp2_with fail
    go_loopw [9] (fun v9 w' => ∃ i : Nat, v9 = .int .i64 i ∧ i ≤ (raw m.L.toNat (jnS m k) n).length ∧ Hid (∀ j, j < i → jnA wXor m k ((raw m.L.toNat (jnS m k) n).getD j 0) = false) ∧ Below w2.heap.size w2 w') (fun v9 _ => (raw m.L.toNat (jnS m k) n).length - (intOf v9).toNat)
    case atStart => exact ⟨0, rfl, by omega, hid fun j hj => absurd hj (Nat.not_lt_zero j), Below.refl _ _⟩
    case round =>
      obtain ⟨i, rfl, hi, HN, hbw⟩ := hrel
      by_cases hlt : i < (raw m.L.toNat (jnS m k) n).length
      · have hin := raw_in HA.out n ((raw m.L.toNat (jnS m k) n).getD i 0) (by simp [List.getD, hlt])
        obtain ⟨sn, tn, hn⟩ := next_pair HP.out.1.1 HP.out.1.2.1 HP.out.1.2.2 hin.1 hin.2 0 (by have := HP.out.1.1.l1; omega)
        have hIw := HI.out.below hbw
        obtain ⟨bo', co', e', hbo', _, c0, c1, c2⟩ := hIw.cells hlt
        obtain ⟨e1, e2⟩ : bo = bo' ∧ co = co' := by simpa using e'
        subst e1 e2
        have hXw := HX.out.below hbw
        have hYw := HY.out.below hbw
        obtain ⟨ba, oa, rfl, hba, d1⟩ := (HM.out.below hbw).ac sn (by rw [HP.out.1.1.ac]; exact hn.lm)
        obtain ⟨bb, ob, rfl, hbb, d2⟩ := (HK.out.below hbw).ac tn (by rw [HP.out.1.2.1.ac]; exact hn.lk)
        rw [hn.q] at c0
        rw [hn.r] at c1
        have hfa : jnA wXor m k ((raw m.L.toNat (jnS m k) n).getD i 0) = wXor (m.ac.getD sn false) (k.ac.getD tn false) := by
          unfold jnA
          rw [hn.q, hn.r]
          unfold accM
          rw [Int.toNat_natCast, Int.toNat_natCast]
        have i6 : (0 : Int) ≤ (sn : Int) := by omega
        have i7 : (sn : Int) < (m.ac.length : Int) := by have := hn.lm; rw [HP.out.1.1.ac]; omega
        have i8' : (0 : Int) ≤ (tn : Int) := by omega
        have i9 : (tn : Int) < (k.ac.length : Int) := by have := hn.lk; rw [HP.out.1.2.1.ac]; omega
        have i11 : (0 : Int) ≤ (i : Int) := by omega
        have i12 : (i : Int) < ((raw m.L.toNat (jnS m k) n).length : Int) := by omega
        have x2 := hXw.c2
        have xl := hXw.lt
        have y2 := hYw.c2
        have yl := hYw.lt
        have HWi := hid (own_ints (hIw.wd i hlt))
        have Hfa := hid hfa
        have HBw := hid hbw
        have Hlt := hid hlt
        clear hin hn hXw hYw hfa e' hIw hbw hlt
        generalize m.ac.getD sn false = bp at *
        generalize k.ac.getD tn false = bq at *
        cases hx : wXor bp bq
        · have e1 : (!bp == bq) = false := by revert hx; cases bp <;> cases bq <;> decide
          rw [hx] at Hfa
          clear hx
          go_wp2_with fail
          go_quiet (fail)
          go_wp2_with fail
          have h52 := Hlt.out
          have hw : wrap64 ((i : Int) + 1) = (i : Int) + 1 := by
            have h51 := raw_len HA.out n
            exact w64 (by omega) (by omega)
          have HI1 : Hid (∀ j, j < i + 1 → jnA wXor m k ((raw m.L.toNat (jnS m k) n).getD j 0) = false) := hid fun j hj => by
            rcases Nat.lt_succ_iff_lt_or_eq.1 hj with e | e
            · exact HN.out j e
            · subst e; exact Hfa.out
          go_roundw
          case rel => exact ⟨i + 1, by rw [hw]; simp, Hlt.out, HI1, below_quiet HBw.out⟩
          case measure => exact meas_lt h52 hw
        · have e1 : (!bp == bq) = true := by revert hx; cases bp <;> cases bq <;> decide
          rw [hx] at Hfa
          clear hx
          obtain ⟨ar, cr, er, hIr, k1, k2⟩ := HWi.out
          rw [er] at c2
          have HR := hid (par_hit HP.out.2 Hn.out.2 Hlt.out Hfa.out HN.out)
          have HIr := hid hIr
          clear er hIr HWi
          go_wp2_with fail
          go_quiet (fail)
          go_wp2_with fail
          go_ret3
          exact ⟨ar, cr, by rw [HR.out.1, HR.out.2, HP.out.2]; rfl, by rw [HR.out.2]; exact HIr.out, HB.out.trans ((below_quiet HBw.out).mono HB.out.size), by rw [HR.out.2]; exact k1, k2⟩
      · obtain rfl : i = (raw m.L.toNat (jnS m k) n).length := by omega
        have HR := hid (par_none Hn.out.2 (by have := Hn.out.1; omega) HN.out)
        go_wp2_with fail
        go_ret3
        exact ⟨none, 0, by rw [HR.out.1, HR.out.2, HP.out.2]; rfl, by rw [HR.out.2]; exact fun j hj => absurd hj (Nat.not_lt_zero j), HB.out.trans (hbw.mono HB.out.size), by rw [HR.out.2]; exact Nat.le_refl _, Nat.zero_le _⟩
  · have d1 : (paiE m k == 0) = false := beq_eq_false_iff_ne.2 hE
    have d2 : (paiE m k != 0) = true := by rw [bne, d1]; rfl
    have HR := hid (par_bad hE)
    unfold PartPost
    rw [HR.out.1, HR.out.2]
    clear hE HR
    generalize paiE m k = ev at *
    go_enter Try.func59, Try.ntmps59
    go_wp2_with fail
    refine HV.out.mono ?_; rintro e w1 ⟨rfl, hb1⟩
    have hz := HB.out.trans (hb1.mono HB.out.size)
    clear hb1
    go_wp2_with fail
    go_ret3
    exact ⟨none, 0, rfl, fun j hj => absurd hj (Nat.not_lt_zero j), hz, Nat.le_refl _, Nat.zero_le _⟩

set_option maxRecDepth 100000 in
set_option maxHeartbeats 2000000 in
theorem rSame_any (m k : Mac) (a a2 : Option Addr) (cap cap2 : Nat) (b b2 : Option Addr) (dap dap2 : Nat) (W : World) (hM : MacAt W a cap a2 cap2 m) (hK : MacAt W b dap b2 dap2 k) :
    Calls Try.prog 57 #[.agg #[.int .i64 m.L, .slice a m.nx.length cap, .slice a2 m.ac.length cap2], .agg #[.int .i64 k.L, .slice b k.nx.length dap, .slice b2 k.ac.length dap2]] W fun e w' => e = .returned (.tuple #[.bool (samB m k), .int .i64 (paiE m k)]) ∧ Below W.heap.size W w' := by
  have hb0 : Below W.heap.size W ((W.alloc (.cells #[.int .i64 m.L, .slice a m.nx.length cap, .slice a2 m.ac.length cap2] 25)).alloc (.cells #[.int .i64 k.L, .slice b k.nx.length dap, .slice b2 k.ac.length dap2] 25)) := (below_alloc W _).alloc (by simp) _
  have HV := hid (rPart_any m k a a2 cap cap2 b b2 dap dap2 ((W.alloc (.cells #[.int .i64 m.L, .slice a m.nx.length cap, .slice a2 m.ac.length cap2] 25)).alloc (.cells #[.int .i64 k.L, .slice b k.nx.length dap, .slice b2 k.ac.length dap2] 25)) (hM.below hb0) (hK.below hb0))
  have HB := hid hb0
  clear hM hK hb0
  by_cases hE : paiE m k = 0
  · have HS : Hid (samB m k = !parB m k) := hid (by unfold samB; rw [decide_eq_true hE, Bool.true_and])
    unfold PartPost at HV
    rw [hE] at HV ⊢
    generalize parB m k = pb at *
    go_enter Try.func57, Try.ntmps57
    go_wp2_with fail
    refine HV.out.mono ?_; rintro e w1 ⟨ax, cx, rfl, _, hb1, _, _⟩
    have hz := HB.out.trans (hb1.mono HB.out.size)
    clear hb1
    go_wp2_with fail
    go_ret2
    exact ⟨by rw [HS.out]; rfl, hz⟩
  · have d1 : (paiE m k == 0) = false := beq_eq_false_iff_ne.2 hE
    have HS : Hid (samB m k = false) := hid (by unfold samB; rw [decide_eq_false hE, Bool.false_and])
    unfold PartPost at HV
    clear hE
    generalize paiE m k = ev at *
    generalize parB m k = pb at *
    go_enter Try.func57, Try.ntmps57
    go_wp2_with fail
    refine HV.out.mono ?_; rintro e w1 ⟨ax, cx, rfl, _, hb1, _, _⟩
    have hz := HB.out.trans (hb1.mono HB.out.size)
    clear hb1
    go_wp2_with fail
    go_ret2
    exact ⟨by rw [HS.out]; rfl, hz⟩
end Go.Proofs.Ytmllbemjcfkmjaa
