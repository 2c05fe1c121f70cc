/- 'MenuSames' returns true, whatever the machines. -/
import Derived.Test.YtmllbemjcfkmjaaPPart
import Derived.Test.YtmllbemjcfkmjaaRPart
import Derived.Test.YtmllbemjcfkmjaaSameLaw
import Derived.Test.YtmllbemjcfkmjaaRounded
import Derived.Test.YtmllbemjcfkmjaaFront
import Derived.Test.YtmllbemjcfkmjaaKnown
import Derived.Test.YtmllbemjcfkmjaaEqual
import Derived.Deep.DeepCutAuto
namespace Go.Proofs.Ytmllbemjcfkmjaa
open Go.RowKit Go.Maps
set_option linter.unusedSimpArgs false
set_option linter.unusedVariables false

theorem parW_len (m k : Mac) : (parW m k).length ≤ 5100 := by
  unfold parW
  cases h : parI m k with
  | none => exact Nat.zero_le _
  | some i =>
    show ((rawW m.L.toNat (jnS m k) 5100).getD i []).length ≤ 5100
    by_cases hE : paiE m k = 0
    · obtain ⟨hm, hk, hL⟩ := paiE_zero.1 hE
      have h6 := hm.l6
      obtain ⟨n5, hn5⟩ : ∃ n, n = 5100 := ⟨_, rfl⟩
      rw [← hn5]
      by_cases hi : i < (rawW m.L.toNat (jnS m k) n5).length
      · exact (rawW_word (step := jnS m k) (L := m.L.toNat) (by omega) n5 ((rawW m.L.toNat (jnS m k) n5).getD i []) (by simp [List.getD, hi])).1
      · have e : (rawW m.L.toNat (jnS m k) n5).getD i [] = [] := by simp [List.getD, Nat.not_lt.1 hi]
        rw [e]
        exact Nat.zero_le _
    · rw [parI_bad hE] at h
      cases h
set_option maxRecDepth 100000 in
set_option maxHeartbeats 4000000 in
theorem lawSames (W : World) (m : Mac) (a a2 : Option Addr) (cap cap2 : Nat) (hM : MacAt W a cap a2 cap2 m) (k : Mac) (b b2 : Option Addr) (dap dap2 : Nat) (hK : MacAt W b dap b2 dap2 k) :
    Calls Try.prog 14 #[.agg #[.int .i64 m.L, .slice a m.nx.length cap, .slice a2 m.ac.length cap2], .agg #[.int .i64 k.L, .slice b k.nx.length dap, .slice b2 k.ac.length dap2]] W fun e w' => e = .returned (.bool true) ∧ Below W.heap.size W w' := by
  have hb0 : Below W.heap.size W ((W.alloc (.cells #[.int .i64 m.L, .slice a m.nx.length cap, .slice a2 m.ac.length cap2] 25)).alloc (.cells #[.int .i64 k.L, .slice b k.nx.length dap, .slice b2 k.ac.length dap2] 25)) := (below_alloc W _).alloc (by simp) _
  have HMa := hid (hM.below hb0)
  have HMb := hid (hK.below hb0)
  have HB := hid hb0
  have HXa : Hid (BoxAt W.heap.size ((W.alloc (.cells #[.int .i64 m.L, .slice a m.nx.length cap, .slice a2 m.ac.length cap2] 25)).alloc (.cells #[.int .i64 k.L, .slice b k.nx.length dap, .slice b2 k.ac.length dap2] 25)) (.int .i64 m.L) (.slice a m.nx.length cap) (.slice a2 m.ac.length cap2)) := hid (box_fst (Below.refl _ _) rfl)
  have HXb : Hid (BoxAt (W.heap.size + 1) ((W.alloc (.cells #[.int .i64 m.L, .slice a m.nx.length cap, .slice a2 m.ac.length cap2] 25)).alloc (.cells #[.int .i64 k.L, .slice b k.nx.length dap, .slice b2 k.ac.length dap2] 25)) (.int .i64 k.L) (.slice b k.nx.length dap) (.slice b2 k.ac.length dap2)) := hid (box_snd (Below.refl _ _) rfl)
  have Hk := hid known_true
  obtain ⟨p, hp⟩ : ∃ p, gnM (valE m) m.L.toNat (langM m) = p := ⟨_, rfl⟩
  obtain ⟨pe, hpe⟩ : ∃ p, gnE (valE m) m.L.toNat (langM m) = p := ⟨_, rfl⟩
  obtain ⟨q, hq⟩ : ∃ p, gnM (valE k) k.L.toNat (langM k) = p := ⟨_, rfl⟩
  obtain ⟨qe, hqe⟩ : ∃ p, gnE (valE k) k.L.toNat (langM k) = p := ⟨_, rfl⟩
  have HSF : Hid (paiE m k = 0 → (pe = 0 ∧ qe = 0) ∧ samB m k = eqM p q) := hid (fun h => by
    have h1 := same_forms h
    subst hp hpe hq hqe
    exact h1)
  have Hp := hid hp
  have Hpe := hid hpe
  have Hq := hid hq
  have Hqe := hid hqe
  have Hpl := hid (parW_len m k)
  clear hM hK hb0 hp hpe hq hqe
  have HL := hid (Large_any m a a2 cap cap2 ((W.alloc (.cells #[.int .i64 m.L, .slice a m.nx.length cap, .slice a2 m.ac.length cap2] 25)).alloc (.cells #[.int .i64 k.L, .slice b k.nx.length dap, .slice b2 k.ac.length dap2] 25)) HMa.out)
  cases hL : lrgB m
  · rw [hL] at HL
    clear hL
    go_enter Try.func14, Try.ntmps14
    go_wp2_with fail
    refine HL.out.mono ?_; rintro e w1 ⟨rfl, hb⟩
    clear HL
    replace HXa := hid (HXa.out.below hb)
    replace HXb := hid (HXb.out.below hb)
    replace HMa := hid (HMa.out.below hb)
    replace HMb := hid (HMb.out.below hb)
    replace HB := hid (HB.out.trans (hb.mono HB.out.size))
    clear hb
    have hL0 := Large_any k b b2 dap dap2 w1 HMb.out
    cases hL2 : lrgB k
    · rw [hL2] at hL0
      clear hL2
      have HL := hid hL0
      clear hL0
      have x0a := HXa.out.c0
      have x1a := HXa.out.c1
      have x2a := HXa.out.c2
      have xla := HXa.out.lt
      have x0b := HXb.out.c0
      have x1b := HXb.out.c1
      have x2b := HXb.out.c2
      have xlb := HXb.out.lt
      go_wp2_with fail
      refine HL.out.mono ?_; rintro e w2 ⟨rfl, hb⟩
      clear HL x0a x1a x2a xla x0b x1b x2b xlb
      replace HXa := hid (HXa.out.below hb)
      replace HXb := hid (HXb.out.below hb)
      replace HMa := hid (HMa.out.below hb)
      replace HMb := hid (HMb.out.below hb)
      replace HB := hid (HB.out.trans (hb.mono HB.out.size))
      clear hb
      have HC := hid (Same_any m k a a2 cap cap2 b b2 dap dap2 w2 HMa.out HMb.out)
      have x0a := HXa.out.c0
      have x1a := HXa.out.c1
      have x2a := HXa.out.c2
      have xla := HXa.out.lt
      have x0b := HXb.out.c0
      have x1b := HXb.out.c1
      have x2b := HXb.out.c2
      have xlb := HXb.out.lt
      go_wp2_with fail
      refine HC.out.mono ?_
      rintro e w3 ⟨rfl, hb⟩
      clear HC x0a x1a x2a xla x0b x1b x2b xlb
      replace HXa := hid (HXa.out.below hb)
      replace HXb := hid (HXb.out.below hb)
      replace HMa := hid (HMa.out.below hb)
      replace HMb := hid (HMb.out.below hb)
      replace HB := hid (HB.out.trans (hb.mono HB.out.size))
      clear hb
      have HC := hid (rSame_any m k a a2 cap cap2 b b2 dap dap2 w3 HMa.out HMb.out)
      have x0a := HXa.out.c0
      have x1a := HXa.out.c1
      have x2a := HXa.out.c2
      have xla := HXa.out.lt
      have x0b := HXb.out.c0
      have x1b := HXb.out.c1
      have x2b := HXb.out.c2
      have xlb := HXb.out.lt
      go_wp2_with fail
      refine HC.out.mono ?_
      rintro e w4 ⟨rfl, hb⟩
      clear HC x0a x1a x2a xla x0b x1b x2b xlb
      replace HXa := hid (HXa.out.below hb)
      replace HXb := hid (HXb.out.below hb)
      replace HMa := hid (HMa.out.below hb)
      replace HMb := hid (HMb.out.below hb)
      replace HB := hid (HB.out.trans (hb.mono HB.out.size))
      clear hb
      have HC := hid (Part_any m k a a2 cap cap2 b b2 dap dap2 w4 HMa.out HMb.out)
      have x0a := HXa.out.c0
      have x1a := HXa.out.c1
      have x2a := HXa.out.c2
      have xla := HXa.out.lt
      have x0b := HXb.out.c0
      have x1b := HXb.out.c1
      have x2b := HXb.out.c2
      have xlb := HXb.out.lt
      go_wp2_with fail
      refine HC.out.mono ?_
      rintro e w5 ⟨au, cu, rfl, hIu, hb, _, _⟩
      clear HC x0a x1a x2a xla x0b x1b x2b xlb
      replace HXa := hid (HXa.out.below hb)
      replace HXb := hid (HXb.out.below hb)
      replace HMa := hid (HMa.out.below hb)
      replace HMb := hid (HMb.out.below hb)
      replace HB := hid (HB.out.trans (hb.mono HB.out.size))
      have HIu := hid hIu
      clear hb hIu
      have HC := hid (rPart_any m k a a2 cap cap2 b b2 dap dap2 w5 HMa.out HMb.out)
      have x0a := HXa.out.c0
      have x1a := HXa.out.c1
      have x2a := HXa.out.c2
      have xla := HXa.out.lt
      have x0b := HXb.out.c0
      have x1b := HXb.out.c1
      have x2b := HXb.out.c2
      have xlb := HXb.out.lt
      go_wp2_with fail
      refine HC.out.mono ?_
      rintro e w6 ⟨av, cv, rfl, hIv, hb, _, _⟩
      clear HC x0a x1a x2a xla x0b x1b x2b xlb
      replace HXa := hid (HXa.out.below hb)
      replace HXb := hid (HXb.out.below hb)
      replace HMa := hid (HMa.out.below hb)
      replace HMb := hid (HMb.out.below hb)
      replace HIu := hid (HIu.out.below hb)
      replace HB := hid (HB.out.trans (hb.mono HB.out.size))
      have HIv := hid hIv
      clear hb hIv
      generalize hsb : samB m k = sb at *
      generalize hpb : parB m k = pb at *
      clear hpb
      generalize hev : paiE m k = ev at *
      have HC := hid (SameInts_any (parW m k) au av cu cv w6 HIu.out HIv.out (by have := Hpl.out; unfold maxLen; omega))
      go_wp2_with fail
      refine HC.out.mono ?_
      rintro e w7 ⟨rfl, hb⟩
      clear HC 
      replace HXa := hid (HXa.out.below hb)
      replace HXb := hid (HXb.out.below hb)
      replace HMa := hid (HMa.out.below hb)
      replace HMb := hid (HMb.out.below hb)
      replace HIu := hid (HIu.out.below hb)
      replace HIv := hid (HIv.out.below hb)
      replace HB := hid (HB.out.trans (hb.mono HB.out.size))
      clear hb
      have hC0 := (Plain_any m a a2 cap cap2 w7 HMa.out).mono (fun e w h => gen_det h)
      rw [Hp.out, Hpe.out] at hC0
      have HC := hid hC0
      clear hC0
      have x0a := HXa.out.c0
      have x1a := HXa.out.c1
      have x2a := HXa.out.c2
      have xla := HXa.out.lt
      have x0b := HXb.out.c0
      have x1b := HXb.out.c1
      have x2b := HXb.out.c2
      have xlb := HXb.out.lt
      go_wp2_with fail
      refine HC.out.mono ?_
      rintro e w8 ⟨anx, cnx, abx, cbx, rfl, hMx, hb⟩
      clear HC x0a x1a x2a xla x0b x1b x2b xlb
      replace HXa := hid (HXa.out.below hb)
      replace HXb := hid (HXb.out.below hb)
      replace HMa := hid (HMa.out.below hb)
      replace HMb := hid (HMb.out.below hb)
      replace HB := hid (HB.out.trans (hb.mono HB.out.size))
      clear hb
      have hb := below_alloc w8 (.cells #[.int .i64 (p).L, .slice anx (p).nx.length cnx, .slice abx (p).ac.length cbx] 25)
      replace HXa := hid (HXa.out.below hb)
      replace HXb := hid (HXb.out.below hb)
      replace HMa := hid (HMa.out.below hb)
      replace HMb := hid (HMb.out.below hb)
      replace HB := hid (HB.out.trans (hb.mono HB.out.size))
      have HXx := hid (box_new w8 (.int .i64 (p).L) (.slice anx (p).nx.length cnx) (.slice abx (p).ac.length cbx) 25)
      have HMx := hid (hMx.below hb)
      clear hMx hb
      have hC0 := (Plain_any k b b2 dap dap2 (w8.alloc (.cells #[.int .i64 (p).L, .slice anx (p).nx.length cnx, .slice abx (p).ac.length cbx] 25)) HMb.out).mono (fun e w h => gen_det h)
      rw [Hq.out, Hqe.out] at hC0
      have HC := hid hC0
      clear hC0
      have x0a := HXa.out.c0
      have x1a := HXa.out.c1
      have x2a := HXa.out.c2
      have xla := HXa.out.lt
      have x0b := HXb.out.c0
      have x1b := HXb.out.c1
      have x2b := HXb.out.c2
      have xlb := HXb.out.lt
      go_wp2_with fail
      refine HC.out.mono ?_
      rintro e w9 ⟨any, cny, aby, cby, rfl, hMy, hb⟩
      clear HC x0a x1a x2a xla x0b x1b x2b xlb
      replace HXa := hid (HXa.out.below hb)
      replace HXb := hid (HXb.out.below hb)
      replace HXx := hid (HXx.out.below hb)
      replace HMa := hid (HMa.out.below hb)
      replace HMb := hid (HMb.out.below hb)
      replace HMx := hid (HMx.out.below hb)
      replace HB := hid (HB.out.trans (hb.mono HB.out.size))
      clear hb
      have hb := below_alloc w9 (.cells #[.int .i64 (q).L, .slice any (q).nx.length cny, .slice aby (q).ac.length cby] 25)
      replace HXa := hid (HXa.out.below hb)
      replace HXb := hid (HXb.out.below hb)
      replace HXx := hid (HXx.out.below hb)
      replace HMa := hid (HMa.out.below hb)
      replace HMb := hid (HMb.out.below hb)
      replace HMx := hid (HMx.out.below hb)
      replace HB := hid (HB.out.trans (hb.mono HB.out.size))
      have HXy := hid (box_new w9 (.int .i64 (q).L) (.slice any (q).nx.length cny) (.slice aby (q).ac.length cby) 25)
      have HMy := hid (hMy.below hb)
      clear hMy hb
      by_cases h0 : ev = 0
      · obtain ⟨⟨g1, g2⟩, g3⟩ := HSF.out h0
        subst g1 g2 h0
        have hC0 := Equal_any p q anx abx cnx cbx any aby cny cby (w9.alloc (.cells #[.int .i64 (q).L, .slice any (q).nx.length cny, .slice aby (q).ac.length cby] 25)) HMx.out HMy.out
        rw [← g3] at hC0
        have HC := hid hC0
        clear hC0 g3 hsb
        have e1 : (sb == sb) = true := beq_self_eq_true _
        have x0x := HXx.out.c0
        have x1x := HXx.out.c1
        have x2x := HXx.out.c2
        have xlx := HXx.out.lt
        have x0y := HXy.out.c0
        have x1y := HXy.out.c1
        have x2y := HXy.out.c2
        have xly := HXy.out.lt
        go_wp2_with fail
        refine HC.out.mono ?_; rintro e w9 ⟨rfl, hb⟩
        clear HC x0x x1x x2x xlx x0y x1y x2y xly
        replace HXx := hid (HXx.out.below hb)
        replace HXy := hid (HXy.out.below hb)
        replace HMx := hid (HMx.out.below hb)
        replace HMy := hid (HMy.out.below hb)
        replace HB := hid (HB.out.trans (hb.mono HB.out.size))
        clear hb
        go_wp2_with fail
        refine (Hk.out _).mono ?_; rintro e wk ⟨rfl, hbk⟩
        have hz := HB.out.trans (hbk.mono HB.out.size)
        clear hbk
        go_wp2_with fail
        go_ret
        exact ⟨rfl, hz⟩
      · have d1 : (ev == 0) = false := beq_eq_false_iff_ne.2 h0
        have d2 : (ev != 0) = true := by rw [bne, d1]; rfl
        clear h0 hsb hev HSF
        go_wp2_with fail
        refine (Hk.out _).mono ?_; rintro e wk ⟨rfl, hbk⟩
        have hz := HB.out.trans (hbk.mono HB.out.size)
        clear hbk
        go_wp2_with fail
        go_ret
        exact ⟨rfl, hz⟩
    · rw [hL2] at hL0
      clear hL2
      have HL := hid hL0
      clear hL0
      have x0a := HXa.out.c0
      have x1a := HXa.out.c1
      have x2a := HXa.out.c2
      have xla := HXa.out.lt
      have x0b := HXb.out.c0
      have x1b := HXb.out.c1
      have x2b := HXb.out.c2
      have xlb := HXb.out.lt
      go_wp2_with fail
      refine HL.out.mono ?_; rintro e w2 ⟨rfl, hb⟩
      clear HL x0a x1a x2a xla x0b x1b x2b xlb
      replace HXa := hid (HXa.out.below hb)
      replace HXb := hid (HXb.out.below hb)
      replace HMa := hid (HMa.out.below hb)
      replace HMb := hid (HMb.out.below hb)
      replace HB := hid (HB.out.trans (hb.mono HB.out.size))
      clear hb
      go_wp2_with fail
      refine (Hk.out _).mono ?_; rintro e wk ⟨rfl, hbk⟩
      have hz := HB.out.trans (hbk.mono HB.out.size)
      clear hbk
      go_wp2_with fail
      go_ret
      exact ⟨rfl, hz⟩
  · rw [hL] at HL
    clear hL
    go_enter Try.func14, Try.ntmps14
    go_wp2_with fail
    refine HL.out.mono ?_; rintro e w1 ⟨rfl, hb⟩
    clear HL
    replace HXa := hid (HXa.out.below hb)
    replace HXb := hid (HXb.out.below hb)
    replace HMa := hid (HMa.out.below hb)
    replace HMb := hid (HMb.out.below hb)
    replace HB := hid (HB.out.trans (hb.mono HB.out.size))
    clear hb
    go_wp2_with fail
    refine (Hk.out _).mono ?_; rintro e wk ⟨rfl, hbk⟩
    have hz := HB.out.trans (hbk.mono HB.out.size)
    clear hbk
    go_wp2_with fail
    go_ret
    exact ⟨rfl, hz⟩
end Go.Proofs.Ytmllbemjcfkmjaa
