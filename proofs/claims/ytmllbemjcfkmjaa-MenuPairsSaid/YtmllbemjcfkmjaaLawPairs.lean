/- 'MenuPairs' returns true, whatever the machines. -/
import Derived.Test.YtmllbemjcfkmjaaRBoth
import Derived.Test.YtmllbemjcfkmjaaRounded
import Derived.Test.YtmllbemjcfkmjaaFront
import Derived.Test.YtmllbemjcfkmjaaKnown
import Derived.Test.YtmllbemjcfkmjaaEqual
import Derived.Deep.DeepCutAuto
namespace Go.Proofs.Ytmllbemjcfkmjaa
open Go.RowKit Go.Maps
set_option linter.unusedSimpArgs false
set_option linter.unusedVariables false

set_option maxRecDepth 100000 in
set_option maxHeartbeats 4000000 in
theorem lawPairs (W : World) (m : Mac) (a a2 : Option Addr) (cap cap2 : Nat) (hM : MacAt W a cap a2 cap2 m) (k : Mac) (b b2 : Option Addr) (dap dap2 : Nat) (hK : MacAt W b dap b2 dap2 k) :
    Calls Try.prog 8 #[.agg #[.int .i64 m.L, .slice a m.nx.length cap, .slice a2 m.ac.length cap2], .agg #[.int .i64 k.L, .slice b k.nx.length dap, .slice b2 k.ac.length dap2]] W fun e w' => e = .returned (.bool true) ∧ Below W.heap.size W w' := by
  have hb0 : Below W.heap.size W ((W.alloc (.cells #[.int .i64 m.L, .slice a m.nx.length cap, .slice a2 m.ac.length cap2] 25)).alloc (.cells #[.int .i64 k.L, .slice b k.nx.length dap, .slice b2 k.ac.length dap2] 25)) := (below_alloc W _).alloc (by simp) _
  have HMa := hid (hM.below hb0)
  have HMb := hid (hK.below hb0)
  have HB := hid hb0
  have HXa : Hid (BoxAt W.heap.size ((W.alloc (.cells #[.int .i64 m.L, .slice a m.nx.length cap, .slice a2 m.ac.length cap2] 25)).alloc (.cells #[.int .i64 k.L, .slice b k.nx.length dap, .slice b2 k.ac.length dap2] 25)) (.int .i64 m.L) (.slice a m.nx.length cap) (.slice a2 m.ac.length cap2)) := hid (box_fst (Below.refl _ _) rfl)
  have HXb : Hid (BoxAt (W.heap.size + 1) ((W.alloc (.cells #[.int .i64 m.L, .slice a m.nx.length cap, .slice a2 m.ac.length cap2] 25)).alloc (.cells #[.int .i64 k.L, .slice b k.nx.length dap, .slice b2 k.ac.length dap2] 25)) (.int .i64 k.L) (.slice b k.nx.length dap) (.slice b2 k.ac.length dap2)) := hid (box_snd (Below.refl _ _) rfl)
  have Hk := hid known_true
  obtain ⟨p, hp⟩ : ∃ p, gnM (paiE m k) m.L.toNat (jnL wAnd m k) = p := ⟨_, rfl⟩
  obtain ⟨pe, hpe⟩ : ∃ p, gnE (paiE m k) m.L.toNat (jnL wAnd m k) = p := ⟨_, rfl⟩
  obtain ⟨q, hq⟩ : ∃ p, gnM (paiE m k) m.L.toNat (jnL wOr m k) = p := ⟨_, rfl⟩
  obtain ⟨qe, hqe⟩ : ∃ p, gnE (paiE m k) m.L.toNat (jnL wOr m k) = p := ⟨_, rfl⟩
  have Hp := hid hp
  have Hpe := hid hpe
  have Hq := hid hq
  have Hqe := hid hqe
  clear hM hK hb0 hp hpe hq hqe
  have HL := hid (Large_any m a a2 cap cap2 ((W.alloc (.cells #[.int .i64 m.L, .slice a m.nx.length cap, .slice a2 m.ac.length cap2] 25)).alloc (.cells #[.int .i64 k.L, .slice b k.nx.length dap, .slice b2 k.ac.length dap2] 25)) HMa.out)
  cases hL : lrgB m
  · rw [hL] at HL
    clear hL
    go_enter Try.func8, Try.ntmps8
    go_wp2_with fail
    refine HL.out.mono ?_; rintro e w1 ⟨rfl, hb⟩
    clear HL
    replace HXa := hid (HXa.out.below hb)
    replace HXb := hid (HXb.out.below hb)
    replace HMa := hid (HMa.out.below hb)
    replace HMb := hid (HMb.out.below hb)
    replace HB := hid (HB.out.trans (hb.mono HB.out.size))
    clear hb
    have hL0 := Large_any k b b2 dap dap2 w1 HMb.out
    cases hL2 : lrgB k
    · rw [hL2] at hL0
      clear hL2
      have HL := hid hL0
      clear hL0
      have x0a := HXa.out.c0
      have x1a := HXa.out.c1
      have x2a := HXa.out.c2
      have xla := HXa.out.lt
      have x0b := HXb.out.c0
      have x1b := HXb.out.c1
      have x2b := HXb.out.c2
      have xlb := HXb.out.lt
      go_wp2_with fail
      refine HL.out.mono ?_; rintro e w2 ⟨rfl, hb⟩
      clear HL x0a x1a x2a xla x0b x1b x2b xlb
      replace HXa := hid (HXa.out.below hb)
      replace HXb := hid (HXb.out.below hb)
      replace HMa := hid (HMa.out.below hb)
      replace HMb := hid (HMb.out.below hb)
      replace HB := hid (HB.out.trans (hb.mono HB.out.size))
      clear hb
      have hC0 := (Both_any m k a a2 cap cap2 b b2 dap dap2 w2 HMa.out HMb.out).mono (fun e w h => gen_det h)
      rw [Hp.out, Hpe.out] at hC0
      have HC := hid hC0
      clear hC0
      have x0a := HXa.out.c0
      have x1a := HXa.out.c1
      have x2a := HXa.out.c2
      have xla := HXa.out.lt
      have x0b := HXb.out.c0
      have x1b := HXb.out.c1
      have x2b := HXb.out.c2
      have xlb := HXb.out.lt
      go_wp2_with fail
      refine HC.out.mono ?_
      rintro e w3 ⟨anx, cnx, abx, cbx, rfl, hMx, hb⟩
      clear HC x0a x1a x2a xla x0b x1b x2b xlb
      replace HXa := hid (HXa.out.below hb)
      replace HXb := hid (HXb.out.below hb)
      replace HMa := hid (HMa.out.below hb)
      replace HMb := hid (HMb.out.below hb)
      replace HB := hid (HB.out.trans (hb.mono HB.out.size))
      clear hb
      have hb := below_alloc w3 (.cells #[.int .i64 (p).L, .slice anx (p).nx.length cnx, .slice abx (p).ac.length cbx] 25)
      replace HXa := hid (HXa.out.below hb)
      replace HXb := hid (HXb.out.below hb)
      replace HMa := hid (HMa.out.below hb)
      replace HMb := hid (HMb.out.below hb)
      replace HB := hid (HB.out.trans (hb.mono HB.out.size))
      have HXx := hid (box_new w3 (.int .i64 (p).L) (.slice anx (p).nx.length cnx) (.slice abx (p).ac.length cbx) 25)
      have HMx := hid (hMx.below hb)
      clear hMx hb
      have hC0 := (rBoth_any m k a a2 cap cap2 b b2 dap dap2 (w3.alloc (.cells #[.int .i64 (p).L, .slice anx (p).nx.length cnx, .slice abx (p).ac.length cbx] 25)) HMa.out HMb.out).mono (fun e w h => gen_det h)
      rw [Hp.out, Hpe.out] at hC0
      have HC := hid hC0
      clear hC0
      have x0a := HXa.out.c0
      have x1a := HXa.out.c1
      have x2a := HXa.out.c2
      have xla := HXa.out.lt
      have x0b := HXb.out.c0
      have x1b := HXb.out.c1
      have x2b := HXb.out.c2
      have xlb := HXb.out.lt
      go_wp2_with fail
      refine HC.out.mono ?_
      rintro e w4 ⟨any, cny, aby, cby, rfl, hMy, hb⟩
      clear HC x0a x1a x2a xla x0b x1b x2b xlb
      replace HXa := hid (HXa.out.below hb)
      replace HXb := hid (HXb.out.below hb)
      replace HXx := hid (HXx.out.below hb)
      replace HMa := hid (HMa.out.below hb)
      replace HMb := hid (HMb.out.below hb)
      replace HMx := hid (HMx.out.below hb)
      replace HB := hid (HB.out.trans (hb.mono HB.out.size))
      clear hb
      have hb := below_alloc w4 (.cells #[.int .i64 (p).L, .slice any (p).nx.length cny, .slice aby (p).ac.length cby] 25)
      replace HXa := hid (HXa.out.below hb)
      replace HXb := hid (HXb.out.below hb)
      replace HXx := hid (HXx.out.below hb)
      replace HMa := hid (HMa.out.below hb)
      replace HMb := hid (HMb.out.below hb)
      replace HMx := hid (HMx.out.below hb)
      replace HB := hid (HB.out.trans (hb.mono HB.out.size))
      have HXy := hid (box_new w4 (.int .i64 (p).L) (.slice any (p).nx.length cny) (.slice aby (p).ac.length cby) 25)
      have HMy := hid (hMy.below hb)
      clear hMy hb
      have hC0 := (Either_any m k a a2 cap cap2 b b2 dap dap2 (w4.alloc (.cells #[.int .i64 (p).L, .slice any (p).nx.length cny, .slice aby (p).ac.length cby] 25)) HMa.out HMb.out).mono (fun e w h => gen_det h)
      rw [Hq.out, Hqe.out] at hC0
      have HC := hid hC0
      clear hC0
      have x0a := HXa.out.c0
      have x1a := HXa.out.c1
      have x2a := HXa.out.c2
      have xla := HXa.out.lt
      have x0b := HXb.out.c0
      have x1b := HXb.out.c1
      have x2b := HXb.out.c2
      have xlb := HXb.out.lt
      go_wp2_with fail
      refine HC.out.mono ?_
      rintro e w5 ⟨anu, cnu, abu, cbu, rfl, hMu, hb⟩
      clear HC x0a x1a x2a xla x0b x1b x2b xlb
      replace HXa := hid (HXa.out.below hb)
      replace HXb := hid (HXb.out.below hb)
      replace HXx := hid (HXx.out.below hb)
      replace HXy := hid (HXy.out.below hb)
      replace HMa := hid (HMa.out.below hb)
      replace HMb := hid (HMb.out.below hb)
      replace HMx := hid (HMx.out.below hb)
      replace HMy := hid (HMy.out.below hb)
      replace HB := hid (HB.out.trans (hb.mono HB.out.size))
      clear hb
      have hb := below_alloc w5 (.cells #[.int .i64 (q).L, .slice anu (q).nx.length cnu, .slice abu (q).ac.length cbu] 25)
      replace HXa := hid (HXa.out.below hb)
      replace HXb := hid (HXb.out.below hb)
      replace HXx := hid (HXx.out.below hb)
      replace HXy := hid (HXy.out.below hb)
      replace HMa := hid (HMa.out.below hb)
      replace HMb := hid (HMb.out.below hb)
      replace HMx := hid (HMx.out.below hb)
      replace HMy := hid (HMy.out.below hb)
      replace HB := hid (HB.out.trans (hb.mono HB.out.size))
      have HXu := hid (box_new w5 (.int .i64 (q).L) (.slice anu (q).nx.length cnu) (.slice abu (q).ac.length cbu) 25)
      have HMu := hid (hMu.below hb)
      clear hMu hb
      have hC0 := (rEither_any m k a a2 cap cap2 b b2 dap dap2 (w5.alloc (.cells #[.int .i64 (q).L, .slice anu (q).nx.length cnu, .slice abu (q).ac.length cbu] 25)) HMa.out HMb.out).mono (fun e w h => gen_det h)
      rw [Hq.out, Hqe.out] at hC0
      have HC := hid hC0
      clear hC0
      have x0a := HXa.out.c0
      have x1a := HXa.out.c1
      have x2a := HXa.out.c2
      have xla := HXa.out.lt
      have x0b := HXb.out.c0
      have x1b := HXb.out.c1
      have x2b := HXb.out.c2
      have xlb := HXb.out.lt
      go_wp2_with fail
      refine HC.out.mono ?_
      rintro e w6 ⟨anv, cnv, abv, cbv, rfl, hMv, hb⟩
      clear HC x0a x1a x2a xla x0b x1b x2b xlb
      replace HXa := hid (HXa.out.below hb)
      replace HXb := hid (HXb.out.below hb)
      replace HXx := hid (HXx.out.below hb)
      replace HXy := hid (HXy.out.below hb)
      replace HXu := hid (HXu.out.below hb)
      replace HMa := hid (HMa.out.below hb)
      replace HMb := hid (HMb.out.below hb)
      replace HMx := hid (HMx.out.below hb)
      replace HMy := hid (HMy.out.below hb)
      replace HMu := hid (HMu.out.below hb)
      replace HB := hid (HB.out.trans (hb.mono HB.out.size))
      clear hb
      have hb := below_alloc w6 (.cells #[.int .i64 (q).L, .slice anv (q).nx.length cnv, .slice abv (q).ac.length cbv] 25)
      replace HXa := hid (HXa.out.below hb)
      replace HXb := hid (HXb.out.below hb)
      replace HXx := hid (HXx.out.below hb)
      replace HXy := hid (HXy.out.below hb)
      replace HXu := hid (HXu.out.below hb)
      replace HMa := hid (HMa.out.below hb)
      replace HMb := hid (HMb.out.below hb)
      replace HMx := hid (HMx.out.below hb)
      replace HMy := hid (HMy.out.below hb)
      replace HMu := hid (HMu.out.below hb)
      replace HB := hid (HB.out.trans (hb.mono HB.out.size))
      have HXv := hid (box_new w6 (.int .i64 (q).L) (.slice anv (q).nx.length cnv) (.slice abv (q).ac.length cbv) 25)
      have HMv := hid (hMv.below hb)
      clear hMv hb
      have e1 : (pe == pe) = true := beq_self_eq_true _
      have e2 : (qe == qe) = true := beq_self_eq_true _
      have hC0 := Equal_any p p anx abx cnx cbx any aby cny cby (w6.alloc (.cells #[.int .i64 (q).L, .slice anv (q).nx.length cnv, .slice abv (q).ac.length cbv] 25)) HMx.out HMy.out
      rw [eqM_self] at hC0
      have HC := hid hC0
      clear hC0
      have x0x := HXx.out.c0
      have x1x := HXx.out.c1
      have x2x := HXx.out.c2
      have xlx := HXx.out.lt
      have x0y := HXy.out.c0
      have x1y := HXy.out.c1
      have x2y := HXy.out.c2
      have xly := HXy.out.lt
      go_wp2_with fail
      refine HC.out.mono ?_
      rintro e w7 ⟨rfl, hb⟩
      clear HC x0x x1x x2x xlx x0y x1y x2y xly
      replace HXa := hid (HXa.out.below hb)
      replace HXb := hid (HXb.out.below hb)
      replace HXx := hid (HXx.out.below hb)
      replace HXy := hid (HXy.out.below hb)
      replace HXu := hid (HXu.out.below hb)
      replace HXv := hid (HXv.out.below hb)
      replace HMa := hid (HMa.out.below hb)
      replace HMb := hid (HMb.out.below hb)
      replace HMx := hid (HMx.out.below hb)
      replace HMy := hid (HMy.out.below hb)
      replace HMu := hid (HMu.out.below hb)
      replace HMv := hid (HMv.out.below hb)
      replace HB := hid (HB.out.trans (hb.mono HB.out.size))
      clear hb
      have hC0 := Equal_any q q anu abu cnu cbu anv abv cnv cbv w7 HMu.out HMv.out
      rw [eqM_self] at hC0
      have HC := hid hC0
      clear hC0
      have x0u := HXu.out.c0
      have x1u := HXu.out.c1
      have x2u := HXu.out.c2
      have xlu := HXu.out.lt
      have x0v := HXv.out.c0
      have x1v := HXv.out.c1
      have x2v := HXv.out.c2
      have xlv := HXv.out.lt
      go_wp2_with fail
      refine HC.out.mono ?_
      rintro e w8 ⟨rfl, hb⟩
      clear HC x0u x1u x2u xlu x0v x1v x2v xlv
      replace HXa := hid (HXa.out.below hb)
      replace HXb := hid (HXb.out.below hb)
      replace HXx := hid (HXx.out.below hb)
      replace HXy := hid (HXy.out.below hb)
      replace HXu := hid (HXu.out.below hb)
      replace HXv := hid (HXv.out.below hb)
      replace HMa := hid (HMa.out.below hb)
      replace HMb := hid (HMb.out.below hb)
      replace HMx := hid (HMx.out.below hb)
      replace HMy := hid (HMy.out.below hb)
      replace HMu := hid (HMu.out.below hb)
      replace HMv := hid (HMv.out.below hb)
      replace HB := hid (HB.out.trans (hb.mono HB.out.size))
      clear hb
      go_wp2_with fail
      refine (Hk.out _).mono ?_; rintro e wk ⟨rfl, hbk⟩
      have hz := HB.out.trans (hbk.mono HB.out.size)
      clear hbk
      go_wp2_with fail
      go_ret
      exact ⟨rfl, hz⟩
    · rw [hL2] at hL0
      clear hL2
      have HL := hid hL0
      clear hL0
      have x0a := HXa.out.c0
      have x1a := HXa.out.c1
      have x2a := HXa.out.c2
      have xla := HXa.out.lt
      have x0b := HXb.out.c0
      have x1b := HXb.out.c1
      have x2b := HXb.out.c2
      have xlb := HXb.out.lt
      go_wp2_with fail
      refine HL.out.mono ?_; rintro e w2 ⟨rfl, hb⟩
      clear HL x0a x1a x2a xla x0b x1b x2b xlb
      replace HXa := hid (HXa.out.below hb)
      replace HXb := hid (HXb.out.below hb)
      replace HMa := hid (HMa.out.below hb)
      replace HMb := hid (HMb.out.below hb)
      replace HB := hid (HB.out.trans (hb.mono HB.out.size))
      clear hb
      go_wp2_with fail
      refine (Hk.out _).mono ?_; rintro e wk ⟨rfl, hbk⟩
      have hz := HB.out.trans (hbk.mono HB.out.size)
      clear hbk
      go_wp2_with fail
      go_ret
      exact ⟨rfl, hz⟩
  · rw [hL] at HL
    clear hL
    go_enter Try.func8, Try.ntmps8
    go_wp2_with fail
    refine HL.out.mono ?_; rintro e w1 ⟨rfl, hb⟩
    clear HL
    replace HXa := hid (HXa.out.below hb)
    replace HXb := hid (HXb.out.below hb)
    replace HMa := hid (HMa.out.below hb)
    replace HMb := hid (HMb.out.below hb)
    replace HB := hid (HB.out.trans (hb.mono HB.out.size))
    clear hb
    go_wp2_with fail
    refine (Hk.out _).mono ?_; rintro e wk ⟨rfl, hbk⟩
    have hz := HB.out.trans (hbk.mono HB.out.size)
    clear hbk
    go_wp2_with fail
    go_ret
    exact ⟨rfl, hz⟩
end Go.Proofs.Ytmllbemjcfkmjaa
