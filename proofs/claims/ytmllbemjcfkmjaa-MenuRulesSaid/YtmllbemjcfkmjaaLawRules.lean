/- 'MenuRules' returns true, whatever the numbers. -/
import Derived.Test.YtmllbemjcfkmjaaRuleDoc
import Derived.Test.YtmllbemjcfkmjaaRounded
import Derived.Test.YtmllbemjcfkmjaaFront
import Derived.Test.YtmllbemjcfkmjaaKnown
import Derived.Test.YtmllbemjcfkmjaaEqual
import Derived.Test.YtmllbemjcfkmjaaRules
import Derived.Deep.DeepCutAuto
namespace Go.Proofs.Ytmllbemjcfkmjaa
open Go.RowKit Go.Maps
set_option linter.unusedSimpArgs false
set_option linter.unusedVariables false

set_option maxRecDepth 100000 in
set_option maxHeartbeats 4000000 in
theorem lawRules (W : World) (L A B : Int) (wL : (Lit.int .i64 L).wf = true) (wA : (Lit.int .i64 A).wf = true) (wB : (Lit.int .i64 B).wf = true) :
    Calls Try.prog 10 #[.agg #[.int .i64 L, .int .i64 A, .int .i64 B]] W fun e w' => e = .returned (.bool true) ∧ Below W.heap.size W w' := by
  clear wL wA wB
  have HB := hid (below_alloc W (.cells #[.int .i64 L, .int .i64 A, .int .i64 B] 51))
  have HXz := hid (box_new W (.int .i64 L) (.int .i64 A) (.int .i64 B) 51)
  have Hk := hid known_true
  obtain ⟨p, hp⟩ : ∃ p, gnM (apE L A) L.toNat (apL L A) = p := ⟨_, rfl⟩
  obtain ⟨pe, hpe⟩ : ∃ p, gnE (apE L A) L.toNat (apL L A) = p := ⟨_, rfl⟩
  have Hp := hid hp
  have Hpe := hid hpe
  clear hp hpe
  obtain ⟨q, hq⟩ : ∃ p, gnM (nvE L A B) L.toNat (laA L.toNat (nvS A B) nvA 0) = p := ⟨_, rfl⟩
  obtain ⟨qe, hqe⟩ : ∃ p, gnE (nvE L A B) L.toNat (laA L.toNat (nvS A B) nvA 0) = p := ⟨_, rfl⟩
  have Hq := hid hq
  have Hqe := hid hqe
  clear hq hqe
  obtain ⟨u, hu⟩ : ∃ p, gnM (cuE L A B) L.toNat (laA L.toNat (cuS A B) (leA B) 0) = p := ⟨_, rfl⟩
  obtain ⟨ue, hue⟩ : ∃ p, gnE (cuE L A B) L.toNat (laA L.toNat (cuS A B) (leA B) 0) = p := ⟨_, rfl⟩
  have Hu := hid hu
  have Hue := hid hue
  clear hu hue
  obtain ⟨v, hv⟩ : ∃ p, gnM (cuE L A B) L.toNat (laA L.toNat (cuS A B) (moA B) 0) = p := ⟨_, rfl⟩
  obtain ⟨ve, hve⟩ : ∃ p, gnE (cuE L A B) L.toNat (laA L.toNat (cuS A B) (moA B) 0) = p := ⟨_, rfl⟩
  have Hv := hid hv
  have Hve := hid hve
  clear hv hve
  go_enter Try.func10, Try.ntmps10
  have hC0 := (Apart_any L A (W.alloc (.cells #[.int .i64 L, .int .i64 A, .int .i64 B] 51))).mono (fun e w h => gen_det h)
  rw [Hp.out, Hpe.out] at hC0
  have HC := hid hC0
  clear hC0
  have x0z := HXz.out.c0
  have x1z := HXz.out.c1
  have x2z := HXz.out.c2
  have xlz := HXz.out.lt
  go_wp2_with fail
  refine HC.out.mono ?_
  rintro e w1 ⟨ana, cna, aba, cba, rfl, hMa, hb⟩
  clear HC x0z x1z x2z xlz
  replace HXz := hid (HXz.out.below hb)
  replace HB := hid (HB.out.trans (hb.mono HB.out.size))
  clear hb
  have hb := below_alloc w1 (.cells #[.int .i64 (p).L, .slice ana (p).nx.length cna, .slice aba (p).ac.length cba] 25)
  replace HXz := hid (HXz.out.below hb)
  replace HB := hid (HB.out.trans (hb.mono HB.out.size))
  have HXa := hid (box_new w1 (.int .i64 (p).L) (.slice ana (p).nx.length cna) (.slice aba (p).ac.length cba) 25)
  have HMa := hid (hMa.below hb)
  clear hMa hb
  have hC0 := (rApart_any L A (w1.alloc (.cells #[.int .i64 (p).L, .slice ana (p).nx.length cna, .slice aba (p).ac.length cba] 25))).mono (fun e w h => gen_det h)
  rw [Hp.out, Hpe.out] at hC0
  have HC := hid hC0
  clear hC0
  have x0z := HXz.out.c0
  have x1z := HXz.out.c1
  have x2z := HXz.out.c2
  have xlz := HXz.out.lt
  go_wp2_with fail
  refine HC.out.mono ?_
  rintro e w2 ⟨anb, cnb, abb, cbb, rfl, hMb, hb⟩
  clear HC x0z x1z x2z xlz
  replace HXz := hid (HXz.out.below hb)
  replace HXa := hid (HXa.out.below hb)
  replace HMa := hid (HMa.out.below hb)
  replace HB := hid (HB.out.trans (hb.mono HB.out.size))
  clear hb
  have hb := below_alloc w2 (.cells #[.int .i64 (p).L, .slice anb (p).nx.length cnb, .slice abb (p).ac.length cbb] 25)
  replace HXz := hid (HXz.out.below hb)
  replace HXa := hid (HXa.out.below hb)
  replace HMa := hid (HMa.out.below hb)
  replace HB := hid (HB.out.trans (hb.mono HB.out.size))
  have HXb := hid (box_new w2 (.int .i64 (p).L) (.slice anb (p).nx.length cnb) (.slice abb (p).ac.length cbb) 25)
  have HMb := hid (hMb.below hb)
  clear hMb hb
  have hC0 := (Never_any L A B (w2.alloc (.cells #[.int .i64 (p).L, .slice anb (p).nx.length cnb, .slice abb (p).ac.length cbb] 25))).mono (fun e w h => gen_det h)
  rw [Hq.out, Hqe.out] at hC0
  have HC := hid hC0
  clear hC0
  have x0z := HXz.out.c0
  have x1z := HXz.out.c1
  have x2z := HXz.out.c2
  have xlz := HXz.out.lt
  go_wp2_with fail
  refine HC.out.mono ?_
  rintro e w3 ⟨anc, cnc, abc, cbc, rfl, hMc, hb⟩
  clear HC x0z x1z x2z xlz
  replace HXz := hid (HXz.out.below hb)
  replace HXa := hid (HXa.out.below hb)
  replace HXb := hid (HXb.out.below hb)
  replace HMa := hid (HMa.out.below hb)
  replace HMb := hid (HMb.out.below hb)
  replace HB := hid (HB.out.trans (hb.mono HB.out.size))
  clear hb
  have hb := below_alloc w3 (.cells #[.int .i64 (q).L, .slice anc (q).nx.length cnc, .slice abc (q).ac.length cbc] 25)
  replace HXz := hid (HXz.out.below hb)
  replace HXa := hid (HXa.out.below hb)
  replace HXb := hid (HXb.out.below hb)
  replace HMa := hid (HMa.out.below hb)
  replace HMb := hid (HMb.out.below hb)
  replace HB := hid (HB.out.trans (hb.mono HB.out.size))
  have HXc := hid (box_new w3 (.int .i64 (q).L) (.slice anc (q).nx.length cnc) (.slice abc (q).ac.length cbc) 25)
  have HMc := hid (hMc.below hb)
  clear hMc hb
  have hC0 := (rNever_any L A B (w3.alloc (.cells #[.int .i64 (q).L, .slice anc (q).nx.length cnc, .slice abc (q).ac.length cbc] 25))).mono (fun e w h => gen_det h)
  rw [Hq.out, Hqe.out] at hC0
  have HC := hid hC0
  clear hC0
  have x0z := HXz.out.c0
  have x1z := HXz.out.c1
  have x2z := HXz.out.c2
  have xlz := HXz.out.lt
  go_wp2_with fail
  refine HC.out.mono ?_
  rintro e w4 ⟨and, cnd, abd, cbd, rfl, hMd, hb⟩
  clear HC x0z x1z x2z xlz
  replace HXz := hid (HXz.out.below hb)
  replace HXa := hid (HXa.out.below hb)
  replace HXb := hid (HXb.out.below hb)
  replace HXc := hid (HXc.out.below hb)
  replace HMa := hid (HMa.out.below hb)
  replace HMb := hid (HMb.out.below hb)
  replace HMc := hid (HMc.out.below hb)
  replace HB := hid (HB.out.trans (hb.mono HB.out.size))
  clear hb
  have hb := below_alloc w4 (.cells #[.int .i64 (q).L, .slice and (q).nx.length cnd, .slice abd (q).ac.length cbd] 25)
  replace HXz := hid (HXz.out.below hb)
  replace HXa := hid (HXa.out.below hb)
  replace HXb := hid (HXb.out.below hb)
  replace HXc := hid (HXc.out.below hb)
  replace HMa := hid (HMa.out.below hb)
  replace HMb := hid (HMb.out.below hb)
  replace HMc := hid (HMc.out.below hb)
  replace HB := hid (HB.out.trans (hb.mono HB.out.size))
  have HXd := hid (box_new w4 (.int .i64 (q).L) (.slice and (q).nx.length cnd) (.slice abd (q).ac.length cbd) 25)
  have HMd := hid (hMd.below hb)
  clear hMd hb
  have e1 : (pe == pe) = true := beq_self_eq_true _
  have e2 : (qe == qe) = true := beq_self_eq_true _
  have e3 : (pe != pe) = false := bne_self_eq_false _
  have e4 : (qe != qe) = false := bne_self_eq_false _
  have hC0 := Equal_any p p ana aba cna cba anb abb cnb cbb (w4.alloc (.cells #[.int .i64 (q).L, .slice and (q).nx.length cnd, .slice abd (q).ac.length cbd] 25)) HMa.out HMb.out
  rw [eqM_self] at hC0
  have HC := hid hC0
  clear hC0
  have x0a := HXa.out.c0
  have x1a := HXa.out.c1
  have x2a := HXa.out.c2
  have xla := HXa.out.lt
  have x0b := HXb.out.c0
  have x1b := HXb.out.c1
  have x2b := HXb.out.c2
  have xlb := HXb.out.lt
  go_wp2_with fail
  refine HC.out.mono ?_
  rintro e w5 ⟨rfl, hb⟩
  clear HC x0a x1a x2a xla x0b x1b x2b xlb
  replace HXz := hid (HXz.out.below hb)
  replace HXa := hid (HXa.out.below hb)
  replace HXb := hid (HXb.out.below hb)
  replace HXc := hid (HXc.out.below hb)
  replace HXd := hid (HXd.out.below hb)
  replace HMa := hid (HMa.out.below hb)
  replace HMb := hid (HMb.out.below hb)
  replace HMc := hid (HMc.out.below hb)
  replace HMd := hid (HMd.out.below hb)
  replace HB := hid (HB.out.trans (hb.mono HB.out.size))
  clear hb
  have hC0 := Equal_any q q anc abc cnc cbc and abd cnd cbd w5 HMc.out HMd.out
  rw [eqM_self] at hC0
  have HC := hid hC0
  clear hC0
  have x0c := HXc.out.c0
  have x1c := HXc.out.c1
  have x2c := HXc.out.c2
  have xlc := HXc.out.lt
  have x0d := HXd.out.c0
  have x1d := HXd.out.c1
  have x2d := HXd.out.c2
  have xld := HXd.out.lt
  go_wp2_with fail
  refine HC.out.mono ?_
  rintro e w6 ⟨rfl, hb⟩
  clear HC x0c x1c x2c xlc x0d x1d x2d xld
  replace HXz := hid (HXz.out.below hb)
  replace HXa := hid (HXa.out.below hb)
  replace HXb := hid (HXb.out.below hb)
  replace HXc := hid (HXc.out.below hb)
  replace HXd := hid (HXd.out.below hb)
  replace HMa := hid (HMa.out.below hb)
  replace HMb := hid (HMb.out.below hb)
  replace HMc := hid (HMc.out.below hb)
  replace HMd := hid (HMd.out.below hb)
  replace HB := hid (HB.out.trans (hb.mono HB.out.size))
  clear hb
  have hC0 := (Least_any L A B w6).mono (fun e w h => gen_det h)
  rw [Hu.out, Hue.out] at hC0
  have HC := hid hC0
  clear hC0
  have x0z := HXz.out.c0
  have x1z := HXz.out.c1
  have x2z := HXz.out.c2
  have xlz := HXz.out.lt
  go_wp2_with fail
  refine HC.out.mono ?_
  rintro e w7 ⟨anf, cnf, abf, cbf, rfl, hMf, hb⟩
  clear HC x0z x1z x2z xlz
  replace HXz := hid (HXz.out.below hb)
  replace HXa := hid (HXa.out.below hb)
  replace HXb := hid (HXb.out.below hb)
  replace HXc := hid (HXc.out.below hb)
  replace HXd := hid (HXd.out.below hb)
  replace HMa := hid (HMa.out.below hb)
  replace HMb := hid (HMb.out.below hb)
  replace HMc := hid (HMc.out.below hb)
  replace HMd := hid (HMd.out.below hb)
  replace HB := hid (HB.out.trans (hb.mono HB.out.size))
  clear hb
  have hb := below_alloc w7 (.cells #[.int .i64 (u).L, .slice anf (u).nx.length cnf, .slice abf (u).ac.length cbf] 25)
  replace HXz := hid (HXz.out.below hb)
  replace HXa := hid (HXa.out.below hb)
  replace HXb := hid (HXb.out.below hb)
  replace HXc := hid (HXc.out.below hb)
  replace HXd := hid (HXd.out.below hb)
  replace HMa := hid (HMa.out.below hb)
  replace HMb := hid (HMb.out.below hb)
  replace HMc := hid (HMc.out.below hb)
  replace HMd := hid (HMd.out.below hb)
  replace HB := hid (HB.out.trans (hb.mono HB.out.size))
  have HXf := hid (box_new w7 (.int .i64 (u).L) (.slice anf (u).nx.length cnf) (.slice abf (u).ac.length cbf) 25)
  have HMf := hid (hMf.below hb)
  clear hMf hb
  have hC0 := (rLeast_any L A B (w7.alloc (.cells #[.int .i64 (u).L, .slice anf (u).nx.length cnf, .slice abf (u).ac.length cbf] 25))).mono (fun e w h => gen_det h)
  rw [Hu.out, Hue.out] at hC0
  have HC := hid hC0
  clear hC0
  have x0z := HXz.out.c0
  have x1z := HXz.out.c1
  have x2z := HXz.out.c2
  have xlz := HXz.out.lt
  go_wp2_with fail
  refine HC.out.mono ?_
  rintro e w8 ⟨ang, cng, abg, cbg, rfl, hMg, hb⟩
  clear HC x0z x1z x2z xlz
  replace HXz := hid (HXz.out.below hb)
  replace HXa := hid (HXa.out.below hb)
  replace HXb := hid (HXb.out.below hb)
  replace HXc := hid (HXc.out.below hb)
  replace HXd := hid (HXd.out.below hb)
  replace HXf := hid (HXf.out.below hb)
  replace HMa := hid (HMa.out.below hb)
  replace HMb := hid (HMb.out.below hb)
  replace HMc := hid (HMc.out.below hb)
  replace HMd := hid (HMd.out.below hb)
  replace HMf := hid (HMf.out.below hb)
  replace HB := hid (HB.out.trans (hb.mono HB.out.size))
  clear hb
  have hb := below_alloc w8 (.cells #[.int .i64 (u).L, .slice ang (u).nx.length cng, .slice abg (u).ac.length cbg] 25)
  replace HXz := hid (HXz.out.below hb)
  replace HXa := hid (HXa.out.below hb)
  replace HXb := hid (HXb.out.below hb)
  replace HXc := hid (HXc.out.below hb)
  replace HXd := hid (HXd.out.below hb)
  replace HXf := hid (HXf.out.below hb)
  replace HMa := hid (HMa.out.below hb)
  replace HMb := hid (HMb.out.below hb)
  replace HMc := hid (HMc.out.below hb)
  replace HMd := hid (HMd.out.below hb)
  replace HMf := hid (HMf.out.below hb)
  replace HB := hid (HB.out.trans (hb.mono HB.out.size))
  have HXg := hid (box_new w8 (.int .i64 (u).L) (.slice ang (u).nx.length cng) (.slice abg (u).ac.length cbg) 25)
  have HMg := hid (hMg.below hb)
  clear hMg hb
  have hC0 := (Most_any L A B (w8.alloc (.cells #[.int .i64 (u).L, .slice ang (u).nx.length cng, .slice abg (u).ac.length cbg] 25))).mono (fun e w h => gen_det h)
  rw [Hv.out, Hve.out] at hC0
  have HC := hid hC0
  clear hC0
  have x0z := HXz.out.c0
  have x1z := HXz.out.c1
  have x2z := HXz.out.c2
  have xlz := HXz.out.lt
  go_wp2_with fail
  refine HC.out.mono ?_
  rintro e w9 ⟨anh, cnh, abh, cbh, rfl, hMh, hb⟩
  clear HC x0z x1z x2z xlz
  replace HXz := hid (HXz.out.below hb)
  replace HXa := hid (HXa.out.below hb)
  replace HXb := hid (HXb.out.below hb)
  replace HXc := hid (HXc.out.below hb)
  replace HXd := hid (HXd.out.below hb)
  replace HXf := hid (HXf.out.below hb)
  replace HXg := hid (HXg.out.below hb)
  replace HMa := hid (HMa.out.below hb)
  replace HMb := hid (HMb.out.below hb)
  replace HMc := hid (HMc.out.below hb)
  replace HMd := hid (HMd.out.below hb)
  replace HMf := hid (HMf.out.below hb)
  replace HMg := hid (HMg.out.below hb)
  replace HB := hid (HB.out.trans (hb.mono HB.out.size))
  clear hb
  have hb := below_alloc w9 (.cells #[.int .i64 (v).L, .slice anh (v).nx.length cnh, .slice abh (v).ac.length cbh] 25)
  replace HXz := hid (HXz.out.below hb)
  replace HXa := hid (HXa.out.below hb)
  replace HXb := hid (HXb.out.below hb)
  replace HXc := hid (HXc.out.below hb)
  replace HXd := hid (HXd.out.below hb)
  replace HXf := hid (HXf.out.below hb)
  replace HXg := hid (HXg.out.below hb)
  replace HMa := hid (HMa.out.below hb)
  replace HMb := hid (HMb.out.below hb)
  replace HMc := hid (HMc.out.below hb)
  replace HMd := hid (HMd.out.below hb)
  replace HMf := hid (HMf.out.below hb)
  replace HMg := hid (HMg.out.below hb)
  replace HB := hid (HB.out.trans (hb.mono HB.out.size))
  have HXh := hid (box_new w9 (.int .i64 (v).L) (.slice anh (v).nx.length cnh) (.slice abh (v).ac.length cbh) 25)
  have HMh := hid (hMh.below hb)
  clear hMh hb
  have hC0 := (rMost_any L A B (w9.alloc (.cells #[.int .i64 (v).L, .slice anh (v).nx.length cnh, .slice abh (v).ac.length cbh] 25))).mono (fun e w h => gen_det h)
  rw [Hv.out, Hve.out] at hC0
  have HC := hid hC0
  clear hC0
  have x0z := HXz.out.c0
  have x1z := HXz.out.c1
  have x2z := HXz.out.c2
  have xlz := HXz.out.lt
  go_wp2_with fail
  refine HC.out.mono ?_
  rintro e w10 ⟨ani, cni, abi, cbi, rfl, hMi, hb⟩
  clear HC x0z x1z x2z xlz
  replace HXz := hid (HXz.out.below hb)
  replace HXa := hid (HXa.out.below hb)
  replace HXb := hid (HXb.out.below hb)
  replace HXc := hid (HXc.out.below hb)
  replace HXd := hid (HXd.out.below hb)
  replace HXf := hid (HXf.out.below hb)
  replace HXg := hid (HXg.out.below hb)
  replace HXh := hid (HXh.out.below hb)
  replace HMa := hid (HMa.out.below hb)
  replace HMb := hid (HMb.out.below hb)
  replace HMc := hid (HMc.out.below hb)
  replace HMd := hid (HMd.out.below hb)
  replace HMf := hid (HMf.out.below hb)
  replace HMg := hid (HMg.out.below hb)
  replace HMh := hid (HMh.out.below hb)
  replace HB := hid (HB.out.trans (hb.mono HB.out.size))
  clear hb
  have hb := below_alloc w10 (.cells #[.int .i64 (v).L, .slice ani (v).nx.length cni, .slice abi (v).ac.length cbi] 25)
  replace HXz := hid (HXz.out.below hb)
  replace HXa := hid (HXa.out.below hb)
  replace HXb := hid (HXb.out.below hb)
  replace HXc := hid (HXc.out.below hb)
  replace HXd := hid (HXd.out.below hb)
  replace HXf := hid (HXf.out.below hb)
  replace HXg := hid (HXg.out.below hb)
  replace HXh := hid (HXh.out.below hb)
  replace HMa := hid (HMa.out.below hb)
  replace HMb := hid (HMb.out.below hb)
  replace HMc := hid (HMc.out.below hb)
  replace HMd := hid (HMd.out.below hb)
  replace HMf := hid (HMf.out.below hb)
  replace HMg := hid (HMg.out.below hb)
  replace HMh := hid (HMh.out.below hb)
  replace HB := hid (HB.out.trans (hb.mono HB.out.size))
  have HXi := hid (box_new w10 (.int .i64 (v).L) (.slice ani (v).nx.length cni) (.slice abi (v).ac.length cbi) 25)
  have HMi := hid (hMi.below hb)
  clear hMi hb
  have e5 : (ue == ue) = true := beq_self_eq_true _
  have e6 : (ve == ve) = true := beq_self_eq_true _
  have hC0 := Equal_any u u anf abf cnf cbf ang abg cng cbg (w10.alloc (.cells #[.int .i64 (v).L, .slice ani (v).nx.length cni, .slice abi (v).ac.length cbi] 25)) HMf.out HMg.out
  rw [eqM_self] at hC0
  have HC := hid hC0
  clear hC0
  have x0f := HXf.out.c0
  have x1f := HXf.out.c1
  have x2f := HXf.out.c2
  have xlf := HXf.out.lt
  have x0g := HXg.out.c0
  have x1g := HXg.out.c1
  have x2g := HXg.out.c2
  have xlg := HXg.out.lt
  go_wp2_with fail
  refine HC.out.mono ?_
  rintro e w11 ⟨rfl, hb⟩
  clear HC x0f x1f x2f xlf x0g x1g x2g xlg
  replace HXz := hid (HXz.out.below hb)
  replace HXa := hid (HXa.out.below hb)
  replace HXb := hid (HXb.out.below hb)
  replace HXc := hid (HXc.out.below hb)
  replace HXd := hid (HXd.out.below hb)
  replace HXf := hid (HXf.out.below hb)
  replace HXg := hid (HXg.out.below hb)
  replace HXh := hid (HXh.out.below hb)
  replace HXi := hid (HXi.out.below hb)
  replace HMa := hid (HMa.out.below hb)
  replace HMb := hid (HMb.out.below hb)
  replace HMc := hid (HMc.out.below hb)
  replace HMd := hid (HMd.out.below hb)
  replace HMf := hid (HMf.out.below hb)
  replace HMg := hid (HMg.out.below hb)
  replace HMh := hid (HMh.out.below hb)
  replace HMi := hid (HMi.out.below hb)
  replace HB := hid (HB.out.trans (hb.mono HB.out.size))
  clear hb
  have hC0 := Equal_any v v anh abh cnh cbh ani abi cni cbi w11 HMh.out HMi.out
  rw [eqM_self] at hC0
  have HC := hid hC0
  clear hC0
  have x0h := HXh.out.c0
  have x1h := HXh.out.c1
  have x2h := HXh.out.c2
  have xlh := HXh.out.lt
  have x0i := HXi.out.c0
  have x1i := HXi.out.c1
  have x2i := HXi.out.c2
  have xli := HXi.out.lt
  go_wp2_with fail
  refine HC.out.mono ?_
  rintro e w12 ⟨rfl, hb⟩
  clear HC x0h x1h x2h xlh x0i x1i x2i xli
  replace HXz := hid (HXz.out.below hb)
  replace HXa := hid (HXa.out.below hb)
  replace HXb := hid (HXb.out.below hb)
  replace HXc := hid (HXc.out.below hb)
  replace HXd := hid (HXd.out.below hb)
  replace HXf := hid (HXf.out.below hb)
  replace HXg := hid (HXg.out.below hb)
  replace HXh := hid (HXh.out.below hb)
  replace HXi := hid (HXi.out.below hb)
  replace HMa := hid (HMa.out.below hb)
  replace HMb := hid (HMb.out.below hb)
  replace HMc := hid (HMc.out.below hb)
  replace HMd := hid (HMd.out.below hb)
  replace HMf := hid (HMf.out.below hb)
  replace HMg := hid (HMg.out.below hb)
  replace HMh := hid (HMh.out.below hb)
  replace HMi := hid (HMi.out.below hb)
  replace HB := hid (HB.out.trans (hb.mono HB.out.size))
  clear hb
  go_wp2_with fail
  refine (Hk.out _).mono ?_; rintro e wk ⟨rfl, hbk⟩
  have hz := HB.out.trans (hbk.mono HB.out.size)
  clear hbk
  go_wp2_with fail
  go_ret
  exact ⟨rfl, hz⟩
end Go.Proofs.Ytmllbemjcfkmjaa
