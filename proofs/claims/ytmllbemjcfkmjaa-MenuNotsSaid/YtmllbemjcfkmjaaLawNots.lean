/- 'MenuNots' returns true, whatever the machine. -/
import Derived.Test.YtmllbemjcfkmjaaRBoth
import Derived.Test.YtmllbemjcfkmjaaRounded
import Derived.Test.YtmllbemjcfkmjaaFront
import Derived.Test.YtmllbemjcfkmjaaKnown
import Derived.Test.YtmllbemjcfkmjaaEqual
import Derived.Deep.DeepCutAuto
namespace Go.Proofs.Ytmllbemjcfkmjaa
open Go.RowKit Go.Maps
set_option linter.unusedSimpArgs false
set_option linter.unusedVariables false

/-! ### the words that a machine does not accept; plainly -/
theorem mac_fits {m : Mac} (h : MacOK m) : ∃ F, Found (succL m.L.toNat) (langM m) F ∧ F.length ≤ 64 := by
  have hA := mac_auto h
  have hE := raw_end hA 5100 (raw_len hA 5100)
  refine ⟨forms (macL m) (stepM m) (accM m) (raw (macL m) (stepM m) 5100), forms_found (ac := accM m) hE, ?_⟩
  have h1 := forms_le (ac := accM m) hE
  have h2 := pigeon (bfs_nodup (stepsA (macL m) (stepM m)) 0 5100) (raw_in hA 5100)
  have h3 := h.n64
  unfold raw at *
  omega
theorem gn_fit {L : Nat} {la : Lang} {F : List Lang} (hF : Found (succL L) la F) (h64 : F.length ≤ 64) : gnE 0 L la = 0 ∧ gnM 0 L la = macOf L F := by
  have e := gnF_of hF
  unfold gnE gnM
  rw [e]
  simp [h64]
theorem vis_same {α : Type} [DecidableEq α] (x : α) (l : List α) (h : ∀ y, y ∈ l → y = x) : visL [x] l = [x] := by
  induction l with
  | nil => rfl
  | cons y l ih =>
    have hy := h y (by simp)
    subst hy
    have e : vis [y] y = [y] := vis_mem _ _ (by simp)
    show visL (vis [y] y) l = [y]
    rw [e]
    exact ih fun z hz => h z (by simp [hz])
open Classical in
theorem none_found (L : Nat) : Found (succL L) (fun _ => false : Lang) [fun _ => false] := by
  refine ⟨1, ?_, Nat.le_refl _⟩
  have h0 : bfs (succL L) (fun _ => false : Lang) 0 = [fun _ => false] := rfl
  have h1 : bfs (succL L) (fun _ => false : Lang) 1 = visL [fun _ => false] (succL L (fun _ => false)) := rfl
  rw [h1]
  refine (vis_same _ _ fun y hy => ?_).symm
  obtain ⟨a, _, rfl⟩ := List.mem_map.1 hy
  rfl
theorem nots {m p : Mac} {pe : Int} (hpe : pe = 0) (hF : pe = 0 → IsForm (paiE m m) m.L.toNat (jnL wNot m m) p) :
    ∃ t z : Mac, (gnE (paiE p p) p.L.toNat (jnL wNot p p) = 0 ∧ gnM (paiE p p) p.L.toNat (jnL wNot p p) = t) ∧ (gnE (valE m) m.L.toNat (langM m) = 0 ∧ gnM (valE m) m.L.toNat (langM m) = t) ∧
      (gnE (paiE m p) m.L.toNat (jnL wAnd m p) = 0 ∧ gnM (paiE m p) m.L.toNat (jnL wAnd m p) = z) ∧ z.nx.length = 1 ∧ z.ac = [false] := by
  have h := hF hpe
  obtain ⟨hm, _, _⟩ := paiE_zero.1 h.e
  have h1 := hm.l1
  have h6 := hm.l6
  have hL : p.L = m.L := by rw [h.mL]; omega
  have hp := h.ok (by omega) (by omega)
  have hl := h.lang (jnL_good _ _ _)
  have hpp : paiE p p = 0 := paiE_zero.2 ⟨hp, hp, rfl⟩
  have hmp : paiE m p = 0 := paiE_zero.2 ⟨hm, hp, hL.symm⟩
  have hml : macL p = macL m := by unfold macL; rw [hL]
  have e1 : jnL wNot p p = langM m := by
    funext w
    by_cases hw : ∀ a, a ∈ w → a < macL m
    · rw [jnL_at hpp wNot w (by rw [hml]; exact hw), hl, jnL_at h.e wNot w hw]
      simp [wNot]
    · simp only [Classical.not_forall] at hw
      obtain ⟨a, ha, hn⟩ := hw
      rw [jnL_good wNot p p w ⟨a, ha, by show macL p ≤ a; omega⟩, langM_good m w ⟨a, ha, by omega⟩]
  have e2 : jnL wAnd m p = fun _ => false := by
    rw [jnL_mono hmp (f := wAnd) rfl, hl]
    funext w
    by_cases hw : ∀ a, a ∈ w → a < macL m
    · rw [jnL_at h.e wNot w hw]
      simp [wAnd, wNot]
    · simp only [Classical.not_forall] at hw
      obtain ⟨a, ha, hn⟩ := hw
      rw [langM_good m w ⟨a, ha, by omega⟩]
      rfl
  obtain ⟨F, hF1, h64⟩ := mac_fits hm
  have g1 := gn_fit hF1 h64
  have g2 := gn_fit (none_found m.L.toNat) (by decide)
  refine ⟨macOf m.L.toNat F, macOf m.L.toNat [fun _ => false], ?_, ?_, ?_, rfl, rfl⟩
  · rw [hpp, hL, e1]; exact g1
  · rw [valE_ok hm]; exact g1
  · rw [hmp, e2]; exact g2

set_option maxRecDepth 100000 in
set_option maxHeartbeats 4000000 in
theorem lawNots (W : World) (m : Mac) (a a2 : Option Addr) (cap cap2 : Nat) (hM : MacAt W a cap a2 cap2 m) :
    Calls Try.prog 11 #[.agg #[.int .i64 m.L, .slice a m.nx.length cap, .slice a2 m.ac.length cap2]] W fun e w' => e = .returned (.bool true) ∧ Below W.heap.size W w' := by
  have hb0 := below_alloc W (.cells #[.int .i64 m.L, .slice a m.nx.length cap, .slice a2 m.ac.length cap2] 25)
  have HMa := hid (hM.below hb0)
  have HB := hid hb0
  have HXa := hid (box_new W (.int .i64 m.L) (.slice a m.nx.length cap) (.slice a2 m.ac.length cap2) 25)
  have Hk := hid known_true
  obtain ⟨p, hp⟩ : ∃ p, gnM (paiE m m) m.L.toNat (jnL wNot m m) = p := ⟨_, rfl⟩
  obtain ⟨pe, hpe⟩ : ∃ p, gnE (paiE m m) m.L.toNat (jnL wNot m m) = p := ⟨_, rfl⟩
  have Hp := hid hp
  have Hpe := hid hpe
  have HL := hid (Large_any m a a2 cap cap2 (W.alloc (.cells #[.int .i64 m.L, .slice a m.nx.length cap, .slice a2 m.ac.length cap2] 25)) HMa.out)
  clear hM hb0 hp hpe
  cases hL : lrgB m
  · rw [hL] at HL
    clear hL
    go_enter Try.func11, Try.ntmps11
    go_wp2_with fail
    refine HL.out.mono ?_; rintro e w1 ⟨rfl, hb⟩
    clear HL
    replace HXa := hid (HXa.out.below hb)
    replace HMa := hid (HMa.out.below hb)
    replace HB := hid (HB.out.trans (hb.mono HB.out.size))
    clear hb
    have hC0 := gen_calls (Not_any m a a2 cap cap2 w1 HMa.out)
    rw [Hp.out, Hpe.out] at hC0
    have HC := hid hC0
    clear hC0
    have x0a := HXa.out.c0
    have x1a := HXa.out.c1
    have x2a := HXa.out.c2
    have xla := HXa.out.lt
    go_wp2_with fail
    refine HC.out.mono ?_
    rintro e w2 ⟨anx, cnx, abx, cbx, rfl, hMx, hb, hFx⟩
    have HFx := hid hFx
    clear HC hFx x0a x1a x2a xla 
    replace HXa := hid (HXa.out.below hb)
    replace HMa := hid (HMa.out.below hb)
    replace HB := hid (HB.out.trans (hb.mono HB.out.size))
    clear hb
    have hb := below_alloc w2 (.cells #[.int .i64 p.L, .slice anx p.nx.length cnx, .slice abx p.ac.length cbx] 25)
    replace HXa := hid (HXa.out.below hb)
    replace HMa := hid (HMa.out.below hb)
    replace HB := hid (HB.out.trans (hb.mono HB.out.size))
    have HXx := hid (box_new w2 (.int .i64 p.L) (.slice anx p.nx.length cnx) (.slice abx p.ac.length cbx) 25)
    have HMx := hid (hMx.below hb)
    clear hMx hb
    have hC0 := (rNot_any m a a2 cap cap2 (w2.alloc (.cells #[.int .i64 p.L, .slice anx p.nx.length cnx, .slice abx p.ac.length cbx] 25)) HMa.out).mono (fun e w h => gen_det h)
    rw [Hp.out, Hpe.out] at hC0
    have HC := hid hC0
    clear hC0
    have x0a := HXa.out.c0
    have x1a := HXa.out.c1
    have x2a := HXa.out.c2
    have xla := HXa.out.lt
    go_wp2_with fail
    refine HC.out.mono ?_
    rintro e w3 ⟨any, cny, aby, cby, rfl, hMy, hb⟩
    clear HC x0a x1a x2a xla
    replace HXa := hid (HXa.out.below hb)
    replace HXx := hid (HXx.out.below hb)
    replace HMa := hid (HMa.out.below hb)
    replace HMx := hid (HMx.out.below hb)
    replace HB := hid (HB.out.trans (hb.mono HB.out.size))
    clear hb
    have hb := below_alloc w3 (.cells #[.int .i64 (p).L, .slice any (p).nx.length cny, .slice aby (p).ac.length cby] 25)
    replace HXa := hid (HXa.out.below hb)
    replace HXx := hid (HXx.out.below hb)
    replace HMa := hid (HMa.out.below hb)
    replace HMx := hid (HMx.out.below hb)
    replace HB := hid (HB.out.trans (hb.mono HB.out.size))
    have HXy := hid (box_new w3 (.int .i64 (p).L) (.slice any (p).nx.length cny) (.slice aby (p).ac.length cby) 25)
    have HMy := hid (hMy.below hb)
    clear hMy hb
    have e1 : (pe != pe) = false := by simp
    have hC0 := Equal_any p p anx abx cnx cbx any aby cny cby (w3.alloc (.cells #[.int .i64 (p).L, .slice any (p).nx.length cny, .slice aby (p).ac.length cby] 25)) HMx.out HMy.out
    rw [eqM_self] at hC0
    have HC := hid hC0
    clear hC0
    have x0x := HXx.out.c0
    have x1x := HXx.out.c1
    have x2x := HXx.out.c2
    have xlx := HXx.out.lt
    have x0y := HXy.out.c0
    have x1y := HXy.out.c1
    have x2y := HXy.out.c2
    have xly := HXy.out.lt
    go_wp2_with fail
    refine HC.out.mono ?_
    rintro e w4 ⟨rfl, hb⟩
    clear HC x0x x1x x2x xlx x0y x1y x2y xly
    replace HXa := hid (HXa.out.below hb)
    replace HXx := hid (HXx.out.below hb)
    replace HXy := hid (HXy.out.below hb)
    replace HMa := hid (HMa.out.below hb)
    replace HMx := hid (HMx.out.below hb)
    replace HMy := hid (HMy.out.below hb)
    replace HB := hid (HB.out.trans (hb.mono HB.out.size))
    clear hb e1
    by_cases h0 : pe = 0
    · obtain ⟨tw, z, hT, hP, hZ, hz1, hz2⟩ := nots h0 HFx.out
      have hz3 : z.ac.length = 1 := by rw [hz2]; rfl
      have HT := hid hT
      have HP := hid hP
      have HZ := hid hZ
      have Hz1 := hid hz1
      have Hz2 := hid hz2
      have Hz3 := hid hz3
      clear hT hP hZ hz1 hz2 hz3
      have d1 : (pe == 0) = true := by rw [h0]; rfl
      have d2 : (pe != 0) = false := by rw [bne, d1]; rfl
      clear h0
      have hC0 := (Not_any p anx abx cnx cbx w4 HMx.out).mono (fun e w h => gen_det h)
      rw [HT.out.1, HT.out.2] at hC0
      have HC := hid hC0
      clear hC0
      have x0a := HXa.out.c0
      have x1a := HXa.out.c1
      have x2a := HXa.out.c2
      have xla := HXa.out.lt
      have x0x := HXx.out.c0
      have x1x := HXx.out.c1
      have x2x := HXx.out.c2
      have xlx := HXx.out.lt
      go_wp2_with fail
      refine HC.out.mono ?_
      rintro e w5 ⟨ant, cnt, abt, cbt, rfl, hMt, hb⟩
      clear HC x0a x1a x2a xla x0x x1x x2x xlx
      replace HXa := hid (HXa.out.below hb)
      replace HXx := hid (HXx.out.below hb)
      replace HXy := hid (HXy.out.below hb)
      replace HMa := hid (HMa.out.below hb)
      replace HMx := hid (HMx.out.below hb)
      replace HMy := hid (HMy.out.below hb)
      replace HB := hid (HB.out.trans (hb.mono HB.out.size))
      clear hb
      have hb := below_alloc w5 (.cells #[.int .i64 (tw).L, .slice ant (tw).nx.length cnt, .slice abt (tw).ac.length cbt] 25)
      replace HXa := hid (HXa.out.below hb)
      replace HXx := hid (HXx.out.below hb)
      replace HXy := hid (HXy.out.below hb)
      replace HMa := hid (HMa.out.below hb)
      replace HMx := hid (HMx.out.below hb)
      replace HMy := hid (HMy.out.below hb)
      replace HB := hid (HB.out.trans (hb.mono HB.out.size))
      have HXt := hid (box_new w5 (.int .i64 (tw).L) (.slice ant (tw).nx.length cnt) (.slice abt (tw).ac.length cbt) 25)
      have HMt := hid (hMt.below hb)
      clear hMt hb
      clear d1 d2
      have hC0 := (Plain_any m a a2 cap cap2 (w5.alloc (.cells #[.int .i64 (tw).L, .slice ant (tw).nx.length cnt, .slice abt (tw).ac.length cbt] 25)) HMa.out).mono (fun e w h => gen_det h)
      rw [HP.out.1, HP.out.2] at hC0
      have HC := hid hC0
      clear hC0
      have x0a := HXa.out.c0
      have x1a := HXa.out.c1
      have x2a := HXa.out.c2
      have xla := HXa.out.lt
      go_wp2_with fail
      refine HC.out.mono ?_
      rintro e w6 ⟨anu, cnu, abu, cbu, rfl, hMu, hb⟩
      clear HC x0a x1a x2a xla
      replace HXa := hid (HXa.out.below hb)
      replace HXx := hid (HXx.out.below hb)
      replace HXy := hid (HXy.out.below hb)
      replace HXt := hid (HXt.out.below hb)
      replace HMa := hid (HMa.out.below hb)
      replace HMx := hid (HMx.out.below hb)
      replace HMy := hid (HMy.out.below hb)
      replace HMt := hid (HMt.out.below hb)
      replace HB := hid (HB.out.trans (hb.mono HB.out.size))
      clear hb
      have hb := below_alloc w6 (.cells #[.int .i64 (tw).L, .slice anu (tw).nx.length cnu, .slice abu (tw).ac.length cbu] 25)
      replace HXa := hid (HXa.out.below hb)
      replace HXx := hid (HXx.out.below hb)
      replace HXy := hid (HXy.out.below hb)
      replace HXt := hid (HXt.out.below hb)
      replace HMa := hid (HMa.out.below hb)
      replace HMx := hid (HMx.out.below hb)
      replace HMy := hid (HMy.out.below hb)
      replace HMt := hid (HMt.out.below hb)
      replace HB := hid (HB.out.trans (hb.mono HB.out.size))
      have HXu := hid (box_new w6 (.int .i64 (tw).L) (.slice anu (tw).nx.length cnu) (.slice abu (tw).ac.length cbu) 25)
      have HMu := hid (hMu.below hb)
      clear hMu hb
      have hC0 := (Both_any m p a a2 cap cap2 anx abx cnx cbx (w6.alloc (.cells #[.int .i64 (tw).L, .slice anu (tw).nx.length cnu, .slice abu (tw).ac.length cbu] 25)) HMa.out HMx.out).mono (fun e w h => gen_det h)
      rw [HZ.out.1, HZ.out.2] at hC0
      unfold GenD at hC0
      rw [Hz1.out, Hz3.out] at hC0
      have HC := hid hC0
      clear hC0
      have x0a := HXa.out.c0
      have x1a := HXa.out.c1
      have x2a := HXa.out.c2
      have xla := HXa.out.lt
      have x0x := HXx.out.c0
      have x1x := HXx.out.c1
      have x2x := HXx.out.c2
      have xlx := HXx.out.lt
      go_wp2_with fail
      refine HC.out.mono ?_
      rintro e w7 ⟨anz, cnz, abz, cbz, rfl, hMz, hb⟩
      clear HC x0a x1a x2a xla x0x x1x x2x xlx
      replace HXa := hid (HXa.out.below hb)
      replace HXx := hid (HXx.out.below hb)
      replace HXy := hid (HXy.out.below hb)
      replace HXt := hid (HXt.out.below hb)
      replace HXu := hid (HXu.out.below hb)
      replace HMa := hid (HMa.out.below hb)
      replace HMx := hid (HMx.out.below hb)
      replace HMy := hid (HMy.out.below hb)
      replace HMt := hid (HMt.out.below hb)
      replace HMu := hid (HMu.out.below hb)
      replace HB := hid (HB.out.trans (hb.mono HB.out.size))
      obtain ⟨zb, zo, rfl, hzl, hzc⟩ := hMz.ac 0 (by rw [Hz3.out]; omega)
      rw [Hz2.out] at hzc
      have hba := below_alloc w7 (.cells #[.int .i64 z.L, .slice anz 1 cnz, .slice (some ⟨zb, zo, none⟩) 1 cbz] 25)
      have Hzc := hid (show (w7.alloc (.cells #[.int .i64 z.L, .slice anz 1 cnz, .slice (some ⟨zb, zo, none⟩) 1 cbz] 25)).cell? ⟨zb, zo, none⟩ = some (.bool false) ∧ zb < (w7.alloc (.cells #[.int .i64 z.L, .slice anz 1 cnz, .slice (some ⟨zb, zo, none⟩) 1 cbz] 25)).heap.size from ⟨(hba.cell (p := ⟨zb, zo, none⟩) hzl).trans hzc, by simp; omega⟩)
      clear hb hMz hzl hzc
      have hb := hba
      clear hba
      replace HXa := hid (HXa.out.below hb)
      replace HXx := hid (HXx.out.below hb)
      replace HXy := hid (HXy.out.below hb)
      replace HXt := hid (HXt.out.below hb)
      replace HXu := hid (HXu.out.below hb)
      replace HMa := hid (HMa.out.below hb)
      replace HMx := hid (HMx.out.below hb)
      replace HMy := hid (HMy.out.below hb)
      replace HMt := hid (HMt.out.below hb)
      replace HMu := hid (HMu.out.below hb)
      replace HB := hid (HB.out.trans (hb.mono HB.out.size))
      have HXz := hid (box_new w7 (.int .i64 z.L) (.slice anz 1 cnz) (.slice (some ⟨zb, zo, none⟩) 1 cbz) 25)
      clear hb
      have hC0 := Equal_any tw tw ant abt cnt cbt anu abu cnu cbu (w7.alloc (.cells #[.int .i64 z.L, .slice anz 1 cnz, .slice (some ⟨zb, zo, none⟩) 1 cbz] 25)) HMt.out HMu.out
      rw [eqM_self] at hC0
      have HC := hid hC0
      clear hC0
      have x0t := HXt.out.c0
      have x1t := HXt.out.c1
      have x2t := HXt.out.c2
      have xlt := HXt.out.lt
      have x0u := HXu.out.c0
      have x1u := HXu.out.c1
      have x2u := HXu.out.c2
      have xlu := HXu.out.lt
      go_wp2_with fail
      refine HC.out.mono ?_
      rintro e w9 ⟨rfl, hb⟩
      clear HC x0t x1t x2t xlt x0u x1u x2u xlu
      have z0 := (HXz.out.below hb).c0
      have z1 := (HXz.out.below hb).c1
      have z2 := (HXz.out.below hb).c2
      have zl := (HXz.out.below hb).lt
      have z3 := (hb.cell (p := ⟨zb, zo, none⟩) Hzc.out.2).trans Hzc.out.1
      replace HB := hid (HB.out.trans (hb.mono HB.out.size))
      clear hb
      go_wp2_with fail
      refine (Hk.out _).mono ?_; rintro e wk ⟨rfl, hbk⟩
      have hz := HB.out.trans (hbk.mono HB.out.size)
      clear hbk
      go_wp2_with fail
      go_ret
      exact ⟨rfl, hz⟩
    · have d1 : (pe == 0) = false := beq_eq_false_iff_ne.2 h0
      have d2 : (pe != 0) = true := by rw [bne, d1]; rfl
      clear h0
      go_wp2_with fail
      refine (Hk.out _).mono ?_; rintro e wk ⟨rfl, hbk⟩
      have hz := HB.out.trans (hbk.mono HB.out.size)
      clear hbk
      go_wp2_with fail
      go_ret
      exact ⟨rfl, hz⟩
  · rw [hL] at HL
    clear hL
    go_enter Try.func11, Try.ntmps11
    go_wp2_with fail
    refine HL.out.mono ?_; rintro e w1 ⟨rfl, hb⟩
    clear HL
    replace HXa := hid (HXa.out.below hb)
    replace HMa := hid (HMa.out.below hb)
    replace HB := hid (HB.out.trans (hb.mono HB.out.size))
    clear hb
    go_wp2_with fail
    refine (Hk.out _).mono ?_; rintro e wk ⟨rfl, hbk⟩
    have hz := HB.out.trans (hbk.mono HB.out.size)
    clear hbk
    go_wp2_with fail
    go_ret
    exact ⟨rfl, hz⟩
end Go.Proofs.Ytmllbemjcfkmjaa
