/- 'TopMenus' returns true, whatever the numbers and the word. -/
import Derived.Test.YtmllbemjcfkmjaaRounded
import Derived.Test.YtmllbemjcfkmjaaMeanLaw
import Derived.Test.YtmllbemjcfkmjaaKnown
import Derived.Test.YtmllbemjcfkmjaaFront
import Derived.Test.YtmllbemjcfkmjaaRound
import Derived.Test.YtmllbemjcfkmjaaGenOne
import Derived.Deep.DeepCutAuto
namespace Go.Proofs.Ytmllbemjcfkmjaa
open Go.RowKit Go.Maps
set_option linter.unusedSimpArgs false
set_option linter.unusedVariables false
structure Box7 (H : Nat) (w : World) (x0 x1 x2 x3 x4 x5 x6 : Value) : Prop where
  c0 : w.cell? ⟨H, 0, none⟩ = some x0
  c1 : w.cell? ⟨H, 1, none⟩ = some x1
  c2 : w.cell? ⟨H, 2, none⟩ = some x2
  c3 : w.cell? ⟨H, 3, none⟩ = some x3
  c4 : w.cell? ⟨H, 4, none⟩ = some x4
  c5 : w.cell? ⟨H, 5, none⟩ = some x5
  c6 : w.cell? ⟨H, 6, none⟩ = some x6
  lt : H < w.heap.size
theorem Box7.below {H : Nat} {w w' : World} {x0 x1 x2 x3 x4 x5 x6 : Value} (h : Box7 H w x0 x1 x2 x3 x4 x5 x6) (hb : Below w.heap.size w w') : Box7 H w' x0 x1 x2 x3 x4 x5 x6 :=
  ⟨(hb.cell (p := ⟨H, 0, none⟩) h.lt).trans h.c0, (hb.cell (p := ⟨H, 1, none⟩) h.lt).trans h.c1, (hb.cell (p := ⟨H, 2, none⟩) h.lt).trans h.c2, (hb.cell (p := ⟨H, 3, none⟩) h.lt).trans h.c3, (hb.cell (p := ⟨H, 4, none⟩) h.lt).trans h.c4, (hb.cell (p := ⟨H, 5, none⟩) h.lt).trans h.c5, (hb.cell (p := ⟨H, 6, none⟩) h.lt).trans h.c6, Nat.lt_of_lt_of_le h.lt hb.size⟩
theorem box7_new (w : World) (x0 x1 x2 x3 x4 x5 x6 : Value) (t : TypeId) : Box7 w.heap.size (w.alloc (.cells #[x0, x1, x2, x3, x4, x5, x6] t)) x0 x1 x2 x3 x4 x5 x6 := by
  refine ⟨?_, ?_, ?_, ?_, ?_, ?_, ?_, by simp⟩ <;> simp
theorem wod_of {m : Mac} (h : MacOK m) (xs : List Int) : wodE m xs = wrdE m.L xs := wodE_ok (valE_ok h) xs
theorem acc_both {m k M : Mac} (hp : paiE m k = 0) (hM : langM M = jnL wAnd m k) (hO : MacOK M) (hL : M.L = m.L) {xs : List Int} (h : WordOK m.L xs) : accB M xs = (accB m xs && accB k xs) := by
  obtain ⟨h1, h2, h3⟩ := paiE_zero.1 hp
  rw [acc_lang (m := M) (wodE_zero.2 ⟨hO, by rw [hL]; exact h⟩), acc_lang (m := m) (wodE_zero.2 ⟨h1, h⟩), acc_lang (m := k) (wodE_zero.2 ⟨h2, by rw [← h3]; exact h⟩), hM, jnL_mono hp (f := wAnd) rfl]
  rfl
theorem rnd_acc {m : Mac} {xs : List Int} (h : rndB m xs = true) : accB m xs = true ∧ wodE m xs = 0 := by
  have h0 : wodE m xs = 0 := by
    by_cases hw : wodE m xs = 0
    · exact hw
    · rw [rnd_bad hw] at h; cases h
  exact ⟨by rw [accB_ok h0]; exact rnd_of h 0, h0⟩
/-- What the five machines say of a word. -/
structure Five (A B C T M : Mac) (L : Int) (xs : List Int) (we : Int) (p q r s : Bool) : Prop where
  wA : wodE A xs = we
  wB : wodE B xs = we
  wC : wodE C xs = we
  wM : wodE M xs = we
  aA : accB A xs = p
  aB : accB B xs = q
  aC : accB C xs = r
  aM : accB M xs = s
theorem five {A B C T M : Mac} {L : Int} (oA : MacOK A) (oB : MacOK B) (oC : MacOK C) (oT : MacOK T) (oM : MacOK M) (lA : A.L = L) (lB : B.L = L) (lC : C.L = L) (lT : T.L = L) (lM : M.L = L)
    (hT : langM T = jnL wAnd A B) (hM : langM M = jnL wAnd T C) (xs : List Int) :
    (∃ we, we ≠ 0 ∧ wrdE L xs = we ∧ Five A B C T M L xs we false false false false) ∨ (WordOK L xs ∧ ∃ p q r, Five A B C T M L xs 0 p q r ((p && q) && r)) := by
  by_cases hw : WordOK L xs
  · refine .inr ⟨hw, accB A xs, accB B xs, accB C xs, ?_⟩
    have h0 := wrdE_ok hw
    have e1 : accB T xs = (accB A xs && accB B xs) := acc_both (paiE_zero.2 ⟨oA, oB, by rw [lA, lB]⟩) hT oT (by rw [lT, lA]) (by rw [lA]; exact hw)
    have e2 : accB M xs = (accB T xs && accB C xs) := acc_both (paiE_zero.2 ⟨oT, oC, by rw [lT, lC]⟩) hM oM (by rw [lM, lT]) (by rw [lT]; exact hw)
    exact ⟨by rw [wod_of oA, lA, h0], by rw [wod_of oB, lB, h0], by rw [wod_of oC, lC, h0], by rw [wod_of oM, lM, h0], rfl, rfl, rfl, by rw [e2, e1]⟩
  · have h0 : wrdE L xs ≠ 0 := fun h => hw (wrdE_zero.1 h)
    refine .inl ⟨_, h0, rfl, ?_⟩
    have k : ∀ m : Mac, MacOK m → m.L = L → wodE m xs = wrdE L xs ∧ accB m xs = false := fun m o l => by
      have e : wodE m xs = wrdE L xs := by rw [wod_of o, l]
      exact ⟨e, accB_bad (by rw [e]; exact h0)⟩
    exact ⟨(k A oA lA).1, (k B oB lB).1, (k C oC lC).1, (k M oM lM).1, (k A oA lA).2, (k B oB lB).2, (k C oC lC).2, (k M oM lM).2⟩

set_option maxRecDepth 100000 in
set_option maxHeartbeats 4000000 in
theorem lawTopMenus (W : World) (L : Int) (wL : (Lit.int .i64 L).wf = true) (A Le T P Q N R : Int) (wN : (Lit.int .i64 N).wf = true) (wR : (Lit.int .i64 R).wf = true) (ax : Option Addr) (xs : List Int) (cx : Nat) (hI : IntsAt W ax xs) (hlc : xs.length ≤ cx) (hcm : cx ≤ maxLen) (hwf : ∀ i, i < xs.length → (Lit.int .i64 (nth xs i)).wf = true) :
    Calls Try.prog 17 #[.int .i64 L, .agg #[.int .i64 A, .int .i64 Le, .int .i64 T, .int .i64 P, .int .i64 Q, .int .i64 N, .int .i64 R], .slice ax xs.length cx] W fun e w' => e = .returned (.bool true) ∧ Below W.heap.size W w' := by
  have hl : xs.length ≤ maxLen := Nat.le_trans hlc hcm
  have Hl := hid hl
  have hb0 := below_alloc W (.cells #[.int .i64 A, .int .i64 Le, .int .i64 T, .int .i64 P, .int .i64 Q, .int .i64 N, .int .i64 R] 69)
  have HIx := hid (hI.below hb0)
  have HB := hid hb0
  have HXt := hid (box7_new W (.int .i64 A) (.int .i64 Le) (.int .i64 T) (.int .i64 P) (.int .i64 Q) (.int .i64 N) (.int .i64 R) 69)
  have HA3 := hid (apart32 (W.alloc (.cells #[.int .i64 A, .int .i64 Le, .int .i64 T, .int .i64 P, .int .i64 Q, .int .i64 N, .int .i64 R] 69)))
  clear hwf hI hb0 hlc hcm wL hl
  go_enter Try.func17, Try.ntmps17
  go_wp2_with fail
  refine HA3.out.mono ?_
  rintro e w1 ⟨a3, k3, b3, l3, rfl, h3, hb⟩
  clear HA3 h3
  replace HXt := hid (HXt.out.below hb)
  replace HIx := hid (HIx.out.below hb)
  replace HB := hid (HB.out.trans (hb.mono HB.out.size))
  clear hb
  have hb := below_alloc w1 (.cells #[.int .i64 3, .slice a3 5 k3, .slice b3 5 l3] 25)
  replace HXt := hid (HXt.out.below hb)
  replace HIx := hid (HIx.out.below hb)
  replace HB := hid (HB.out.trans (hb.mono HB.out.size))
  clear hb
  by_cases h200 : 200 < xs.length
  · have d : (200 : Int) < (xs.length : Int) := by omega
    go_wp2_with fail
    go_ret
    exact ⟨rfl, HB.out⟩
  have d : ¬ (200 : Int) < (xs.length : Int) := by omega
  obtain ⟨mA, EA, hCA, hzA, hfA⟩ := gen_pack (Apart_any L A (w1.alloc (.cells #[.int .i64 3, .slice a3 5 k3, .slice b3 5 l3] 25)))
  have HfA := hid hfA
  clear hzA hfA
  have HC := hid hCA
  clear hCA
  have x0t := HXt.out.c0
  have x1t := HXt.out.c1
  have x2t := HXt.out.c2
  have x3t := HXt.out.c3
  have x4t := HXt.out.c4
  have x5t := HXt.out.c5
  have x6t := HXt.out.c6
  have xlt := HXt.out.lt
  go_wp2_with fail
  refine HC.out.mono ?_
  rintro e w2 ⟨anA, cnA, abA, cbA, rfl, hMA, hb, hFA⟩
  have HFA := hid hFA
  clear HC hFA x0t x1t x2t x3t x4t x5t x6t xlt d h200
  replace HXt := hid (HXt.out.below hb)
  replace HIx := hid (HIx.out.below hb)
  replace HB := hid (HB.out.trans (hb.mono HB.out.size))
  clear hb
  have hb := below_alloc w2 (.cells #[.int .i64 mA.L, .slice anA mA.nx.length cnA, .slice abA mA.ac.length cbA] 25)
  replace HXt := hid (HXt.out.below hb)
  replace HIx := hid (HIx.out.below hb)
  replace HB := hid (HB.out.trans (hb.mono HB.out.size))
  have HXA := hid (box_new w2 (.int .i64 mA.L) (.slice anA mA.nx.length cnA) (.slice abA mA.ac.length cbA) 25)
  have HMA := hid (hMA.below hb)
  clear hMA hb
  obtain ⟨mB, EB, hCB, hzB, hfB⟩ := gen_pack (Least_any L Le T (w2.alloc (.cells #[.int .i64 mA.L, .slice anA mA.nx.length cnA, .slice abA mA.ac.length cbA] 25)))
  have HfB := hid hfB
  clear hzB hfB
  have HC := hid hCB
  clear hCB
  have x0t := HXt.out.c0
  have x1t := HXt.out.c1
  have x2t := HXt.out.c2
  have x3t := HXt.out.c3
  have x4t := HXt.out.c4
  have x5t := HXt.out.c5
  have x6t := HXt.out.c6
  have xlt := HXt.out.lt
  go_wp2_with fail
  refine HC.out.mono ?_
  rintro e w3 ⟨anB, cnB, abB, cbB, rfl, hMB, hb, hFB⟩
  have HFB := hid hFB
  clear HC hFB x0t x1t x2t x3t x4t x5t x6t xlt
  replace HXA := hid (HXA.out.below hb)
  replace HXt := hid (HXt.out.below hb)
  replace HMA := hid (HMA.out.below hb)
  replace HIx := hid (HIx.out.below hb)
  replace HB := hid (HB.out.trans (hb.mono HB.out.size))
  clear hb
  have hb := below_alloc w3 (.cells #[.int .i64 mB.L, .slice anB mB.nx.length cnB, .slice abB mB.ac.length cbB] 25)
  replace HXA := hid (HXA.out.below hb)
  replace HXt := hid (HXt.out.below hb)
  replace HMA := hid (HMA.out.below hb)
  replace HIx := hid (HIx.out.below hb)
  replace HB := hid (HB.out.trans (hb.mono HB.out.size))
  have HXB := hid (box_new w3 (.int .i64 mB.L) (.slice anB mB.nx.length cnB) (.slice abB mB.ac.length cbB) 25)
  have HMB := hid (hMB.below hb)
  clear hMB hb
  obtain ⟨mC, EC, hCC, hzC, hfC⟩ := gen_pack (Never_any L P Q (w3.alloc (.cells #[.int .i64 mB.L, .slice anB mB.nx.length cnB, .slice abB mB.ac.length cbB] 25)))
  have HfC := hid hfC
  clear hzC hfC
  have HC := hid hCC
  clear hCC
  have x0t := HXt.out.c0
  have x1t := HXt.out.c1
  have x2t := HXt.out.c2
  have x3t := HXt.out.c3
  have x4t := HXt.out.c4
  have x5t := HXt.out.c5
  have x6t := HXt.out.c6
  have xlt := HXt.out.lt
  go_wp2_with fail
  refine HC.out.mono ?_
  rintro e w4 ⟨anC, cnC, abC, cbC, rfl, hMC, hb, hFC⟩
  have HFC := hid hFC
  clear HC hFC x0t x1t x2t x3t x4t x5t x6t xlt
  replace HXA := hid (HXA.out.below hb)
  replace HXB := hid (HXB.out.below hb)
  replace HXt := hid (HXt.out.below hb)
  replace HMA := hid (HMA.out.below hb)
  replace HMB := hid (HMB.out.below hb)
  replace HIx := hid (HIx.out.below hb)
  replace HB := hid (HB.out.trans (hb.mono HB.out.size))
  clear hb
  have hb := below_alloc w4 (.cells #[.int .i64 mC.L, .slice anC mC.nx.length cnC, .slice abC mC.ac.length cbC] 25)
  replace HXA := hid (HXA.out.below hb)
  replace HXB := hid (HXB.out.below hb)
  replace HXt := hid (HXt.out.below hb)
  replace HMA := hid (HMA.out.below hb)
  replace HMB := hid (HMB.out.below hb)
  replace HIx := hid (HIx.out.below hb)
  replace HB := hid (HB.out.trans (hb.mono HB.out.size))
  have HXC := hid (box_new w4 (.int .i64 mC.L) (.slice anC mC.nx.length cnC) (.slice abC mC.ac.length cbC) 25)
  have HMC := hid (hMC.below hb)
  clear hMC hb
  by_cases hEA : EA ≠ 0
  · have d1 : (EA == 0) = false := beq_eq_false_iff_ne.2 hEA
    have d2 : (EA != 0) = true := by rw [bne, d1]; rfl
    clear hEA
    go_wp2_with fail
    go_ret
    exact ⟨rfl, HB.out⟩
  have hEA0 : EA = 0 := Classical.not_not.1 hEA
  clear hEA
  subst hEA0
  by_cases hEB : EB ≠ 0
  · have d1 : (EB == 0) = false := beq_eq_false_iff_ne.2 hEB
    have d2 : (EB != 0) = true := by rw [bne, d1]; rfl
    clear hEB
    go_wp2_with fail
    go_ret
    exact ⟨rfl, HB.out⟩
  have hEB0 : EB = 0 := Classical.not_not.1 hEB
  clear hEB
  subst hEB0
  by_cases hEC : EC ≠ 0
  · have d1 : (EC == 0) = false := beq_eq_false_iff_ne.2 hEC
    have d2 : (EC != 0) = true := by rw [bne, d1]; rfl
    clear hEC
    go_wp2_with fail
    go_ret
    exact ⟨rfl, HB.out⟩
  have hEC0 : EC = 0 := Classical.not_not.1 hEC
  clear hEC
  subst hEC0
  have fA := HFA.out rfl
  have fB := HFB.out rfl
  have fC := HFC.out rfl
  have hap := fA.e
  have hrg : 1 ≤ L ∧ L ≤ 6 := by
    unfold apE at hap
    split at hap
    · rename_i h; exact h.1
    · cases hap
  have hLz : (L.toNat : Int) = L := by omega
  have oA := fA.ok (by omega) (by omega)
  have oB := fB.ok (by omega) (by omega)
  have oC := fC.ok (by omega) (by omega)
  have lA : mA.L = L := fA.mL.trans hLz
  have lB : mB.L = L := fB.mL.trans hLz
  have lC : mC.L = L := fC.mL.trans hLz
  have hp2 : paiE mA mB = 0 := paiE_zero.2 ⟨oA, oB, by rw [lA, lB]⟩
  have OA := hid oA
  have OB := hid oB
  have OC := hid oC
  have LA := hid lA
  have LB := hid lB
  have LC := hid lC
  have HP2 := hid hp2
  have HRG := hid hrg
  have HLZ := hid hLz
  clear HFA HFB HFC fA fB fC hap hrg hLz oA oB oC lA lB lC hp2
  obtain ⟨mT, ET, hCT, hzT, hfT⟩ := gen_pack (Both_any mA mB anA abA cnA cbA anB abB cnB cbB (w4.alloc (.cells #[.int .i64 mC.L, .slice anC mC.nx.length cnC, .slice abC mC.ac.length cbC] 25)) HMA.out HMB.out)
  have HfT := hid hfT
  clear hzT hfT
  have HC := hid hCT
  clear hCT
  have x0A := HXA.out.c0
  have x1A := HXA.out.c1
  have x2A := HXA.out.c2
  have xlA := HXA.out.lt
  have x0B := HXB.out.c0
  have x1B := HXB.out.c1
  have x2B := HXB.out.c2
  have xlB := HXB.out.lt
  have x0t := HXt.out.c0
  have x1t := HXt.out.c1
  have x2t := HXt.out.c2
  have x3t := HXt.out.c3
  have x4t := HXt.out.c4
  have x5t := HXt.out.c5
  have x6t := HXt.out.c6
  have xlt := HXt.out.lt
  go_wp2_with fail
  refine HC.out.mono ?_
  rintro e w5 ⟨anT, cnT, abT, cbT, rfl, hMT, hb, hFT⟩
  have HFT := hid hFT
  clear HC hFT x0A x1A x2A xlA x0B x1B x2B xlB x0t x1t x2t x3t x4t x5t x6t xlt
  replace HXA := hid (HXA.out.below hb)
  replace HXB := hid (HXB.out.below hb)
  replace HXC := hid (HXC.out.below hb)
  replace HXt := hid (HXt.out.below hb)
  replace HMA := hid (HMA.out.below hb)
  replace HMB := hid (HMB.out.below hb)
  replace HMC := hid (HMC.out.below hb)
  replace HIx := hid (HIx.out.below hb)
  replace HB := hid (HB.out.trans (hb.mono HB.out.size))
  clear hb
  have hb := below_alloc w5 (.cells #[.int .i64 mT.L, .slice anT mT.nx.length cnT, .slice abT mT.ac.length cbT] 25)
  replace HXA := hid (HXA.out.below hb)
  replace HXB := hid (HXB.out.below hb)
  replace HXC := hid (HXC.out.below hb)
  replace HXt := hid (HXt.out.below hb)
  replace HMA := hid (HMA.out.below hb)
  replace HMB := hid (HMB.out.below hb)
  replace HMC := hid (HMC.out.below hb)
  replace HIx := hid (HIx.out.below hb)
  replace HB := hid (HB.out.trans (hb.mono HB.out.size))
  have HXT := hid (box_new w5 (.int .i64 mT.L) (.slice anT mT.nx.length cnT) (.slice abT mT.ac.length cbT) 25)
  have HMT := hid (hMT.below hb)
  clear hMT hb
  by_cases hET : ET ≠ 0
  · have e4 := HfT.out HP2.out hET
    subst e4
    clear hET
    go_wp2_with fail
    go_ret
    exact ⟨rfl, HB.out⟩
  have hET0 : ET = 0 := Classical.not_not.1 hET
  clear hET
  subst hET0
  have fT := HFT.out rfl
  have lT : mT.L = L := by rw [fT.mL, LA.out]; exact HLZ.out
  have oT := fT.ok (by rw [LA.out]; have := HRG.out; omega) (by rw [LA.out]; have := HRG.out; omega)
  have hp3 : paiE mT mC = 0 := paiE_zero.2 ⟨oT, OC.out, by rw [lT, LC.out]⟩
  have gT := fT.lang (jnL_good _ _ _)
  have OT := hid oT
  have LT := hid lT
  have GT := hid gT
  have HP3 := hid hp3
  clear HFT fT lT oT hp3 gT
  obtain ⟨mM, EM, hCM, hzM, hfM⟩ := gen_pack (Both_any mT mC anT abT cnT cbT anC abC cnC cbC (w5.alloc (.cells #[.int .i64 mT.L, .slice anT mT.nx.length cnT, .slice abT mT.ac.length cbT] 25)) HMT.out HMC.out)
  have HfM := hid hfM
  clear hzM hfM
  have HC := hid hCM
  clear hCM
  have x0T := HXT.out.c0
  have x1T := HXT.out.c1
  have x2T := HXT.out.c2
  have xlT := HXT.out.lt
  have x0C := HXC.out.c0
  have x1C := HXC.out.c1
  have x2C := HXC.out.c2
  have xlC := HXC.out.lt
  have x0t := HXt.out.c0
  have x1t := HXt.out.c1
  have x2t := HXt.out.c2
  have x3t := HXt.out.c3
  have x4t := HXt.out.c4
  have x5t := HXt.out.c5
  have x6t := HXt.out.c6
  have xlt := HXt.out.lt
  go_wp2_with fail
  refine HC.out.mono ?_
  rintro e w6 ⟨anM, cnM, abM, cbM, rfl, hMM, hb, hFM⟩
  have HFM := hid hFM
  clear HC hFM x0T x1T x2T xlT x0C x1C x2C xlC x0t x1t x2t x3t x4t x5t x6t xlt
  replace HXA := hid (HXA.out.below hb)
  replace HXB := hid (HXB.out.below hb)
  replace HXC := hid (HXC.out.below hb)
  replace HXT := hid (HXT.out.below hb)
  replace HXt := hid (HXt.out.below hb)
  replace HMA := hid (HMA.out.below hb)
  replace HMB := hid (HMB.out.below hb)
  replace HMC := hid (HMC.out.below hb)
  replace HMT := hid (HMT.out.below hb)
  replace HIx := hid (HIx.out.below hb)
  replace HB := hid (HB.out.trans (hb.mono HB.out.size))
  clear hb
  have hb := below_alloc w6 (.cells #[.int .i64 mM.L, .slice anM mM.nx.length cnM, .slice abM mM.ac.length cbM] 25)
  replace HXA := hid (HXA.out.below hb)
  replace HXB := hid (HXB.out.below hb)
  replace HXC := hid (HXC.out.below hb)
  replace HXT := hid (HXT.out.below hb)
  replace HXt := hid (HXt.out.below hb)
  replace HMA := hid (HMA.out.below hb)
  replace HMB := hid (HMB.out.below hb)
  replace HMC := hid (HMC.out.below hb)
  replace HMT := hid (HMT.out.below hb)
  replace HIx := hid (HIx.out.below hb)
  replace HB := hid (HB.out.trans (hb.mono HB.out.size))
  have HXM := hid (box_new w6 (.int .i64 mM.L) (.slice anM mM.nx.length cnM) (.slice abM mM.ac.length cbM) 25)
  have HMM := hid (hMM.below hb)
  clear hMM hb
  by_cases hEM : EM ≠ 0
  · have e4 := HfM.out HP3.out hEM
    subst e4
    clear hEM
    go_wp2_with fail
    go_ret
    exact ⟨rfl, HB.out⟩
  have hEM0 : EM = 0 := Classical.not_not.1 hEM
  clear hEM
  subst hEM0
  have fM := HFM.out rfl
  have lM : mM.L = L := by rw [fM.mL, LT.out]; exact HLZ.out
  have oM := fM.ok (by rw [LT.out]; have := HRG.out; omega) (by rw [LT.out]; have := HRG.out; omega)
  have h5 := five OA.out OB.out OC.out OT.out oM LA.out LB.out LC.out LT.out lM GT.out (fM.lang (jnL_good _ _ _)) xs
  have OM := hid oM
  have LM := hid lM
  clear HFM fM lM oM OA OB OC OT LA LB LC LT GT HP2 HP3 HRG HLZ HfA HfB HfC HfT HfM HMT HXT
  rcases h5 with ⟨we, hwe, hwx, h5⟩ | ⟨hwo, p, q, r, h5⟩
  · have Hwe := hid hwe
    have HRB : Hid (rndB mM xs = false) := hid (rnd_bad (by rw [h5.wM]; exact hwe))
    clear hwe hwx
    as_aux_lemma =>
      have H5 := hid h5
      clear h5
      have hC0 := Accepts_any mA anA abA cnA cbA xs ax cx (w6.alloc (.cells #[.int .i64 mM.L, .slice anM mM.nx.length cnM, .slice abM mM.ac.length cbM] 25)) HMA.out HIx.out Hl.out
      rw [H5.out.aA, H5.out.wA] at hC0
      have HC := hid hC0
      clear hC0
      have x0A := HXA.out.c0
      have x1A := HXA.out.c1
      have x2A := HXA.out.c2
      have xlA := HXA.out.lt
      have x0t := HXt.out.c0
      have x1t := HXt.out.c1
      have x2t := HXt.out.c2
      have x3t := HXt.out.c3
      have x4t := HXt.out.c4
      have x5t := HXt.out.c5
      have x6t := HXt.out.c6
      have xlt := HXt.out.lt
      go_wp2_with fail
      refine HC.out.mono ?_
      rintro e w7 ⟨rfl, hb⟩
      clear HC x0A x1A x2A xlA x0t x1t x2t x3t x4t x5t x6t xlt
      replace HXA := hid (HXA.out.below hb)
      replace HXB := hid (HXB.out.below hb)
      replace HXC := hid (HXC.out.below hb)
      replace HXM := hid (HXM.out.below hb)
      replace HXt := hid (HXt.out.below hb)
      replace HMA := hid (HMA.out.below hb)
      replace HMB := hid (HMB.out.below hb)
      replace HMC := hid (HMC.out.below hb)
      replace HMM := hid (HMM.out.below hb)
      replace HIx := hid (HIx.out.below hb)
      replace HB := hid (HB.out.trans (hb.mono HB.out.size))
      clear hb
      have hC0 := Accepts_any mB anB abB cnB cbB xs ax cx w7 HMB.out HIx.out Hl.out
      rw [H5.out.aB, H5.out.wB] at hC0
      have HC := hid hC0
      clear hC0
      have x0B := HXB.out.c0
      have x1B := HXB.out.c1
      have x2B := HXB.out.c2
      have xlB := HXB.out.lt
      have x0t := HXt.out.c0
      have x1t := HXt.out.c1
      have x2t := HXt.out.c2
      have x3t := HXt.out.c3
      have x4t := HXt.out.c4
      have x5t := HXt.out.c5
      have x6t := HXt.out.c6
      have xlt := HXt.out.lt
      go_wp2_with fail
      refine HC.out.mono ?_
      rintro e w8 ⟨rfl, hb⟩
      clear HC x0B x1B x2B xlB x0t x1t x2t x3t x4t x5t x6t xlt
      replace HXA := hid (HXA.out.below hb)
      replace HXB := hid (HXB.out.below hb)
      replace HXC := hid (HXC.out.below hb)
      replace HXM := hid (HXM.out.below hb)
      replace HXt := hid (HXt.out.below hb)
      replace HMA := hid (HMA.out.below hb)
      replace HMB := hid (HMB.out.below hb)
      replace HMC := hid (HMC.out.below hb)
      replace HMM := hid (HMM.out.below hb)
      replace HIx := hid (HIx.out.below hb)
      replace HB := hid (HB.out.trans (hb.mono HB.out.size))
      clear hb
      have hC0 := Accepts_any mC anC abC cnC cbC xs ax cx w8 HMC.out HIx.out Hl.out
      rw [H5.out.aC, H5.out.wC] at hC0
      have HC := hid hC0
      clear hC0
      have x0C := HXC.out.c0
      have x1C := HXC.out.c1
      have x2C := HXC.out.c2
      have xlC := HXC.out.lt
      have x0t := HXt.out.c0
      have x1t := HXt.out.c1
      have x2t := HXt.out.c2
      have x3t := HXt.out.c3
      have x4t := HXt.out.c4
      have x5t := HXt.out.c5
      have x6t := HXt.out.c6
      have xlt := HXt.out.lt
      go_wp2_with fail
      refine HC.out.mono ?_
      rintro e w9 ⟨rfl, hb⟩
      clear HC x0C x1C x2C xlC x0t x1t x2t x3t x4t x5t x6t xlt
      replace HXA := hid (HXA.out.below hb)
      replace HXB := hid (HXB.out.below hb)
      replace HXC := hid (HXC.out.below hb)
      replace HXM := hid (HXM.out.below hb)
      replace HXt := hid (HXt.out.below hb)
      replace HMA := hid (HMA.out.below hb)
      replace HMB := hid (HMB.out.below hb)
      replace HMC := hid (HMC.out.below hb)
      replace HMM := hid (HMM.out.below hb)
      replace HIx := hid (HIx.out.below hb)
      replace HB := hid (HB.out.trans (hb.mono HB.out.size))
      clear hb
      have hC0 := Accepts_any mM anM abM cnM cbM xs ax cx w9 HMM.out HIx.out Hl.out
      rw [H5.out.aM, H5.out.wM] at hC0
      have HC := hid hC0
      clear hC0
      have x0M := HXM.out.c0
      have x1M := HXM.out.c1
      have x2M := HXM.out.c2
      have xlM := HXM.out.lt
      have x0t := HXt.out.c0
      have x1t := HXt.out.c1
      have x2t := HXt.out.c2
      have x3t := HXt.out.c3
      have x4t := HXt.out.c4
      have x5t := HXt.out.c5
      have x6t := HXt.out.c6
      have xlt := HXt.out.lt
      go_wp2_with fail
      refine HC.out.mono ?_
      rintro e w10 ⟨rfl, hb⟩
      clear HC x0M x1M x2M xlM x0t x1t x2t x3t x4t x5t x6t xlt
      replace HXA := hid (HXA.out.below hb)
      replace HXB := hid (HXB.out.below hb)
      replace HXC := hid (HXC.out.below hb)
      replace HXM := hid (HXM.out.below hb)
      replace HXt := hid (HXt.out.below hb)
      replace HMA := hid (HMA.out.below hb)
      replace HMB := hid (HMB.out.below hb)
      replace HMC := hid (HMC.out.below hb)
      replace HMM := hid (HMM.out.below hb)
      replace HIx := hid (HIx.out.below hb)
      replace HB := hid (HB.out.trans (hb.mono HB.out.size))
      clear hb
      have H5M := hid H5.out.aM
      have H5W := hid H5.out.wM
      clear H5 HXA HXB HXC HMA HMB HMC
      have HC := hid (numbered_any mM OM.out anM abM cnM cbM N R wN wR w10 HMM.out)
      have x0M := HXM.out.c0
      have x1M := HXM.out.c1
      have x2M := HXM.out.c2
      have xlM := HXM.out.lt
      have x0t := HXt.out.c0
      have x1t := HXt.out.c1
      have x2t := HXt.out.c2
      have x3t := HXt.out.c3
      have x4t := HXt.out.c4
      have x5t := HXt.out.c5
      have x6t := HXt.out.c6
      have xlt := HXt.out.lt
      have e1 : (we != we) = false := by simp
      have e2 : (we == we) = true := beq_self_eq_true _
      have e3 : (we == 0) = false := beq_eq_false_iff_ne.2 Hwe.out
      have e4 : (we != 0) = true := by rw [bne, e3]; rfl
      go_wp2_with fail
      refine HC.out.mono ?_
      rintro e w11 ⟨rfl, hb⟩
      clear HC x0M x1M x2M xlM x0t x1t x2t x3t x4t x5t x6t xlt e1 e2 e3 e4
      replace HXM := hid (HXM.out.below hb)
      replace HXt := hid (HXt.out.below hb)
      replace HMM := hid (HMM.out.below hb)
      replace HIx := hid (HIx.out.below hb)
      replace HB := hid (HB.out.trans (hb.mono HB.out.size))
      clear hb
      have hC0 := Round_any mM anM abM cnM cbM xs ax cx w11 HMM.out HIx.out Hl.out
      rw [HRB.out, H5W.out] at hC0
      have HC := hid hC0
      clear hC0
      have x0M := HXM.out.c0
      have x1M := HXM.out.c1
      have x2M := HXM.out.c2
      have xlM := HXM.out.lt
      have x0t := HXt.out.c0
      have x1t := HXt.out.c1
      have x2t := HXt.out.c2
      have x3t := HXt.out.c3
      have x4t := HXt.out.c4
      have x5t := HXt.out.c5
      have x6t := HXt.out.c6
      have xlt := HXt.out.lt
      have e1 : (we != we) = false := by simp
      have e2 : (we == we) = true := beq_self_eq_true _
      have e3 : (we == 0) = false := beq_eq_false_iff_ne.2 Hwe.out
      have e4 : (we != 0) = true := by rw [bne, e3]; rfl
      go_wp2_with fail
      refine HC.out.mono ?_
      rintro e w12 ⟨rfl, hb⟩
      clear HC x0M x1M x2M xlM x0t x1t x2t x3t x4t x5t x6t xlt
      replace HXM := hid (HXM.out.below hb)
      replace HXt := hid (HXt.out.below hb)
      replace HMM := hid (HMM.out.below hb)
      replace HIx := hid (HIx.out.below hb)
      replace HB := hid (HB.out.trans (hb.mono HB.out.size))
      clear hb
      go_wp2_with fail
      go_ret
      exact ⟨rfl, HB.out⟩
  have HWo := hid hwo
  clear hwo
  cases p with
  | false =>
    rw [Bool.false_and, Bool.false_and] at h5
    have HRB : Hid (rndB mM xs = false) := hid (by cases h : rndB mM xs with | false => rfl | true => (have := (rnd_acc h).1; rw [h5.aM] at this; exact absurd this (by decide)))
    as_aux_lemma =>
      have H5 := hid h5
      clear h5
      have hC0 := Accepts_any mA anA abA cnA cbA xs ax cx (w6.alloc (.cells #[.int .i64 mM.L, .slice anM mM.nx.length cnM, .slice abM mM.ac.length cbM] 25)) HMA.out HIx.out Hl.out
      rw [H5.out.aA, H5.out.wA] at hC0
      have HC := hid hC0
      clear hC0
      have x0A := HXA.out.c0
      have x1A := HXA.out.c1
      have x2A := HXA.out.c2
      have xlA := HXA.out.lt
      have x0t := HXt.out.c0
      have x1t := HXt.out.c1
      have x2t := HXt.out.c2
      have x3t := HXt.out.c3
      have x4t := HXt.out.c4
      have x5t := HXt.out.c5
      have x6t := HXt.out.c6
      have xlt := HXt.out.lt
      go_wp2_with fail
      refine HC.out.mono ?_
      rintro e w7 ⟨rfl, hb⟩
      clear HC x0A x1A x2A xlA x0t x1t x2t x3t x4t x5t x6t xlt
      replace HXA := hid (HXA.out.below hb)
      replace HXB := hid (HXB.out.below hb)
      replace HXC := hid (HXC.out.below hb)
      replace HXM := hid (HXM.out.below hb)
      replace HXt := hid (HXt.out.below hb)
      replace HMA := hid (HMA.out.below hb)
      replace HMB := hid (HMB.out.below hb)
      replace HMC := hid (HMC.out.below hb)
      replace HMM := hid (HMM.out.below hb)
      replace HIx := hid (HIx.out.below hb)
      replace HB := hid (HB.out.trans (hb.mono HB.out.size))
      clear hb
      have hC0 := Accepts_any mB anB abB cnB cbB xs ax cx w7 HMB.out HIx.out Hl.out
      rw [H5.out.aB, H5.out.wB] at hC0
      have HC := hid hC0
      clear hC0
      have x0B := HXB.out.c0
      have x1B := HXB.out.c1
      have x2B := HXB.out.c2
      have xlB := HXB.out.lt
      have x0t := HXt.out.c0
      have x1t := HXt.out.c1
      have x2t := HXt.out.c2
      have x3t := HXt.out.c3
      have x4t := HXt.out.c4
      have x5t := HXt.out.c5
      have x6t := HXt.out.c6
      have xlt := HXt.out.lt
      go_wp2_with fail
      refine HC.out.mono ?_
      rintro e w8 ⟨rfl, hb⟩
      clear HC x0B x1B x2B xlB x0t x1t x2t x3t x4t x5t x6t xlt
      replace HXA := hid (HXA.out.below hb)
      replace HXB := hid (HXB.out.below hb)
      replace HXC := hid (HXC.out.below hb)
      replace HXM := hid (HXM.out.below hb)
      replace HXt := hid (HXt.out.below hb)
      replace HMA := hid (HMA.out.below hb)
      replace HMB := hid (HMB.out.below hb)
      replace HMC := hid (HMC.out.below hb)
      replace HMM := hid (HMM.out.below hb)
      replace HIx := hid (HIx.out.below hb)
      replace HB := hid (HB.out.trans (hb.mono HB.out.size))
      clear hb
      have hC0 := Accepts_any mC anC abC cnC cbC xs ax cx w8 HMC.out HIx.out Hl.out
      rw [H5.out.aC, H5.out.wC] at hC0
      have HC := hid hC0
      clear hC0
      have x0C := HXC.out.c0
      have x1C := HXC.out.c1
      have x2C := HXC.out.c2
      have xlC := HXC.out.lt
      have x0t := HXt.out.c0
      have x1t := HXt.out.c1
      have x2t := HXt.out.c2
      have x3t := HXt.out.c3
      have x4t := HXt.out.c4
      have x5t := HXt.out.c5
      have x6t := HXt.out.c6
      have xlt := HXt.out.lt
      go_wp2_with fail
      refine HC.out.mono ?_
      rintro e w9 ⟨rfl, hb⟩
      clear HC x0C x1C x2C xlC x0t x1t x2t x3t x4t x5t x6t xlt
      replace HXA := hid (HXA.out.below hb)
      replace HXB := hid (HXB.out.below hb)
      replace HXC := hid (HXC.out.below hb)
      replace HXM := hid (HXM.out.below hb)
      replace HXt := hid (HXt.out.below hb)
      replace HMA := hid (HMA.out.below hb)
      replace HMB := hid (HMB.out.below hb)
      replace HMC := hid (HMC.out.below hb)
      replace HMM := hid (HMM.out.below hb)
      replace HIx := hid (HIx.out.below hb)
      replace HB := hid (HB.out.trans (hb.mono HB.out.size))
      clear hb
      have hC0 := Accepts_any mM anM abM cnM cbM xs ax cx w9 HMM.out HIx.out Hl.out
      rw [H5.out.aM, H5.out.wM] at hC0
      have HC := hid hC0
      clear hC0
      have x0M := HXM.out.c0
      have x1M := HXM.out.c1
      have x2M := HXM.out.c2
      have xlM := HXM.out.lt
      have x0t := HXt.out.c0
      have x1t := HXt.out.c1
      have x2t := HXt.out.c2
      have x3t := HXt.out.c3
      have x4t := HXt.out.c4
      have x5t := HXt.out.c5
      have x6t := HXt.out.c6
      have xlt := HXt.out.lt
      go_wp2_with fail
      refine HC.out.mono ?_
      rintro e w10 ⟨rfl, hb⟩
      clear HC x0M x1M x2M xlM x0t x1t x2t x3t x4t x5t x6t xlt
      replace HXA := hid (HXA.out.below hb)
      replace HXB := hid (HXB.out.below hb)
      replace HXC := hid (HXC.out.below hb)
      replace HXM := hid (HXM.out.below hb)
      replace HXt := hid (HXt.out.below hb)
      replace HMA := hid (HMA.out.below hb)
      replace HMB := hid (HMB.out.below hb)
      replace HMC := hid (HMC.out.below hb)
      replace HMM := hid (HMM.out.below hb)
      replace HIx := hid (HIx.out.below hb)
      replace HB := hid (HB.out.trans (hb.mono HB.out.size))
      clear hb
      have H5M := hid H5.out.aM
      have H5W := hid H5.out.wM
      clear H5 HXA HXB HXC HMA HMB HMC
      have HC := hid (numbered_any mM OM.out anM abM cnM cbM N R wN wR w10 HMM.out)
      have x0M := HXM.out.c0
      have x1M := HXM.out.c1
      have x2M := HXM.out.c2
      have xlM := HXM.out.lt
      have x0t := HXt.out.c0
      have x1t := HXt.out.c1
      have x2t := HXt.out.c2
      have x3t := HXt.out.c3
      have x4t := HXt.out.c4
      have x5t := HXt.out.c5
      have x6t := HXt.out.c6
      have xlt := HXt.out.lt
      go_wp2_with fail
      refine HC.out.mono ?_
      rintro e w11 ⟨rfl, hb⟩
      clear HC x0M x1M x2M xlM x0t x1t x2t x3t x4t x5t x6t xlt
      replace HXM := hid (HXM.out.below hb)
      replace HXt := hid (HXt.out.below hb)
      replace HMM := hid (HMM.out.below hb)
      replace HIx := hid (HIx.out.below hb)
      replace HB := hid (HB.out.trans (hb.mono HB.out.size))
      clear hb
      have hC0 := Round_any mM anM abM cnM cbM xs ax cx w11 HMM.out HIx.out Hl.out
      rw [HRB.out, H5W.out] at hC0
      have HC := hid hC0
      clear hC0
      have x0M := HXM.out.c0
      have x1M := HXM.out.c1
      have x2M := HXM.out.c2
      have xlM := HXM.out.lt
      have x0t := HXt.out.c0
      have x1t := HXt.out.c1
      have x2t := HXt.out.c2
      have x3t := HXt.out.c3
      have x4t := HXt.out.c4
      have x5t := HXt.out.c5
      have x6t := HXt.out.c6
      have xlt := HXt.out.lt
      go_wp2_with fail
      refine HC.out.mono ?_
      rintro e w12 ⟨rfl, hb⟩
      clear HC x0M x1M x2M xlM x0t x1t x2t x3t x4t x5t x6t xlt
      replace HXM := hid (HXM.out.below hb)
      replace HXt := hid (HXt.out.below hb)
      replace HMM := hid (HMM.out.below hb)
      replace HIx := hid (HIx.out.below hb)
      replace HB := hid (HB.out.trans (hb.mono HB.out.size))
      clear hb
      go_wp2_with fail
      go_ret
      exact ⟨rfl, HB.out⟩
  | true =>
    cases q with
    | false =>
      rw [Bool.and_false, Bool.false_and] at h5
      have HRB : Hid (rndB mM xs = false) := hid (by cases h : rndB mM xs with | false => rfl | true => (have := (rnd_acc h).1; rw [h5.aM] at this; exact absurd this (by decide)))
      as_aux_lemma =>
        have H5 := hid h5
        clear h5
        have hC0 := Accepts_any mA anA abA cnA cbA xs ax cx (w6.alloc (.cells #[.int .i64 mM.L, .slice anM mM.nx.length cnM, .slice abM mM.ac.length cbM] 25)) HMA.out HIx.out Hl.out
        rw [H5.out.aA, H5.out.wA] at hC0
        have HC := hid hC0
        clear hC0
        have x0A := HXA.out.c0
        have x1A := HXA.out.c1
        have x2A := HXA.out.c2
        have xlA := HXA.out.lt
        have x0t := HXt.out.c0
        have x1t := HXt.out.c1
        have x2t := HXt.out.c2
        have x3t := HXt.out.c3
        have x4t := HXt.out.c4
        have x5t := HXt.out.c5
        have x6t := HXt.out.c6
        have xlt := HXt.out.lt
        go_wp2_with fail
        refine HC.out.mono ?_
        rintro e w7 ⟨rfl, hb⟩
        clear HC x0A x1A x2A xlA x0t x1t x2t x3t x4t x5t x6t xlt
        replace HXA := hid (HXA.out.below hb)
        replace HXB := hid (HXB.out.below hb)
        replace HXC := hid (HXC.out.below hb)
        replace HXM := hid (HXM.out.below hb)
        replace HXt := hid (HXt.out.below hb)
        replace HMA := hid (HMA.out.below hb)
        replace HMB := hid (HMB.out.below hb)
        replace HMC := hid (HMC.out.below hb)
        replace HMM := hid (HMM.out.below hb)
        replace HIx := hid (HIx.out.below hb)
        replace HB := hid (HB.out.trans (hb.mono HB.out.size))
        clear hb
        have hC0 := Accepts_any mB anB abB cnB cbB xs ax cx w7 HMB.out HIx.out Hl.out
        rw [H5.out.aB, H5.out.wB] at hC0
        have HC := hid hC0
        clear hC0
        have x0B := HXB.out.c0
        have x1B := HXB.out.c1
        have x2B := HXB.out.c2
        have xlB := HXB.out.lt
        have x0t := HXt.out.c0
        have x1t := HXt.out.c1
        have x2t := HXt.out.c2
        have x3t := HXt.out.c3
        have x4t := HXt.out.c4
        have x5t := HXt.out.c5
        have x6t := HXt.out.c6
        have xlt := HXt.out.lt
        go_wp2_with fail
        refine HC.out.mono ?_
        rintro e w8 ⟨rfl, hb⟩
        clear HC x0B x1B x2B xlB x0t x1t x2t x3t x4t x5t x6t xlt
        replace HXA := hid (HXA.out.below hb)
        replace HXB := hid (HXB.out.below hb)
        replace HXC := hid (HXC.out.below hb)
        replace HXM := hid (HXM.out.below hb)
        replace HXt := hid (HXt.out.below hb)
        replace HMA := hid (HMA.out.below hb)
        replace HMB := hid (HMB.out.below hb)
        replace HMC := hid (HMC.out.below hb)
        replace HMM := hid (HMM.out.below hb)
        replace HIx := hid (HIx.out.below hb)
        replace HB := hid (HB.out.trans (hb.mono HB.out.size))
        clear hb
        have hC0 := Accepts_any mC anC abC cnC cbC xs ax cx w8 HMC.out HIx.out Hl.out
        rw [H5.out.aC, H5.out.wC] at hC0
        have HC := hid hC0
        clear hC0
        have x0C := HXC.out.c0
        have x1C := HXC.out.c1
        have x2C := HXC.out.c2
        have xlC := HXC.out.lt
        have x0t := HXt.out.c0
        have x1t := HXt.out.c1
        have x2t := HXt.out.c2
        have x3t := HXt.out.c3
        have x4t := HXt.out.c4
        have x5t := HXt.out.c5
        have x6t := HXt.out.c6
        have xlt := HXt.out.lt
        go_wp2_with fail
        refine HC.out.mono ?_
        rintro e w9 ⟨rfl, hb⟩
        clear HC x0C x1C x2C xlC x0t x1t x2t x3t x4t x5t x6t xlt
        replace HXA := hid (HXA.out.below hb)
        replace HXB := hid (HXB.out.below hb)
        replace HXC := hid (HXC.out.below hb)
        replace HXM := hid (HXM.out.below hb)
        replace HXt := hid (HXt.out.below hb)
        replace HMA := hid (HMA.out.below hb)
        replace HMB := hid (HMB.out.below hb)
        replace HMC := hid (HMC.out.below hb)
        replace HMM := hid (HMM.out.below hb)
        replace HIx := hid (HIx.out.below hb)
        replace HB := hid (HB.out.trans (hb.mono HB.out.size))
        clear hb
        have hC0 := Accepts_any mM anM abM cnM cbM xs ax cx w9 HMM.out HIx.out Hl.out
        rw [H5.out.aM, H5.out.wM] at hC0
        have HC := hid hC0
        clear hC0
        have x0M := HXM.out.c0
        have x1M := HXM.out.c1
        have x2M := HXM.out.c2
        have xlM := HXM.out.lt
        have x0t := HXt.out.c0
        have x1t := HXt.out.c1
        have x2t := HXt.out.c2
        have x3t := HXt.out.c3
        have x4t := HXt.out.c4
        have x5t := HXt.out.c5
        have x6t := HXt.out.c6
        have xlt := HXt.out.lt
        go_wp2_with fail
        refine HC.out.mono ?_
        rintro e w10 ⟨rfl, hb⟩
        clear HC x0M x1M x2M xlM x0t x1t x2t x3t x4t x5t x6t xlt
        replace HXA := hid (HXA.out.below hb)
        replace HXB := hid (HXB.out.below hb)
        replace HXC := hid (HXC.out.below hb)
        replace HXM := hid (HXM.out.below hb)
        replace HXt := hid (HXt.out.below hb)
        replace HMA := hid (HMA.out.below hb)
        replace HMB := hid (HMB.out.below hb)
        replace HMC := hid (HMC.out.below hb)
        replace HMM := hid (HMM.out.below hb)
        replace HIx := hid (HIx.out.below hb)
        replace HB := hid (HB.out.trans (hb.mono HB.out.size))
        clear hb
        have H5M := hid H5.out.aM
        have H5W := hid H5.out.wM
        clear H5 HXA HXB HXC HMA HMB HMC
        have HC := hid (numbered_any mM OM.out anM abM cnM cbM N R wN wR w10 HMM.out)
        have x0M := HXM.out.c0
        have x1M := HXM.out.c1
        have x2M := HXM.out.c2
        have xlM := HXM.out.lt
        have x0t := HXt.out.c0
        have x1t := HXt.out.c1
        have x2t := HXt.out.c2
        have x3t := HXt.out.c3
        have x4t := HXt.out.c4
        have x5t := HXt.out.c5
        have x6t := HXt.out.c6
        have xlt := HXt.out.lt
        go_wp2_with fail
        refine HC.out.mono ?_
        rintro e w11 ⟨rfl, hb⟩
        clear HC x0M x1M x2M xlM x0t x1t x2t x3t x4t x5t x6t xlt
        replace HXM := hid (HXM.out.below hb)
        replace HXt := hid (HXt.out.below hb)
        replace HMM := hid (HMM.out.below hb)
        replace HIx := hid (HIx.out.below hb)
        replace HB := hid (HB.out.trans (hb.mono HB.out.size))
        clear hb
        have hC0 := Round_any mM anM abM cnM cbM xs ax cx w11 HMM.out HIx.out Hl.out
        rw [HRB.out, H5W.out] at hC0
        have HC := hid hC0
        clear hC0
        have x0M := HXM.out.c0
        have x1M := HXM.out.c1
        have x2M := HXM.out.c2
        have xlM := HXM.out.lt
        have x0t := HXt.out.c0
        have x1t := HXt.out.c1
        have x2t := HXt.out.c2
        have x3t := HXt.out.c3
        have x4t := HXt.out.c4
        have x5t := HXt.out.c5
        have x6t := HXt.out.c6
        have xlt := HXt.out.lt
        go_wp2_with fail
        refine HC.out.mono ?_
        rintro e w12 ⟨rfl, hb⟩
        clear HC x0M x1M x2M xlM x0t x1t x2t x3t x4t x5t x6t xlt
        replace HXM := hid (HXM.out.below hb)
        replace HXt := hid (HXt.out.below hb)
        replace HMM := hid (HMM.out.below hb)
        replace HIx := hid (HIx.out.below hb)
        replace HB := hid (HB.out.trans (hb.mono HB.out.size))
        clear hb
        go_wp2_with fail
        go_ret
        exact ⟨rfl, HB.out⟩
    | true =>
      cases r with
      | false =>
        rw [Bool.and_false] at h5
        have HRB : Hid (rndB mM xs = false) := hid (by cases h : rndB mM xs with | false => rfl | true => (have := (rnd_acc h).1; rw [h5.aM] at this; exact absurd this (by decide)))
        as_aux_lemma =>
          have H5 := hid h5
          clear h5
          have hC0 := Accepts_any mA anA abA cnA cbA xs ax cx (w6.alloc (.cells #[.int .i64 mM.L, .slice anM mM.nx.length cnM, .slice abM mM.ac.length cbM] 25)) HMA.out HIx.out Hl.out
          rw [H5.out.aA, H5.out.wA] at hC0
          have HC := hid hC0
          clear hC0
          have x0A := HXA.out.c0
          have x1A := HXA.out.c1
          have x2A := HXA.out.c2
          have xlA := HXA.out.lt
          have x0t := HXt.out.c0
          have x1t := HXt.out.c1
          have x2t := HXt.out.c2
          have x3t := HXt.out.c3
          have x4t := HXt.out.c4
          have x5t := HXt.out.c5
          have x6t := HXt.out.c6
          have xlt := HXt.out.lt
          go_wp2_with fail
          refine HC.out.mono ?_
          rintro e w7 ⟨rfl, hb⟩
          clear HC x0A x1A x2A xlA x0t x1t x2t x3t x4t x5t x6t xlt
          replace HXA := hid (HXA.out.below hb)
          replace HXB := hid (HXB.out.below hb)
          replace HXC := hid (HXC.out.below hb)
          replace HXM := hid (HXM.out.below hb)
          replace HXt := hid (HXt.out.below hb)
          replace HMA := hid (HMA.out.below hb)
          replace HMB := hid (HMB.out.below hb)
          replace HMC := hid (HMC.out.below hb)
          replace HMM := hid (HMM.out.below hb)
          replace HIx := hid (HIx.out.below hb)
          replace HB := hid (HB.out.trans (hb.mono HB.out.size))
          clear hb
          have hC0 := Accepts_any mB anB abB cnB cbB xs ax cx w7 HMB.out HIx.out Hl.out
          rw [H5.out.aB, H5.out.wB] at hC0
          have HC := hid hC0
          clear hC0
          have x0B := HXB.out.c0
          have x1B := HXB.out.c1
          have x2B := HXB.out.c2
          have xlB := HXB.out.lt
          have x0t := HXt.out.c0
          have x1t := HXt.out.c1
          have x2t := HXt.out.c2
          have x3t := HXt.out.c3
          have x4t := HXt.out.c4
          have x5t := HXt.out.c5
          have x6t := HXt.out.c6
          have xlt := HXt.out.lt
          go_wp2_with fail
          refine HC.out.mono ?_
          rintro e w8 ⟨rfl, hb⟩
          clear HC x0B x1B x2B xlB x0t x1t x2t x3t x4t x5t x6t xlt
          replace HXA := hid (HXA.out.below hb)
          replace HXB := hid (HXB.out.below hb)
          replace HXC := hid (HXC.out.below hb)
          replace HXM := hid (HXM.out.below hb)
          replace HXt := hid (HXt.out.below hb)
          replace HMA := hid (HMA.out.below hb)
          replace HMB := hid (HMB.out.below hb)
          replace HMC := hid (HMC.out.below hb)
          replace HMM := hid (HMM.out.below hb)
          replace HIx := hid (HIx.out.below hb)
          replace HB := hid (HB.out.trans (hb.mono HB.out.size))
          clear hb
          have hC0 := Accepts_any mC anC abC cnC cbC xs ax cx w8 HMC.out HIx.out Hl.out
          rw [H5.out.aC, H5.out.wC] at hC0
          have HC := hid hC0
          clear hC0
          have x0C := HXC.out.c0
          have x1C := HXC.out.c1
          have x2C := HXC.out.c2
          have xlC := HXC.out.lt
          have x0t := HXt.out.c0
          have x1t := HXt.out.c1
          have x2t := HXt.out.c2
          have x3t := HXt.out.c3
          have x4t := HXt.out.c4
          have x5t := HXt.out.c5
          have x6t := HXt.out.c6
          have xlt := HXt.out.lt
          go_wp2_with fail
          refine HC.out.mono ?_
          rintro e w9 ⟨rfl, hb⟩
          clear HC x0C x1C x2C xlC x0t x1t x2t x3t x4t x5t x6t xlt
          replace HXA := hid (HXA.out.below hb)
          replace HXB := hid (HXB.out.below hb)
          replace HXC := hid (HXC.out.below hb)
          replace HXM := hid (HXM.out.below hb)
          replace HXt := hid (HXt.out.below hb)
          replace HMA := hid (HMA.out.below hb)
          replace HMB := hid (HMB.out.below hb)
          replace HMC := hid (HMC.out.below hb)
          replace HMM := hid (HMM.out.below hb)
          replace HIx := hid (HIx.out.below hb)
          replace HB := hid (HB.out.trans (hb.mono HB.out.size))
          clear hb
          have hC0 := Accepts_any mM anM abM cnM cbM xs ax cx w9 HMM.out HIx.out Hl.out
          rw [H5.out.aM, H5.out.wM] at hC0
          have HC := hid hC0
          clear hC0
          have x0M := HXM.out.c0
          have x1M := HXM.out.c1
          have x2M := HXM.out.c2
          have xlM := HXM.out.lt
          have x0t := HXt.out.c0
          have x1t := HXt.out.c1
          have x2t := HXt.out.c2
          have x3t := HXt.out.c3
          have x4t := HXt.out.c4
          have x5t := HXt.out.c5
          have x6t := HXt.out.c6
          have xlt := HXt.out.lt
          go_wp2_with fail
          refine HC.out.mono ?_
          rintro e w10 ⟨rfl, hb⟩
          clear HC x0M x1M x2M xlM x0t x1t x2t x3t x4t x5t x6t xlt
          replace HXA := hid (HXA.out.below hb)
          replace HXB := hid (HXB.out.below hb)
          replace HXC := hid (HXC.out.below hb)
          replace HXM := hid (HXM.out.below hb)
          replace HXt := hid (HXt.out.below hb)
          replace HMA := hid (HMA.out.below hb)
          replace HMB := hid (HMB.out.below hb)
          replace HMC := hid (HMC.out.below hb)
          replace HMM := hid (HMM.out.below hb)
          replace HIx := hid (HIx.out.below hb)
          replace HB := hid (HB.out.trans (hb.mono HB.out.size))
          clear hb
          have H5M := hid H5.out.aM
          have H5W := hid H5.out.wM
          clear H5 HXA HXB HXC HMA HMB HMC
          have HC := hid (numbered_any mM OM.out anM abM cnM cbM N R wN wR w10 HMM.out)
          have x0M := HXM.out.c0
          have x1M := HXM.out.c1
          have x2M := HXM.out.c2
          have xlM := HXM.out.lt
          have x0t := HXt.out.c0
          have x1t := HXt.out.c1
          have x2t := HXt.out.c2
          have x3t := HXt.out.c3
          have x4t := HXt.out.c4
          have x5t := HXt.out.c5
          have x6t := HXt.out.c6
          have xlt := HXt.out.lt
          go_wp2_with fail
          refine HC.out.mono ?_
          rintro e w11 ⟨rfl, hb⟩
          clear HC x0M x1M x2M xlM x0t x1t x2t x3t x4t x5t x6t xlt
          replace HXM := hid (HXM.out.below hb)
          replace HXt := hid (HXt.out.below hb)
          replace HMM := hid (HMM.out.below hb)
          replace HIx := hid (HIx.out.below hb)
          replace HB := hid (HB.out.trans (hb.mono HB.out.size))
          clear hb
          have hC0 := Round_any mM anM abM cnM cbM xs ax cx w11 HMM.out HIx.out Hl.out
          rw [HRB.out, H5W.out] at hC0
          have HC := hid hC0
          clear hC0
          have x0M := HXM.out.c0
          have x1M := HXM.out.c1
          have x2M := HXM.out.c2
          have xlM := HXM.out.lt
          have x0t := HXt.out.c0
          have x1t := HXt.out.c1
          have x2t := HXt.out.c2
          have x3t := HXt.out.c3
          have x4t := HXt.out.c4
          have x5t := HXt.out.c5
          have x6t := HXt.out.c6
          have xlt := HXt.out.lt
          go_wp2_with fail
          refine HC.out.mono ?_
          rintro e w12 ⟨rfl, hb⟩
          clear HC x0M x1M x2M xlM x0t x1t x2t x3t x4t x5t x6t xlt
          replace HXM := hid (HXM.out.below hb)
          replace HXt := hid (HXt.out.below hb)
          replace HMM := hid (HMM.out.below hb)
          replace HIx := hid (HIx.out.below hb)
          replace HB := hid (HB.out.trans (hb.mono HB.out.size))
          clear hb
          go_wp2_with fail
          go_ret
          exact ⟨rfl, HB.out⟩
      | true =>
        rw [Bool.and_true, Bool.and_true] at h5
        cases hrb : rndB mM xs with
        | false =>
          have HRB := hid hrb
          clear hrb
          as_aux_lemma =>
            have H5 := hid h5
            clear h5
            have hC0 := Accepts_any mA anA abA cnA cbA xs ax cx (w6.alloc (.cells #[.int .i64 mM.L, .slice anM mM.nx.length cnM, .slice abM mM.ac.length cbM] 25)) HMA.out HIx.out Hl.out
            rw [H5.out.aA, H5.out.wA] at hC0
            have HC := hid hC0
            clear hC0
            have x0A := HXA.out.c0
            have x1A := HXA.out.c1
            have x2A := HXA.out.c2
            have xlA := HXA.out.lt
            have x0t := HXt.out.c0
            have x1t := HXt.out.c1
            have x2t := HXt.out.c2
            have x3t := HXt.out.c3
            have x4t := HXt.out.c4
            have x5t := HXt.out.c5
            have x6t := HXt.out.c6
            have xlt := HXt.out.lt
            go_wp2_with fail
            refine HC.out.mono ?_
            rintro e w7 ⟨rfl, hb⟩
            clear HC x0A x1A x2A xlA x0t x1t x2t x3t x4t x5t x6t xlt
            replace HXA := hid (HXA.out.below hb)
            replace HXB := hid (HXB.out.below hb)
            replace HXC := hid (HXC.out.below hb)
            replace HXM := hid (HXM.out.below hb)
            replace HXt := hid (HXt.out.below hb)
            replace HMA := hid (HMA.out.below hb)
            replace HMB := hid (HMB.out.below hb)
            replace HMC := hid (HMC.out.below hb)
            replace HMM := hid (HMM.out.below hb)
            replace HIx := hid (HIx.out.below hb)
            replace HB := hid (HB.out.trans (hb.mono HB.out.size))
            clear hb
            have hC0 := Accepts_any mB anB abB cnB cbB xs ax cx w7 HMB.out HIx.out Hl.out
            rw [H5.out.aB, H5.out.wB] at hC0
            have HC := hid hC0
            clear hC0
            have x0B := HXB.out.c0
            have x1B := HXB.out.c1
            have x2B := HXB.out.c2
            have xlB := HXB.out.lt
            have x0t := HXt.out.c0
            have x1t := HXt.out.c1
            have x2t := HXt.out.c2
            have x3t := HXt.out.c3
            have x4t := HXt.out.c4
            have x5t := HXt.out.c5
            have x6t := HXt.out.c6
            have xlt := HXt.out.lt
            go_wp2_with fail
            refine HC.out.mono ?_
            rintro e w8 ⟨rfl, hb⟩
            clear HC x0B x1B x2B xlB x0t x1t x2t x3t x4t x5t x6t xlt
            replace HXA := hid (HXA.out.below hb)
            replace HXB := hid (HXB.out.below hb)
            replace HXC := hid (HXC.out.below hb)
            replace HXM := hid (HXM.out.below hb)
            replace HXt := hid (HXt.out.below hb)
            replace HMA := hid (HMA.out.below hb)
            replace HMB := hid (HMB.out.below hb)
            replace HMC := hid (HMC.out.below hb)
            replace HMM := hid (HMM.out.below hb)
            replace HIx := hid (HIx.out.below hb)
            replace HB := hid (HB.out.trans (hb.mono HB.out.size))
            clear hb
            have hC0 := Accepts_any mC anC abC cnC cbC xs ax cx w8 HMC.out HIx.out Hl.out
            rw [H5.out.aC, H5.out.wC] at hC0
            have HC := hid hC0
            clear hC0
            have x0C := HXC.out.c0
            have x1C := HXC.out.c1
            have x2C := HXC.out.c2
            have xlC := HXC.out.lt
            have x0t := HXt.out.c0
            have x1t := HXt.out.c1
            have x2t := HXt.out.c2
            have x3t := HXt.out.c3
            have x4t := HXt.out.c4
            have x5t := HXt.out.c5
            have x6t := HXt.out.c6
            have xlt := HXt.out.lt
            go_wp2_with fail
            refine HC.out.mono ?_
            rintro e w9 ⟨rfl, hb⟩
            clear HC x0C x1C x2C xlC x0t x1t x2t x3t x4t x5t x6t xlt
            replace HXA := hid (HXA.out.below hb)
            replace HXB := hid (HXB.out.below hb)
            replace HXC := hid (HXC.out.below hb)
            replace HXM := hid (HXM.out.below hb)
            replace HXt := hid (HXt.out.below hb)
            replace HMA := hid (HMA.out.below hb)
            replace HMB := hid (HMB.out.below hb)
            replace HMC := hid (HMC.out.below hb)
            replace HMM := hid (HMM.out.below hb)
            replace HIx := hid (HIx.out.below hb)
            replace HB := hid (HB.out.trans (hb.mono HB.out.size))
            clear hb
            have hC0 := Accepts_any mM anM abM cnM cbM xs ax cx w9 HMM.out HIx.out Hl.out
            rw [H5.out.aM, H5.out.wM] at hC0
            have HC := hid hC0
            clear hC0
            have x0M := HXM.out.c0
            have x1M := HXM.out.c1
            have x2M := HXM.out.c2
            have xlM := HXM.out.lt
            have x0t := HXt.out.c0
            have x1t := HXt.out.c1
            have x2t := HXt.out.c2
            have x3t := HXt.out.c3
            have x4t := HXt.out.c4
            have x5t := HXt.out.c5
            have x6t := HXt.out.c6
            have xlt := HXt.out.lt
            go_wp2_with fail
            refine HC.out.mono ?_
            rintro e w10 ⟨rfl, hb⟩
            clear HC x0M x1M x2M xlM x0t x1t x2t x3t x4t x5t x6t xlt
            replace HXA := hid (HXA.out.below hb)
            replace HXB := hid (HXB.out.below hb)
            replace HXC := hid (HXC.out.below hb)
            replace HXM := hid (HXM.out.below hb)
            replace HXt := hid (HXt.out.below hb)
            replace HMA := hid (HMA.out.below hb)
            replace HMB := hid (HMB.out.below hb)
            replace HMC := hid (HMC.out.below hb)
            replace HMM := hid (HMM.out.below hb)
            replace HIx := hid (HIx.out.below hb)
            replace HB := hid (HB.out.trans (hb.mono HB.out.size))
            clear hb
            have H5M := hid H5.out.aM
            have H5W := hid H5.out.wM
            clear H5 HXA HXB HXC HMA HMB HMC
            have HC := hid (numbered_any mM OM.out anM abM cnM cbM N R wN wR w10 HMM.out)
            have x0M := HXM.out.c0
            have x1M := HXM.out.c1
            have x2M := HXM.out.c2
            have xlM := HXM.out.lt
            have x0t := HXt.out.c0
            have x1t := HXt.out.c1
            have x2t := HXt.out.c2
            have x3t := HXt.out.c3
            have x4t := HXt.out.c4
            have x5t := HXt.out.c5
            have x6t := HXt.out.c6
            have xlt := HXt.out.lt
            go_wp2_with fail
            refine HC.out.mono ?_
            rintro e w11 ⟨rfl, hb⟩
            clear HC x0M x1M x2M xlM x0t x1t x2t x3t x4t x5t x6t xlt
            replace HXM := hid (HXM.out.below hb)
            replace HXt := hid (HXt.out.below hb)
            replace HMM := hid (HMM.out.below hb)
            replace HIx := hid (HIx.out.below hb)
            replace HB := hid (HB.out.trans (hb.mono HB.out.size))
            clear hb
            have hac := H5M.out
            rw [accB_ok H5W.out] at hac
            have hrk := rnk_ok H5W.out hac
            have hun := unk_rnk hrk.1
            have HRK := hid hrk
            have HUN := hid hun
            clear hac hrk hun
            have hC0 := Rank_any mM anM abM cnM cbM xs ax cx w11 HMM.out HIx.out Hl.out
            rw [HRK.out.1] at hC0
            have HC := hid hC0
            clear hC0
            have x0M := HXM.out.c0
            have x1M := HXM.out.c1
            have x2M := HXM.out.c2
            have xlM := HXM.out.lt
            have x0t := HXt.out.c0
            have x1t := HXt.out.c1
            have x2t := HXt.out.c2
            have x3t := HXt.out.c3
            have x4t := HXt.out.c4
            have x5t := HXt.out.c5
            have x6t := HXt.out.c6
            have xlt := HXt.out.lt
            go_wp2_with fail
            refine HC.out.mono ?_
            rintro e w12 ⟨rfl, hb⟩
            clear HC x0M x1M x2M xlM x0t x1t x2t x3t x4t x5t x6t xlt
            replace HXM := hid (HXM.out.below hb)
            replace HXt := hid (HXt.out.below hb)
            replace HMM := hid (HMM.out.below hb)
            replace HIx := hid (HIx.out.below hb)
            replace HB := hid (HB.out.trans (hb.mono HB.out.size))
            clear hb
            have hC0 := Unrank_any mM anM abM cnM cbM xs.length (rnkN mM xs) w12 HMM.out
            unfold IntsE at hC0
            rw [HUN.out.1, HUN.out.2] at hC0
            have HC := hid hC0
            clear hC0
            have x0M := HXM.out.c0
            have x1M := HXM.out.c1
            have x2M := HXM.out.c2
            have xlM := HXM.out.lt
            have x0t := HXt.out.c0
            have x1t := HXt.out.c1
            have x2t := HXt.out.c2
            have x3t := HXt.out.c3
            have x4t := HXt.out.c4
            have x5t := HXt.out.c5
            have x6t := HXt.out.c6
            have xlt := HXt.out.lt
            go_wp2_with fail
            refine HC.out.mono ?_
            rintro e w13 ⟨ub, uc, rfl, hIu, hb, hu1, hu2⟩
            clear HC x0M x1M x2M xlM x0t x1t x2t x3t x4t x5t x6t xlt
            replace HXM := hid (HXM.out.below hb)
            replace HXt := hid (HXt.out.below hb)
            replace HMM := hid (HMM.out.below hb)
            replace HIx := hid (HIx.out.below hb)
            replace HB := hid (HB.out.trans (hb.mono HB.out.size))
            have HIu := hid hIu
            clear hIu hu1 hu2 hb
            have HC := hid (SameInts_any xs ub ax uc cx w13 HIu.out HIx.out Hl.out)
            have x0M := HXM.out.c0
            have x1M := HXM.out.c1
            have x2M := HXM.out.c2
            have xlM := HXM.out.lt
            have x0t := HXt.out.c0
            have x1t := HXt.out.c1
            have x2t := HXt.out.c2
            have x3t := HXt.out.c3
            have x4t := HXt.out.c4
            have x5t := HXt.out.c5
            have x6t := HXt.out.c6
            have xlt := HXt.out.lt
            go_wp2_with fail
            refine HC.out.mono ?_
            rintro e w14 ⟨rfl, hb⟩
            clear HC x0M x1M x2M xlM x0t x1t x2t x3t x4t x5t x6t xlt
            replace HXM := hid (HXM.out.below hb)
            replace HXt := hid (HXt.out.below hb)
            replace HMM := hid (HMM.out.below hb)
            replace HIx := hid (HIx.out.below hb)
            replace HIu := hid (HIu.out.below hb)
            replace HB := hid (HB.out.trans (hb.mono HB.out.size))
            clear hb
            have hC0 := Round_any mM anM abM cnM cbM xs ax cx w14 HMM.out HIx.out Hl.out
            rw [HRB.out, H5W.out] at hC0
            have HC := hid hC0
            clear hC0
            have x0M := HXM.out.c0
            have x1M := HXM.out.c1
            have x2M := HXM.out.c2
            have xlM := HXM.out.lt
            have x0t := HXt.out.c0
            have x1t := HXt.out.c1
            have x2t := HXt.out.c2
            have x3t := HXt.out.c3
            have x4t := HXt.out.c4
            have x5t := HXt.out.c5
            have x6t := HXt.out.c6
            have xlt := HXt.out.lt
            go_wp2_with fail
            refine HC.out.mono ?_
            rintro e w15 ⟨rfl, hb⟩
            clear HC x0M x1M x2M xlM x0t x1t x2t x3t x4t x5t x6t xlt
            replace HXM := hid (HXM.out.below hb)
            replace HXt := hid (HXt.out.below hb)
            replace HMM := hid (HMM.out.below hb)
            replace HIx := hid (HIx.out.below hb)
            replace HIu := hid (HIu.out.below hb)
            replace HB := hid (HB.out.trans (hb.mono HB.out.size))
            clear hb
            go_wp2_with fail
            go_ret
            exact ⟨rfl, HB.out⟩
        | true =>
          have HRB := hid hrb
          clear hrb
          as_aux_lemma =>
            have H5 := hid h5
            clear h5
            have hC0 := Accepts_any mA anA abA cnA cbA xs ax cx (w6.alloc (.cells #[.int .i64 mM.L, .slice anM mM.nx.length cnM, .slice abM mM.ac.length cbM] 25)) HMA.out HIx.out Hl.out
            rw [H5.out.aA, H5.out.wA] at hC0
            have HC := hid hC0
            clear hC0
            have x0A := HXA.out.c0
            have x1A := HXA.out.c1
            have x2A := HXA.out.c2
            have xlA := HXA.out.lt
            have x0t := HXt.out.c0
            have x1t := HXt.out.c1
            have x2t := HXt.out.c2
            have x3t := HXt.out.c3
            have x4t := HXt.out.c4
            have x5t := HXt.out.c5
            have x6t := HXt.out.c6
            have xlt := HXt.out.lt
            go_wp2_with fail
            refine HC.out.mono ?_
            rintro e w7 ⟨rfl, hb⟩
            clear HC x0A x1A x2A xlA x0t x1t x2t x3t x4t x5t x6t xlt
            replace HXA := hid (HXA.out.below hb)
            replace HXB := hid (HXB.out.below hb)
            replace HXC := hid (HXC.out.below hb)
            replace HXM := hid (HXM.out.below hb)
            replace HXt := hid (HXt.out.below hb)
            replace HMA := hid (HMA.out.below hb)
            replace HMB := hid (HMB.out.below hb)
            replace HMC := hid (HMC.out.below hb)
            replace HMM := hid (HMM.out.below hb)
            replace HIx := hid (HIx.out.below hb)
            replace HB := hid (HB.out.trans (hb.mono HB.out.size))
            clear hb
            have hC0 := Accepts_any mB anB abB cnB cbB xs ax cx w7 HMB.out HIx.out Hl.out
            rw [H5.out.aB, H5.out.wB] at hC0
            have HC := hid hC0
            clear hC0
            have x0B := HXB.out.c0
            have x1B := HXB.out.c1
            have x2B := HXB.out.c2
            have xlB := HXB.out.lt
            have x0t := HXt.out.c0
            have x1t := HXt.out.c1
            have x2t := HXt.out.c2
            have x3t := HXt.out.c3
            have x4t := HXt.out.c4
            have x5t := HXt.out.c5
            have x6t := HXt.out.c6
            have xlt := HXt.out.lt
            go_wp2_with fail
            refine HC.out.mono ?_
            rintro e w8 ⟨rfl, hb⟩
            clear HC x0B x1B x2B xlB x0t x1t x2t x3t x4t x5t x6t xlt
            replace HXA := hid (HXA.out.below hb)
            replace HXB := hid (HXB.out.below hb)
            replace HXC := hid (HXC.out.below hb)
            replace HXM := hid (HXM.out.below hb)
            replace HXt := hid (HXt.out.below hb)
            replace HMA := hid (HMA.out.below hb)
            replace HMB := hid (HMB.out.below hb)
            replace HMC := hid (HMC.out.below hb)
            replace HMM := hid (HMM.out.below hb)
            replace HIx := hid (HIx.out.below hb)
            replace HB := hid (HB.out.trans (hb.mono HB.out.size))
            clear hb
            have hC0 := Accepts_any mC anC abC cnC cbC xs ax cx w8 HMC.out HIx.out Hl.out
            rw [H5.out.aC, H5.out.wC] at hC0
            have HC := hid hC0
            clear hC0
            have x0C := HXC.out.c0
            have x1C := HXC.out.c1
            have x2C := HXC.out.c2
            have xlC := HXC.out.lt
            have x0t := HXt.out.c0
            have x1t := HXt.out.c1
            have x2t := HXt.out.c2
            have x3t := HXt.out.c3
            have x4t := HXt.out.c4
            have x5t := HXt.out.c5
            have x6t := HXt.out.c6
            have xlt := HXt.out.lt
            go_wp2_with fail
            refine HC.out.mono ?_
            rintro e w9 ⟨rfl, hb⟩
            clear HC x0C x1C x2C xlC x0t x1t x2t x3t x4t x5t x6t xlt
            replace HXA := hid (HXA.out.below hb)
            replace HXB := hid (HXB.out.below hb)
            replace HXC := hid (HXC.out.below hb)
            replace HXM := hid (HXM.out.below hb)
            replace HXt := hid (HXt.out.below hb)
            replace HMA := hid (HMA.out.below hb)
            replace HMB := hid (HMB.out.below hb)
            replace HMC := hid (HMC.out.below hb)
            replace HMM := hid (HMM.out.below hb)
            replace HIx := hid (HIx.out.below hb)
            replace HB := hid (HB.out.trans (hb.mono HB.out.size))
            clear hb
            have hC0 := Accepts_any mM anM abM cnM cbM xs ax cx w9 HMM.out HIx.out Hl.out
            rw [H5.out.aM, H5.out.wM] at hC0
            have HC := hid hC0
            clear hC0
            have x0M := HXM.out.c0
            have x1M := HXM.out.c1
            have x2M := HXM.out.c2
            have xlM := HXM.out.lt
            have x0t := HXt.out.c0
            have x1t := HXt.out.c1
            have x2t := HXt.out.c2
            have x3t := HXt.out.c3
            have x4t := HXt.out.c4
            have x5t := HXt.out.c5
            have x6t := HXt.out.c6
            have xlt := HXt.out.lt
            go_wp2_with fail
            refine HC.out.mono ?_
            rintro e w10 ⟨rfl, hb⟩
            clear HC x0M x1M x2M xlM x0t x1t x2t x3t x4t x5t x6t xlt
            replace HXA := hid (HXA.out.below hb)
            replace HXB := hid (HXB.out.below hb)
            replace HXC := hid (HXC.out.below hb)
            replace HXM := hid (HXM.out.below hb)
            replace HXt := hid (HXt.out.below hb)
            replace HMA := hid (HMA.out.below hb)
            replace HMB := hid (HMB.out.below hb)
            replace HMC := hid (HMC.out.below hb)
            replace HMM := hid (HMM.out.below hb)
            replace HIx := hid (HIx.out.below hb)
            replace HB := hid (HB.out.trans (hb.mono HB.out.size))
            clear hb
            have H5M := hid H5.out.aM
            have H5W := hid H5.out.wM
            clear H5 HXA HXB HXC HMA HMB HMC
            have HC := hid (numbered_any mM OM.out anM abM cnM cbM N R wN wR w10 HMM.out)
            have x0M := HXM.out.c0
            have x1M := HXM.out.c1
            have x2M := HXM.out.c2
            have xlM := HXM.out.lt
            have x0t := HXt.out.c0
            have x1t := HXt.out.c1
            have x2t := HXt.out.c2
            have x3t := HXt.out.c3
            have x4t := HXt.out.c4
            have x5t := HXt.out.c5
            have x6t := HXt.out.c6
            have xlt := HXt.out.lt
            go_wp2_with fail
            refine HC.out.mono ?_
            rintro e w11 ⟨rfl, hb⟩
            clear HC x0M x1M x2M xlM x0t x1t x2t x3t x4t x5t x6t xlt
            replace HXM := hid (HXM.out.below hb)
            replace HXt := hid (HXt.out.below hb)
            replace HMM := hid (HMM.out.below hb)
            replace HIx := hid (HIx.out.below hb)
            replace HB := hid (HB.out.trans (hb.mono HB.out.size))
            clear hb
            have hac := H5M.out
            rw [accB_ok H5W.out] at hac
            have hrk := rnk_ok H5W.out hac
            have hun := unk_rnk hrk.1
            have HRK := hid hrk
            have HUN := hid hun
            clear hac hrk hun
            have hC0 := Rank_any mM anM abM cnM cbM xs ax cx w11 HMM.out HIx.out Hl.out
            rw [HRK.out.1] at hC0
            have HC := hid hC0
            clear hC0
            have x0M := HXM.out.c0
            have x1M := HXM.out.c1
            have x2M := HXM.out.c2
            have xlM := HXM.out.lt
            have x0t := HXt.out.c0
            have x1t := HXt.out.c1
            have x2t := HXt.out.c2
            have x3t := HXt.out.c3
            have x4t := HXt.out.c4
            have x5t := HXt.out.c5
            have x6t := HXt.out.c6
            have xlt := HXt.out.lt
            go_wp2_with fail
            refine HC.out.mono ?_
            rintro e w12 ⟨rfl, hb⟩
            clear HC x0M x1M x2M xlM x0t x1t x2t x3t x4t x5t x6t xlt
            replace HXM := hid (HXM.out.below hb)
            replace HXt := hid (HXt.out.below hb)
            replace HMM := hid (HMM.out.below hb)
            replace HIx := hid (HIx.out.below hb)
            replace HB := hid (HB.out.trans (hb.mono HB.out.size))
            clear hb
            have hC0 := Unrank_any mM anM abM cnM cbM xs.length (rnkN mM xs) w12 HMM.out
            unfold IntsE at hC0
            rw [HUN.out.1, HUN.out.2] at hC0
            have HC := hid hC0
            clear hC0
            have x0M := HXM.out.c0
            have x1M := HXM.out.c1
            have x2M := HXM.out.c2
            have xlM := HXM.out.lt
            have x0t := HXt.out.c0
            have x1t := HXt.out.c1
            have x2t := HXt.out.c2
            have x3t := HXt.out.c3
            have x4t := HXt.out.c4
            have x5t := HXt.out.c5
            have x6t := HXt.out.c6
            have xlt := HXt.out.lt
            go_wp2_with fail
            refine HC.out.mono ?_
            rintro e w13 ⟨ub, uc, rfl, hIu, hb, hu1, hu2⟩
            clear HC x0M x1M x2M xlM x0t x1t x2t x3t x4t x5t x6t xlt
            replace HXM := hid (HXM.out.below hb)
            replace HXt := hid (HXt.out.below hb)
            replace HMM := hid (HMM.out.below hb)
            replace HIx := hid (HIx.out.below hb)
            replace HB := hid (HB.out.trans (hb.mono HB.out.size))
            have HIu := hid hIu
            clear hIu hu1 hu2 hb
            have HC := hid (SameInts_any xs ub ax uc cx w13 HIu.out HIx.out Hl.out)
            have x0M := HXM.out.c0
            have x1M := HXM.out.c1
            have x2M := HXM.out.c2
            have xlM := HXM.out.lt
            have x0t := HXt.out.c0
            have x1t := HXt.out.c1
            have x2t := HXt.out.c2
            have x3t := HXt.out.c3
            have x4t := HXt.out.c4
            have x5t := HXt.out.c5
            have x6t := HXt.out.c6
            have xlt := HXt.out.lt
            go_wp2_with fail
            refine HC.out.mono ?_
            rintro e w14 ⟨rfl, hb⟩
            clear HC x0M x1M x2M xlM x0t x1t x2t x3t x4t x5t x6t xlt
            replace HXM := hid (HXM.out.below hb)
            replace HXt := hid (HXt.out.below hb)
            replace HMM := hid (HMM.out.below hb)
            replace HIx := hid (HIx.out.below hb)
            replace HIu := hid (HIu.out.below hb)
            replace HB := hid (HB.out.trans (hb.mono HB.out.size))
            clear hb
            have hC0 := Round_any mM anM abM cnM cbM xs ax cx w14 HMM.out HIx.out Hl.out
            rw [HRB.out, H5W.out] at hC0
            have HC := hid hC0
            clear hC0
            have x0M := HXM.out.c0
            have x1M := HXM.out.c1
            have x2M := HXM.out.c2
            have xlM := HXM.out.lt
            have x0t := HXt.out.c0
            have x1t := HXt.out.c1
            have x2t := HXt.out.c2
            have x3t := HXt.out.c3
            have x4t := HXt.out.c4
            have x5t := HXt.out.c5
            have x6t := HXt.out.c6
            have xlt := HXt.out.lt
            go_wp2_with fail
            refine HC.out.mono ?_
            rintro e w15 ⟨rfl, hb⟩
            clear HC x0M x1M x2M xlM x0t x1t x2t x3t x4t x5t x6t xlt
            replace HXM := hid (HXM.out.below hb)
            replace HXt := hid (HXt.out.below hb)
            replace HMM := hid (HMM.out.below hb)
            replace HIx := hid (HIx.out.below hb)
            replace HIu := hid (HIu.out.below hb)
            replace HB := hid (HB.out.trans (hb.mono HB.out.size))
            clear hb
            have HC := hid (round_any mM OM.out anM abM cnM cbM xs ax cx w15 HMM.out HIx.out (by rw [LM.out]; exact HWo.out) (rnd_of HRB.out))
            have x0M := HXM.out.c0
            have x1M := HXM.out.c1
            have x2M := HXM.out.c2
            have xlM := HXM.out.lt
            have x0t := HXt.out.c0
            have x1t := HXt.out.c1
            have x2t := HXt.out.c2
            have x3t := HXt.out.c3
            have x4t := HXt.out.c4
            have x5t := HXt.out.c5
            have x6t := HXt.out.c6
            have xlt := HXt.out.lt
            go_wp2_with fail
            refine HC.out.mono ?_
            rintro e w16 ⟨rfl, hb⟩
            clear HC x0M x1M x2M xlM x0t x1t x2t x3t x4t x5t x6t xlt
            replace HXM := hid (HXM.out.below hb)
            replace HXt := hid (HXt.out.below hb)
            replace HMM := hid (HMM.out.below hb)
            replace HIx := hid (HIx.out.below hb)
            replace HIu := hid (HIu.out.below hb)
            replace HB := hid (HB.out.trans (hb.mono HB.out.size))
            clear hb
            go_wp2_with fail
            go_ret
            exact ⟨rfl, HB.out⟩
end Go.Proofs.Ytmllbemjcfkmjaa
