/- 'MenuCheapest' returns true, whatever the machine and the points. -/
import Derived.Test.YtmllbemjcfkmjaaRCheap
import Derived.Test.YtmllbemjcfkmjaaCheap
import Derived.Test.YtmllbemjcfkmjaaRound
import Derived.Test.YtmllbemjcfkmjaaRounded
import Derived.Test.YtmllbemjcfkmjaaFront
import Derived.Test.YtmllbemjcfkmjaaKnown
import Derived.Test.YtmllbemjcfkmjaaGenOne
import Derived.Deep.DeepCutAuto
namespace Go.Proofs.Ytmllbemjcfkmjaa
open Go.RowKit Go.Maps
set_option linter.unusedSimpArgs false
set_option linter.unusedVariables false

set_option maxRecDepth 100000 in
set_option maxHeartbeats 4000000 in
theorem lawCheapest (W : World) (m : Mac) (a a2 : Option Addr) (cap cap2 : Nat) (hM : MacAt W a cap a2 cap2 m) (n z : Int) (wn : (Lit.int .i64 n).wf = true) (wz : (Lit.int .i64 z).wf = true) (ax : Option Addr) (xs : List Int) (cx : Nat) (hI : IntsAt W ax xs) (hlc : xs.length ≤ cx) (hcm : cx ≤ maxLen) (hwf : ∀ i, i < xs.length → (Lit.int .i64 (nth xs i)).wf = true) :
    Calls Try.prog 13 #[.agg #[.int .i64 m.L, .slice a m.nx.length cap, .slice a2 m.ac.length cap2], .agg #[.int .i64 n, .slice ax xs.length cx, .int .i64 z]] W fun e w' => e = .returned (.bool true) ∧ Below W.heap.size W w' := by
  clear wn wz hwf
  have hl : xs.length ≤ maxLen := Nat.le_trans hlc hcm
  clear hlc hcm
  have hb0 : Below W.heap.size W ((W.alloc (.cells #[.int .i64 m.L, .slice a m.nx.length cap, .slice a2 m.ac.length cap2] 25)).alloc (.cells #[.int .i64 n, .slice ax xs.length cx, .int .i64 z] 56)) := (below_alloc W _).alloc (by simp) _
  have HMa := hid (hM.below hb0)
  have HIp := hid (hI.below hb0)
  have HB := hid hb0
  have HXa : Hid (BoxAt W.heap.size ((W.alloc (.cells #[.int .i64 m.L, .slice a m.nx.length cap, .slice a2 m.ac.length cap2] 25)).alloc (.cells #[.int .i64 n, .slice ax xs.length cx, .int .i64 z] 56)) (.int .i64 m.L) (.slice a m.nx.length cap) (.slice a2 m.ac.length cap2)) := hid (box_fst (Below.refl _ _) rfl)
  have HXs : Hid (BoxAt (W.heap.size + 1) ((W.alloc (.cells #[.int .i64 m.L, .slice a m.nx.length cap, .slice a2 m.ac.length cap2] 25)).alloc (.cells #[.int .i64 n, .slice ax xs.length cx, .int .i64 z] 56)) (.int .i64 n) (.slice ax xs.length cx) (.int .i64 z)) := hid (box_snd (Below.refl _ _) rfl)
  have Hk := hid known_true
  have Hl := hid hl
  have Hrl := hid (cheR_len (m := m) (n := n) (xs := xs))
  clear hM hI hb0 hl
  have HL := hid (Large_any m a a2 cap cap2 ((W.alloc (.cells #[.int .i64 m.L, .slice a m.nx.length cap, .slice a2 m.ac.length cap2] 25)).alloc (.cells #[.int .i64 n, .slice ax xs.length cx, .int .i64 z] 56)) HMa.out)
  cases hL : lrgB m
  · rw [hL] at HL
    clear hL
    go_enter Try.func13, Try.ntmps13
    go_wp2_with fail
    refine HL.out.mono ?_; rintro e w1 ⟨rfl, hb⟩
    clear HL
    replace HXa := hid (HXa.out.below hb)
    replace HXs := hid (HXs.out.below hb)
    replace HMa := hid (HMa.out.below hb)
    replace HIp := hid (HIp.out.below hb)
    replace HB := hid (HB.out.trans (hb.mono HB.out.size))
    clear hb
    by_cases hg : 100 < xs.length
    · have d1 : decide ((100 : Int) < (xs.length : Int)) = true := decide_eq_true (by omega)
      have d2 : decide (100 < xs.length) = true := decide_eq_true hg
      clear hg
      have x0a := HXa.out.c0
      have x1a := HXa.out.c1
      have x2a := HXa.out.c2
      have xla := HXa.out.lt
      have x0s := HXs.out.c0
      have x1s := HXs.out.c1
      have x2s := HXs.out.c2
      have xls := HXs.out.lt
      go_wp2_with fail
      refine (Hk.out _).mono ?_; rintro e wk ⟨rfl, hbk⟩
      have hz := HB.out.trans (hbk.mono HB.out.size)
      clear hbk
      go_wp2_with fail
      go_ret
      exact ⟨rfl, hz⟩
    · have d1 : decide ((100 : Int) < (xs.length : Int)) = false := decide_eq_false (by omega)
      have d2 : decide (100 < xs.length) = false := decide_eq_false hg
      clear hg
      have HC := hid (Cheapest_any m a a2 cap cap2 n xs ax cx w1 HMa.out HIp.out Hl.out)
      have x0a := HXa.out.c0
      have x1a := HXa.out.c1
      have x2a := HXa.out.c2
      have xla := HXa.out.lt
      have x0s := HXs.out.c0
      have x1s := HXs.out.c1
      have x2s := HXs.out.c2
      have xls := HXs.out.lt
      go_wp2_with fail
      refine HC.out.mono ?_
      rintro e w2 ⟨au, cu, rfl, hIu, hb, _, _⟩
      clear HC x0a x1a x2a xla x0s x1s x2s xls d1 d2
      replace HXa := hid (HXa.out.below hb)
      replace HXs := hid (HXs.out.below hb)
      replace HMa := hid (HMa.out.below hb)
      replace HIp := hid (HIp.out.below hb)
      replace HB := hid (HB.out.trans (hb.mono HB.out.size))
      have HIu := hid hIu
      clear hb hIu
      have HC := hid (rCheapest_any m a a2 cap cap2 n xs ax cx w2 HMa.out HIp.out Hl.out)
      have x0a := HXa.out.c0
      have x1a := HXa.out.c1
      have x2a := HXa.out.c2
      have xla := HXa.out.lt
      have x0s := HXs.out.c0
      have x1s := HXs.out.c1
      have x2s := HXs.out.c2
      have xls := HXs.out.lt
      go_wp2_with fail
      refine HC.out.mono ?_
      rintro e w3 ⟨av, cv, rfl, hIv, hb, _, _⟩
      clear HC x0a x1a x2a xla x0s x1s x2s xls
      replace HXa := hid (HXa.out.below hb)
      replace HXs := hid (HXs.out.below hb)
      replace HMa := hid (HMa.out.below hb)
      replace HIp := hid (HIp.out.below hb)
      replace HIu := hid (HIu.out.below hb)
      replace HB := hid (HB.out.trans (hb.mono HB.out.size))
      have HIv := hid hIv
      clear hb hIv
      have e1 : (cheN m n xs == cheN m n xs) = true := beq_self_eq_true _
      have e2 : (cheB m n xs == cheB m n xs) = true := beq_self_eq_true _
      have e3 : (scoE m n xs == scoE m n xs) = true := beq_self_eq_true _
      have HC := hid (SameInts_any (cheR m n xs) au av cu cv w3 HIu.out HIv.out (by have := Hrl.out; unfold maxLen; omega))
      go_wp2_with fail
      refine HC.out.mono ?_
      rintro e w4 ⟨rfl, hb⟩
      clear HC 
      replace HXa := hid (HXa.out.below hb)
      replace HXs := hid (HXs.out.below hb)
      replace HMa := hid (HMa.out.below hb)
      replace HIu := hid (HIu.out.below hb)
      replace HIv := hid (HIv.out.below hb)
      replace HB := hid (HB.out.trans (hb.mono HB.out.size))
      clear hb
      go_wp2_with fail
      refine (Hk.out _).mono ?_; rintro e wk ⟨rfl, hbk⟩
      have hz := HB.out.trans (hbk.mono HB.out.size)
      clear hbk
      go_wp2_with fail
      go_ret
      exact ⟨rfl, hz⟩
  · rw [hL] at HL
    clear hL
    go_enter Try.func13, Try.ntmps13
    go_wp2_with fail
    refine HL.out.mono ?_; rintro e w1 ⟨rfl, hb⟩
    clear HL
    replace HXa := hid (HXa.out.below hb)
    replace HXs := hid (HXs.out.below hb)
    replace HMa := hid (HMa.out.below hb)
    replace HIp := hid (HIp.out.below hb)
    replace HB := hid (HB.out.trans (hb.mono HB.out.size))
    clear hb
    go_wp2_with fail
    refine (Hk.out _).mono ?_; rintro e wk ⟨rfl, hbk⟩
    have hz := HB.out.trans (hbk.mono HB.out.size)
    clear hbk
    go_wp2_with fail
    go_ret
    exact ⟨rfl, hz⟩
end Go.Proofs.Ytmllbemjcfkmjaa
