/- 'ShareRemainders' returns true: the walk. -/
import Derived.Test.YthankdfjkmfokaaKnown
import Derived.Test.YthankdfjkmfokaaLos
namespace Go.Proofs.Ythankdfjkmfokaa
open Go.RowKit
set_option linter.unusedSimpArgs false
set_option linter.unusedVariables false
theorem remR_max (xs : List Int) (n : Int) : (remR xs n).length ≤ 1000 := by
  unfold remR
  split
  · rename_i h
    have := h.1.l8
    rw [remL_len]; omega
  · simp
theorem losR_max (xs : List Int) (n : Int) : (losR xs n).length ≤ 1000 := by
  unfold losR
  split
  · rename_i h
    have := h.o.l8
    have := losL_len (remL xs n) (remL xs (n + 1)) xs.length
    omega
  · simp
structure RemFacts (xs : List Int) (n : Int) (D : List Int) : Prop where
  sm : Small D
  t : tot D = n
  e : havE xs D 0 = 0
  k : kepB xs D = true
theorem rem_facts {xs : List Int} {n : Int} (h : RemOK xs n) : RemFacts xs n (remR xs n) := by
  rw [(rem_yes h).2]
  have hm := rem_ok h.1 h.2
  exact ⟨hm.small h.1, rem_tot h.1 n, havE_yes ⟨⟨h.1, kind0⟩, hm⟩, kepB_yes ⟨⟨h.1, kind0⟩, hm⟩ (rem_keep h.1 n)⟩

set_option maxRecDepth 100000 in
set_option maxHeartbeats 2000000 in
theorem lawRemainders (W : World) (a : Option Addr) (xs : List Int) (cap : Nat) (hI : IntsAt W a xs) (hm : xs.length ≤ maxLen) (_hw : ∀ i, i < xs.length → (Lit.int .i64 (nth xs i)).wf = true)
    (n : Int) (_wn : (Lit.int .i64 n).wf = true) :
    Calls Try.prog 16 #[.slice a xs.length cap, .int .i64 n] W fun e w' => e = .returned (.bool true) ∧ Below W.heap.size W w' := by
  clear _hw _wn
  have HL := hid (fun W => Long_any xs a cap W hm)
  by_cases h60 : 60 < xs.length
  · rw [decide_eq_true h60] at HL
    go_enter Try.func16, Try.ntmps16
    go_wp2_with fail
    refine (HL.out _).mono ?_; rintro e w1 ⟨rfl, rfl⟩
    go_wp2_with fail
    refine (known_true _).mono ?_; rintro e w' ⟨rfl, hb⟩
    go_wp2_with fail
    go_ret
    exact ⟨rfl, hb⟩
  · rw [decide_eq_false h60] at HL
    have hx1 : xs.length ≤ 1000 := by omega
    have mA := remR_max xs n
    have mB := losR_max xs n
    have hA1 : (remR xs n).length ≤ maxLen := by unfold maxLen; omega
    have hB1 : (losR xs n).length ≤ maxLen := by unfold maxLen; omega
    have R1 := hid (fun w h => Remainders_any xs a cap n w h hm)
    have R2 := hid (fun w h => rRemainders_any xs a cap n w h hm)
    have R3 := hid (fun w h => Loses_any xs a cap n w h hm)
    have R4 := hid (fun w h => rLoses_any xs a cap n w h hm)
    go_enter Try.func16, Try.ntmps16
    go_wp2_with fail
    refine (HL.out _).mono ?_; rintro e w1 ⟨rfl, rfl⟩
    go_wp2_with fail
    refine (R1.out _ hI).mono ?_; rintro e w1 ⟨a1, c1, rfl, g1, hb1, _, _⟩
    go_wp2_with fail
    refine (R2.out _ (hI.below hb1)).mono ?_; rintro e w2 ⟨a2, c2, rfl, g2, hb2, _, _⟩
    have hz2 := hb1.trans (hb2.mono hb1.size)
    have p1 := g1.below hb2
    go_wp2_with fail
    refine (R3.out _ (hI.below hz2)).mono ?_; rintro e w3 ⟨a3, c3, rfl, g3, hb3, _, _⟩
    have hz3 := hz2.trans (hb3.mono hz2.size)
    have q1 := p1.below hb3
    have q2 := g2.below hb3
    go_wp2_with fail
    refine (R4.out _ (hI.below hz3)).mono ?_; rintro e w4 ⟨a4, c4, rfl, g4, hb4, _, _⟩
    have hz4 := hz3.trans (hb4.mono hz3.size)
    have r1 := q1.below hb4
    have r2 := q2.below hb4
    have r3 := g3.below hb4
    have S1 := hid (SameInts_any (remR xs n) a1 a2 c1 c2 w4 r1 r2 hA1)
    have S2 := hid (fun w h h' => SameInts_any (losR xs n) a3 a4 c3 c4 w h h' hB1)
    clear g1 g2 g3 p1 q1 q2 r2 hb1 hb2 hb3 hb4 hz2 hz3 HL R1 R2 R3 R4
    by_cases hOK : RemOK xs n
    · have E := (rem_yes hOK).1
      have F := hid (rem_facts hOK)
      rw [E]
      clear hOK E
      generalize losE xs n = LE at *
      generalize remR xs n = D at *
      generalize losR xs n = Q at *
      go_wp2_with fail
      refine S1.out.mono ?_; rintro e w5 ⟨rfl, hb5⟩
      have hz5 := hz4.trans (hb5.mono hz4.size)
      go_wp2_with fail
      refine (S2.out _ (r3.below hb5) (g4.below hb5)).mono ?_; rintro e w6 ⟨rfl, hb6⟩
      have hz6 := hz5.trans (hb6.mono hz5.size)
      have g6 := (r1.below hb5).below hb6
      have K := Keeps_any xs D a a1 cap c1 w6 (hI.below hz6) g6 hx1 hA1
      rw [F.out.e, F.out.k] at K
      have HK := hid K
      have T := total26 D a1 c1 w6 g6 F.out.sm
      rw [F.out.t] at T
      have HT := hid T
      clear K T S1 S2 r1 r3 g4 hb5 hb6 hz4 hz5 g6
      go_wp2_with fail
      refine HK.out.mono ?_; rintro e w' ⟨rfl, rfl⟩
      go_wp2_with fail
      refine HT.out.mono ?_; rintro e w' ⟨rfl, rfl⟩
      go_wp2_with fail
      refine (known_true _).mono ?_; rintro e w' ⟨rfl, hb⟩
      go_wp2_with fail
      go_ret
      exact ⟨rfl, hz6.trans (hb.mono hz6.size)⟩
    · have E := (rem_no hOK).1
      rw [E]
      clear hOK E
      generalize losE xs n = LE at *
      generalize remR xs n = D at *
      generalize losR xs n = Q at *
      go_wp2_with fail
      refine S1.out.mono ?_; rintro e w5 ⟨rfl, hb5⟩
      have hz5 := hz4.trans (hb5.mono hz4.size)
      go_wp2_with fail
      refine (S2.out _ (r3.below hb5) (g4.below hb5)).mono ?_; rintro e w6 ⟨rfl, hb6⟩
      have hz6 := hz5.trans (hb6.mono hz5.size)
      clear S1 S2 r1 r3 g4 hb5 hb6 hz4 hz5
      go_wp2_with fail
      refine (known_true _).mono ?_; rintro e w' ⟨rfl, hb⟩
      go_wp2_with fail
      go_ret
      exact ⟨rfl, hz6.trans (hb.mono hz6.size)⟩
end Go.Proofs.Ythankdfjkmfokaa
