/- 'ShareFair' returns true: the walk. -/
import Derived.Test.YthankdfjkmfokaaKnown
import Derived.Test.YthankdfjkmfokaaFairs
namespace Go.Proofs.Ythankdfjkmfokaa
open Go.RowKit
set_option linter.unusedSimpArgs false
set_option linter.unusedVariables false
theorem div_fair {xs : List Int} {kd n : Int} (h : DivOK xs kd n) : havE xs (divR xs kd n) kd = 0 ∧ faiB xs (divR xs kd n) kd = true := by
  have hb := num_nat h.2
  have hH : HavOK xs (divR xs kd n) kd := ⟨h.1, by rw [divR_yes h]; exact giv_ok h.1.1 _ hb.2⟩
  exact ⟨havE_yes hH, faiB_yes hH (by rw [divR_yes h]; exact sf_fair (giv_fair kd h.1.1 _))⟩
theorem divR_len {xs : List Int} {kd n : Int} (h : DivOK xs kd n) : (divR xs kd n).length = xs.length := by rw [divR_yes h, giv_len]
set_option maxRecDepth 100000 in
set_option maxHeartbeats 1000000 in
theorem lawFair (W : World) (a : Option Addr) (xs : List Int) (cap : Nat) (hI : IntsAt W a xs) (hm : xs.length ≤ maxLen) (_hw : ∀ i, i < xs.length → (Lit.int .i64 (nth xs i)).wf = true)
    (a2 : Option Addr) (ms : List Int) (cap2 : Nat) (h2 : IntsAt W a2 ms) (hm2 : ms.length ≤ maxLen) (_hw2 : ∀ i, i < ms.length → (Lit.int .i64 (nth ms i)).wf = true) (n kd : Int) (_wn : (Lit.int .i64 n).wf = true) (_wk : (Lit.int .i64 kd).wf = true) :
    Calls Try.prog 7 #[.slice a xs.length cap, .slice a2 ms.length cap2, .agg #[.int .i64 n, .int .i64 kd]] W fun e w' => e = .returned (.bool true) ∧ Below W.heap.size W w' := by
  clear _hw _hw2 _wn _wk
  have hbB : Below W.heap.size W (W.alloc (.cells #[.int .i64 n, .int .i64 kd] 24)) := below_alloc _ _
  have HL := hid (fun W => Long_any xs a cap W hm)
  have HL2 := hid (fun W => Long_any ms a2 cap2 W hm2)
  by_cases h60 : 60 < xs.length
  · rw [decide_eq_true h60] at HL
    go_enter Try.func7, Try.ntmps7
    go_wp2_with fail
    refine (HL.out _).mono ?_; rintro e w1 ⟨rfl, rfl⟩
    go_wp2_with fail
    refine (known_true _).mono ?_; rintro e w' ⟨rfl, hb⟩
    go_wp2_with fail
    go_ret
    exact ⟨rfl, hbB.trans (hb.mono (by simp))⟩
  · rw [decide_eq_false h60] at HL
    by_cases h61 : 60 < ms.length
    · rw [decide_eq_true h61] at HL2
      go_enter Try.func7, Try.ntmps7
      go_wp2_with fail
      refine (HL.out _).mono ?_; rintro e w1 ⟨rfl, rfl⟩
      go_wp2_with fail
      refine (HL2.out _).mono ?_; rintro e w1 ⟨rfl, rfl⟩
      go_wp2_with fail
      refine (known_true _).mono ?_; rintro e w' ⟨rfl, hb⟩
      go_wp2_with fail
      go_ret
      exact ⟨rfl, hbB.trans (hb.mono (by simp))⟩
    · rw [decide_eq_false h61] at HL2
      have hx1 : xs.length ≤ 1000 := by omega
      go_enter Try.func7, Try.ntmps7
      go_wp2_with fail
      refine (HL.out _).mono ?_; rintro e w1 ⟨rfl, rfl⟩
      go_wp2_with fail
      refine (HL2.out _).mono ?_; rintro e w1 ⟨rfl, rfl⟩
      go_wp2_with fail
      refine (IsFair_any xs ms a a2 cap cap2 kd _ (hI.below hbB) (h2.below hbB) hx1 hm2).mono ?_; rintro e w1 ⟨rfl, hb1⟩
      have k0 : w1.cell? ⟨W.heap.size, 0, none⟩ = some (.int .i64 n) := (hb1.cell (p := ⟨W.heap.size, 0, none⟩) (by simp)).trans (by simp)
      have k1 : w1.cell? ⟨W.heap.size, 1, none⟩ = some (.int .i64 kd) := (hb1.cell (p := ⟨W.heap.size, 1, none⟩) (by simp)).trans (by simp)
      have hbz1 := hbB.trans (hb1.mono hbB.size)
      have hs1 : W.heap.size < w1.heap.size := by have := hb1.size; simp at this; omega
      clear hb1
      go_wp2_with fail
      refine (rIsFair_any xs ms a a2 cap cap2 kd _ (hI.below hbz1) (h2.below hbz1) hx1 hm2).mono ?_; rintro e w2 ⟨rfl, hb2⟩
      have l0 := (hb2.cell (p := ⟨W.heap.size, 0, none⟩) hs1).trans k0
      have l1 := (hb2.cell (p := ⟨W.heap.size, 1, none⟩) hs1).trans k1
      have hbz2 := hbz1.trans (hb2.mono hbz1.size)
      have hs2 := Nat.lt_of_lt_of_le hs1 hb2.size
      clear k0 k1 hb2 hbz1 hs1 HL HL2
      generalize faiB xs ms kd = F1
      generalize havE xs ms kd = E1
      go_wp2_with fail
      refine (Divide_any xs a cap n kd _ (hI.below hbz2) hm).mono ?_; rintro e w3 ⟨a3, c3, rfl, h3, hb3, _, _⟩
      have m1 := (hb3.cell (p := ⟨W.heap.size, 1, none⟩) hs2).trans l1
      have hbz3 := hbz2.trans (hb3.mono hbz2.size)
      clear l0 l1 hb3 hbz2 hs2
      by_cases hd : DivOK xs kd n
      · have G := hid (div_fair hd)
        rw [divE_yes hd]
        have HF := hid (IsFair_any xs (divR xs kd n) a a3 cap c3 kd w3 (hI.below hbz3) h3 hx1 (by rw [divR_len hd]; exact hm))
        rw [G.out.1, G.out.2] at HF
        clear hd G
        generalize divR xs kd n = D at *
        go_wp2_with fail
        refine HF.out.mono ?_; rintro e w4 ⟨rfl, hb4⟩
        have hbz4 := hbz3.trans (hb4.mono hbz3.size)
        clear hb4 hbz3 HF m1
        go_wp2_with fail
        refine (known_true _).mono ?_; rintro e w' ⟨rfl, hb⟩
        go_wp2_with fail
        go_ret
        exact ⟨rfl, hbz4.trans (hb.mono hbz4.size)⟩
      · rw [divE_no hd]
        clear hd
        generalize divR xs kd n = D at *
        go_wp2_with fail
        refine (known_true _).mono ?_; rintro e w' ⟨rfl, hb⟩
        go_wp2_with fail
        go_ret
        exact ⟨rfl, hbz3.trans (hb.mono hbz3.size)⟩
end Go.Proofs.Ythankdfjkmfokaa
