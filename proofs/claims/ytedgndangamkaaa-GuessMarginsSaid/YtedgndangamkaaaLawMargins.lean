/- 'GuessMargins' returns true: the walk. -/
import Derived.Test.YtedgndangamkaaaKnown
import Derived.Test.YtedgndangamkaaaPortLaw
namespace Go.Proofs.Ytedgndangamkaaa
open Go.RowKit

theorem margR_eq {xs : List Int} {o u : Int} (k : Nat) (h : PortOK xs o u k) : margR xs o u k = marg xs o u k := by
  simp [margR, portE_ok h]; rfl
theorem bestR_zero {xs : List Int} {o u : Int} (h : PortOK xs o u 0) : bestR xs o u 0 = decide (0 ≤ margR xs o u 0) := by
  have e := margR_eq (xs := xs) (o := o) (u := u) 0 h
  have k := best_zero h.counts
  have e0 : ((0 : Nat) : Int) = 0 := rfl
  rw [e0] at e
  rw [e]
  unfold bestR
  rw [portE_ok h, if_pos rfl, Bool.eq_iff_iff]
  simp only [beq_iff_eq, decide_eq_true_eq]
  exact k
theorem bestR_succ {xs : List Int} {o u : Int} (q : Nat) (h : PortOK xs o u ((q : Int) + 1)) (h' : PortOK xs o u q) : bestR xs o u ((q : Int) + 1) = (decide (0 ≤ margR xs o u ((q : Int) + 1)) && decide (margR xs o u q ≤ 0)) := by
  have e1 := margR_eq (xs := xs) (o := o) (u := u) (q + 1) (by exact h)
  have e2 := margR_eq (xs := xs) (o := o) (u := u) q h'
  have k := best_succ h.counts q
  have ec : ((q + 1 : Nat) : Int) = (q : Int) + 1 := by omega
  rw [ec] at e1
  rw [e1, e2]
  unfold bestR
  rw [portE_ok h, if_pos rfl, Bool.eq_iff_iff]
  simp only [beq_iff_eq, decide_eq_true_eq, Bool.and_eq_true]
  exact k
theorem margR_mono {xs : List Int} {o u : Int} (q : Nat) (h : PortOK xs o u ((q : Int) + 1)) (h' : PortOK xs o u q) : margR xs o u q ≤ margR xs o u ((q : Int) + 1) := by
  have e1 := margR_eq (xs := xs) (o := o) (u := u) (q + 1) (by exact h)
  have ec : ((q + 1 : Nat) : Int) = (q : Int) + 1 := by omega
  rw [ec] at e1
  rw [e1, margR_eq _ h']
  exact marg_mono h.counts.toCostIn q

theorem margins_pos {xs : List Int} {o u q : Int} (hc : CountsOK xs o u) (h0 : 0 < q) (h1 : q < 100) :
    bestR xs o u q = (decide (0 ≤ margR xs o u q) && decide (margR xs o u (q - 1) ≤ 0)) ∧ margR xs o u (q - 1) ≤ margR xs o u q ∧ margR xs o u q ≤ margR xs o u (q + 1) ∧ portE xs o u (q - 1) = 0 := by
  obtain ⟨k, rfl⟩ : ∃ k : Nat, q = (k : Int) + 1 := ⟨(q - 1).toNat, by omega⟩
  have hp : PortOK xs o u ((k : Int) + 1) := ⟨hc, by omega, by omega⟩
  have hp' : PortOK xs o u k := ⟨hc, by omega, by omega⟩
  have ek : (k : Int) + 1 - 1 = k := by omega
  have ec : ((k + 1 : Nat) : Int) = (k : Int) + 1 := by omega
  rw [ek]
  refine ⟨bestR_succ k hp hp', margR_mono k hp hp', ?_, portE_ok hp'⟩
  have := margR_mono (xs := xs) (o := o) (u := u) (k + 1) (by rw [ec]; exact ⟨hc, by omega, by omega⟩) (by rw [ec]; exact hp)
  rwa [ec] at this

set_option maxHeartbeats 2000000 in
theorem lawMargins (W : World) (a : Option Addr) (xs : List Int) (cap : Nat) (h : IntsAt W a xs) (hm : xs.length ≤ maxLen) (_hw : ∀ i, i < xs.length → (Lit.int .i64 (nth xs i)).wf = true) (o u : Int) (_wo : (Lit.int .i64 o).wf = true) (_wu : (Lit.int .i64 u).wf = true) (q : Int) (_wq : (Lit.int .i64 q).wf = true) :
    Calls Try.prog 7 #[.slice a xs.length cap, .agg #[.int .i64 o, .int .i64 u], .int .i64 q] W fun e w' => e = .returned (.bool true) ∧ Below W.heap.size W w' := by
  unfold maxLen at hm
  clear _hw _wo _wu _wq
  by_cases hl : xs.length ≤ 300
  · by_cases hq0 : 0 ≤ q
    · by_cases hq1 : q < 100
      · have h1 : IntsAt (W.alloc (.cells #[.int .i64 o, .int .i64 u] 29)) a xs := h.below ((Below.refl _ _).alloc (Nat.le_refl _) _)
        by_cases hc : CountsOK xs o u
        · have hp : PortOK xs o u q := ⟨hc, hq0, by omega⟩
          have e0 := portE_ok hp
          have e1 : portE xs o u (q + 1) = 0 := portE_ok ⟨hc, by omega, by omega⟩
          by_cases hz : q = 0
          · subst hz
            have hb := bestR_zero hp
            have hmn' : margR xs o u 0 ≤ margR xs o u 1 := margR_mono 0 ⟨hc, by omega, by omega⟩ hp
            have e1' : portE xs o u 1 = 0 := e1
            clear e1
            by_cases hs : 0 ≤ margR xs o u 0
            · have hb' : bestR xs o u 0 = true := by rw [hb]; simp [hs]
              clear hb
              go_enter Try.func7, Try.ntmps7
              go_wp2_with fail
              refine (IsBest_any xs _ _ o u _ _ h1).mono ?_; rintro e w' ⟨rfl, rfl⟩
              go_wp2_with fail
              refine (Marginal_any xs _ _ o u _ _ h1).mono ?_; rintro e w' ⟨rfl, rfl⟩
              go_wp2_with fail
              refine (Marginal_any xs _ _ o u _ _ h1).mono ?_; rintro e w' ⟨rfl, rfl⟩
              go_wp2_with fail
              refine (known_true _).mono ?_; rintro e w' ⟨rfl, hb⟩
              go_wp2
              go_ret
              exact ⟨rfl, ((Below.refl _ _).alloc (Nat.le_refl _) _).trans (hb.mono (by simp))⟩
            · have hb' : bestR xs o u 0 = false := by rw [hb]; simp; omega
              clear hb
              go_enter Try.func7, Try.ntmps7
              go_wp2_with fail
              refine (IsBest_any xs _ _ o u _ _ h1).mono ?_; rintro e w' ⟨rfl, rfl⟩
              go_wp2_with fail
              refine (Marginal_any xs _ _ o u _ _ h1).mono ?_; rintro e w' ⟨rfl, rfl⟩
              go_wp2_with fail
              refine (Marginal_any xs _ _ o u _ _ h1).mono ?_; rintro e w' ⟨rfl, rfl⟩
              go_wp2_with fail
              refine (known_true _).mono ?_; rintro e w' ⟨rfl, hb⟩
              go_wp2
              go_ret
              exact ⟨rfl, ((Below.refl _ _).alloc (Nat.le_refl _) _).trans (hb.mono (by simp))⟩
          · have hpos : 0 < q := by omega
            obtain ⟨hb, hm1, hm2, e2⟩ := margins_pos hc hpos hq1
            have hz' : (q == 0) = false := by simp [hz]
            clear hz
            by_cases hs : 0 ≤ margR xs o u q
            · by_cases hd : margR xs o u (q - 1) ≤ 0
              · have hb' : bestR xs o u q = true := by rw [hb]; simp only [hs, hd]; rfl
                clear hb
                go_enter Try.func7, Try.ntmps7
                go_wp2_with fail
                refine (IsBest_any xs _ _ o u _ _ h1).mono ?_; rintro e w' ⟨rfl, rfl⟩
                go_wp2_with fail
                refine (Marginal_any xs _ _ o u _ _ h1).mono ?_; rintro e w' ⟨rfl, rfl⟩
                go_wp2_with fail
                refine (Marginal_any xs _ _ o u _ _ h1).mono ?_; rintro e w' ⟨rfl, rfl⟩
                go_wp2_with fail
                refine (Marginal_any xs _ _ o u _ _ h1).mono ?_; rintro e w' ⟨rfl, rfl⟩
                go_wp2_with fail
                refine (known_true _).mono ?_; rintro e w' ⟨rfl, hb⟩
                go_wp2
                go_ret
                exact ⟨rfl, ((Below.refl _ _).alloc (Nat.le_refl _) _).trans (hb.mono (by simp))⟩
              · have hb' : bestR xs o u q = false := by rw [hb]; simp; omega
                have hdd : decide (margR xs o u (q - 1) ≤ 0) = false := by simp; omega
                clear hb
                go_enter Try.func7, Try.ntmps7
                go_wp2_with fail
                refine (IsBest_any xs _ _ o u _ _ h1).mono ?_; rintro e w' ⟨rfl, rfl⟩
                go_wp2_with fail
                refine (Marginal_any xs _ _ o u _ _ h1).mono ?_; rintro e w' ⟨rfl, rfl⟩
                go_wp2_with fail
                refine (Marginal_any xs _ _ o u _ _ h1).mono ?_; rintro e w' ⟨rfl, rfl⟩
                go_wp2_with fail
                refine (Marginal_any xs _ _ o u _ _ h1).mono ?_; rintro e w' ⟨rfl, rfl⟩
                go_wp2_with fail
                refine (known_true _).mono ?_; rintro e w' ⟨rfl, hb⟩
                go_wp2
                go_ret
                exact ⟨rfl, ((Below.refl _ _).alloc (Nat.le_refl _) _).trans (hb.mono (by simp))⟩
            · have hb' : bestR xs o u q = false := by rw [hb]; simp; omega
              clear hb
              go_enter Try.func7, Try.ntmps7
              go_wp2_with fail
              refine (IsBest_any xs _ _ o u _ _ h1).mono ?_; rintro e w' ⟨rfl, rfl⟩
              go_wp2_with fail
              refine (Marginal_any xs _ _ o u _ _ h1).mono ?_; rintro e w' ⟨rfl, rfl⟩
              go_wp2_with fail
              refine (Marginal_any xs _ _ o u _ _ h1).mono ?_; rintro e w' ⟨rfl, rfl⟩
              go_wp2_with fail
              refine (Marginal_any xs _ _ o u _ _ h1).mono ?_; rintro e w' ⟨rfl, rfl⟩
              go_wp2_with fail
              refine (known_true _).mono ?_; rintro e w' ⟨rfl, hb⟩
              go_wp2
              go_ret
              exact ⟨rfl, ((Below.refl _ _).alloc (Nat.le_refl _) _).trans (hb.mono (by simp))⟩
        · have e0 : portE xs o u q = 1 := portE_no fun k => hc k.counts
          have e1 : portE xs o u (q + 1) = 1 := portE_no fun k => hc k.counts
          go_enter Try.func7, Try.ntmps7
          go_wp2_with fail
          refine (IsBest_any xs _ _ o u _ _ h1).mono ?_; rintro e w' ⟨rfl, rfl⟩
          go_wp2_with fail
          refine (Marginal_any xs _ _ o u _ _ h1).mono ?_; rintro e w' ⟨rfl, rfl⟩
          go_wp2_with fail
          refine (Marginal_any xs _ _ o u _ _ h1).mono ?_; rintro e w' ⟨rfl, rfl⟩
          go_wp2_with fail
          refine (known_true _).mono ?_; rintro e w' ⟨rfl, hb⟩
          go_wp2
          go_ret
          exact ⟨rfl, ((Below.refl _ _).alloc (Nat.le_refl _) _).trans (hb.mono (by simp))⟩
      · go_enter Try.func7, Try.ntmps7
        go_wp2_with fail
        refine (known_true _).mono ?_; rintro e w' ⟨rfl, hb⟩
        go_wp2
        go_ret
        exact ⟨rfl, ((Below.refl _ _).alloc (Nat.le_refl _) _).trans (hb.mono (by simp))⟩
    · go_enter Try.func7, Try.ntmps7
      go_wp2_with fail
      refine (known_true _).mono ?_; rintro e w' ⟨rfl, hb⟩
      go_wp2
      go_ret
      exact ⟨rfl, ((Below.refl _ _).alloc (Nat.le_refl _) _).trans (hb.mono (by simp))⟩
  · go_enter Try.func7, Try.ntmps7
    go_wp2_with fail
    refine (known_true _).mono ?_; rintro e w' ⟨rfl, hb⟩
    go_wp2
    go_ret
    exact ⟨rfl, ((Below.refl _ _).alloc (Nat.le_refl _) _).trans (hb.mono (by simp))⟩
end Go.Proofs.Ytedgndangamkaaa
