/- The document's 'weight', 'says', 'Say', 'Said', 'Errors', 'Wrong', 'Weights', 'BestAdviser': what they return. -/
import Derived.Test.YtedgndangamkaaaOffice
namespace Go.Proofs.Ytedgndangamkaaa
open Go.RowKit
set_option linter.unusedSimpArgs false
set_option linter.unusedVariables false

theorem weight_any (k : Nat) (W : World) (h : k ≤ 24) : Calls Try.prog 76 #[.int .i64 k] W fun e w' => e = .returned (.int .i64 (wt k)) ∧ W = w' := by
  have e : wrap64 (2 ^ (24 - k)) = wt k := by
    have := wt_bd k
    exact w64 (x := wt k) (by omega) (by omega)
  have e2 := hid e
  clear e
  go_enter Try.func76, Try.ntmps76
  go_wp2
  go_ret
  refine ⟨ret_int ?_, rfl⟩
  simpa using e2.out

structure SaysIn (g : List Rd) (bs : List Bool) : Prop where
  len : g.length ≤ 24
  bl : bs.length ≤ 8
  el : ∀ i, i < g.length → bs.length ≤ (adv g i).length ∧ (Go.Proofs.Ytedgndangamkaaa.adv g i).length ≤ 8
set_option maxHeartbeats 1000000 in
theorem rsays_any (g : List Rd) (a : Option Addr) (cap : Nat) (a2 : Option Addr) (bs : List Bool) (cap2 : Nat) (W : World) (hG : GameAt W a g) (hB : BoolsAt W a2 bs) (h : SaysIn g bs) :
    Calls Try.prog 73 #[.slice a g.length cap, .slice a2 bs.length cap2] W fun e w' => e = .returned (.bool (sayB g bs)) ∧ Below W.heap.size W w' := by
  obtain ⟨h1, h2, h3⟩ := h
  have H3 := hid h3
  clear h3
  go_enter Try.func73, Try.ntmps73
  go_wp2
  go_loopw [5, 6] (fun v5 v6 w' => ∃ k : Nat, k ≤ bs.length ∧ v5 = .int .i64 (sgn (wts g g.length) bs k) ∧ v6 = .int .i64 k ∧ Below W.heap.size W w') (fun _ v6 _ => bs.length - (intOf v6).toNat)
  case atStart => exact ⟨0, by omega, rfl, rfl, Below.refl _ _⟩
  case round =>
    obtain ⟨k, hk, rfl, rfl, hb⟩ := hrel
    have hbd := sgn_bd (wts g g.length) bs k fun i hi => by have := wt_bd (wrg g i g.length); unfold wts; omega
    by_cases hlt : k < bs.length
    · obtain ⟨b, off, rfl, hbl, c1⟩ := (hB.below hb) k hlt
      have hw := wt_bd (wrg g k g.length)
      have hle := wr_le g k g.length
      have Hw := hid (rwrong_in g a cap k wr (hG.below hb) h1 fun i hi => by have := H3.out i hi; omega)
      cases hx : bth bs k
      · have S : Hid (sgn (wts g g.length) bs k - wt (wrg g k g.length) = sgn (wts g g.length) bs (k + 1)) := hid (by simp only [sgn, hx, wts]; rfl)
        go_wp2_with fail
        refine Hw.out.mono ?_; rintro e w3 ⟨rfl, n, rfl⟩
        go_wp2_with fail
        refine (weight_any (wrg g k g.length) _ (by omega)).mono ?_; rintro e w' ⟨rfl, rfl⟩
        go_wp2
        go_roundw
        case rel => exact ⟨k + 1, by omega, by rw [S.out], by go_num, below_drewN hb _⟩
        case measure => simp [intOf]; omega
      · have S : Hid (sgn (wts g g.length) bs k + wt (wrg g k g.length) = sgn (wts g g.length) bs (k + 1)) := hid (by simp only [sgn, hx, wts]; rfl)
        go_wp2_with fail
        refine Hw.out.mono ?_; rintro e w3 ⟨rfl, n, rfl⟩
        go_wp2_with fail
        refine (weight_any (wrg g k g.length) _ (by omega)).mono ?_; rintro e w' ⟨rfl, rfl⟩
        go_wp2
        go_roundw
        case rel => exact ⟨k + 1, by omega, by rw [S.out], by go_num, below_drewN hb _⟩
        case measure => simp [intOf]; omega
    · obtain rfl : k = bs.length := by omega
      go_wp2
      go_ret
      exact ⟨rfl, hb⟩
end Go.Proofs.Ytedgndangamkaaa
