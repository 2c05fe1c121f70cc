/- Games in memory; 'Validate', 'played', 'wrong' and the document's beside them: what they return. -/
import Derived.Test.YtedgndangamkaaaMem
import Derived.Test.YtedgndangamkaaaBound
import Derived.Test.YtedgndangamkaaaGcd
namespace Go.Proofs.Ytedgndangamkaaa
open Go.RowKit
set_option linter.unusedSimpArgs false
set_option linter.unusedVariables false

def bth (bs : List Bool) (i : Nat) : Bool := bs.getD i false
structure Rd where
  adv : List Bool
  came : Bool
def rd (g : List Rd) (i : Nat) : Rd := g.getD i ⟨[], false⟩
def adv (g : List Rd) (i : Nat) : List Bool := (rd g i).adv
def came (g : List Rd) (i : Nat) : Bool := (rd g i).came
/-- The slice at a holds the truth values bs. -/
def BoolsAt (w : World) (a : Option Addr) (bs : List Bool) : Prop :=
  ∀ i, i < bs.length → ∃ b off, a = some ⟨b, off, none⟩ ∧ b < w.heap.size ∧ w.cell? ⟨b, off + i, none⟩ = some (.bool (bth bs i))
/-- The slice at a holds the rounds g. -/
def GameAt (w : World) (a : Option Addr) (g : List Rd) : Prop :=
  ∀ i, i < g.length → ∃ b off aa c, a = some ⟨b, off, none⟩ ∧ b < w.heap.size ∧ w.cell? ⟨b, off + i * 2, none⟩ = some (.slice aa (adv g i).length c) ∧
    w.cell? ⟨b, off + i * 2 + 1, none⟩ = some (.bool (came g i)) ∧ BoolsAt w aa (adv g i) ∧ (adv g i).length ≤ c ∧ c ≤ maxLen
theorem BoolsAt.below {w w' : World} {a : Option Addr} {bs : List Bool} (h : BoolsAt w a bs) (hb : Below w.heap.size w w') : BoolsAt w' a bs := by
  intro i hi
  obtain ⟨b, off, e, hlt, hc⟩ := h i hi
  exact ⟨b, off, e, Nat.lt_of_lt_of_le hlt hb.size, by rw [hb.cell (p := ⟨b, off + i, none⟩) hlt]; exact hc⟩
theorem GameAt.below {w w' : World} {a : Option Addr} {g : List Rd} (h : GameAt w a g) (hb : Below w.heap.size w w') : GameAt w' a g := by
  intro i hi
  obtain ⟨b, off, aa, c, e, hlt, h1, h2, h3, h4, h5⟩ := h i hi
  exact ⟨b, off, aa, c, e, Nat.lt_of_lt_of_le hlt hb.size, by rw [hb.cell (p := ⟨b, off + i * 2, none⟩) hlt]; exact h1, by rw [hb.cell (p := ⟨b, off + i * 2 + 1, none⟩) hlt]; exact h2, h3.below hb, h4, h5⟩
theorem rd_take (g : List Rd) (k i : Nat) (h : i < k) : rd (g.take k) i = rd g i := by simp [rd, List.getD, h]
theorem GameAt.take {w : World} {a : Option Addr} {g : List Rd} (h : GameAt w a g) (k : Nat) : GameAt w a (g.take k) := by
  intro i hi
  have hi' : i < k ∧ i < g.length := by simp at hi; omega
  obtain ⟨b, off, aa, c, e, hlt, h1, h2, h3, h4, h5⟩ := h i hi'.2
  have e1 : adv (g.take k) i = adv g i := by unfold adv; rw [rd_take g k i hi'.1]
  have e2 : came (g.take k) i = came g i := by unfold came; rw [rd_take g k i hi'.1]
  rw [e1, e2]
  exact ⟨b, off, aa, c, e, hlt, h1, h2, h3, h4, h5⟩

/-! ### plain -/
structure GOK (g : List Rd) : Prop where
  len : g.length ≤ 24
  el : ∀ i, i < g.length → (adv g i).length = (adv g 0).length ∧ 1 ≤ (adv g i).length ∧ (adv g i).length ≤ 8
open Classical in
noncomputable def vE (g : List Rd) : Int := if g.length ≤ 24 then (if GOK g then 0 else 1) else 4
open Classical in
noncomputable def plE (g : List Rd) : Int := if vE g = 0 then (if g.length = 0 then 5 else 0) else vE g
theorem vE_ok {g : List Rd} (h : GOK g) : vE g = 0 := by simp [vE, h, h.len]
theorem vE_no {g : List Rd} (h : ¬ GOK g) : vE g ≠ 0 := by unfold vE; split <;> simp [h]
theorem plE_ok {g : List Rd} (h : GOK g) (h0 : g.length ≠ 0) : plE g = 0 := by simp [plE, vE_ok h, h0]
theorem plE_zero {g : List Rd} (h : plE g = 0) : GOK g ∧ g.length ≠ 0 := by
  unfold plE at h
  split at h
  · rename_i k
    split at h
    · cases h
    · rename_i k2
      exact ⟨Classical.byContradiction fun c => vE_no c k, k2⟩
  · rename_i k
    exact absurd h k
theorem gok_take {g : List Rd} (h : GOK g) (k : Nat) : GOK (g.take k) := by
  refine ⟨by have := h.len; simp; omega, fun i hi => ?_⟩
  have hi' : i < k ∧ i < g.length := by simp at hi; omega
  have e1 : adv (g.take k) i = adv g i := by unfold adv; rw [rd_take g k i hi'.1]
  have e0 : adv (g.take k) 0 = adv g 0 := by unfold adv; rw [rd_take g k 0 (by omega)]
  rw [e1, e0]
  exact h.el i hi'.2
/-- How often an adviser was wrong in the first k rounds. -/
def wrg (g : List Rd) (a : Nat) : Nat → Nat
  | 0 => 0
  | k + 1 => wrg g a k + (if bth (adv g k) a != came g k then 1 else 0)
theorem wr_le (g : List Rd) (a k : Nat) : wrg g a k ≤ k := by
  induction k with
  | zero => exact Nat.le_refl _
  | succ k ih => simp only [wrg]; split <;> omega
theorem wr_take (g : List Rd) (a m k : Nat) (h : k ≤ m) : wrg (g.take m) a k = wrg g a k := by
  induction k with
  | zero => rfl
  | succ k ih =>
    have e1 : adv (g.take m) k = adv g k := by unfold adv; rw [rd_take g m k (by omega)]
    have e2 : came (g.take m) k = came g k := by unfold came; rw [rd_take g m k (by omega)]
    simp only [wrg, e1, e2, ih (by omega)]

/-! ### Validate -/
set_option maxHeartbeats 1000000 in
theorem validate_any (g : List Rd) (a : Option Addr) (cap : Nat) (W : World) (hG : GameAt W a g) (hm : g.length ≤ maxLen) :
    Calls Try.prog 51 #[.slice a g.length cap] W fun e w' => e = .returned (.int .i64 (vE g)) ∧ Below W.heap.size W w' := by
  unfold maxLen at hm
  by_cases hl : g.length ≤ 24
  · go_enter Try.func51, Try.ntmps51
    go_wp2
    go_loopw [10] (fun v10 w' => ∃ k : Nat, k ≤ g.length ∧ v10 = .int .i64 k ∧ Below W.heap.size W w' ∧ ∀ i, i < k → (adv g i).length = (adv g 0).length ∧ 1 ≤ (adv g i).length ∧ (adv g i).length ≤ 8) (fun v10 _ => g.length - (intOf v10).toNat)
    case atStart => exact ⟨0, by omega, rfl, Below.refl _ _, fun i hi => by omega⟩
    case round =>
      obtain ⟨k, hk, rfl, hb, hall⟩ := hrel
      have Hall := hid hall
      clear hall
      by_cases hlt : k < g.length
      · have hG' := hG.below hb
        obtain ⟨b, off, aa, c, rfl, hbl, c1, c2, _, _, hcm⟩ := hG' k hlt
        obtain ⟨b', off', aa0, c0, e0, _, z1, _, _, _, hcm0⟩ := hG' 0 (by omega)
        cases e0
        have z1' : wr.cell? ⟨b, off, none⟩ = some (.slice aa0 (adv g 0).length c0) := by simpa using z1
        clear z1
        have hsz := hb.size
        have hcm' : (adv g k).length ≤ 9223372036854775807 := by unfold maxLen at hcm; omega
        have hcm0' : (adv g 0).length ≤ 9223372036854775807 := by unfold maxLen at hcm0; omega
        clear hcm hcm0
        have ek : 0 < k → True := fun _ => trivial
        by_cases he : (adv g k).length = (adv g 0).length
        · have he' : (((adv g k).length : Int) != ((adv g 0).length : Int)) = false := by simp [he]
          by_cases hr : 1 ≤ (adv g k).length ∧ (adv g k).length ≤ 8
          · obtain ⟨r1, r2⟩ := hr
            have He := hid he
            clear he
            go_wp2
            go_quiet ((go_at_call 53; exact quiet_eq (within_yes _ _ _ _ (by omega) (by omega))))
            go_wp2
            go_roundw
            case rel => exact ⟨k + 1, by omega, by go_num, below_drewN (hb.alloc hb.size _) _, fun i hi => by
              by_cases e : i = k
              · subst e; exact ⟨He.out, r1, r2⟩
              · exact Hall.out i (by omega)⟩
            case measure => simp [intOf]; omega
          · have e1 : vE g = 1 := by
              have hn : ¬ GOK g := fun h => hr (h.el k hlt).2
              simp [vE, hl, hn]
            have E1 := hid e1
            clear he e1
            go_wp2
            go_quiet ((go_at_call 53; exact quiet_eq (within_no _ _ _ _ (by omega))))
            go_wp2
            go_ret
            rw [E1.out]
            exact ⟨rfl, below_drewN (hb.alloc hb.size _) _⟩
        · have he' : (((adv g k).length : Int) != ((adv g 0).length : Int)) = true := by simp; omega
          have e1 : vE g = 1 := by
            have hn : ¬ GOK g := fun h => he (h.el k hlt).1
            simp [vE, hl, hn]
          have E1 := hid e1
          clear he e1
          go_wp2
          go_quiet (fail)
          go_wp2
          go_ret
          rw [E1.out]
          exact ⟨rfl, below_drewN (hb.alloc hb.size _) _⟩
      · obtain rfl : k = g.length := by omega
        have e1 : vE g = 0 := vE_ok ⟨hl, Hall.out⟩
        have E1 := hid e1
        clear e1
        go_wp2
        go_ret
        rw [E1.out]
        exact ⟨rfl, hb⟩
  · have e1 : vE g = 4 := by simp [vE, hl]
    have E1 := hid e1
    clear e1
    go_enter Try.func51, Try.ntmps51
    go_wp2
    go_ret
    rw [E1.out]
    exact ⟨rfl, Below.refl _ _⟩
set_option maxHeartbeats 1000000 in
theorem rvalidate_any (g : List Rd) (a : Option Addr) (cap : Nat) (W : World) (hG : GameAt W a g) (hm : g.length ≤ maxLen) :
    Calls Try.prog 52 #[.slice a g.length cap] W fun e w' => e = .returned (.int .i64 (vE g)) ∧ W = w' := by
  unfold maxLen at hm
  by_cases hl : g.length ≤ 24
  · go_enter Try.func52, Try.ntmps52
    go_wp2
    go_loop [3] (fun v3 => ∃ k : Nat, k ≤ g.length ∧ v3 = .int .i64 k ∧ ∀ i, i < k → (adv g i).length = (adv g 0).length ∧ 1 ≤ (adv g i).length ∧ (adv g i).length ≤ 8) (fun v3 => g.length - (intOf v3).toNat)
    case atStart => exact ⟨0, by omega, rfl, fun i hi => by omega⟩
    case round =>
      obtain ⟨k, hk, rfl, hall⟩ := hrel
      have Hall := hid hall
      clear hall
      by_cases hlt : k < g.length
      · obtain ⟨b, off, aa, c, rfl, hbl, c1, c2, _, _, hcm⟩ := hG k hlt
        obtain ⟨b', off', aa0, c0, e0, _, z1, _, _, _, hcm0⟩ := hG 0 (by omega)
        cases e0
        have z1' : W.cell? ⟨b, off, none⟩ = some (.slice aa0 (adv g 0).length c0) := by simpa using z1
        clear z1
        have hcm' : (adv g k).length ≤ 9223372036854775807 := by unfold maxLen at hcm; omega
        have hcm0' : (adv g 0).length ≤ 9223372036854775807 := by unfold maxLen at hcm0; omega
        clear hcm hcm0
        by_cases hr : 1 ≤ (adv g k).length ∧ (adv g k).length ≤ 8
        · obtain ⟨r1, r2⟩ := hr
          by_cases he : (adv g k).length = (adv g 0).length
          · have he' : (((adv g k).length : Int) != ((adv g 0).length : Int)) = false := by simp [he]
            have He := hid he
            clear he
            go_wp2
            go_round
            case rel => exact ⟨k + 1, by omega, by go_num, fun i hi => by
              by_cases e : i = k
              · subst e; exact ⟨He.out, r1, r2⟩
              · exact Hall.out i (by omega)⟩
            case measure => simp [intOf]; omega
          · have he' : (((adv g k).length : Int) != ((adv g 0).length : Int)) = true := by simp; omega
            have e1 : vE g = 1 := by
              have hn : ¬ GOK g := fun h => he (h.el k hlt).1
              simp [vE, hl, hn]
            have E1 := hid e1
            clear he e1
            go_wp2
            go_ret
            rw [E1.out]
            exact ⟨rfl, rfl⟩
        · have e1 : vE g = 1 := by
            have hn : ¬ GOK g := fun h => hr (h.el k hlt).2
            simp [vE, hl, hn]
          have E1 := hid e1
          clear e1
          by_cases hr0 : (adv g k).length < 1
          all_goals
            go_wp2
            go_ret
            rw [E1.out]
            exact ⟨rfl, rfl⟩
      · obtain rfl : k = g.length := by omega
        have e1 : vE g = 0 := vE_ok ⟨hl, Hall.out⟩
        have E1 := hid e1
        clear e1
        go_wp2
        go_ret
        rw [E1.out]
        exact ⟨rfl, rfl⟩
  · have e1 : vE g = 4 := by simp [vE, hl]
    have E1 := hid e1
    clear e1
    go_enter Try.func52, Try.ntmps52
    go_wp2
    go_ret
    rw [E1.out]
    exact ⟨rfl, rfl⟩
theorem played_any (g : List Rd) (a : Option Addr) (cap : Nat) (W : World) (hG : GameAt W a g) (hm : g.length ≤ maxLen) :
    Calls Try.prog 66 #[.slice a g.length cap] W fun e w' => e = .returned (.int .i64 (plE g)) ∧ Below W.heap.size W w' := by
  by_cases hv : vE g = 0
  · by_cases h0 : g.length = 0
    · have e1 : plE g = 5 := by simp [plE, hv, h0]
      have E1 := hid e1
      have hz : ((g.length : Int) == 0) = true := beq_iff_eq.2 (by omega)
      clear e1 h0
      go_enter Try.func66, Try.ntmps66
      go_wp2_with fail
      refine (validate_any g _ _ _ hG hm).mono ?_; rintro e w1 ⟨rfl, hb⟩
      go_wp2
      go_ret
      rw [E1.out]
      exact ⟨rfl, hb⟩
    · have e1 : plE g = 0 := by simp [plE, hv, h0]
      have E1 := hid e1
      have hz : ((g.length : Int) == 0) = false := beq_eq_false_iff_ne.2 (by omega)
      clear e1 h0
      go_enter Try.func66, Try.ntmps66
      go_wp2_with fail
      refine (validate_any g _ _ _ hG hm).mono ?_; rintro e w1 ⟨rfl, hb⟩
      go_wp2
      go_ret
      rw [E1.out]
      exact ⟨rfl, hb⟩
  · have e1 : plE g = vE g := by simp [plE, hv]
    have E1 := hid e1
    have hz : (vE g != 0) = true := by simp [hv]
    clear e1 hv
    go_enter Try.func66, Try.ntmps66
    go_wp2_with fail
    refine (validate_any g _ _ _ hG hm).mono ?_; rintro e w1 ⟨rfl, hb⟩
    go_wp2
    go_ret
    rw [E1.out]
    exact ⟨rfl, hb⟩
theorem rounds_any (g : List Rd) (a : Option Addr) (cap : Nat) (W : World) (hG : GameAt W a g) (hm : g.length ≤ maxLen) :
    Calls Try.prog 69 #[.slice a g.length cap] W fun e w' => e = .returned (.int .i64 (plE g)) ∧ W = w' := by
  by_cases hv : vE g = 0
  · by_cases h0 : g.length = 0
    · have e1 : plE g = 5 := by simp [plE, hv, h0]
      have E1 := hid e1
      have hz : ((g.length : Int) == 0) = true := beq_iff_eq.2 (by omega)
      clear e1 h0
      go_enter Try.func69, Try.ntmps69
      go_wp2_with fail
      refine (rvalidate_any g _ _ _ hG hm).mono ?_; rintro e w' ⟨rfl, rfl⟩
      go_wp2
      go_ret
      rw [E1.out]
      exact ⟨rfl, rfl⟩
    · have e1 : plE g = 0 := by simp [plE, hv, h0]
      have E1 := hid e1
      have hz : ((g.length : Int) == 0) = false := beq_eq_false_iff_ne.2 (by omega)
      clear e1 h0
      go_enter Try.func69, Try.ntmps69
      go_wp2_with fail
      refine (rvalidate_any g _ _ _ hG hm).mono ?_; rintro e w' ⟨rfl, rfl⟩
      go_wp2
      go_ret
      rw [E1.out]
      exact ⟨rfl, rfl⟩
  · have e1 : plE g = vE g := by simp [plE, hv]
    have E1 := hid e1
    have hz : (vE g != 0) = true := by simp [hv]
    clear e1 hv
    go_enter Try.func69, Try.ntmps69
    go_wp2_with fail
    refine (rvalidate_any g _ _ _ hG hm).mono ?_; rintro e w' ⟨rfl, rfl⟩
    go_wp2
    go_ret
    rw [E1.out]
    exact ⟨rfl, rfl⟩

/-! ### wrong -/
theorem wr_step (g : List Rd) (a k : Nat) (h : (bth (adv g k) a == came g k) = false) : wrg g a (k + 1) = wrg g a k + 1 := by simp only [wrg, bne, h, Bool.not_false, if_true]
theorem wr_skip (g : List Rd) (a k : Nat) (h : (bth (adv g k) a == came g k) = true) : wrg g a (k + 1) = wrg g a k := by simp only [wrg, bne, h]; rfl
set_option maxHeartbeats 1000000 in
theorem wrong_in (g : List Rd) (a : Option Addr) (cap : Nat) (j : Nat) (W : World) (hG : GameAt W a g) (hl : g.length ≤ 24) (hj : ∀ i, i < g.length → j < (adv g i).length ∧ (adv g i).length ≤ 8) :
    Calls Try.prog 75 #[.slice a g.length cap, .int .i64 j] W fun e w' => e = .returned (.int .i64 (wrg g j g.length)) ∧ Below W.heap.size W w' := by
  have Hj := hid hj
  clear hj
  go_enter Try.func75, Try.ntmps75
  go_wp2
  go_loopw [5, 10] (fun v5 v10 w' => ∃ k : Nat, k ≤ g.length ∧ v5 = .int .i64 (wrg g j k) ∧ v10 = .int .i64 k ∧ Below W.heap.size W w') (fun _ v10 _ => g.length - (intOf v10).toNat)
  case atStart => exact ⟨0, by omega, rfl, rfl, Below.refl _ _⟩
  case round =>
    obtain ⟨k, hk, rfl, rfl, hb⟩ := hrel
    by_cases hlt : k < g.length
    · have hw := wr_le g j k
      obtain ⟨b, off, aa, c, rfl, hbl, c1, c2, c3, _, hcm⟩ := (hG.below hb) k hlt
      obtain ⟨hjk, hj8⟩ := Hj.out k hlt
      obtain ⟨b3, off3, rfl, hb3, c4⟩ := c3 j hjk
      have hsz := hb.size
      have hj0 : (0 : Int) ≤ (j : Int) := by omega
      have hj1 : (j : Int) < ((adv g k).length : Int) := by omega
      clear c3 hcm
      cases hx : (bth (adv g k) j == came g k)
      · have S := hid (wr_step g j k hx)
        go_wp2
        go_quiet (fail)
        go_wp2
        go_roundw
        case rel => exact ⟨k + 1, by omega, by rw [S.out]; go_num, by go_num, below_drewN (hb.alloc hb.size _) _⟩
        case measure => simp [intOf]; omega
      · have S := hid (wr_skip g j k hx)
        go_wp2
        go_quiet (fail)
        go_wp2
        go_roundw
        case rel => exact ⟨k + 1, by omega, by rw [S.out], by go_num, below_drewN (hb.alloc hb.size _) _⟩
        case measure => simp [intOf]; omega
    · obtain rfl : k = g.length := by omega
      go_wp2
      go_ret
      exact ⟨rfl, hb⟩
set_option maxHeartbeats 1000000 in
theorem rwrong_in (g : List Rd) (a : Option Addr) (cap : Nat) (j : Nat) (W : World) (hG : GameAt W a g) (hl : g.length ≤ 24) (hj : ∀ i, i < g.length → j < (adv g i).length ∧ (adv g i).length ≤ 8) :
    Calls Try.prog 70 #[.slice a g.length cap, .int .i64 j] W fun e w' => e = .returned (.int .i64 (wrg g j g.length)) ∧ ∃ n, w' = W.drewN n := by
  have Hj := hid hj
  clear hj
  go_enter Try.func70, Try.ntmps70
  go_wp2
  go_loopw [5, 6] (fun v5 v10 w' => ∃ k n : Nat, k ≤ g.length ∧ v5 = .int .i64 (wrg g j k) ∧ v10 = .int .i64 k ∧ w' = W.drewN n) (fun _ v10 _ => g.length - (intOf v10).toNat)
  case atStart => exact ⟨0, 0, by omega, rfl, rfl, rfl⟩
  case round =>
    obtain ⟨k, n, hk, rfl, rfl, rfl⟩ := hrel
    by_cases hlt : k < g.length
    · have hw := wr_le g j k
      obtain ⟨b, off, aa, c, rfl, hbl, c1, c2, c3, _, hcm⟩ := hG k hlt
      obtain ⟨hjk, hj8⟩ := Hj.out k hlt
      obtain ⟨b3, off3, rfl, hb3, c4⟩ := c3 j hjk
      have hj0 : (0 : Int) ≤ (j : Int) := by omega
      have hj1 : (j : Int) < ((adv g k).length : Int) := by omega
      have hk0 : (0 : Int) ≤ (k : Int) := by omega
      have hk1 : (k : Int) < (g.length : Int) := by omega
      clear c3 hcm
      cases hx : (bth (adv g k) j == came g k)
      · have S := hid (wr_step g j k hx)
        go_wp2
        go_quiet (fail)
        go_wp2
        go_roundw
        case rel => exact ⟨k + 1, _, by omega, by rw [S.out]; go_num, by go_num, rfl⟩
        case measure => simp [intOf]; omega
      · have S := hid (wr_skip g j k hx)
        go_wp2
        go_quiet (fail)
        go_wp2
        go_roundw
        case rel => exact ⟨k + 1, _, by omega, by rw [S.out], by go_num, rfl⟩
        case measure => simp [intOf]; omega
    · obtain rfl : k = g.length := by omega
      go_wp2
      go_ret
      exact ⟨rfl, n, rfl⟩
end Go.Proofs.Ytedgndangamkaaa
