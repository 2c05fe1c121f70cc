/- 'examine', 'quantity', 'Quantity', 'IsBest', 'Cost', 'Marginal', and the document's answers beside them: what they return. -/
import Derived.Test.YtedgndangamkaaaCost
namespace Go.Proofs.Ytedgndangamkaaa
open Go.RowKit

/-! ### plain -/
structure CountsOK (xs : List Int) (o u : Int) : Prop extends CostIn xs o u where
  one : 1 ≤ xs.length
  sum : sumTo (nth xs) xs.length ≠ 0
structure PortOK (xs : List Int) (o u q : Int) : Prop where
  counts : CountsOK xs o u
  q0 : 0 ≤ q
  q1 : q ≤ 100
open Classical in
noncomputable def countE (xs : List Int) (o u : Int) : Int := if CountsOK xs o u then 0 else 1
open Classical in
noncomputable def portE (xs : List Int) (o u q : Int) : Int := if PortOK xs o u q then 0 else 1
theorem countE_ok {xs : List Int} {o u : Int} (h : CountsOK xs o u) : countE xs o u = 0 := by simp [countE, h]
theorem countE_no {xs : List Int} {o u : Int} (h : ¬ CountsOK xs o u) : countE xs o u = 1 := by simp [countE, h]
theorem portE_ok {xs : List Int} {o u q : Int} (h : PortOK xs o u q) : portE xs o u q = 0 := by simp [portE, h]
theorem portE_no {xs : List Int} {o u q : Int} (h : ¬ PortOK xs o u q) : portE xs o u q = 1 := by simp [portE, h]
theorem counts_sum {xs : List Int} (h : ∀ d, d < xs.length → 0 ≤ nth xs d ∧ nth xs d ≤ 10000) (hl : xs.length ≤ 101) (k : Nat) (hk : k ≤ xs.length) : 0 ≤ sumTo (nth xs) k ∧ sumTo (nth xs) k ≤ 1010000 := by
  have := sumTo_bd (nth xs) 10000 k fun d hd => h d (by omega)
  omega
/-- The first of the numbers below k with the least f (0, if there is none). -/
def least (f : Nat → Int) : Nat → Nat
  | 0 => 0
  | k + 1 => if f k < f (least f k) then k else least f k
theorem least_step (f : Nat → Int) (k : Nat) (h : f k < f (least f k)) : least f (k + 1) = k := by rw [least, if_pos h]
theorem least_skip (f : Nat → Int) (k : Nat) (h : ¬ f k < f (least f k)) : least f (k + 1) = least f k := by rw [least, if_neg h]
theorem least_lt (f : Nat → Int) (k : Nat) : least f k ≤ k - 1 := by
  induction k with
  | zero => simp [least]
  | succ k ih => rw [least]; split <;> omega
theorem least_le (f : Nat → Int) (k : Nat) : ∀ j, j < k → f (least f k) ≤ f j := by
  induction k with
  | zero => intro j hj; omega
  | succ k ih =>
    intro j hj
    rw [least]
    split
    · rename_i h
      by_cases e : j = k
      · subst e; omega
      · have := ih j (by omega); omega
    · rename_i h
      by_cases e : j = k
      · subst e; omega
      · exact ih j (by omega)
/-- The cost as a function of a natural number of portions. -/
def costN (xs : List Int) (o u : Int) (q : Nat) : Int := costOf xs o u q
def qBest (xs : List Int) (o u : Int) : Nat := least (costN xs o u) xs.length
theorem sumTo_le (f g : Nat → Int) (k : Nat) (h : ∀ d, d < k → f d ≤ g d) : sumTo f k ≤ sumTo g k := by
  induction k with
  | zero => simp [sumTo]
  | succ k ih =>
    have h1 := ih fun d hd => h d (by omega)
    have h2 := h k (by omega)
    simp only [sumTo]; omega
/-- At the last demand and above, one more never saves. -/
theorem cost_last {xs : List Int} {o u : Int} (hc : CostIn xs o u) (q : Int) (h : (xs.length : Int) ≤ q + 1) : costOf xs o u q ≤ costOf xs o u (q + 1) := by
  refine sumTo_le _ _ _ fun d hd => ?_
  have he := hc.el d hd
  unfold cF
  by_cases hdq : (d : Int) < q
  · rw [if_pos hdq, if_pos (by omega)]
    refine Int.mul_le_mul_of_nonneg_left (Int.mul_le_mul_of_nonneg_left (by omega) hc.o0) he.1
  · rw [if_neg hdq, if_pos (by omega)]
    have e : (d : Int) - q = 0 := by omega
    rw [e, Int.mul_zero, Int.mul_zero]
    exact Int.mul_nonneg he.1 (Int.mul_nonneg hc.o0 (by omega))
theorem least_more {xs : List Int} {o u : Int} (hc : CountsOK xs o u) : least (costN xs o u) (xs.length + 1) = qBest xs o u := by
  refine least_skip _ _ ?_
  have h1 := least_le (costN xs o u) xs.length (xs.length - 1) (by have := hc.one; omega)
  have h2 := cost_last hc.toCostIn ((xs.length - 1 : Nat) : Int) (by have := hc.one; omega)
  have e : ((xs.length - 1 : Nat) : Int) + 1 = (xs.length : Nat) := by have := hc.one; omega
  rw [e] at h2
  have h3 : costN xs o u (xs.length - 1) ≤ costN xs o u xs.length := h2
  omega

/-! ### examine -/
theorem examine_ok (xs : List Int) (a : Option Addr) (cap : Nat) (o u : Int) (w : World) (h : IntsAt w a xs) (hc : CountsOK xs o u) :
    Calls Try.prog 54 #[.slice a xs.length cap, .int .i64 o, .int .i64 u] w fun e w' => e = .returned (.int .i64 0) ∧ w = w' := by
  have hl := hc.len
  have h1 := hc.one
  have ho0 := hc.o0
  have ho1 := hc.o1
  have hu0 := hc.u0
  have hu1 := hc.u1
  have hs : (sumTo (nth xs) xs.length == 0) = false := by simp [hc.sum]
  go_enter Try.func54, Try.ntmps54
  go_wp2_with (go_at_call 53; refine (within_yes _ _ _ _ (by omega) (by omega)).mono ?_; rintro e w' ⟨rfl, rfl⟩)
  go_loop [7, 26] (fun v7 v26 => ∃ k : Nat, k ≤ xs.length ∧ v7 = .int .i64 (sumTo (nth xs) k) ∧ v26 = .int .i64 k) (fun _ v26 => xs.length - (intOf v26).toNat)
  case atStart => exact ⟨0, by omega, rfl, rfl⟩
  case round =>
    obtain ⟨k, hk, rfl, rfl⟩ := hrel
    have hb := counts_sum hc.el hl k hk
    by_cases hlt : k < xs.length
    · obtain ⟨b, off, rfl, _, hcell⟩ := h k hlt
      have he := hc.el k hlt
      go_wp2_with (go_at_call 53; refine (within_yes _ _ _ _ (by omega) (by omega)).mono ?_; rintro e w' ⟨rfl, rfl⟩)
      go_round
      case rel => exact ⟨k + 1, by omega, rfl, by go_num⟩
      case measure => simp [intOf]; omega
    · obtain rfl : k = xs.length := by omega
      go_wp2
      go_ret
      exact ⟨rfl, rfl⟩
theorem examine_no (xs : List Int) (a : Option Addr) (cap : Nat) (o u : Int) (w : World) (h : IntsAt w a xs) (hc : ¬ CountsOK xs o u) :
    Calls Try.prog 54 #[.slice a xs.length cap, .int .i64 o, .int .i64 u] w fun e w' => e = .returned (.int .i64 1) ∧ w = w' := by
  by_cases hl : 1 ≤ xs.length ∧ xs.length ≤ 101
  · obtain ⟨h1, hl⟩ := hl
    by_cases ho : 0 ≤ o ∧ o ≤ 1000
    · obtain ⟨ho0, ho1⟩ := ho
      by_cases hu : 0 ≤ u ∧ u ≤ 1000
      · obtain ⟨hu0, hu1⟩ := hu
        go_enter Try.func54, Try.ntmps54
        go_wp2_with (go_at_call 53; refine (within_yes _ _ _ _ (by omega) (by omega)).mono ?_; rintro e w' ⟨rfl, rfl⟩)
        go_loop [7, 26] (fun v7 v26 => ∃ k : Nat, k ≤ xs.length ∧ v7 = .int .i64 (sumTo (nth xs) k) ∧ v26 = .int .i64 k ∧ ∀ d, d < k → 0 ≤ nth xs d ∧ nth xs d ≤ 10000) (fun _ v26 => xs.length - (intOf v26).toNat)
        case atStart => exact ⟨0, by omega, rfl, rfl, fun d hd => by omega⟩
        case round =>
          obtain ⟨k, hk, rfl, rfl, hall⟩ := hrel
          have hb : 0 ≤ sumTo (nth xs) k ∧ sumTo (nth xs) k ≤ 1010000 := by
            have := sumTo_bd (nth xs) 10000 k hall
            omega
          have Hall := hid hall
          clear hall
          by_cases hlt : k < xs.length
          · obtain ⟨b, off, rfl, _, hcell⟩ := h k hlt
            by_cases he : 0 ≤ nth xs k ∧ nth xs k ≤ 10000
            · obtain ⟨he0, he1⟩ := he
              go_wp2_with (go_at_call 53; refine (within_yes _ _ _ _ (by omega) (by omega)).mono ?_; rintro e w' ⟨rfl, rfl⟩)
              go_round
              case rel => exact ⟨k + 1, by omega, rfl, by go_num, fun d hd => by
                by_cases e : d = k
                · subst e; exact ⟨he0, he1⟩
                · exact Hall.out d (by omega)⟩
              case measure => simp [intOf]; omega
            · go_wp2_with (go_at_call 53; refine (within_no _ _ _ _ (by omega)).mono ?_; rintro e w' ⟨rfl, rfl⟩)
              go_ret
              exact ⟨rfl, rfl⟩
          · obtain rfl : k = xs.length := by omega
            have hz : sumTo (nth xs) xs.length = 0 := by
              by_cases hz : sumTo (nth xs) xs.length = 0
              · exact hz
              · exact absurd ⟨⟨hl, Hall.out, ho0, ho1, hu0, hu1⟩, h1, hz⟩ hc
            have hz' : (sumTo (nth xs) xs.length == 0) = true := by simp [hz]
            clear hz
            go_wp2
            go_ret
            exact ⟨rfl, rfl⟩
      · go_enter Try.func54, Try.ntmps54
        go_wp2_with fail
        refine (within_yes _ _ _ _ (by omega) (by omega)).mono ?_; rintro e w' ⟨rfl, rfl⟩
        go_wp2_with fail
        refine (within_yes _ _ _ _ (by omega) (by omega)).mono ?_; rintro e w' ⟨rfl, rfl⟩
        go_wp2_with fail
        refine (within_no _ _ _ _ (by omega)).mono ?_; rintro e w' ⟨rfl, rfl⟩
        go_wp2
        go_ret
        exact ⟨rfl, rfl⟩
    · go_enter Try.func54, Try.ntmps54
      go_wp2_with fail
      refine (within_yes _ _ _ _ (by omega) (by omega)).mono ?_; rintro e w' ⟨rfl, rfl⟩
      go_wp2_with fail
      refine (within_no _ _ _ _ (by omega)).mono ?_; rintro e w' ⟨rfl, rfl⟩
      go_wp2
      go_ret
      exact ⟨rfl, rfl⟩
  · go_enter Try.func54, Try.ntmps54
    go_wp2_with fail
    refine (within_no _ _ _ _ (by omega)).mono ?_; rintro e w' ⟨rfl, rfl⟩
    go_wp2
    go_ret
    exact ⟨rfl, rfl⟩
theorem examine_any (xs : List Int) (a : Option Addr) (cap : Nat) (o u : Int) (w : World) (h : IntsAt w a xs) :
    Calls Try.prog 54 #[.slice a xs.length cap, .int .i64 o, .int .i64 u] w fun e w' => e = .returned (.int .i64 (countE xs o u)) ∧ w = w' := by
  by_cases hc : CountsOK xs o u
  · rw [countE_ok hc]; exact examine_ok xs a cap o u w h hc
  · rw [countE_no hc]; exact examine_no xs a cap o u w h hc

/-! ### the document's countsOK -/
theorem rcounts_ok (xs : List Int) (a : Option Addr) (cap : Nat) (o u : Int) (w : World) (h : IntsAt w a xs) (hc : CountsOK xs o u) :
    Calls Try.prog 56 #[.slice a xs.length cap, .int .i64 o, .int .i64 u] w fun e w' => e = .returned (.int .i64 0) ∧ w = w' := by
  have hl := hc.len
  have h1 := hc.one
  have ho0 := hc.o0
  have ho1 := hc.o1
  have hu0 := hc.u0
  have hu1 := hc.u1
  have hs : (sumTo (nth xs) xs.length == 0) = false := by simp [hc.sum]
  go_enter Try.func56, Try.ntmps56
  go_wp2
  go_loop [7, 8] (fun v7 v26 => ∃ k : Nat, k ≤ xs.length ∧ v7 = .int .i64 (sumTo (nth xs) k) ∧ v26 = .int .i64 k) (fun _ v26 => xs.length - (intOf v26).toNat)
  case atStart => exact ⟨0, by omega, rfl, rfl⟩
  case round =>
    obtain ⟨k, hk, rfl, rfl⟩ := hrel
    have hb := counts_sum hc.el hl k hk
    by_cases hlt : k < xs.length
    · obtain ⟨b, off, rfl, _, hcell⟩ := h k hlt
      have he := hc.el k hlt
      go_wp2
      go_round
      case rel => exact ⟨k + 1, by omega, rfl, by go_num⟩
      case measure => simp [intOf]; omega
    · obtain rfl : k = xs.length := by omega
      go_wp2
      go_ret
      exact ⟨rfl, rfl⟩
theorem rcounts_no (xs : List Int) (a : Option Addr) (cap : Nat) (o u : Int) (w : World) (h : IntsAt w a xs) (hc : ¬ CountsOK xs o u) :
    Calls Try.prog 56 #[.slice a xs.length cap, .int .i64 o, .int .i64 u] w fun e w' => e = .returned (.int .i64 1) ∧ w = w' := by
  by_cases hl : 1 ≤ xs.length ∧ xs.length ≤ 101
  · obtain ⟨h1, hl⟩ := hl
    by_cases ho : 0 ≤ o ∧ o ≤ 1000
    · obtain ⟨ho0, ho1⟩ := ho
      by_cases hu : 0 ≤ u ∧ u ≤ 1000
      · obtain ⟨hu0, hu1⟩ := hu
        go_enter Try.func56, Try.ntmps56
        go_wp2
        go_loop [7, 8] (fun v7 v26 => ∃ k : Nat, k ≤ xs.length ∧ v7 = .int .i64 (sumTo (nth xs) k) ∧ v26 = .int .i64 k ∧ ∀ d, d < k → 0 ≤ nth xs d ∧ nth xs d ≤ 10000) (fun _ v26 => xs.length - (intOf v26).toNat)
        case atStart => exact ⟨0, by omega, rfl, rfl, fun d hd => by omega⟩
        case round =>
          obtain ⟨k, hk, rfl, rfl, hall⟩ := hrel
          have hb : 0 ≤ sumTo (nth xs) k ∧ sumTo (nth xs) k ≤ 1010000 := by
            have := sumTo_bd (nth xs) 10000 k hall
            omega
          have Hall := hid hall
          clear hall
          by_cases hlt : k < xs.length
          · obtain ⟨b, off, rfl, _, hcell⟩ := h k hlt
            by_cases he : 0 ≤ nth xs k ∧ nth xs k ≤ 10000
            · obtain ⟨he0, he1⟩ := he
              go_wp2
              go_round
              case rel => exact ⟨k + 1, by omega, rfl, by go_num, fun d hd => by
                by_cases e : d = k
                · subst e; exact ⟨he0, he1⟩
                · exact Hall.out d (by omega)⟩
              case measure => simp [intOf]; omega
            · by_cases hneg : nth xs k < 0
              all_goals
                go_wp2
                go_ret
                exact ⟨rfl, rfl⟩
          · obtain rfl : k = xs.length := by omega
            have hz : sumTo (nth xs) xs.length = 0 := by
              by_cases hz : sumTo (nth xs) xs.length = 0
              · exact hz
              · exact absurd ⟨⟨hl, Hall.out, ho0, ho1, hu0, hu1⟩, h1, hz⟩ hc
            have hz' : (sumTo (nth xs) xs.length == 0) = true := by simp [hz]
            clear hz
            go_wp2
            go_ret
            exact ⟨rfl, rfl⟩
      · by_cases hu0 : u < 0
        all_goals
          go_enter Try.func56, Try.ntmps56
          go_wp2
          go_ret
          exact ⟨rfl, rfl⟩
    · by_cases ho0 : o < 0
      all_goals
        go_enter Try.func56, Try.ntmps56
        go_wp2
        go_ret
        exact ⟨rfl, rfl⟩
  · by_cases hl0 : xs.length < 1
    all_goals
      go_enter Try.func56, Try.ntmps56
      go_wp2
      go_ret
      exact ⟨rfl, rfl⟩
theorem rcounts_any (xs : List Int) (a : Option Addr) (cap : Nat) (o u : Int) (w : World) (h : IntsAt w a xs) :
    Calls Try.prog 56 #[.slice a xs.length cap, .int .i64 o, .int .i64 u] w fun e w' => e = .returned (.int .i64 (countE xs o u)) ∧ w = w' := by
  by_cases hc : CountsOK xs o u
  · rw [countE_ok hc]; exact rcounts_ok xs a cap o u w h hc
  · rw [countE_no hc]; exact rcounts_no xs a cap o u w h hc

/-! ### examineAt, portions -/
theorem examineAt_any (xs : List Int) (a : Option Addr) (cap : Nat) (o u q : Int) (w : World) (h : IntsAt w a xs) :
    Calls Try.prog 58 #[.slice a xs.length cap, .int .i64 o, .int .i64 u, .int .i64 q] w fun e w' => e = .returned (.int .i64 (portE xs o u q)) ∧ w = w' := by
  by_cases hc : CountsOK xs o u
  · by_cases hq : 0 ≤ q ∧ q ≤ 100
    · rw [portE_ok ⟨hc, hq.1, hq.2⟩]
      obtain ⟨h0, h1⟩ := hq
      go_enter Try.func58, Try.ntmps58
      go_wp2_with fail
      refine (examine_ok xs _ _ o u _ h hc).mono ?_; rintro e w' ⟨rfl, rfl⟩
      go_wp2_with fail
      refine (within_yes _ _ _ _ (by omega) (by omega)).mono ?_; rintro e w' ⟨rfl, rfl⟩
      go_wp2
      go_ret
      exact ⟨rfl, rfl⟩
    · rw [portE_no fun k => hq ⟨k.q0, k.q1⟩]
      go_enter Try.func58, Try.ntmps58
      go_wp2_with fail
      refine (examine_ok xs _ _ o u _ h hc).mono ?_; rintro e w' ⟨rfl, rfl⟩
      go_wp2_with fail
      refine (within_no _ _ _ _ (by omega)).mono ?_; rintro e w' ⟨rfl, rfl⟩
      go_wp2
      go_ret
      exact ⟨rfl, rfl⟩
  · rw [portE_no fun k => hc k.counts]
    go_enter Try.func58, Try.ntmps58
    go_wp2_with fail
    refine (examine_no xs _ _ o u _ h hc).mono ?_; rintro e w' ⟨rfl, rfl⟩
    go_wp2
    go_ret
    exact ⟨rfl, rfl⟩
theorem portions_any (xs : List Int) (a : Option Addr) (cap : Nat) (o u q : Int) (w : World) (h : IntsAt w a xs) :
    Calls Try.prog 60 #[.slice a xs.length cap, .int .i64 o, .int .i64 u, .int .i64 q] w fun e w' => e = .returned (.int .i64 (portE xs o u q)) ∧ w = w' := by
  by_cases hc : CountsOK xs o u
  · by_cases hq : 0 ≤ q ∧ q ≤ 100
    · rw [portE_ok ⟨hc, hq.1, hq.2⟩]
      obtain ⟨h0, h1⟩ := hq
      go_enter Try.func60, Try.ntmps60
      go_wp2_with fail
      refine (rcounts_ok xs _ _ o u _ h hc).mono ?_; rintro e w' ⟨rfl, rfl⟩
      go_wp2
      go_ret
      exact ⟨rfl, rfl⟩
    · rw [portE_no fun k => hq ⟨k.q0, k.q1⟩]
      by_cases h0 : q < 0
      all_goals
        go_enter Try.func60, Try.ntmps60
        go_wp2_with fail
        refine (rcounts_ok xs _ _ o u _ h hc).mono ?_; rintro e w' ⟨rfl, rfl⟩
        go_wp2
        go_ret
        exact ⟨rfl, rfl⟩
  · rw [portE_no fun k => hc k.counts]
    go_enter Try.func60, Try.ntmps60
    go_wp2_with fail
    refine (rcounts_no xs _ _ o u _ h hc).mono ?_; rintro e w' ⟨rfl, rfl⟩
    go_wp2
    go_ret
    exact ⟨rfl, rfl⟩

/-! ### quantity -/
theorem quantity_in (xs : List Int) (a : Option Addr) (cap : Nat) (o u : Int) (w : World) (h : IntsAt w a xs) (hc : CountsOK xs o u) :
    Calls Try.prog 55 #[.slice a xs.length cap, .int .i64 o, .int .i64 u] w fun e w' => e = .returned (.int .i64 (qBest xs o u)) ∧ w = w' := by
  have hl := hc.len
  go_enter Try.func55, Try.ntmps55
  go_wp2
  go_loop [7, 11] (fun v7 v11 => ∃ k : Nat, k ≤ xs.length ∧ v7 = .int .i64 (least (costN xs o u) k) ∧ v11 = .int .i64 k) (fun _ v11 => xs.length - (intOf v11).toNat)
  case atStart => exact ⟨0, by omega, rfl, rfl⟩
  case round =>
    obtain ⟨k, hk, rfl, rfl⟩ := hrel
    have hb := least_lt (costN xs o u) k
    by_cases hlt : k < xs.length
    · by_cases hf : costN xs o u k < costN xs o u (least (costN xs o u) k)
      · have hf' : costOf xs o u k < costOf xs o u (least (costN xs o u) k) := hf
        go_wp2_with fail
        refine (cost_in xs _ _ o u _ _ h hc.toCostIn (by omega) (by omega)).mono ?_; rintro e w' ⟨rfl, rfl⟩
        go_wp2_with fail
        refine (cost_in xs _ _ o u _ _ h hc.toCostIn (by omega) (by omega)).mono ?_; rintro e w' ⟨rfl, rfl⟩
        go_wp2
        go_round
        case rel => exact ⟨k + 1, by omega, by rw [least_step _ k hf], by go_num⟩
        case measure => simp [intOf]; omega
      · have hf' : ¬ costOf xs o u k < costOf xs o u (least (costN xs o u) k) := hf
        go_wp2_with fail
        refine (cost_in xs _ _ o u _ _ h hc.toCostIn (by omega) (by omega)).mono ?_; rintro e w' ⟨rfl, rfl⟩
        go_wp2_with fail
        refine (cost_in xs _ _ o u _ _ h hc.toCostIn (by omega) (by omega)).mono ?_; rintro e w' ⟨rfl, rfl⟩
        go_wp2
        go_round
        case rel => exact ⟨k + 1, by omega, by rw [least_skip (costN xs o u) k (by omega)], by go_num⟩
        case measure => simp [intOf]; omega
    · obtain rfl : k = xs.length := by omega
      go_wp2
      go_ret
      exact ⟨rfl, rfl⟩
theorem rquantity_in (xs : List Int) (a : Option Addr) (cap : Nat) (o u : Int) (w : World) (h : IntsAt w a xs) (hc : CountsOK xs o u) :
    Calls Try.prog 57 #[.slice a xs.length cap, .int .i64 o, .int .i64 u] w fun e w' => e = .returned (.int .i64 (qBest xs o u)) ∧ w = w' := by
  have hl := hc.len
  have hfin := hid (least_more hc)
  go_enter Try.func57, Try.ntmps57
  go_wp2
  go_loop [7, 8] (fun v7 v8 => ∃ k : Nat, 1 ≤ k ∧ k ≤ xs.length + 1 ∧ v7 = .int .i64 (least (costN xs o u) k) ∧ v8 = .int .i64 k) (fun _ v8 => xs.length + 1 - (intOf v8).toNat)
  case atStart => exact ⟨1, by omega, by omega, by simp [least], rfl⟩
  case round =>
    obtain ⟨k, hk1, hk, rfl, rfl⟩ := hrel
    have hb := least_lt (costN xs o u) k
    by_cases hlt : k ≤ xs.length
    · by_cases hf : costN xs o u k < costN xs o u (least (costN xs o u) k)
      · have hf' : costOf xs o u k < costOf xs o u (least (costN xs o u) k) := hf
        go_wp2_with fail
        refine (rcost_in xs _ _ o u _ _ h hc.toCostIn (by omega) (by omega)).mono ?_; rintro e w' ⟨rfl, rfl⟩
        go_wp2_with fail
        refine (rcost_in xs _ _ o u _ _ h hc.toCostIn (by omega) (by omega)).mono ?_; rintro e w' ⟨rfl, rfl⟩
        go_wp2
        go_round
        case rel => exact ⟨k + 1, by omega, by omega, by rw [least_step _ k hf], by go_num⟩
        case measure => simp [intOf]; omega
      · have hf' : ¬ costOf xs o u k < costOf xs o u (least (costN xs o u) k) := hf
        go_wp2_with fail
        refine (rcost_in xs _ _ o u _ _ h hc.toCostIn (by omega) (by omega)).mono ?_; rintro e w' ⟨rfl, rfl⟩
        go_wp2_with fail
        refine (rcost_in xs _ _ o u _ _ h hc.toCostIn (by omega) (by omega)).mono ?_; rintro e w' ⟨rfl, rfl⟩
        go_wp2
        go_round
        case rel => exact ⟨k + 1, by omega, by omega, by rw [least_skip (costN xs o u) k (by omega)], by go_num⟩
        case measure => simp [intOf]; omega
    · obtain rfl : k = xs.length + 1 := by omega
      go_wp2
      go_ret
      rw [hfin.out]
      exact ⟨rfl, rfl⟩

/-! ### the exported ones, and the document's -/
theorem quantity_bd {xs : List Int} {o u : Int} (hc : CountsOK xs o u) : qBest xs o u ≤ 100 := by
  have := least_lt (costN xs o u) xs.length
  have := hc.len
  unfold qBest; omega
noncomputable def quantR (xs : List Int) (o u : Int) : Int := if countE xs o u = 0 then qBest xs o u else 0
noncomputable def costR (xs : List Int) (o u q : Int) : Int := if portE xs o u q = 0 then costOf xs o u q else 0
noncomputable def margR (xs : List Int) (o u q : Int) : Int := if portE xs o u q = 0 then costOf xs o u (q + 1) - costOf xs o u q else 0
noncomputable def bestR (xs : List Int) (o u q : Int) : Bool := if portE xs o u q = 0 then costOf xs o u q == costOf xs o u (qBest xs o u) else false

theorem Quantity_any (xs : List Int) (a : Option Addr) (cap : Nat) (o u : Int) (w : World) (h : IntsAt w a xs) :
    Calls Try.prog 20 #[.slice a xs.length cap, .int .i64 o, .int .i64 u] w fun e w' => e = .returned (.tuple #[.int .i64 (quantR xs o u), .int .i64 (countE xs o u)]) ∧ w = w' := by
  by_cases hc : CountsOK xs o u
  · have e1 : quantR xs o u = qBest xs o u := by simp [quantR, countE_ok hc]
    rw [e1, countE_ok hc]
    clear e1
    go_enter Try.func20, Try.ntmps20
    go_wp2_with fail
    refine (examine_ok xs _ _ o u _ h hc).mono ?_; rintro e w' ⟨rfl, rfl⟩
    go_wp2_with fail
    refine (quantity_in xs _ _ o u _ h hc).mono ?_; rintro e w' ⟨rfl, rfl⟩
    go_wp2
    go_ret2
    exact ⟨rfl, rfl⟩
  · have e1 : quantR xs o u = 0 := by simp [quantR, countE_no hc]
    rw [e1, countE_no hc]
    clear e1
    go_enter Try.func20, Try.ntmps20
    go_wp2_with fail
    refine (examine_no xs _ _ o u _ h hc).mono ?_; rintro e w' ⟨rfl, rfl⟩
    go_wp2
    go_ret2
    exact ⟨rfl, rfl⟩

theorem rQuantity_any (xs : List Int) (a : Option Addr) (cap : Nat) (o u : Int) (w : World) (h : IntsAt w a xs) :
    Calls Try.prog 21 #[.slice a xs.length cap, .int .i64 o, .int .i64 u] w fun e w' => e = .returned (.tuple #[.int .i64 (quantR xs o u), .int .i64 (countE xs o u)]) ∧ w = w' := by
  by_cases hc : CountsOK xs o u
  · have e1 : quantR xs o u = qBest xs o u := by simp [quantR, countE_ok hc]
    rw [e1, countE_ok hc]
    clear e1
    go_enter Try.func21, Try.ntmps21
    go_wp2_with fail
    refine (rcounts_ok xs _ _ o u _ h hc).mono ?_; rintro e w' ⟨rfl, rfl⟩
    go_wp2_with fail
    refine (rquantity_in xs _ _ o u _ h hc).mono ?_; rintro e w' ⟨rfl, rfl⟩
    go_wp2
    go_ret2
    exact ⟨rfl, rfl⟩
  · have e1 : quantR xs o u = 0 := by simp [quantR, countE_no hc]
    rw [e1, countE_no hc]
    clear e1
    go_enter Try.func21, Try.ntmps21
    go_wp2_with fail
    refine (rcounts_no xs _ _ o u _ h hc).mono ?_; rintro e w' ⟨rfl, rfl⟩
    go_wp2
    go_ret2
    exact ⟨rfl, rfl⟩

theorem Cost_any (xs : List Int) (a : Option Addr) (cap : Nat) (o u q : Int) (w : World) (h : IntsAt w a xs) :
    Calls Try.prog 26 #[.slice a xs.length cap, .int .i64 o, .int .i64 u, .int .i64 q] w fun e w' => e = .returned (.tuple #[.int .i64 (costR xs o u q), .int .i64 (portE xs o u q)]) ∧ w = w' := by
  by_cases hc : PortOK xs o u q
  · have e1 : costR xs o u q = costOf xs o u q := by simp [costR, portE_ok hc]
    have h0 := hc.q0
    have h1 := hc.q1
    have hcost := hc.counts.toCostIn
    have ep := hid (portE_ok hc)
    rw [e1, portE_ok hc]
    clear e1
    go_enter Try.func26, Try.ntmps26
    go_wp2_with fail
    refine (examineAt_any xs _ _ o u q _ h).mono ?_; rintro e w' ⟨rfl, rfl⟩
    rw [ep.out]
    go_wp2_with fail
    refine (cost_in xs _ _ o u _ _ h hcost (by omega) (by omega)).mono ?_; rintro e w' ⟨rfl, rfl⟩
    go_wp2
    go_ret2
    exact ⟨rfl, rfl⟩
  · have e1 : costR xs o u q = 0 := by simp [costR, portE_no hc]
    have ep := hid (portE_no hc)
    rw [e1, portE_no hc]
    clear e1
    go_enter Try.func26, Try.ntmps26
    go_wp2_with fail
    refine (examineAt_any xs _ _ o u q _ h).mono ?_; rintro e w' ⟨rfl, rfl⟩
    rw [ep.out]
    go_wp2
    go_ret2
    exact ⟨rfl, rfl⟩

theorem Marginal_any (xs : List Int) (a : Option Addr) (cap : Nat) (o u q : Int) (w : World) (h : IntsAt w a xs) :
    Calls Try.prog 28 #[.slice a xs.length cap, .int .i64 o, .int .i64 u, .int .i64 q] w fun e w' => e = .returned (.tuple #[.int .i64 (margR xs o u q), .int .i64 (portE xs o u q)]) ∧ w = w' := by
  by_cases hc : PortOK xs o u q
  · have e1 : margR xs o u q = costOf xs o u (q + 1) - costOf xs o u q := by simp [margR, portE_ok hc]
    have h0 := hc.q0
    have h1 := hc.q1
    have hcost := hc.counts.toCostIn
    have ep := hid (portE_ok hc)
    rw [e1, portE_ok hc]
    clear e1
    have b1 : 0 ≤ costOf xs o u (q + 1) ∧ costOf xs o u (q + 1) ≤ 102010000000 := cost_bd hcost (by omega) (by omega) xs.length (Nat.le_refl _)
    have b2 : 0 ≤ costOf xs o u q ∧ costOf xs o u q ≤ 102010000000 := cost_bd hcost (by omega) (by omega) xs.length (Nat.le_refl _)
    go_enter Try.func28, Try.ntmps28
    go_wp2_with fail
    refine (examineAt_any xs _ _ o u q _ h).mono ?_; rintro e w' ⟨rfl, rfl⟩
    rw [ep.out]
    go_wp2_with fail
    refine (cost_in xs _ _ o u _ _ h hcost (by omega) (by omega)).mono ?_; rintro e w' ⟨rfl, rfl⟩
    go_wp2_with fail
    refine (cost_in xs _ _ o u _ _ h hcost (by omega) (by omega)).mono ?_; rintro e w' ⟨rfl, rfl⟩
    go_wp2
    go_ret2
    exact ⟨rfl, rfl⟩
  · have e1 : margR xs o u q = 0 := by simp [margR, portE_no hc]
    have ep := hid (portE_no hc)
    rw [e1, portE_no hc]
    clear e1
    go_enter Try.func28, Try.ntmps28
    go_wp2_with fail
    refine (examineAt_any xs _ _ o u q _ h).mono ?_; rintro e w' ⟨rfl, rfl⟩
    rw [ep.out]
    go_wp2
    go_ret2
    exact ⟨rfl, rfl⟩

theorem IsBest_any (xs : List Int) (a : Option Addr) (cap : Nat) (o u q : Int) (w : World) (h : IntsAt w a xs) :
    Calls Try.prog 22 #[.slice a xs.length cap, .int .i64 o, .int .i64 u, .int .i64 q] w fun e w' => e = .returned (.tuple #[.bool (bestR xs o u q), .int .i64 (portE xs o u q)]) ∧ w = w' := by
  by_cases hc : PortOK xs o u q
  · have e1 : bestR xs o u q = (costOf xs o u q == costOf xs o u (qBest xs o u)) := by simp [bestR, portE_ok hc]
    have h0 := hc.q0
    have h1 := hc.q1
    have hcost := hc.counts.toCostIn
    have ep := hid (portE_ok hc)
    rw [e1, portE_ok hc]
    clear e1
    have hqb := quantity_bd hc.counts
    go_enter Try.func22, Try.ntmps22
    go_wp2_with fail
    refine (examineAt_any xs _ _ o u q _ h).mono ?_; rintro e w' ⟨rfl, rfl⟩
    rw [ep.out]
    go_wp2_with fail
    refine (cost_in xs _ _ o u _ _ h hcost (by omega) (by omega)).mono ?_; rintro e w' ⟨rfl, rfl⟩
    go_wp2_with fail
    refine (quantity_in xs _ _ o u _ h hc.counts).mono ?_; rintro e w' ⟨rfl, rfl⟩
    go_wp2_with fail
    refine (cost_in xs _ _ o u _ _ h hcost (by omega) (by omega)).mono ?_; rintro e w' ⟨rfl, rfl⟩
    go_wp2
    go_ret2
    exact ⟨rfl, rfl⟩
  · have e1 : bestR xs o u q = false := by simp [bestR, portE_no hc]
    have ep := hid (portE_no hc)
    rw [e1, portE_no hc]
    clear e1
    go_enter Try.func22, Try.ntmps22
    go_wp2_with fail
    refine (examineAt_any xs _ _ o u q _ h).mono ?_; rintro e w' ⟨rfl, rfl⟩
    rw [ep.out]
    go_wp2
    go_ret2
    exact ⟨rfl, rfl⟩

theorem rCost_any (xs : List Int) (a : Option Addr) (cap : Nat) (o u q : Int) (w : World) (h : IntsAt w a xs) :
    Calls Try.prog 27 #[.slice a xs.length cap, .int .i64 o, .int .i64 u, .int .i64 q] w fun e w' => e = .returned (.tuple #[.int .i64 (costR xs o u q), .int .i64 (portE xs o u q)]) ∧ w = w' := by
  by_cases hc : PortOK xs o u q
  · have e1 : costR xs o u q = costOf xs o u q := by simp [costR, portE_ok hc]
    have h0 := hc.q0
    have h1 := hc.q1
    have hcost := hc.counts.toCostIn
    have ep := hid (portE_ok hc)
    rw [e1, portE_ok hc]
    clear e1
    go_enter Try.func27, Try.ntmps27
    go_wp2_with fail
    refine (portions_any xs _ _ o u q _ h).mono ?_; rintro e w' ⟨rfl, rfl⟩
    rw [ep.out]
    go_wp2_with fail
    refine (rcost_in xs _ _ o u _ _ h hcost (by omega) (by omega)).mono ?_; rintro e w' ⟨rfl, rfl⟩
    go_wp2
    go_ret2
    exact ⟨rfl, rfl⟩
  · have e1 : costR xs o u q = 0 := by simp [costR, portE_no hc]
    have ep := hid (portE_no hc)
    rw [e1, portE_no hc]
    clear e1
    go_enter Try.func27, Try.ntmps27
    go_wp2_with fail
    refine (portions_any xs _ _ o u q _ h).mono ?_; rintro e w' ⟨rfl, rfl⟩
    rw [ep.out]
    go_wp2
    go_ret2
    exact ⟨rfl, rfl⟩

theorem rMarginal_any (xs : List Int) (a : Option Addr) (cap : Nat) (o u q : Int) (w : World) (h : IntsAt w a xs) :
    Calls Try.prog 29 #[.slice a xs.length cap, .int .i64 o, .int .i64 u, .int .i64 q] w fun e w' => e = .returned (.tuple #[.int .i64 (margR xs o u q), .int .i64 (portE xs o u q)]) ∧ w = w' := by
  by_cases hc : PortOK xs o u q
  · have e1 : margR xs o u q = costOf xs o u (q + 1) - costOf xs o u q := by simp [margR, portE_ok hc]
    have h0 := hc.q0
    have h1 := hc.q1
    have hcost := hc.counts.toCostIn
    have ep := hid (portE_ok hc)
    rw [e1, portE_ok hc]
    clear e1
    have b1 : 0 ≤ costOf xs o u (q + 1) ∧ costOf xs o u (q + 1) ≤ 102010000000 := cost_bd hcost (by omega) (by omega) xs.length (Nat.le_refl _)
    have b2 : 0 ≤ costOf xs o u q ∧ costOf xs o u q ≤ 102010000000 := cost_bd hcost (by omega) (by omega) xs.length (Nat.le_refl _)
    go_enter Try.func29, Try.ntmps29
    go_wp2_with fail
    refine (portions_any xs _ _ o u q _ h).mono ?_; rintro e w' ⟨rfl, rfl⟩
    rw [ep.out]
    go_wp2_with fail
    refine (rcost_in xs _ _ o u _ _ h hcost (by omega) (by omega)).mono ?_; rintro e w' ⟨rfl, rfl⟩
    go_wp2_with fail
    refine (rcost_in xs _ _ o u _ _ h hcost (by omega) (by omega)).mono ?_; rintro e w' ⟨rfl, rfl⟩
    go_wp2
    go_ret2
    exact ⟨rfl, rfl⟩
  · have e1 : margR xs o u q = 0 := by simp [margR, portE_no hc]
    have ep := hid (portE_no hc)
    rw [e1, portE_no hc]
    clear e1
    go_enter Try.func29, Try.ntmps29
    go_wp2_with fail
    refine (portions_any xs _ _ o u q _ h).mono ?_; rintro e w' ⟨rfl, rfl⟩
    rw [ep.out]
    go_wp2
    go_ret2
    exact ⟨rfl, rfl⟩

theorem rIsBest_any (xs : List Int) (a : Option Addr) (cap : Nat) (o u q : Int) (w : World) (h : IntsAt w a xs) :
    Calls Try.prog 23 #[.slice a xs.length cap, .int .i64 o, .int .i64 u, .int .i64 q] w fun e w' => e = .returned (.tuple #[.bool (bestR xs o u q), .int .i64 (portE xs o u q)]) ∧ w = w' := by
  by_cases hc : PortOK xs o u q
  · have e1 : bestR xs o u q = (costOf xs o u q == costOf xs o u (qBest xs o u)) := by simp [bestR, portE_ok hc]
    have h0 := hc.q0
    have h1 := hc.q1
    have hcost := hc.counts.toCostIn
    have ep := hid (portE_ok hc)
    rw [e1, portE_ok hc]
    clear e1
    have hqb := quantity_bd hc.counts
    go_enter Try.func23, Try.ntmps23
    go_wp2_with fail
    refine (portions_any xs _ _ o u q _ h).mono ?_; rintro e w' ⟨rfl, rfl⟩
    rw [ep.out]
    go_wp2_with fail
    refine (rcost_in xs _ _ o u _ _ h hcost (by omega) (by omega)).mono ?_; rintro e w' ⟨rfl, rfl⟩
    go_wp2_with fail
    refine (rquantity_in xs _ _ o u _ h hc.counts).mono ?_; rintro e w' ⟨rfl, rfl⟩
    go_wp2_with fail
    refine (rcost_in xs _ _ o u _ _ h hcost (by omega) (by omega)).mono ?_; rintro e w' ⟨rfl, rfl⟩
    go_wp2
    go_ret2
    exact ⟨rfl, rfl⟩
  · have e1 : bestR xs o u q = false := by simp [bestR, portE_no hc]
    have ep := hid (portE_no hc)
    rw [e1, portE_no hc]
    clear e1
    go_enter Try.func23, Try.ntmps23
    go_wp2_with fail
    refine (portions_any xs _ _ o u q _ h).mono ?_; rintro e w' ⟨rfl, rfl⟩
    rw [ep.out]
    go_wp2
    go_ret2
    exact ⟨rfl, rfl⟩
end Go.Proofs.Ytedgndangamkaaa
