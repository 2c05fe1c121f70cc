/- 'tail', 'Tail' and the document's beside them: what they return. -/
import Derived.Test.YtedgndangamkaaaMem
import Derived.Test.YtedgndangamkaaaChoose
import Derived.Test.YtedgndangamkaaaBound
namespace Go.Proofs.Ytedgndangamkaaa
open Go.RowKit

theorem chI_bd (n k : Nat) (h : n ≤ 40) : 0 ≤ chI n k ∧ chI n k ≤ 1099511627776 := by
  have := ch_bd n k h
  unfold chI; omega
theorem chI_next (n k : Nat) (hn : n ≤ 40) (hk : k ≤ n) : wrap64 ((wrap64 (chI n k * (n - k))).tdiv (k + 1)) = chI n (k + 1) := by
  have h0 := chI_bd n k hn
  have h1 := chI_bd n (k + 1) hn
  have h2 := mul_bd h0.1 h0.2 (show (0 : Int) ≤ n - k by omega) (show (n : Int) - k ≤ 40 by omega)
  rw [w64 (x := chI n k * (n - k)) (by omega) (by omega)]
  have h3 : chI n k * (n - k) = chI n (k + 1) * (k + 1) := by
    have := ch_step n k
    have e : ((ch n (k + 1) * (k + 1) : Nat) : Int) = ((ch n k * (n - k) : Nat) : Int) := by rw [this]
    unfold chI
    have e2 : (n : Int) - k = ((n - k : Nat) : Int) := by omega
    rw [e2]
    push_cast at e ⊢
    exact e.symm
  rw [h3, Int.mul_tdiv_cancel _ (by omega)]
  exact w64 (by omega) (by omega)
theorem tail_in (n w : Nat) (W : World) (hn : n ≤ 40) :
    Calls Try.prog 62 #[.int .i64 n, .int .i64 w] W fun e w' => e = .returned (.int .i64 (tl n w)) ∧ W = w' := by
  go_enter Try.func62, Try.ntmps62
  go_wp2
  go_loop [5, 6, 10] (fun v5 v6 v10 => ∃ k : Nat, k ≤ n + 1 ∧ v5 = .int .i64 (chI n k) ∧ v6 = .int .i64 (sumTo (tF n w) k) ∧ v10 = .int .i64 k) (fun _ _ v10 => n + 1 - (intOf v10).toNat)
  case atStart => exact ⟨0, by omega, by simp [chI, ch_zero], rfl, rfl⟩
  case round =>
    obtain ⟨k, hk, rfl, rfl, rfl⟩ := hrel
    have hs := tl_part_bd n w k hn (by omega)
    have hc := chI_bd n k hn
    by_cases hlt : k < n + 1
    · by_cases hw : w ≤ k
      · go_wp2
        go_round
        case rel => exact ⟨k + 1, by omega, by rw [chI_next n k hn (by omega)], by simp [sumTo, tF, hw], by go_num⟩
        case measure => simp [intOf]; omega
      · go_wp2
        go_round
        case rel => exact ⟨k + 1, by omega, by rw [chI_next n k hn (by omega)], by simp [sumTo, tF, hw], by go_num⟩
        case measure => simp [intOf]; omega
    · obtain rfl : k = n + 1 := by omega
      go_wp2
      go_ret
      exact ⟨rfl, rfl⟩
/-- The next row of the triangle, when k cells of the row before have been added. -/
def nxt (i k j : Nat) : Int := (if j < k then chI i j else 0) + (if 1 ≤ j ∧ j ≤ k then chI i (j - 1) else 0)
theorem nxt_zero (i j : Nat) : nxt i 0 j = 0 := by
  unfold nxt
  rw [if_neg (by omega), if_neg (by omega)]; rfl
theorem nxt_done (i j : Nat) : nxt i (i + 1) j = chI (i + 1) j := by
  unfold nxt chI
  cases j with
  | zero => simp [ch_zero]
  | succ j =>
    rw [ch_succ]
    by_cases h : j ≤ i
    · rw [if_pos (show 1 ≤ j + 1 ∧ j + 1 ≤ i + 1 by omega)]
      by_cases h2 : j + 1 < i + 1
      · rw [if_pos h2]; simp; omega
      · rw [if_neg h2, ch_over i (j + 1) (by omega)]; simp
    · rw [if_neg (by omega), if_neg (by omega), ch_over i j (by omega), ch_over i (j + 1) (by omega)]; rfl
theorem nxt_bd (i k j : Nat) (hi : i ≤ 40) : 0 ≤ nxt i k j ∧ nxt i k j ≤ 2199023255552 := by
  have h1 := chI_bd i j hi
  have h2 := chI_bd i (j - 1) hi
  unfold nxt
  split <;> split <;> omega
theorem tF_none (n w : Nat) : sumTo (tF n w) w = 0 := by
  have key : ∀ k, k ≤ w → sumTo (tF n w) k = 0 := by
    intro k hk
    induction k with
    | zero => rfl
    | succ k ih => simp only [sumTo]; rw [ih (by omega), tF, if_neg (by omega)]; rfl
  exact key w (Nat.le_refl _)
/-- The two stores of a round, as functions of the index. -/
theorem nxt_step (i k j : Nat) : (if j = k + 1 then nxt i k (k + 1) + chI i k else if j = k then nxt i k k + chI i k else nxt i k j) = nxt i (k + 1) j := by
  by_cases h1 : j = k + 1
  · subst h1
    rw [if_pos rfl]
    unfold nxt
    rw [if_neg (by omega), if_neg (by omega), if_neg (by omega), if_pos (by omega)]
    simp
  · rw [if_neg h1]
    by_cases h2 : j = k
    · subst h2
      rw [if_pos rfl]
      unfold nxt
      by_cases h : 1 ≤ j
      · rw [if_neg (by omega), if_pos (by omega), if_pos (by omega), if_pos (by omega)]; omega
      · rw [if_neg (by omega), if_neg (by omega), if_pos (by omega), if_neg (by omega)]; omega
    · rw [if_neg h2]
      unfold nxt
      by_cases h : j < k
      · rw [if_pos h, if_pos (show j < k + 1 by omega)]
        by_cases h3 : 1 ≤ j
        · rw [if_pos (by omega), if_pos (by omega)]
        · rw [if_neg (by omega), if_neg (by omega)]
      · rw [if_neg h, if_neg (show ¬ j < k + 1 by omega), if_neg (by omega), if_neg (by omega)]

set_option maxHeartbeats 1000000 in
theorem rtail_in (n w : Nat) (W : World) (hn : n ≤ 40) (hw : w ≤ n) :
    Calls Try.prog 63 #[.int .i64 n, .int .i64 w] W fun e w' => e = .returned (.int .i64 (tl n w)) ∧ Below W.heap.size W w' := by
  go_enter Try.func63, Try.ntmps63
  go_wp2
  go_loopw [5, 6] (fun v5 v6 wr => ∃ i g : Nat, i ≤ n ∧ v6 = .int .i64 i ∧ v5 = .slice (some ⟨g, 0, none⟩) (i + 1) (i + 1) ∧ W.heap.size ≤ g ∧ wr.rowIs g 3 (i + 1) (fun j => .int .i64 (chI i j)) ∧ Below W.heap.size W wr) (fun _ v6 _ => n - (intOf v6).toNat)
  case atStart =>
    refine ⟨0, W.heap.size, by omega, rfl, rfl, Nat.le_refl _, ?_, below_alloc _ _⟩
    refine World.rowIs_alloc W #[.int .i64 1] 3 _ fun i hi => ?_
    obtain rfl : i = 0 := by simp at hi; omega
    rfl
  case round =>
    obtain ⟨i, g, hi, rfl, rfl, hg, hrow, hbel⟩ := hrel
    by_cases hlt : i < n
    · go_wp2_with (at_make; refine wpList_make_int _ rfl _ _ 27 rfl 3 (.int .i64 0) 8 Try.underlying27 info3 rfl _ _ _ _ (i + 2) rfl rfl (by omega) (by omega) (by omega) (by omega) ?_; intro w1 hrow1 hsz1 hb1)
      obtain ⟨wo, rfl⟩ : ∃ wo : World, wo = wr := ⟨_, rfl⟩
      have hgl := hrow.lt
      have hrow' := rowIs_below hrow hb1 hgl
      have hbel' := hbel.trans (hb1.mono hbel.size)
      clear hrow hbel hb1
      go_loopw [8] (fun v8 wr => ∃ k : Nat, k ≤ i + 1 ∧ v8 = .int .i64 k ∧ wr.rowIs g 3 (i + 1) (fun j => .int .i64 (chI i j)) ∧ wr.rowIs wo.heap.size 3 (i + 2) (fun j => .int .i64 (nxt i k j)) ∧ Below W.heap.size W wr) (fun v8 _ => i + 1 - (intOf v8).toNat)
      case atStart => exact ⟨0, by omega, rfl, hrow', hrow1.congr fun j _ => by rw [nxt_zero], hbel'⟩
      case round =>
        obtain ⟨k, hk, rfl, hr, hr1, hb⟩ := hrel
        by_cases hlt2 : k < i + 1
        · have c1 := hr.cell (i := k) (by omega)
          have c2 := hr1.cell (i := k) (by omega)
          have c3 := hr1.cell (i := k + 1) (by omega)
          have f1 := hr1.frozen k
          have f2 := hr1.frozen (k + 1)
          have b1 := nxt_bd i k k (by omega)
          have b2 := nxt_bd i k (k + 1) (by omega)
          have b3 := chI_bd i k (by omega)
          go_wp2
          go_region
          go_wp2
          go_region
          go_wp2
          go_roundw
          case rel =>
            refine ⟨k + 1, by omega, by go_num, ((hr.setOther (by simp; omega) _).setOther (by simp; omega) _).drew.drew, ?_, ((hb.setCell (by simp; omega) _).setCell (by simp; omega) _).drew.drew⟩
            refine (((hr1.set k _).set (k + 1) _).drew.drew).congr fun j _ => ?_
            have e := nxt_step i k j
            rw [← e]
            split
            · rfl
            · split <;> rfl
          case measure => simp [intOf]; omega
        · obtain rfl : k = i + 1 := by omega
          go_wp2
          go_roundw
          case rel => exact ⟨i + 1, wo.heap.size, by omega, by go_num, rfl, Nat.le_trans hg (Nat.le_of_lt hgl), hr1.congr fun j _ => by rw [nxt_done], hb⟩
          case measure => simp [intOf]; omega
    · obtain rfl : i = n := by omega
      go_wp2
      go_loopw [9, 10] (fun v9 v10 wr' => ∃ k : Nat, w ≤ k ∧ k ≤ i + 1 ∧ v9 = .int .i64 (sumTo (tF i w) k) ∧ v10 = .int .i64 k ∧ wr' = wr) (fun _ v10 _ => i + 1 - (intOf v10).toNat)
      case atStart => exact ⟨w, Nat.le_refl _, by omega, by rw [tF_none], rfl, rfl⟩
      case round =>
        obtain ⟨k, hwk, hk, rfl, rfl, rfl⟩ := hrel
        have hs := tl_part_bd i w k hn (by omega)
        have hc := chI_bd i k hn
        by_cases hlt2 : k < i + 1
        · have c1 := hrow.cell (i := k) (by omega)
          go_wp2
          go_roundw
          case rel => exact ⟨k + 1, by omega, by omega, by simp [sumTo, tF, hwk], by go_num, trivial⟩
          case measure => simp [intOf]; omega
        · obtain rfl : k = i + 1 := by omega
          go_wp2
          go_ret
          exact ⟨rfl, hbel⟩

/-! ### Tail, both, for every input -/
def TailOK (x y : Int) : Prop := 0 ≤ x ∧ x ≤ 40 ∧ 0 ≤ y ∧ y ≤ x
instance (x y : Int) : Decidable (TailOK x y) := by unfold TailOK; infer_instance
def tailR (x y : Int) : Int := if TailOK x y then tl x.toNat y.toNat else 0
def tailE (x y : Int) : Int := if TailOK x y then 0 else 1
theorem Tail_any (x y : Int) (w : World) :
    Calls Try.prog 24 #[.int .i64 x, .int .i64 y] w fun e w' => e = .returned (.tuple #[.int .i64 (tailR x y), .int .i64 (tailE x y)]) ∧ w = w' := by
  by_cases h : TailOK x y
  · rw [tailR, tailE, if_pos h, if_pos h]
    obtain ⟨h1, h2, h3, h4⟩ := h
    obtain ⟨a, rfl⟩ := Int.eq_ofNat_of_zero_le h1
    obtain ⟨b, rfl⟩ := Int.eq_ofNat_of_zero_le h3
    simp only [Int.toNat_natCast]
    go_enter Try.func24, Try.ntmps24
    go_wp2_with fail
    refine (within_yes _ _ _ _ (by omega) (by omega)).mono ?_; rintro e w' ⟨rfl, rfl⟩
    go_wp2_with fail
    refine (within_yes _ _ _ _ (by omega) (by omega)).mono ?_; rintro e w' ⟨rfl, rfl⟩
    go_wp2_with fail
    refine (tail_in _ _ _ (by omega)).mono ?_; rintro e w' ⟨rfl, rfl⟩
    go_wp2
    go_ret2
    exact ⟨rfl, rfl⟩
  · rw [tailR, tailE, if_neg h, if_neg h]
    unfold TailOK at h
    by_cases h1 : 0 ≤ x ∧ x ≤ 40
    · go_enter Try.func24, Try.ntmps24
      go_wp2_with fail
      refine (within_yes _ _ _ _ (by omega) (by omega)).mono ?_; rintro e w' ⟨rfl, rfl⟩
      go_wp2_with fail
      refine (within_no _ _ _ _ (by omega)).mono ?_; rintro e w' ⟨rfl, rfl⟩
      go_wp2
      go_ret2
      exact ⟨rfl, rfl⟩
    · go_enter Try.func24, Try.ntmps24
      go_wp2_with fail
      refine (within_no _ _ _ _ (by omega)).mono ?_; rintro e w' ⟨rfl, rfl⟩
      go_wp2
      go_ret2
      exact ⟨rfl, rfl⟩
theorem rTail_any (x y : Int) (w : World) :
    Calls Try.prog 25 #[.int .i64 x, .int .i64 y] w fun e w' => e = .returned (.tuple #[.int .i64 (tailR x y), .int .i64 (tailE x y)]) ∧ Below w.heap.size w w' := by
  by_cases h : TailOK x y
  · rw [tailR, tailE, if_pos h, if_pos h]
    obtain ⟨h1, h2, h3, h4⟩ := h
    obtain ⟨a, rfl⟩ := Int.eq_ofNat_of_zero_le h1
    obtain ⟨b, rfl⟩ := Int.eq_ofNat_of_zero_le h3
    simp only [Int.toNat_natCast]
    go_enter Try.func25, Try.ntmps25
    go_wp2_with fail
    refine (rtail_in _ _ _ (by omega) (by omega)).mono ?_; rintro e w' ⟨rfl, hb⟩
    go_wp2
    go_ret2
    exact ⟨rfl, hb⟩
  · rw [tailR, tailE, if_neg h, if_neg h]
    unfold TailOK at h
    by_cases h1 : x < 0 <;> by_cases h2 : 40 < x <;> by_cases h3 : y < 0
    all_goals
      go_enter Try.func25, Try.ntmps25
      go_wp2
      go_ret2
      exact ⟨rfl, Below.refl _ _⟩
theorem tailE_ok {x y : Int} (h : TailOK x y) : tailE x y = 0 := if_pos h
theorem tailE_no {x y : Int} (h : ¬ TailOK x y) : tailE x y = 1 := if_neg h
end Go.Proofs.Ytedgndangamkaaa
