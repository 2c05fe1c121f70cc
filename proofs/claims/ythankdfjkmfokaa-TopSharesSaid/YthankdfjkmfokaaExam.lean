/- 'Validate', 'dealt', 'examine', the document's checks, and sums: what they return. -/
import Derived.Test.YthankdfjkmfokaaCheck
namespace Go.Proofs.Ythankdfjkmfokaa
open Go.RowKit
set_option linter.unusedSimpArgs false
set_option linter.unusedVariables false

theorem out_no {lo hi x : Int} : outB lo hi x = false ↔ lo ≤ x ∧ x ≤ hi := by
  unfold outB
  simp
theorem Validate_any (xs : List Int) (a : Option Addr) (cap : Nat) (W : World) (hI : IntsAt W a xs) (hm : xs.length ≤ maxLen) :
    Calls Try.prog 23 #[.slice a xs.length cap] W fun e w' => e = .returned (.int .i64 (e01 (OrdOK xs))) ∧ W = w' := by
  unfold maxLen at hm
  by_cases hl : 1 ≤ xs.length ∧ xs.length ≤ 8
  · have Hc := hid (contains_any 59 (outB 1 1000000) (.inl ⟨rfl, rfl⟩) xs a cap W hI (by omega))
    obtain ⟨l1, l8⟩ := hl
    by_cases hel : ∀ i, i < xs.length → outB 1 1000000 (nth xs i) = false
    · rw [e01_yes ⟨l1, l8, fun i hi => out_no.1 (hel i hi)⟩]
      have Hel := hid hel
      clear hel
      go_enter Try.func23, Try.ntmps23
      go_wp2_with fail
      refine (within_yes _ _ _ _ (by omega) (by omega)).mono ?_; rintro e w' ⟨rfl, rfl⟩
      go_wp2_with fail
      refine Hc.out.mono ?_; rintro e w' ⟨rfl, b, rfl, hb⟩
      obtain rfl : b = false := hb.2 Hel.out
      clear hb
      go_wp2_with fail
      go_ret
      exact ⟨rfl, rfl⟩
    · rw [e01_no fun h => hel fun i hi => out_no.2 (h.el i hi)]
      have Hel := hid hel
      clear hel
      go_enter Try.func23, Try.ntmps23
      go_wp2_with fail
      refine (within_yes _ _ _ _ (by omega) (by omega)).mono ?_; rintro e w' ⟨rfl, rfl⟩
      go_wp2_with fail
      refine Hc.out.mono ?_; rintro e w' ⟨rfl, b, rfl, hb⟩
      obtain rfl : b = true := by
        cases b
        · exact absurd (hb.1 rfl) Hel.out
        · rfl
      clear hb
      go_wp2_with fail
      go_ret
      exact ⟨rfl, rfl⟩
  · rw [e01_no fun h => hl ⟨h.l1, h.l8⟩]
    go_enter Try.func23, Try.ntmps23
    go_wp2_with fail
    refine (within_no _ _ _ _ (by omega)).mono ?_; rintro e w' ⟨rfl, rfl⟩
    go_wp2_with fail
    go_ret
    exact ⟨rfl, rfl⟩
theorem dealt_any (xs ms : List Int) (a a2 : Option Addr) (cap cap2 : Nat) (W : World) (h2 : IntsAt W a2 ms) (hm : xs.length ≤ 1000) (hm2 : ms.length ≤ maxLen) :
    Calls Try.prog 60 #[.slice a xs.length cap, .slice a2 ms.length cap2] W fun e w' => e = .returned (.int .i64 (e01 (MealsOK xs ms))) ∧ W = w' := by
  unfold maxLen at hm2
  by_cases hl : ms.length = xs.length
  · have hb1 : ((ms.length : Int) != (xs.length : Int)) = false := by simp [hl]
    have Hc := hid (contains_any 86 (outB 0 1000) (.inr ⟨rfl, rfl⟩) ms a2 cap2 W h2 (by omega))
    by_cases hel : ∀ i, i < ms.length → outB 0 1000 (nth ms i) = false
    · rw [e01_yes ⟨hl, fun i hi => out_no.1 (hel i hi)⟩]
      have Hel := hid hel
      clear hel hl
      go_enter Try.func60, Try.ntmps60
      go_wp2_with fail
      refine Hc.out.mono ?_; rintro e w' ⟨rfl, b, rfl, hb⟩
      obtain rfl : b = false := hb.2 Hel.out
      clear hb
      go_wp2_with fail
      go_ret
      exact ⟨rfl, rfl⟩
    · rw [e01_no fun h => hel fun i hi => out_no.2 (h.el i hi)]
      have Hel := hid hel
      clear hel hl
      go_enter Try.func60, Try.ntmps60
      go_wp2_with fail
      refine Hc.out.mono ?_; rintro e w' ⟨rfl, b, rfl, hb⟩
      obtain rfl : b = true := by
        cases b
        · exact absurd (hb.1 rfl) Hel.out
        · rfl
      clear hb
      go_wp2_with fail
      go_ret
      exact ⟨rfl, rfl⟩
  · have hb1 : ((ms.length : Int) != (xs.length : Int)) = true := by simp; omega
    rw [e01_no fun h => hl h.len]
    clear hl
    go_enter Try.func60, Try.ntmps60
    go_wp2_with fail
    go_ret
    exact ⟨rfl, rfl⟩

/-! ### the document's -/
theorem rValidate_any (xs : List Int) (a : Option Addr) (cap : Nat) (W : World) (hI : IntsAt W a xs) (hm : xs.length ≤ maxLen) :
    Calls Try.prog 24 #[.slice a xs.length cap] W fun e w' => e = .returned (.int .i64 (e01 (OrdOK xs))) ∧ W = w' := by
  unfold maxLen at hm
  by_cases hl : 1 ≤ xs.length ∧ xs.length ≤ 8
  · obtain ⟨l1, l8⟩ := hl
    go_enter Try.func24, Try.ntmps24
    go_wp2_with fail
    go_loop [3] (fun v3 => ∃ k : Nat, k ≤ xs.length ∧ v3 = .int .i64 k ∧ Hid (∀ i, i < k → 1 ≤ nth xs i ∧ nth xs i ≤ 1000000)) (fun v3 => xs.length - (intOf v3).toNat)
    case atStart => exact ⟨0, by omega, rfl, hid fun j hj => by omega⟩
    case round =>
      obtain ⟨k, hk, rfl, hno⟩ := hrel
      by_cases hlt : k < xs.length
      · obtain ⟨b, off, rfl, hbl, c1⟩ := hI k hlt
        by_cases h1 : 1 ≤ nth xs k ∧ nth xs k ≤ 1000000
        · obtain ⟨p1, p2⟩ := h1
          go_wp2_with fail
          go_round
          case rel => exact ⟨k + 1, by omega, by go_num, hid fun j hj => by
            by_cases e : j = k
            · subst e; exact ⟨p1, p2⟩
            · exact hno.out j (by omega)⟩
          case measure => simp [intOf]; omega
        · have e1 : e01 (OrdOK xs) = 1 := e01_no fun h => h1 (h.el k hlt)
          have E1 := hid e1
          clear e1
          by_cases h2 : nth xs k < 1
          all_goals
            go_wp2_with fail
            go_ret
            rw [E1.out]
            exact ⟨rfl, rfl⟩
      · obtain rfl : k = xs.length := by omega
        have e1 : e01 (OrdOK xs) = 0 := e01_yes ⟨l1, l8, hno.out⟩
        have E1 := hid e1
        clear e1
        go_wp2_with fail
        go_ret
        rw [E1.out]
        exact ⟨rfl, rfl⟩
  · rw [e01_no fun h => hl ⟨h.l1, h.l8⟩]
    by_cases h1 : xs.length < 1
    all_goals
      go_enter Try.func24, Try.ntmps24
      go_wp2_with fail
      go_ret
      exact ⟨rfl, rfl⟩
open Classical in
noncomputable def kindB (kd : Int) : Bool := decide (KindOK kd)
open Classical in
noncomputable def numB (n : Int) : Bool := decide (NumOK n)
open Classical in
noncomputable def mealsB (xs ms : List Int) : Bool := decide (MealsOK xs ms)
theorem kindOK_any (kd : Int) (W : World) : Calls Try.prog 84 #[.int .i64 kd] W fun e w' => e = .returned (.bool (kindB kd)) ∧ W = w' := by
  have hk : kindB kd = (kd == 0 || kd == 1 || kd == 2) := by
    unfold kindB KindOK
    rw [Bool.eq_iff_iff]; simp; omega
  rw [hk]
  clear hk
  cases h0 : (kd == 0)
  · cases h1 : (kd == 1)
    · go_enter Try.func84, Try.ntmps84
      go_wp2_with fail
      go_ret
      exact ⟨by simp, rfl⟩
    · go_enter Try.func84, Try.ntmps84
      go_wp2_with fail
      go_ret
      exact ⟨by simp, rfl⟩
  · go_enter Try.func84, Try.ntmps84
    go_wp2_with fail
    go_ret
    exact ⟨by simp, rfl⟩
theorem countOK_any (n : Int) (W : World) : Calls Try.prog 69 #[.int .i64 n] W fun e w' => e = .returned (.bool (numB n)) ∧ W = w' := by
  have hk : numB n = (decide (0 ≤ n) && decide (n ≤ 1000)) := by
    unfold numB NumOK
    rw [Bool.eq_iff_iff]; simp
  rw [hk]
  clear hk
  by_cases h1 : 0 ≤ n
  · by_cases h2 : n ≤ 1000
    · go_enter Try.func69, Try.ntmps69
      go_wp2
      go_ret
      exact ⟨by simp [h1, h2], rfl⟩
    · go_enter Try.func69, Try.ntmps69
      go_wp2
      go_ret
      exact ⟨by simp [h1, h2], rfl⟩
  · go_enter Try.func69, Try.ntmps69
    go_wp2
    go_ret
    exact ⟨by simp; omega, rfl⟩
theorem numB_yes {n : Int} (h : NumOK n) : numB n = true := by simp [numB, h]
theorem numB_no {n : Int} (h : ¬ NumOK n) : numB n = false := by simp [numB, h]
theorem kindB_yes {n : Int} (h : KindOK n) : kindB n = true := by simp [kindB, h]
theorem kindB_no {n : Int} (h : ¬ KindOK n) : kindB n = false := by simp [kindB, h]
theorem mealsB_yes {xs ms : List Int} (h : MealsOK xs ms) : mealsB xs ms = true := by simp [mealsB, h]
theorem mealsB_no {xs ms : List Int} (h : ¬ MealsOK xs ms) : mealsB xs ms = false := by simp [mealsB, h]
theorem mealsOK_any (xs ms : List Int) (a a2 : Option Addr) (cap cap2 : Nat) (W : World) (h2 : IntsAt W a2 ms) (hm : xs.length ≤ 1000) (hm2 : ms.length ≤ maxLen) :
    Calls Try.prog 87 #[.slice a xs.length cap, .slice a2 ms.length cap2] W fun e w' => e = .returned (.bool (mealsB xs ms)) ∧ W = w' := by
  unfold maxLen at hm2
  by_cases hl : ms.length = xs.length
  · have hb1 : ((ms.length : Int) != (xs.length : Int)) = false := by simp [hl]
    have Hl := hid hl
    clear hl
    go_enter Try.func87, Try.ntmps87
    go_wp2_with fail
    go_loop [5] (fun v5 => ∃ k : Nat, k ≤ ms.length ∧ v5 = .int .i64 k ∧ Hid (∀ i, i < k → 0 ≤ nth ms i ∧ nth ms i ≤ 1000)) (fun v5 => ms.length - (intOf v5).toNat)
    case atStart => exact ⟨0, by omega, rfl, hid fun j hj => by omega⟩
    case round =>
      obtain ⟨k, hk, rfl, hno⟩ := hrel
      by_cases hlt : k < ms.length
      · obtain ⟨b, off, rfl, hbl, c1⟩ := h2 k hlt
        have Hc := hid (countOK_any (nth ms k) W)
        by_cases h1 : NumOK (nth ms k)
        · rw [numB_yes h1] at Hc
          have H1 := hid h1
          clear h1
          go_wp2_with fail
          refine Hc.out.mono ?_; rintro e w' ⟨rfl, rfl⟩
          go_wp2_with fail
          go_round
          case rel => exact ⟨k + 1, by omega, by go_num, hid fun j hj => by
            by_cases e : j = k
            · subst e; exact H1.out
            · exact hno.out j (by omega)⟩
          case measure => simp [intOf]; omega
        · rw [numB_no h1] at Hc
          have e1 : mealsB xs ms = false := mealsB_no fun h => h1 (h.el k hlt)
          have E1 := hid e1
          clear h1 e1
          go_wp2_with fail
          refine Hc.out.mono ?_; rintro e w' ⟨rfl, rfl⟩
          go_wp2_with fail
          go_ret
          rw [E1.out]
          exact ⟨rfl, rfl⟩
      · obtain rfl : k = ms.length := by omega
        have e1 : mealsB xs ms = true := mealsB_yes ⟨Hl.out, hno.out⟩
        have E1 := hid e1
        clear e1
        go_wp2_with fail
        go_ret
        rw [E1.out]
        exact ⟨rfl, rfl⟩
  · have hb1 : ((ms.length : Int) != (xs.length : Int)) = true := by simp; omega
    rw [mealsB_no fun h => hl h.len]
    clear hl
    go_enter Try.func87, Try.ntmps87
    go_wp2_with fail
    go_ret
    exact ⟨rfl, rfl⟩
end Go.Proofs.Ythankdfjkmfokaa
