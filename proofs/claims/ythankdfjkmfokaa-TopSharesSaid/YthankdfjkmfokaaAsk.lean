/- 'examine', 'cmp.Or' of errors, the document's 'ask' and 'have'; sums and small functions of the statements. -/
import Derived.Test.YthankdfjkmfokaaExam
import Derived.Laws.EntriesVeiled
namespace Go.Proofs.Ythankdfjkmfokaa
open Go.RowKit
set_option linter.unusedSimpArgs false
set_option linter.unusedVariables false

theorem OrE_any (x y : Int) (a : Option Addr) (W : World) (h : IntsAt W a [x, y]) : Calls Try.prog 52 #[.slice a 2 2] W fun e w' => e = .returned (.int .i64 (or2 x y)) ∧ W = w' := by
  obtain ⟨b, off, rfl, _, c0⟩ := h 0 (by simp)
  obtain ⟨b', off', e', _, c1⟩ := h 1 (by simp)
  cases e'
  simp [nth] at c0 c1
  have key : ∀ r : Int, or2 x y = r → Calls Try.prog 52 #[.slice (some ⟨b, off, none⟩) 2 2] W (fun e w' => e = .returned (.int .i64 r) ∧ W = w') → Calls Try.prog 52 #[.slice (some ⟨b, off, none⟩) 2 2] W fun e w' => e = .returned (.int .i64 (or2 x y)) ∧ W = w' := by
    intro r hr h; rw [hr]; exact h
  by_cases h1 : x = 0
  · have h1b : (x != 0) = false := by simp [h1]
    have h1c : (x == 0) = true := by simp [h1]
    by_cases h2 : y = 0
    · have h2b : (y != 0) = false := by simp [h2]
      have h2c : (y == 0) = true := by simp [h2]
      refine key 0 (by simp [or2, h1, h2]) ?_
      clear h1 h2
      go_enter Try.func52, Try.ntmps52
      go_wp2_with fail
      go_rounds 3
      go_ret
      exact ⟨rfl, rfl⟩
    · have h2b : (y != 0) = true := by simp [h2]
      have h2c : (y == 0) = false := by simp [h2]
      refine key y (by simp [or2, h1]) ?_
      clear h1 h2
      go_enter Try.func52, Try.ntmps52
      go_wp2_with fail
      go_rounds 2
      go_ret
      exact ⟨rfl, rfl⟩
  · have h1b : (x != 0) = true := by simp [h1]
    have h1c : (x == 0) = false := by simp [h1]
    refine key x (by simp [or2, h1]) ?_
    clear h1
    go_enter Try.func52, Try.ntmps52
    go_wp2_with fail
    go_rounds 1
    go_ret
    exact ⟨rfl, rfl⟩
theorem or_e01 (p q : Prop) : or2 (e01 p) (e01 q) = e01 (p ∧ q) := by
  by_cases hp : p <;> by_cases hq : q <;> simp [or2, e01, hp, hq]
theorem or_zero (x : Int) : or2 0 x = x := by simp [or2]
theorem or_one (x : Int) : or2 1 x = 1 := by simp [or2]

/-! ### examine -/
def kdF (kd : Int) : Nat := if kd = 0 then 92 else if kd = 1 then 93 else 94
def ExOK (xs : List Int) (kd : Int) : Prop := OrdOK xs ∧ KindOK kd
theorem look_any (w : World) (r : Nat) (kd : Int) (hb : w.heap[r]? = some kindsM) (h : KindOK kd) :
    (Instr.lookup 96 (.map (some r)) (.int .i64 kd) true).run Try.prog w = .ok (.tuple #[.agg #[.func (.func (kdF kd)) #[] #[], .int .i64 (fac kd)], .bool true]) w := by
  refine look_kinds w r kd hb (kdF kd) (fac kd) ?_
  rcases h with rfl | rfl | rfl <;> simp [kdF, fac]
theorem look_none (w : World) (r : Nat) (kd : Int) (hb : w.heap[r]? = some kindsM) (h : ¬ KindOK kd) :
    (Instr.lookup 96 (.map (some r)) (.int .i64 kd) true).run Try.prog w = .ok (.tuple #[.agg #[.nilFunc, .int .i64 0], .bool false]) w :=
  look_no w r kd hb (by unfold KindOK at h; omega)
set_option maxHeartbeats 1000000 in
theorem examine_yes (xs : List Int) (a : Option Addr) (cap : Nat) (kd : Int) (W : World) (hI : IntsAt W a xs) (hm : xs.length ≤ maxLen) (h : ExOK xs kd) :
    Calls Try.prog 51 #[.slice a xs.length cap, .int .i64 kd] W fun e w' => e = .returned (.tuple #[.agg #[.func (.func (kdF kd)) #[] #[], .int .i64 (fac kd)], .int .i64 0]) ∧ Below W.heap.size W w' := by
  have Hv := hid (Validate_any xs a cap (W.alloc (.cells #[.nilFunc, .int .i64 0] 66)) (hI.below (below_alloc _ _)) hm)
  rw [e01_yes h.1] at Hv
  have hlk := look_any ((W.alloc (.cells #[.nilFunc, .int .i64 0] 66)).alloc kindsM) (W.heap.size + 1) kd (by have := (MapKept.heap_alloc (W.alloc (.cells #[.nilFunc, .int .i64 0] 66)) kindsM).1; simpa using this) h.2
  have H := hid h
  clear h
  go_enter Try.func51, Try.ntmps51
  go_wp2_with fail
  refine Hv.out.mono ?_; rintro e w' ⟨rfl, rfl⟩
  go_wp2_with fail
  refine (kinds_any _).mono ?_; rintro e w' ⟨rfl, rfl⟩
  go_wp2_with fail
  refine bodyPost_ret (v := .tuple #[.agg #[.func (.func (kdF kd)) #[] #[], .int .i64 (fac kd)], .int .i64 0]) (by simp [results, Try.results51, go_sem]) rfl ⟨rfl, ?_⟩
  exact ((below_alloc _ _).alloc (by simp) _).alloc (by simp; omega) _
set_option maxHeartbeats 1000000 in
theorem examine_no (xs : List Int) (a : Option Addr) (cap : Nat) (kd : Int) (W : World) (hI : IntsAt W a xs) (hm : xs.length ≤ maxLen) (h : ¬ ExOK xs kd) :
    Calls Try.prog 51 #[.slice a xs.length cap, .int .i64 kd] W fun e w' => e = .returned (.tuple #[.agg #[.nilFunc, .int .i64 0], .int .i64 1]) ∧ Below W.heap.size W w' := by
  have Hv := hid (Validate_any xs a cap (W.alloc (.cells #[.nilFunc, .int .i64 0] 66)) (hI.below (below_alloc _ _)) hm)
  by_cases ho : OrdOK xs
  · rw [e01_yes ho] at Hv
    have hk : ¬ KindOK kd := fun hk => h ⟨ho, hk⟩
    have hlk := look_none ((W.alloc (.cells #[.nilFunc, .int .i64 0] 66)).alloc kindsM) (W.heap.size + 1) kd (by have := (MapKept.heap_alloc (W.alloc (.cells #[.nilFunc, .int .i64 0] 66)) kindsM).1; simpa using this) hk
    clear h ho hk
    go_enter Try.func51, Try.ntmps51
    go_wp2_with fail
    refine Hv.out.mono ?_; rintro e w' ⟨rfl, rfl⟩
    go_wp2_with fail
    refine (kinds_any _).mono ?_; rintro e w' ⟨rfl, rfl⟩
    go_wp2_with fail
    refine bodyPost_ret (v := .tuple #[.agg #[.nilFunc, .int .i64 0], .int .i64 1]) (by simp [results, Try.results51, go_sem]) rfl ⟨rfl, ?_⟩
    exact ((below_alloc _ _).alloc (by simp) _).alloc (by simp; omega) _
  · rw [e01_no ho] at Hv
    clear h ho
    go_enter Try.func51, Try.ntmps51
    go_wp2_with fail
    refine Hv.out.mono ?_; rintro e w' ⟨rfl, rfl⟩
    go_wp2_with fail
    refine bodyPost_ret (v := .tuple #[.agg #[.nilFunc, .int .i64 0], .int .i64 1]) (by simp [results, Try.results51, go_sem]) rfl ⟨rfl, ?_⟩
    exact below_alloc _ _

/-! ### ask, have -/
theorem ask_any (xs : List Int) (a : Option Addr) (cap : Nat) (n kd : Int) (W : World) (hI : IntsAt W a xs) (hm : xs.length ≤ maxLen) :
    Calls Try.prog 55 #[.slice a xs.length cap, .int .i64 n, .int .i64 kd] W fun e w' => e = .returned (.int .i64 (e01 (ExOK xs kd ∧ NumOK n))) ∧ W = w' := by
  have Hv := hid (rValidate_any xs a cap W hI hm)
  have Hk := hid (kindOK_any kd W)
  have Hn := hid (countOK_any n W)
  by_cases ho : OrdOK xs
  · rw [e01_yes ho] at Hv
    by_cases hk : KindOK kd
    · rw [kindB_yes hk] at Hk
      by_cases hn : NumOK n
      · rw [numB_yes hn] at Hn
        rw [e01_yes ⟨⟨ho, hk⟩, hn⟩]
        clear ho hk hn
        go_enter Try.func55, Try.ntmps55
        go_wp2_with fail
        refine Hv.out.mono ?_; rintro e w' ⟨rfl, rfl⟩
        go_wp2_with fail
        refine Hk.out.mono ?_; rintro e w' ⟨rfl, rfl⟩
        go_wp2_with fail
        refine Hn.out.mono ?_; rintro e w' ⟨rfl, rfl⟩
        go_wp2_with fail
        go_ret
        exact ⟨rfl, rfl⟩
      · rw [numB_no hn] at Hn
        rw [e01_no fun h => hn h.2]
        clear ho hk hn
        go_enter Try.func55, Try.ntmps55
        go_wp2_with fail
        refine Hv.out.mono ?_; rintro e w' ⟨rfl, rfl⟩
        go_wp2_with fail
        refine Hk.out.mono ?_; rintro e w' ⟨rfl, rfl⟩
        go_wp2_with fail
        refine Hn.out.mono ?_; rintro e w' ⟨rfl, rfl⟩
        go_wp2_with fail
        go_ret
        exact ⟨rfl, rfl⟩
    · rw [kindB_no hk] at Hk
      rw [e01_no fun h => hk h.1.2]
      clear ho hk
      go_enter Try.func55, Try.ntmps55
      go_wp2_with fail
      refine Hv.out.mono ?_; rintro e w' ⟨rfl, rfl⟩
      go_wp2_with fail
      refine Hk.out.mono ?_; rintro e w' ⟨rfl, rfl⟩
      go_wp2_with fail
      go_ret
      exact ⟨rfl, rfl⟩
  · rw [e01_no ho] at Hv
    rw [e01_no fun h => ho h.1.1]
    clear ho
    go_enter Try.func55, Try.ntmps55
    go_wp2_with fail
    refine Hv.out.mono ?_; rintro e w' ⟨rfl, rfl⟩
    go_wp2_with fail
    go_ret
    exact ⟨rfl, rfl⟩
theorem have_any (xs ms : List Int) (a a2 : Option Addr) (cap cap2 : Nat) (kd : Int) (W : World) (hI : IntsAt W a xs) (h2 : IntsAt W a2 ms) (hm : xs.length ≤ 1000) (hm2 : ms.length ≤ maxLen) :
    Calls Try.prog 62 #[.slice a xs.length cap, .slice a2 ms.length cap2, .int .i64 kd] W fun e w' => e = .returned (.int .i64 (e01 (ExOK xs kd ∧ MealsOK xs ms))) ∧ W = w' := by
  have Hv := hid (rValidate_any xs a cap W hI (by unfold maxLen; omega))
  have Hk := hid (kindOK_any kd W)
  have Hn := hid (mealsOK_any xs ms a a2 cap cap2 W h2 hm hm2)
  by_cases ho : OrdOK xs
  · rw [e01_yes ho] at Hv
    by_cases hk : KindOK kd
    · rw [kindB_yes hk] at Hk
      by_cases hn : MealsOK xs ms
      · rw [mealsB_yes hn] at Hn
        rw [e01_yes ⟨⟨ho, hk⟩, hn⟩]
        clear ho hk hn
        go_enter Try.func62, Try.ntmps62
        go_wp2_with fail
        refine Hv.out.mono ?_; rintro e w' ⟨rfl, rfl⟩
        go_wp2_with fail
        refine Hk.out.mono ?_; rintro e w' ⟨rfl, rfl⟩
        go_wp2_with fail
        refine Hn.out.mono ?_; rintro e w' ⟨rfl, rfl⟩
        go_wp2_with fail
        go_ret
        exact ⟨rfl, rfl⟩
      · rw [mealsB_no hn] at Hn
        rw [e01_no fun h => hn h.2]
        clear ho hk hn
        go_enter Try.func62, Try.ntmps62
        go_wp2_with fail
        refine Hv.out.mono ?_; rintro e w' ⟨rfl, rfl⟩
        go_wp2_with fail
        refine Hk.out.mono ?_; rintro e w' ⟨rfl, rfl⟩
        go_wp2_with fail
        refine Hn.out.mono ?_; rintro e w' ⟨rfl, rfl⟩
        go_wp2_with fail
        go_ret
        exact ⟨rfl, rfl⟩
    · rw [kindB_no hk] at Hk
      rw [e01_no fun h => hk h.1.2]
      clear ho hk
      go_enter Try.func62, Try.ntmps62
      go_wp2_with fail
      refine Hv.out.mono ?_; rintro e w' ⟨rfl, rfl⟩
      go_wp2_with fail
      refine Hk.out.mono ?_; rintro e w' ⟨rfl, rfl⟩
      go_wp2_with fail
      go_ret
      exact ⟨rfl, rfl⟩
  · rw [e01_no ho] at Hv
    rw [e01_no fun h => ho h.1.1]
    clear ho
    go_enter Try.func62, Try.ntmps62
    go_wp2_with fail
    refine Hv.out.mono ?_; rintro e w' ⟨rfl, rfl⟩
    go_wp2_with fail
    go_ret
    exact ⟨rfl, rfl⟩

/-! ### Long, SameInts, sums -/
theorem Long_any (xs : List Int) (a : Option Addr) (cap : Nat) (W : World) (hm : xs.length ≤ maxLen) :
    Calls Try.prog 17 #[.slice a xs.length cap] W fun e w' => e = .returned (.bool (decide (60 < xs.length))) ∧ W = w' := by
  unfold maxLen at hm
  by_cases h : 60 < xs.length
  · go_enter Try.func17, Try.ntmps17
    go_wp2_with fail
    go_ret
    exact ⟨by simp [h]; try omega, rfl⟩
  · go_enter Try.func17, Try.ntmps17
    go_wp2_with fail
    go_ret
    exact ⟨by simp [h]; try omega, rfl⟩
theorem SameInts_any (xs : List Int) (a a2 : Option Addr) (cap cap2 : Nat) (W : World) (h1 : IntsAt W a xs) (h2 : IntsAt W a2 xs) (hm : xs.length ≤ maxLen) :
    Calls Try.prog 25 #[.slice a xs.length cap, .slice a2 xs.length cap2] W fun e w' => e = .returned (.bool true) ∧ Below W.heap.size W w' := by
  unfold maxLen at hm
  go_enter Try.func25, Try.ntmps25
  go_wp2
  go_loopw [5] (fun v5 w' => ∃ k : Nat, k ≤ xs.length ∧ v5 = .int .i64 k ∧ Below W.heap.size W w') (fun v5 _ => xs.length - (intOf v5).toNat)
  case atStart => exact ⟨0, by omega, rfl, Below.refl _ _⟩
  case round =>
    obtain ⟨k, hk, rfl, hb⟩ := hrel
    by_cases hlt : k < xs.length
    · obtain ⟨b, off, rfl, hbl, c1⟩ := (h1.below hb) k hlt
      obtain ⟨b', off', rfl, hbl', c2⟩ := (h2.below hb) k hlt
      have hself : (nth xs k != nth xs k) = false := by simp
      have hself2 : (nth xs k == nth xs k) = true := by simp
      go_wp2
      go_quiet (fail)
      go_wp2
      go_roundw
      case rel => exact ⟨k + 1, by omega, by go_num, below_drewN hb _⟩
      case measure => simp [intOf]; omega
    · have hk' : k = xs.length := by omega
      subst hk'
      go_wp2
      go_ret
      exact ⟨rfl, hb⟩
/-- The sum of a list of numbers that are small. -/
def tot (xs : List Int) : Int := sumTo (nth xs) xs.length
structure Small (xs : List Int) : Prop where
  len : xs.length ≤ 1000
  el : ∀ i, i < xs.length → 0 ≤ nth xs i ∧ nth xs i ≤ 1000000
theorem Small.bd {xs : List Int} (h : Small xs) (k : Nat) (hk : k ≤ xs.length) : 0 ≤ sumTo (nth xs) k ∧ sumTo (nth xs) k ≤ 1000000000 := by
  have := sumTo_bd (nth xs) 1000000 k fun d hd => h.el d (by omega)
  have := h.len
  omega
theorem OrdOK.small {xs : List Int} (h : OrdOK xs) : Small xs := ⟨by have := h.l8; omega, fun i hi => by have := h.el i hi; omega⟩
theorem MealsOK.small {xs ms : List Int} (h : MealsOK xs ms) (ho : OrdOK xs) : Small ms := ⟨by have := h.len; have := ho.l8; omega, fun i hi => by have := h.el i hi; omega⟩
theorem total26 (xs : List Int) (a : Option Addr) (cap : Nat) (W : World) (hI : IntsAt W a xs) (hs : Small xs) :
    Calls Try.prog 26 #[.slice a xs.length cap] W fun e w' => e = .returned (.int .i64 (tot xs)) ∧ W = w' := by
  have hl := hs.len
  go_enter Try.func26, Try.ntmps26
  go_wp2
  go_loop [3, 4] (fun v3 v4 => ∃ k : Nat, k ≤ xs.length ∧ v3 = .int .i64 (sumTo (nth xs) k) ∧ v4 = .int .i64 k) (fun _ v4 => xs.length - (intOf v4).toNat)
  case atStart => exact ⟨0, by omega, rfl, rfl⟩
  case round =>
    obtain ⟨k, hk, rfl, rfl⟩ := hrel
    have hb := hs.bd k hk
    by_cases hlt : k < xs.length
    · obtain ⟨b, off, rfl, hbl, c1⟩ := hI k hlt
      have he := hs.el k hlt
      go_wp2
      go_round
      case rel => exact ⟨k + 1, by omega, rfl, by go_num⟩
      case measure => simp [intOf]; omega
    · obtain rfl : k = xs.length := by omega
      go_wp2
      go_ret
      exact ⟨rfl, rfl⟩
theorem total61 (xs : List Int) (a : Option Addr) (cap : Nat) (W : World) (hI : IntsAt W a xs) (hs : Small xs) :
    Calls Try.prog 61 #[.slice a xs.length cap] W fun e w' => e = .returned (.int .i64 (tot xs)) ∧ W = w' := by
  have hl := hs.len
  go_enter Try.func61, Try.ntmps61
  go_wp2
  go_loop [3, 8] (fun v3 v8 => ∃ k : Nat, k ≤ xs.length ∧ v3 = .int .i64 (sumTo (nth xs) k) ∧ v8 = .int .i64 k) (fun _ v8 => xs.length - (intOf v8).toNat)
  case atStart => exact ⟨0, by omega, rfl, rfl⟩
  case round =>
    obtain ⟨k, hk, rfl, rfl⟩ := hrel
    have hb := hs.bd k hk
    by_cases hlt : k < xs.length
    · obtain ⟨b, off, rfl, hbl, c1⟩ := hI k hlt
      have he := hs.el k hlt
      go_wp2
      go_round
      case rel => exact ⟨k + 1, by omega, rfl, by go_num⟩
      case measure => simp [intOf]; omega
    · obtain rfl : k = xs.length := by omega
      go_wp2
      go_ret
      exact ⟨rfl, rfl⟩
theorem sum63 (xs : List Int) (a : Option Addr) (cap : Nat) (W : World) (hI : IntsAt W a xs) (hs : Small xs) :
    Calls Try.prog 63 #[.slice a xs.length cap] W fun e w' => e = .returned (.int .i64 (tot xs)) ∧ W = w' := by
  have hl := hs.len
  go_enter Try.func63, Try.ntmps63
  go_wp2
  go_loop [3, 4] (fun v3 v4 => ∃ k : Nat, k ≤ xs.length ∧ v3 = .int .i64 (sumTo (nth xs) k) ∧ v4 = .int .i64 k) (fun _ v4 => xs.length - (intOf v4).toNat)
  case atStart => exact ⟨0, by omega, rfl, rfl⟩
  case round =>
    obtain ⟨k, hk, rfl, rfl⟩ := hrel
    have hb := hs.bd k hk
    by_cases hlt : k < xs.length
    · obtain ⟨b, off, rfl, hbl, c1⟩ := hI k hlt
      have he := hs.el k hlt
      go_wp2
      go_round
      case rel => exact ⟨k + 1, by omega, rfl, by go_num⟩
      case measure => simp [intOf]; omega
    · obtain rfl : k = xs.length := by omega
      go_wp2
      go_ret
      exact ⟨rfl, rfl⟩
end Go.Proofs.Ythankdfjkmfokaa
