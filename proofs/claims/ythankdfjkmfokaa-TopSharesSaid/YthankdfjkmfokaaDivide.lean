/- 'Divide', 'Order' and the document's: what they return. -/
import Derived.Test.YthankdfjkmfokaaGives
namespace Go.Proofs.Ythankdfjkmfokaa
open Go.RowKit
set_option linter.unusedSimpArgs false
set_option linter.unusedVariables false

def DivOK (xs : List Int) (kd n : Int) : Prop := ExOK xs kd ∧ NumOK n
noncomputable def divE (xs : List Int) (kd n : Int) : Int := e01 (DivOK xs kd n)
open Classical in
noncomputable def divR (xs : List Int) (kd n : Int) : List Int := if DivOK xs kd n then giv kd xs n.toNat else []
open Classical in
noncomputable def ordR (xs : List Int) (kd n : Int) : List Int := if DivOK xs kd n then gord kd xs n.toNat else []
theorem divR_yes {xs : List Int} {kd n : Int} (h : DivOK xs kd n) : divR xs kd n = giv kd xs n.toNat := by rw [divR, if_pos h]
theorem divR_no {xs : List Int} {kd n : Int} (h : ¬ DivOK xs kd n) : divR xs kd n = [] := by rw [divR, if_neg h]
theorem ordR_yes {xs : List Int} {kd n : Int} (h : DivOK xs kd n) : ordR xs kd n = gord kd xs n.toNat := by rw [ordR, if_pos h]
theorem ordR_no {xs : List Int} {kd n : Int} (h : ¬ DivOK xs kd n) : ordR xs kd n = [] := by rw [ordR, if_neg h]
theorem divE_yes {xs : List Int} {kd n : Int} (h : DivOK xs kd n) : divE xs kd n = 0 := e01_yes h
theorem divE_no {xs : List Int} {kd n : Int} (h : ¬ DivOK xs kd n) : divE xs kd n = 1 := e01_no h
theorem two_alloc (w : World) (o : Obj) (x y : Int) : IntsAt ((w.alloc o).alloc (.cells #[.int .i64 x, .int .i64 y] 27)) (some ⟨w.heap.size + 1, 0, none⟩) [x, y] := by
  have := intsAt_alloc (w.alloc o) [x, y] 27
  simpa using this
theorem divR_nat {xs : List Int} {kd : Int} {m : Nat} (h : DivOK xs kd m) : divR xs kd m = giv kd xs m := by rw [divR_yes h]; rfl
theorem ordR_nat {xs : List Int} {kd : Int} {m : Nat} (h : DivOK xs kd m) : ordR xs kd m = gord kd xs m := by rw [ordR_yes h]; rfl
theorem num_nat {n : Int} (h : NumOK n) : n = (n.toNat : Int) ∧ n.toNat ≤ 1000 := by unfold NumOK at h; omega

set_option maxRecDepth 100000 in
set_option maxHeartbeats 1000000 in
theorem Divide_any (xs : List Int) (a : Option Addr) (cap : Nat) (n kd : Int) (W : World) (hI : IntsAt W a xs) (hm : xs.length ≤ maxLen) :
    Calls Try.prog 19 #[.slice a xs.length cap, .int .i64 n, .int .i64 kd] W (IntsE (divR xs kd n) (divE xs kd n) W) := by
  have Hn := hid (number_any n)
  by_cases hx : ExOK xs kd
  · have Hx := hid (examine_yes xs a cap kd W hI hm hx)
    by_cases hn : NumOK n
    · have hOK : Hid (DivOK xs kd n) := hid ⟨hx, hn⟩
      have E := hid (divE_yes (kd := kd) hOK.out)
      have E2 := hid (num_nat hn)
      obtain ⟨m, rfl⟩ : ∃ m : Nat, n = (m : Int) := ⟨n.toNat, E2.out.1⟩
      have hm1000 : m ≤ 1000 := by have := E2.out.2; simpa using this
      rw [e01_yes hn] at Hn
      have ho := hx.1
      have hk := hx.2
      have HO := hid ho
      have HK := hid hk
      clear hx hn E2 ho hk
      go_enter Try.func19, Try.ntmps19
      go_wp2_with fail
      refine Hx.out.mono ?_; rintro e w1 ⟨rfl, hb1⟩
      go_wp2_with fail
      refine (Hn.out _).mono ?_; rintro e w' ⟨rfl, rfl⟩
      go_wp2_with fail
      refine (OrE_any 0 0 _ _ (two_alloc w1 (.cells #[.func (.func (kdF kd)) #[] #[], .int .i64 (fac kd)] 66) 0 0)).mono ?_; rintro e w' ⟨rfl, rfl⟩
      rw [or_zero]
      have hbs := (hb1.alloc hb1.size (.cells #[.func (.func (kdF kd)) #[] #[], .int .i64 (fac kd)] 66)).alloc (by have := hb1.size; simp at this ⊢; omega) (.cells #[.int .i64 0, .int .i64 0] 27)
      have hg := hid (give_any kd HK.out xs m a cap _ (hI.below hbs) HO.out hm1000)
      go_wp2_with fail
      refine hg.out.mono ?_; rintro e w4 ⟨a4, c4, a5, c5, rfl, h4, h5, hb4, l4, m4, l5, m5⟩
      go_wp2_with fail
      go_ret2
      rw [E.out]
      exact ⟨a4, c4, by rw [divR_nat hOK.out]; rfl, by rw [divR_nat hOK.out]; exact h4, hbs.trans (hb4.mono (by have := hbs.size; simp at this ⊢; omega)), by rw [divR_nat hOK.out]; exact l4, m4⟩
    · have hno : ¬ DivOK xs kd n := fun h => hn h.2
      have E := hid (divE_no hno)
      have R := hid (divR_no hno)
      rw [e01_no hn] at Hn
      clear hx hn hno
      go_enter Try.func19, Try.ntmps19
      go_wp2_with fail
      refine Hx.out.mono ?_; rintro e w1 ⟨rfl, hb1⟩
      go_wp2_with fail
      refine (Hn.out _).mono ?_; rintro e w' ⟨rfl, rfl⟩
      go_wp2_with fail
      refine (OrE_any 0 1 _ _ (two_alloc w1 (.cells #[.func (.func (kdF kd)) #[] #[], .int .i64 (fac kd)] 66) 0 1)).mono ?_; rintro e w' ⟨rfl, rfl⟩
      rw [or_zero]
      have hbs := (hb1.alloc hb1.size (.cells #[.func (.func (kdF kd)) #[] #[], .int .i64 (fac kd)] 66)).alloc (by have := hb1.size; simp at this ⊢; omega) (.cells #[.int .i64 0, .int .i64 1] 27)
      go_wp2_with fail
      go_ret2
      rw [E.out, R.out]
      exact ⟨none, 0, rfl, fun i hi => absurd hi (Nat.not_lt_zero _), hbs, Nat.le_refl _, Nat.zero_le _⟩
  · have Hx := hid (examine_no xs a cap kd W hI hm hx)
    have hno : ¬ DivOK xs kd n := fun h => hx h.1
    have E := hid (divE_no hno)
    have R := hid (divR_no hno)
    clear hx hno
    go_enter Try.func19, Try.ntmps19
    go_wp2_with fail
    refine Hx.out.mono ?_; rintro e w1 ⟨rfl, hb1⟩
    go_wp2_with fail
    refine (Hn.out _).mono ?_; rintro e w' ⟨rfl, rfl⟩
    go_wp2_with fail
    refine (OrE_any 1 (e01 (NumOK n)) _ _ (two_alloc w1 (.cells #[.nilFunc, .int .i64 0] 66) 1 (e01 (NumOK n)))).mono ?_; rintro e w' ⟨rfl, rfl⟩
    rw [or_one]
    have hbs := (hb1.alloc hb1.size (.cells #[.nilFunc, .int .i64 0] 66)).alloc (by have := hb1.size; simp at this ⊢; omega) (.cells #[.int .i64 1, .int .i64 (e01 (NumOK n))] 27)
    go_wp2_with fail
    go_ret2
    rw [E.out, R.out]
    exact ⟨none, 0, rfl, fun i hi => absurd hi (Nat.not_lt_zero _), hbs, Nat.le_refl _, Nat.zero_le _⟩

set_option maxRecDepth 100000 in
set_option maxHeartbeats 1000000 in
theorem Order_any (xs : List Int) (a : Option Addr) (cap : Nat) (n kd : Int) (W : World) (hI : IntsAt W a xs) (hm : xs.length ≤ maxLen) :
    Calls Try.prog 21 #[.slice a xs.length cap, .int .i64 n, .int .i64 kd] W (IntsE (ordR xs kd n) (divE xs kd n) W) := by
  have Hn := hid (number_any n)
  by_cases hx : ExOK xs kd
  · have Hx := hid (examine_yes xs a cap kd W hI hm hx)
    by_cases hn : NumOK n
    · have hOK : Hid (DivOK xs kd n) := hid ⟨hx, hn⟩
      have E := hid (divE_yes (kd := kd) hOK.out)
      have E2 := hid (num_nat hn)
      obtain ⟨m, rfl⟩ : ∃ m : Nat, n = (m : Int) := ⟨n.toNat, E2.out.1⟩
      have hm1000 : m ≤ 1000 := by have := E2.out.2; simpa using this
      rw [e01_yes hn] at Hn
      have ho := hx.1
      have hk := hx.2
      have HO := hid ho
      have HK := hid hk
      clear hx hn E2 ho hk
      go_enter Try.func21, Try.ntmps21
      go_wp2_with fail
      refine Hx.out.mono ?_; rintro e w1 ⟨rfl, hb1⟩
      go_wp2_with fail
      refine (Hn.out _).mono ?_; rintro e w' ⟨rfl, rfl⟩
      go_wp2_with fail
      refine (OrE_any 0 0 _ _ (two_alloc w1 (.cells #[.func (.func (kdF kd)) #[] #[], .int .i64 (fac kd)] 66) 0 0)).mono ?_; rintro e w' ⟨rfl, rfl⟩
      rw [or_zero]
      have hbs := (hb1.alloc hb1.size (.cells #[.func (.func (kdF kd)) #[] #[], .int .i64 (fac kd)] 66)).alloc (by have := hb1.size; simp at this ⊢; omega) (.cells #[.int .i64 0, .int .i64 0] 27)
      have hg := hid (give_any kd HK.out xs m a cap _ (hI.below hbs) HO.out hm1000)
      go_wp2_with fail
      refine hg.out.mono ?_; rintro e w4 ⟨a4, c4, a5, c5, rfl, h4, h5, hb4, l4, m4, l5, m5⟩
      go_wp2_with fail
      go_ret2
      rw [E.out]
      exact ⟨a5, c5, by rw [ordR_nat hOK.out]; rfl, by rw [ordR_nat hOK.out]; exact h5, hbs.trans (hb4.mono (by have := hbs.size; simp at this ⊢; omega)), by rw [ordR_nat hOK.out]; exact l5, m5⟩
    · have hno : ¬ DivOK xs kd n := fun h => hn h.2
      have E := hid (divE_no hno)
      have R := hid (ordR_no hno)
      rw [e01_no hn] at Hn
      clear hx hn hno
      go_enter Try.func21, Try.ntmps21
      go_wp2_with fail
      refine Hx.out.mono ?_; rintro e w1 ⟨rfl, hb1⟩
      go_wp2_with fail
      refine (Hn.out _).mono ?_; rintro e w' ⟨rfl, rfl⟩
      go_wp2_with fail
      refine (OrE_any 0 1 _ _ (two_alloc w1 (.cells #[.func (.func (kdF kd)) #[] #[], .int .i64 (fac kd)] 66) 0 1)).mono ?_; rintro e w' ⟨rfl, rfl⟩
      rw [or_zero]
      have hbs := (hb1.alloc hb1.size (.cells #[.func (.func (kdF kd)) #[] #[], .int .i64 (fac kd)] 66)).alloc (by have := hb1.size; simp at this ⊢; omega) (.cells #[.int .i64 0, .int .i64 1] 27)
      go_wp2_with fail
      go_ret2
      rw [E.out, R.out]
      exact ⟨none, 0, rfl, fun i hi => absurd hi (Nat.not_lt_zero _), hbs, Nat.le_refl _, Nat.zero_le _⟩
  · have Hx := hid (examine_no xs a cap kd W hI hm hx)
    have hno : ¬ DivOK xs kd n := fun h => hx h.1
    have E := hid (divE_no hno)
    have R := hid (ordR_no hno)
    clear hx hno
    go_enter Try.func21, Try.ntmps21
    go_wp2_with fail
    refine Hx.out.mono ?_; rintro e w1 ⟨rfl, hb1⟩
    go_wp2_with fail
    refine (Hn.out _).mono ?_; rintro e w' ⟨rfl, rfl⟩
    go_wp2_with fail
    refine (OrE_any 1 (e01 (NumOK n)) _ _ (two_alloc w1 (.cells #[.nilFunc, .int .i64 0] 66) 1 (e01 (NumOK n)))).mono ?_; rintro e w' ⟨rfl, rfl⟩
    rw [or_one]
    have hbs := (hb1.alloc hb1.size (.cells #[.nilFunc, .int .i64 0] 66)).alloc (by have := hb1.size; simp at this ⊢; omega) (.cells #[.int .i64 1, .int .i64 (e01 (NumOK n))] 27)
    go_wp2_with fail
    go_ret2
    rw [E.out, R.out]
    exact ⟨none, 0, rfl, fun i hi => absurd hi (Nat.not_lt_zero _), hbs, Nat.le_refl _, Nat.zero_le _⟩

set_option maxRecDepth 100000 in
set_option maxHeartbeats 1000000 in
theorem rDivide_any (xs : List Int) (a : Option Addr) (cap : Nat) (n kd : Int) (W : World) (hI : IntsAt W a xs) (hm : xs.length ≤ maxLen) :
    Calls Try.prog 20 #[.slice a xs.length cap, .int .i64 n, .int .i64 kd] W (IntsE (divR xs kd n) (divE xs kd n) W) := by
  have Ha := hid (ask_any xs a cap n kd W hI hm)
  by_cases hx : DivOK xs kd n
  · have hOK : Hid (DivOK xs kd n) := hid hx
    have E := hid (divE_yes (kd := kd) hOK.out)
    have Ha' : Hid (Calls Try.prog 55 #[.slice a xs.length cap, .int .i64 n, .int .i64 kd] W fun e w' => e = .returned (.int .i64 0) ∧ W = w') := by
      have := Ha.out
      rw [show e01 (ExOK xs kd ∧ NumOK n) = 0 from e01_yes hx] at this
      exact this
    have E2 := hid (num_nat hx.2)
    obtain ⟨m, rfl⟩ : ∃ m : Nat, n = (m : Int) := ⟨n.toNat, E2.out.1⟩
    have hm1000 : m ≤ 1000 := by have := E2.out.2; simpa using this
    have hg := hid (rgiven_any kd xs m a cap W hI hx.1.1 hm1000)
    clear hx E2 Ha
    go_enter Try.func20, Try.ntmps20
    go_wp2_with fail
    refine Ha'.out.mono ?_; rintro e w' ⟨rfl, rfl⟩
    go_wp2_with fail
    refine hg.out.mono ?_; rintro e w4 ⟨a4, c4, a5, c5, rfl, h4, h5, hb4, l4, m4, l5, m5⟩
    go_wp2_with fail
    go_ret2
    rw [E.out]
    exact ⟨a5, c5, by rw [divR_nat hOK.out]; rfl, by rw [divR_nat hOK.out]; exact h5, hb4, by rw [divR_nat hOK.out]; exact l5, m5⟩
  · have E := hid (divE_no hx)
    have R := hid (divR_no hx)
    have Ha' : Hid (Calls Try.prog 55 #[.slice a xs.length cap, .int .i64 n, .int .i64 kd] W fun e w' => e = .returned (.int .i64 1) ∧ W = w') := by
      have := Ha.out
      rw [show e01 (ExOK xs kd ∧ NumOK n) = 1 from e01_no hx] at this
      exact this
    clear hx Ha
    go_enter Try.func20, Try.ntmps20
    go_wp2_with fail
    refine Ha'.out.mono ?_; rintro e w' ⟨rfl, rfl⟩
    go_wp2_with fail
    go_ret2
    rw [E.out, R.out]
    exact ⟨none, 0, rfl, fun i hi => absurd hi (Nat.not_lt_zero _), Below.refl _ _, Nat.le_refl _, Nat.zero_le _⟩

set_option maxRecDepth 100000 in
set_option maxHeartbeats 1000000 in
theorem rOrder_any (xs : List Int) (a : Option Addr) (cap : Nat) (n kd : Int) (W : World) (hI : IntsAt W a xs) (hm : xs.length ≤ maxLen) :
    Calls Try.prog 22 #[.slice a xs.length cap, .int .i64 n, .int .i64 kd] W (IntsE (ordR xs kd n) (divE xs kd n) W) := by
  have Ha := hid (ask_any xs a cap n kd W hI hm)
  by_cases hx : DivOK xs kd n
  · have hOK : Hid (DivOK xs kd n) := hid hx
    have E := hid (divE_yes (kd := kd) hOK.out)
    have Ha' : Hid (Calls Try.prog 55 #[.slice a xs.length cap, .int .i64 n, .int .i64 kd] W fun e w' => e = .returned (.int .i64 0) ∧ W = w') := by
      have := Ha.out
      rw [show e01 (ExOK xs kd ∧ NumOK n) = 0 from e01_yes hx] at this
      exact this
    have E2 := hid (num_nat hx.2)
    obtain ⟨m, rfl⟩ : ∃ m : Nat, n = (m : Int) := ⟨n.toNat, E2.out.1⟩
    have hm1000 : m ≤ 1000 := by have := E2.out.2; simpa using this
    have hg := hid (rgiven_any kd xs m a cap W hI hx.1.1 hm1000)
    clear hx E2 Ha
    go_enter Try.func22, Try.ntmps22
    go_wp2_with fail
    refine Ha'.out.mono ?_; rintro e w' ⟨rfl, rfl⟩
    go_wp2_with fail
    refine hg.out.mono ?_; rintro e w4 ⟨a4, c4, a5, c5, rfl, h4, h5, hb4, l4, m4, l5, m5⟩
    go_wp2_with fail
    go_ret2
    rw [E.out]
    exact ⟨a4, c4, by rw [ordR_nat hOK.out]; rfl, by rw [ordR_nat hOK.out]; exact h4, hb4, by rw [ordR_nat hOK.out]; exact l4, m4⟩
  · have E := hid (divE_no hx)
    have R := hid (ordR_no hx)
    have Ha' : Hid (Calls Try.prog 55 #[.slice a xs.length cap, .int .i64 n, .int .i64 kd] W fun e w' => e = .returned (.int .i64 1) ∧ W = w') := by
      have := Ha.out
      rw [show e01 (ExOK xs kd ∧ NumOK n) = 1 from e01_no hx] at this
      exact this
    clear hx Ha
    go_enter Try.func22, Try.ntmps22
    go_wp2_with fail
    refine Ha'.out.mono ?_; rintro e w' ⟨rfl, rfl⟩
    go_wp2_with fail
    go_ret2
    rw [E.out, R.out]
    exact ⟨none, 0, rfl, fun i hi => absurd hi (Nat.not_lt_zero _), Below.refl _ _, Nat.le_refl _, Nat.zero_le _⟩
end Go.Proofs.Ythankdfjkmfokaa
