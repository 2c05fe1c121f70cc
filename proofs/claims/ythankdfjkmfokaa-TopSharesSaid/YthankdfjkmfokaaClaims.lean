/- 'Claimer', 'Giver' and the document's: what they return. -/
import Derived.Test.YthankdfjkmfokaaLow
import Derived.Test.YthankdfjkmfokaaDivide
namespace Go.Proofs.Ythankdfjkmfokaa
open Go.RowKit
set_option linter.unusedSimpArgs false
set_option linter.unusedVariables false

theorem results_tmp3 {fn : Func} {t u v : Tmp} (h : fn.results = #[.tmp t, .tmp u, .tmp v]) (tmps : Array Value) (P : Program) (w : World) :
    (results fn tmps).run P w = .ok (.tuple #[tmps.getD t undef, tmps.getD u undef, tmps.getD v undef]) w := by simp [results, h]
theorem field_school (v a i : Int) : ∀ w : World, (Instr.field 83 (.agg #[.int .i64 v, .int .i64 a, .int .i64 i]) 2).run Try.prog w = .ok (.int .i64 i) w := fun _ => by kernel_rfl
def HavOK (xs ms : List Int) (kd : Int) : Prop := ExOK xs kd ∧ MealsOK xs ms
noncomputable def havE (xs ms : List Int) (kd : Int) : Int := e01 (HavOK xs ms kd)
theorem havE_yes {xs ms : List Int} {kd : Int} (h : HavOK xs ms kd) : havE xs ms kd = 0 := e01_yes h
theorem havE_no {xs ms : List Int} {kd : Int} (h : ¬ HavOK xs ms kd) : havE xs ms kd = 1 := e01_no h
theorem have_E (xs ms : List Int) (a a2 : Option Addr) (cap cap2 : Nat) (kd : Int) (W : World) (h1 : IntsAt W a xs) (h2 : IntsAt W a2 ms) (hm : xs.length ≤ 1000) (hm2 : ms.length ≤ maxLen) :
    Calls Try.prog 62 #[.slice a xs.length cap, .slice a2 ms.length cap2, .int .i64 kd] W fun e w' => e = .returned (.int .i64 (havE xs ms kd)) ∧ W = w' := have_any xs ms a a2 cap cap2 kd W h1 h2 hm hm2
open Classical in
noncomputable def claR (xs ms : List Int) (kd : Int) : Int := if HavOK xs ms kd then (topI kd xs ms xs.length : Nat) else 0
theorem claR_yes {xs ms : List Int} {kd : Int} (h : HavOK xs ms kd) : claR xs ms kd = (topI kd xs ms xs.length : Nat) := by rw [claR, if_pos h]
theorem claR_no {xs ms : List Int} {kd : Int} (h : ¬ HavOK xs ms kd) : claR xs ms kd = 0 := by rw [claR, if_neg h]
open Classical in
noncomputable def gvrR (xs ms : List Int) (kd : Int) : Int := if HavOK xs ms kd ∧ 0 ≤ lowI kd xs ms xs.length then lowI kd xs ms xs.length else 0
open Classical in
noncomputable def gvrB (xs ms : List Int) (kd : Int) : Bool := decide (HavOK xs ms kd ∧ 0 ≤ lowI kd xs ms xs.length)
theorem gvr_yes {xs ms : List Int} {kd : Int} (h : HavOK xs ms kd) (h0 : 0 ≤ lowI kd xs ms xs.length) : gvrR xs ms kd = lowI kd xs ms xs.length ∧ gvrB xs ms kd = true := ⟨by rw [gvrR, if_pos ⟨h, h0⟩], by simp [gvrB, h, h0]⟩
theorem gvr_none {xs ms : List Int} {kd : Int} (h0 : ¬ 0 ≤ lowI kd xs ms xs.length) : gvrR xs ms kd = 0 ∧ gvrB xs ms kd = false := ⟨by rw [gvrR, if_neg fun x => h0 x.2], by simp [gvrB, h0]⟩
theorem gvr_no {xs ms : List Int} {kd : Int} (h : ¬ HavOK xs ms kd) : gvrR xs ms kd = 0 ∧ gvrB xs ms kd = false := ⟨by rw [gvrR, if_neg fun x => h x.1], by simp [gvrB, h]⟩

set_option maxRecDepth 100000 in
set_option maxHeartbeats 1000000 in
theorem Claimer_any (xs ms : List Int) (a a2 : Option Addr) (cap cap2 : Nat) (kd : Int) (W : World) (h1 : IntsAt W a xs) (h2 : IntsAt W a2 ms) (hm : xs.length ≤ 1000) (hm2 : ms.length ≤ maxLen) :
    Calls Try.prog 37 #[.slice a xs.length cap, .slice a2 ms.length cap2, .int .i64 kd] W fun e w' => e = .returned (.tuple #[.int .i64 (claR xs ms kd), .int .i64 (havE xs ms kd)]) ∧ Below W.heap.size W w' := by
  have Hn := hid (fun W h => dealt_any xs ms a a2 cap cap2 W h hm hm2)
  have hmx : xs.length ≤ maxLen := by unfold maxLen; omega
  by_cases hx : ExOK xs kd
  · have Hx := hid (fun W h => examine_yes xs a cap kd W h hmx hx)
    by_cases hn : MealsOK xs ms
    · have hOK : Hid (HavOK xs ms kd) := hid ⟨hx, hn⟩
      rw [e01_yes hn] at Hn
      have HO := hid hx.1
      have HK := hid hx.2
      have HM := hid hn
      clear hx hn
      have E := hid (havE_yes (kd := kd) hOK.out)
      have R := hid (claR_yes (kd := kd) hOK.out)
      go_enter Try.func37, Try.ntmps37
      go_wp2_with fail
      refine (Hx.out _ h1).mono ?_; rintro e w1 ⟨rfl, hb1⟩
      go_wp2_with fail
      refine (Hn.out _ (h2.below (hb1.alloc hb1.size _))).mono ?_; rintro e w' ⟨rfl, rfl⟩
      go_wp2_with fail
      refine (OrE_any 0 0 _ _ (two_alloc w1 (.cells #[.func (.func (kdF kd)) #[] #[], .int .i64 (fac kd)] 66) 0 0)).mono ?_; rintro e w' ⟨rfl, rfl⟩
      rw [or_zero]
      have hbs := (hb1.alloc (hb1.size) (.cells #[.func (.func (kdF kd)) #[] #[], .int .i64 (fac kd)] 66)).alloc (by have := hb1.size; simp at this ⊢; omega) (.cells #[.int .i64 0, .int .i64 0] 27)
      have hc := hid (next_any kd HK.out xs ms a a2 cap cap2 _ (h1.below hbs) (h2.below hbs) HO.out HM.out)
      go_wp2_with fail
      refine hc.out.mono ?_; rintro e w3 ⟨a3, c3, rfl, h3, hb3⟩
      have hmax := maxFunc_any (nextL kd xs ms xs.length) a3 c3 w3 h3 (next_ok (kd := kd) HO.out HM.out) (by rw [nextL_len]; exact HO.out.l1) (by rw [nextL_len]; exact HO.out.l8)
      rw [nextL_len, maxI_top kd xs ms xs.length xs.length (Nat.le_refl _), nextL_at kd xs ms xs.length _ (by have := topI_lt kd xs ms xs.length; have := HO.out.l1; omega)] at hmax
      have Hmax : Hid (Calls Try.prog 71 #[.slice a3 xs.length c3, .func (.func 72) #[] #[]] w3 fun e w' => e = .returned (.agg #[.int .i64 (nextC kd xs ms (topI kd xs ms xs.length)).v, .int .i64 (nextC kd xs ms (topI kd xs ms xs.length)).a, .int .i64 ((topI kd xs ms xs.length : Nat) : Int)]) ∧ Below w3.heap.size w3 w') := hmax
      rw [nextL_len]
      clear hmax h3 hc
      generalize nextC kd xs ms (topI kd xs ms xs.length) = C at *
      have hfd := field_school C.v C.a (topI kd xs ms xs.length : Nat)
      go_wp2_with fail
      refine Hmax.out.mono ?_; rintro e w4 ⟨rfl, hb4⟩
      go_wp2_with fail
      go_ret2
      rw [E.out, R.out]
      exact ⟨rfl, hbs.trans ((hb3.trans (hb4.mono hb3.size)).mono hbs.size)⟩
    · have hno : ¬ HavOK xs ms kd := fun h => hn h.2
      rw [e01_no hn] at Hn
      clear hx hn
      have E := hid (havE_no hno)
      have R := hid (claR_no hno)
      clear hno
      go_enter Try.func37, Try.ntmps37
      go_wp2_with fail
      refine (Hx.out _ h1).mono ?_; rintro e w1 ⟨rfl, hb1⟩
      go_wp2_with fail
      refine (Hn.out _ (h2.below (hb1.alloc hb1.size _))).mono ?_; rintro e w' ⟨rfl, rfl⟩
      go_wp2_with fail
      refine (OrE_any 0 1 _ _ (two_alloc w1 (.cells #[.func (.func (kdF kd)) #[] #[], .int .i64 (fac kd)] 66) 0 1)).mono ?_; rintro e w' ⟨rfl, rfl⟩
      rw [or_zero]
      have hbs := (hb1.alloc (hb1.size) (.cells #[.func (.func (kdF kd)) #[] #[], .int .i64 (fac kd)] 66)).alloc (by have := hb1.size; simp at this ⊢; omega) (.cells #[.int .i64 0, .int .i64 1] 27)
      go_wp2_with fail
      go_ret2
      rw [E.out, R.out]
      exact ⟨rfl, hbs⟩
  · have Hx := hid (fun W h => examine_no xs a cap kd W h hmx hx)
    have hno : ¬ HavOK xs ms kd := fun h => hx h.1
    clear hx
    have E := hid (havE_no hno)
    have R := hid (claR_no hno)
    clear hno
    go_enter Try.func37, Try.ntmps37
    go_wp2_with fail
    refine (Hx.out _ h1).mono ?_; rintro e w1 ⟨rfl, hb1⟩
    go_wp2_with fail
    refine (Hn.out _ (h2.below (hb1.alloc hb1.size _))).mono ?_; rintro e w' ⟨rfl, rfl⟩
    go_wp2_with fail
    refine (OrE_any 1 (e01 (MealsOK xs ms)) _ _ (two_alloc w1 (.cells #[.nilFunc, .int .i64 0] 66) 1 (e01 (MealsOK xs ms)))).mono ?_; rintro e w' ⟨rfl, rfl⟩
    rw [or_one]
    have hbs := (hb1.alloc (hb1.size) (.cells #[.nilFunc, .int .i64 0] 66)).alloc (by have := hb1.size; simp at this ⊢; omega) (.cells #[.int .i64 1, .int .i64 (e01 (MealsOK xs ms))] 27)
    go_wp2_with fail
    go_ret2
    rw [E.out, R.out]
    exact ⟨rfl, hbs⟩

set_option maxHeartbeats 1000000 in
theorem rClaimer_any (xs ms : List Int) (a a2 : Option Addr) (cap cap2 : Nat) (kd : Int) (W : World) (h1 : IntsAt W a xs) (h2 : IntsAt W a2 ms) (hm : xs.length ≤ 1000) (hm2 : ms.length ≤ maxLen) :
    Calls Try.prog 38 #[.slice a xs.length cap, .slice a2 ms.length cap2, .int .i64 kd] W fun e w' => e = .returned (.tuple #[.int .i64 (claR xs ms kd), .int .i64 (havE xs ms kd)]) ∧ Below W.heap.size W w' := by
  have Ha := hid (have_E xs ms a a2 cap cap2 kd W h1 h2 hm hm2)
  by_cases h : HavOK xs ms kd
  · rw [havE_yes h] at Ha
    rw [havE_yes h, claR_yes h]
    have Hc := hid (rclaimer_any kd xs ms a a2 cap cap2 W h1 h2 h.1.1 h.2)
    clear h
    go_enter Try.func38, Try.ntmps38
    go_wp2_with fail
    refine Ha.out.mono ?_; rintro e w' ⟨rfl, rfl⟩
    go_wp2_with fail
    refine Hc.out.mono ?_; rintro e w' ⟨rfl, n, rfl⟩
    go_wp2_with fail
    go_ret2
    exact ⟨rfl, below_drewN (Below.refl _ _) n⟩
  · rw [havE_no h] at Ha
    rw [havE_no h, claR_no h]
    clear h
    go_enter Try.func38, Try.ntmps38
    go_wp2_with fail
    refine Ha.out.mono ?_; rintro e w' ⟨rfl, rfl⟩
    go_wp2_with fail
    go_ret2
    exact ⟨rfl, Below.refl _ _⟩

set_option maxRecDepth 100000 in
set_option maxHeartbeats 1000000 in
theorem Giver_any (xs ms : List Int) (a a2 : Option Addr) (cap cap2 : Nat) (kd : Int) (W : World) (h1 : IntsAt W a xs) (h2 : IntsAt W a2 ms) (hm : xs.length ≤ 1000) (hm2 : ms.length ≤ maxLen) :
    Calls Try.prog 39 #[.slice a xs.length cap, .slice a2 ms.length cap2, .int .i64 kd] W fun e w' => e = .returned (.tuple #[.int .i64 (gvrR xs ms kd), .bool (gvrB xs ms kd), .int .i64 (havE xs ms kd)]) ∧ Below W.heap.size W w' := by
  have Hn := hid (fun W h => dealt_any xs ms a a2 cap cap2 W h hm hm2)
  have hmx : xs.length ≤ maxLen := by unfold maxLen; omega
  by_cases hx : ExOK xs kd
  · have Hx := hid (fun W h => examine_yes xs a cap kd W h hmx hx)
    by_cases hn : MealsOK xs ms
    · have hOK : Hid (HavOK xs ms kd) := hid ⟨hx, hn⟩
      rw [e01_yes hn] at Hn
      have HO := hid hx.1
      have HK := hid hx.2
      have HM := hid hn
      clear hx hn
      have E := hid (havE_yes (kd := kd) hOK.out)
      go_enter Try.func39, Try.ntmps39
      go_wp2_with fail
      refine (Hx.out _ h1).mono ?_; rintro e w1 ⟨rfl, hb1⟩
      go_wp2_with fail
      refine (Hn.out _ (h2.below (hb1.alloc hb1.size _))).mono ?_; rintro e w' ⟨rfl, rfl⟩
      go_wp2_with fail
      refine (OrE_any 0 0 _ _ (two_alloc w1 (.cells #[.func (.func (kdF kd)) #[] #[], .int .i64 (fac kd)] 66) 0 0)).mono ?_; rintro e w' ⟨rfl, rfl⟩
      rw [or_zero]
      have hbs := (hb1.alloc (hb1.size) (.cells #[.func (.func (kdF kd)) #[] #[], .int .i64 (fac kd)] 66)).alloc (by have := hb1.size; simp at this ⊢; omega) (.cells #[.int .i64 0, .int .i64 0] 27)
      have hc := hid (last_any kd HK.out xs ms a a2 cap cap2 _ (h1.below hbs) (h2.below hbs) HO.out HM.out)
      have Hlow := hid (low_min kd xs ms xs.length)
      have Hlok := hid (last_ok (kd := kd) HO.out HM.out)
      have hl8 := lastL_len kd xs ms xs.length
      have hx8 := HO.out.l8
      by_cases h0 : 0 ≤ lowI kd xs ms xs.length
      · have R := hid (gvr_yes hOK.out h0)
        obtain ⟨hpos, hC⟩ : 0 < (lastL kd xs ms xs.length).length ∧ cth (lastL kd xs ms xs.length) (minI (lastL kd xs ms xs.length) (lastL kd xs ms xs.length).length) = lastC kd xs ms (lowI kd xs ms xs.length).toNat := by
          rcases Hlow.out with ⟨_, h⟩ | ⟨h, _, h'⟩
          · omega
          · exact ⟨h, h'⟩
        have hCi : (lastC kd xs ms (lowI kd xs ms xs.length).toNat).i = lowI kd xs ms xs.length := by show (((lowI kd xs ms xs.length).toNat : Nat) : Int) = _; omega
        generalize hL : lastL kd xs ms xs.length = L at *
        have hne : ((L.length : Int) == 0) = false := by simp; intro h; rw [h] at hpos; simp at hpos
        go_wp2_with fail
        refine hc.out.mono ?_; rintro e w3 ⟨a3, c3, rfl, h3, hb3⟩
        have hmin := minFunc_any L a3 c3 w3 h3 Hlok.out hpos (by omega)
        rw [hC, hCi] at hmin
        have Hmin := hid hmin
        clear hmin h3 hc
        generalize lastC kd xs ms (lowI kd xs ms xs.length).toNat = C at *
        have hfd := field_school C.v C.a (lowI kd xs ms xs.length)
        go_wp2_with fail
        refine Hmin.out.mono ?_; rintro e w4 ⟨rfl, hb4⟩
        go_wp2_with fail
        refine bodyPost_ret (results_tmp3 rfl _ _ _) rfl ?_
        rw [E.out, R.out.1, R.out.2]
        exact ⟨rfl, hbs.trans ((hb3.trans (hb4.mono hb3.size)).mono hbs.size)⟩
      · have R := hid (gvr_none (xs := xs) (ms := ms) (kd := kd) h0)
        have hzero : (lastL kd xs ms xs.length).length = 0 := by
          rcases Hlow.out with ⟨h, _⟩ | ⟨_, h, _⟩
          · exact h
          · omega
        generalize hL : lastL kd xs ms xs.length = L at *
        go_wp2_with fail
        refine hc.out.mono ?_; rintro e w3 ⟨a3, c3, rfl, h3, hb3⟩
        rw [hzero]
        clear h3 hc
        go_wp2_with fail
        refine bodyPost_ret (results_tmp3 rfl _ _ _) rfl ?_
        rw [E.out, R.out.1, R.out.2]
        exact ⟨rfl, hbs.trans (hb3.mono hbs.size)⟩
    · have hno : ¬ HavOK xs ms kd := fun h => hn h.2
      rw [e01_no hn] at Hn
      clear hx hn
      have E := hid (havE_no hno)
      have R := hid (gvr_no hno)
      clear hno
      go_enter Try.func39, Try.ntmps39
      go_wp2_with fail
      refine (Hx.out _ h1).mono ?_; rintro e w1 ⟨rfl, hb1⟩
      go_wp2_with fail
      refine (Hn.out _ (h2.below (hb1.alloc hb1.size _))).mono ?_; rintro e w' ⟨rfl, rfl⟩
      go_wp2_with fail
      refine (OrE_any 0 1 _ _ (two_alloc w1 (.cells #[.func (.func (kdF kd)) #[] #[], .int .i64 (fac kd)] 66) 0 1)).mono ?_; rintro e w' ⟨rfl, rfl⟩
      rw [or_zero]
      have hbs := (hb1.alloc (hb1.size) (.cells #[.func (.func (kdF kd)) #[] #[], .int .i64 (fac kd)] 66)).alloc (by have := hb1.size; simp at this ⊢; omega) (.cells #[.int .i64 0, .int .i64 1] 27)
      go_wp2_with fail
      refine bodyPost_ret (results_tmp3 rfl _ _ _) rfl ?_
      rw [E.out, R.out.1, R.out.2]
      exact ⟨rfl, hbs⟩
  · have Hx := hid (fun W h => examine_no xs a cap kd W h hmx hx)
    have hno : ¬ HavOK xs ms kd := fun h => hx h.1
    clear hx
    have E := hid (havE_no hno)
    have R := hid (gvr_no hno)
    clear hno
    go_enter Try.func39, Try.ntmps39
    go_wp2_with fail
    refine (Hx.out _ h1).mono ?_; rintro e w1 ⟨rfl, hb1⟩
    go_wp2_with fail
    refine (Hn.out _ (h2.below (hb1.alloc hb1.size _))).mono ?_; rintro e w' ⟨rfl, rfl⟩
    go_wp2_with fail
    refine (OrE_any 1 (e01 (MealsOK xs ms)) _ _ (two_alloc w1 (.cells #[.nilFunc, .int .i64 0] 66) 1 (e01 (MealsOK xs ms)))).mono ?_; rintro e w' ⟨rfl, rfl⟩
    rw [or_one]
    have hbs := (hb1.alloc (hb1.size) (.cells #[.nilFunc, .int .i64 0] 66)).alloc (by have := hb1.size; simp at this ⊢; omega) (.cells #[.int .i64 1, .int .i64 (e01 (MealsOK xs ms))] 27)
    go_wp2_with fail
    refine bodyPost_ret (results_tmp3 rfl _ _ _) rfl ?_
    rw [E.out, R.out.1, R.out.2]
    exact ⟨rfl, hbs⟩

set_option maxRecDepth 100000 in
set_option maxHeartbeats 2000000 in
theorem rGiver_any (xs ms : List Int) (a a2 : Option Addr) (cap cap2 : Nat) (kd : Int) (W : World) (h1 : IntsAt W a xs) (h2 : IntsAt W a2 ms) (hm : xs.length ≤ 1000) (hm2 : ms.length ≤ maxLen) :
    Calls Try.prog 40 #[.slice a xs.length cap, .slice a2 ms.length cap2, .int .i64 kd] W fun e w' => e = .returned (.tuple #[.int .i64 (gvrR xs ms kd), .bool (gvrB xs ms kd), .int .i64 (havE xs ms kd)]) ∧ Below W.heap.size W w' := by
  have Ha := hid (have_E xs ms a a2 cap cap2 kd W h1 h2 hm hm2)
  by_cases h : HavOK xs ms kd
  · rw [havE_yes h] at Ha
    rw [havE_yes h]
    have HOK := hid h
    have Hlen := hid h.2.len
    have Hel := hid h.2.el
    have Hoel := hid h.1.1.el
    clear h
    go_enter Try.func40, Try.ntmps40
    go_wp2_with fail
    refine Ha.out.mono ?_; rintro e w' ⟨rfl, rfl⟩
    go_wp2_with fail
    go_loopw [10, 11] (fun v10 v11 w' => ∃ k n : Nat, k ≤ xs.length ∧ v10 = .int .i64 (lowI kd xs ms k) ∧ v11 = .int .i64 k ∧ w' = W.drewN n) (fun _ v11 _ => xs.length - (intOf v11).toNat)
    case atStart => exact ⟨0, 0, by omega, rfl, rfl, rfl⟩
    case round =>
      obtain ⟨k, n, hk, rfl, rfl, rfl⟩ := hrel
      have hbd := lowI_bd kd xs ms k
      by_cases hlt : k < xs.length
      · obtain ⟨b, off, rfl, hbl, c1⟩ := h1 k hlt
        obtain ⟨b2, off2, rfl, hbl2, d1⟩ := h2 k (by rw [Hlen.out]; exact hlt)
        have o1 := Hoel.out k hlt
        have m1 := Hel.out k (by rw [Hlen.out]; exact hlt)
        have i1 : (0 : Int) ≤ (k : Int) := by omega
        have i2 : (k : Int) < (xs.length : Int) := by omega
        have i3 : (k : Int) < (ms.length : Int) := by have := Hlen.out; omega
        by_cases hp : 0 < nth ms k
        · have hpd : decide (0 < nth ms k) = true := decide_eq_true hp
          by_cases hn : lowI kd xs ms k < 0
          · have hnd : decide (lowI kd xs ms k < 0) = true := decide_eq_true hn
            have S := hid (lowI_first kd xs ms k hp hn)
            go_wp2_with fail
            go_quiet (fail)
            go_wp2_with fail
            go_roundw
            case rel => exact ⟨k + 1, _, by omega, by rw [S.out], by go_num, rfl⟩
            case measure => simp [intOf]; omega
          · have hnd : decide (lowI kd xs ms k < 0) = false := decide_eq_false hn
            obtain ⟨t, ht⟩ : ∃ t : Nat, lowI kd xs ms k = t := ⟨(lowI kd xs ms k).toNat, by omega⟩
            have htl : t < xs.length := by omega
            obtain ⟨b', off', e', _, c2⟩ := h1 t htl
            cases e'
            obtain ⟨b2', off2', e2', _, d2⟩ := h2 t (by rw [Hlen.out]; exact htl)
            cases e2'
            have o2 := Hoel.out t htl
            have m2 := Hel.out t (by rw [Hlen.out]; exact htl)
            have mp := hbd.2.2 (by omega)
            have htk : t < k := by omega
            clear hbd
            rw [ht] at mp hnd hn ⊢
            simp only [Int.toNat_natCast] at mp
            have i4 : (0 : Int) ≤ (t : Int) := by omega
            have i5 : (t : Int) < (xs.length : Int) := by omega
            have i6 : (t : Int) < (ms.length : Int) := by have := Hlen.out; omega
            have hw1 : IntKind.i64.wrap (nth ms k - 1) = nth ms k - 1 := IntWalk.i64_in _ (by omega)
            have hw2 : IntKind.i64.wrap (nth ms t - 1) = nth ms t - 1 := IntWalk.i64_in _ (by omega)
            have Hc : Hid (∀ w', Calls Try.prog 67 #[.int .i64 kd, .int .i64 (nth xs k), .int .i64 (nth ms k - 1), .int .i64 (nth xs t), .int .i64 (nth ms t - 1)] w' fun e w2 => e = .returned (.int .i64 (lzAt kd xs ms k t)) ∧ w' = w2) := fun w' => rcompare_any kd _ _ _ _ w' o1.1 o1.2 o2.1 o2.2 (by omega) (by omega) (by omega) (by omega)
            by_cases hz : lzAt kd xs ms k t ≤ 0
            · have S := hid (lowI_yes kd xs ms k hp (by rw [ht]; exact hz))
              have hzd : decide (lzAt kd xs ms k t ≤ 0) = true := decide_eq_true hz
              go_wp2_with fail
              go_quiet ((go_at_call 67; exact quiet_two (Hc.out _)))
              go_wp2_with fail
              go_roundw
              case rel => exact ⟨k + 1, _, by omega, by rw [S.out], by go_num, rfl⟩
              case measure => simp [intOf]; omega
            · have S := hid (lowI_no kd xs ms k (by omega) (by rw [ht]; exact hz))
              have hzd : decide (lzAt kd xs ms k t ≤ 0) = false := decide_eq_false hz
              go_wp2_with fail
              go_quiet ((go_at_call 67; exact quiet_two (Hc.out _)))
              go_wp2_with fail
              go_roundw
              case rel => exact ⟨k + 1, _, by omega, by rw [S.out, ht], by go_num, rfl⟩
              case measure => simp [intOf]; omega
        · have hpd : decide (0 < nth ms k) = false := decide_eq_false hp
          have S := hid (lowI_none kd xs ms k hp)
          go_wp2_with fail
          go_quiet (fail)
          go_wp2_with fail
          go_roundw
          case rel => exact ⟨k + 1, _, by omega, by rw [S.out], by go_num, rfl⟩
          case measure => simp [intOf]; omega
      · obtain rfl : k = xs.length := by omega
        by_cases h0 : 0 ≤ lowI kd xs ms xs.length
        · have R := gvr_yes HOK.out h0
          have hnd : decide (lowI kd xs ms xs.length < 0) = false := decide_eq_false (by omega)
          go_wp2_with fail
          refine bodyPost_ret (results_tmp3 rfl _ _ _) rfl ?_
          refine ⟨?_, below_drewN (Below.refl _ _) n⟩
          first | rfl | (rw [R.1, R.2]; rfl)
        · have R := gvr_none (xs := xs) (ms := ms) (kd := kd) h0
          have hnd : decide (lowI kd xs ms xs.length < 0) = true := decide_eq_true (by omega)
          go_wp2_with fail
          refine bodyPost_ret (results_tmp3 rfl _ _ _) rfl ?_
          refine ⟨?_, below_drewN (Below.refl _ _) n⟩
          first | rfl | (rw [R.1, R.2]; rfl)
  · rw [havE_no h] at Ha
    rw [havE_no h, (gvr_no h).1, (gvr_no h).2]
    clear h
    go_enter Try.func40, Try.ntmps40
    go_wp2_with fail
    refine Ha.out.mono ?_; rintro e w' ⟨rfl, rfl⟩
    go_wp2_with fail
    refine bodyPost_ret (results_tmp3 rfl _ _ _) rfl ?_
    exact ⟨rfl, Below.refl _ _⟩
end Go.Proofs.Ythankdfjkmfokaa
