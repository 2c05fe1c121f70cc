/- 'Apart': what it returns. -/
import Derived.Test.YtmllbemjcfkmjaaPlainW
import Derived.Test.YtmllbemjcfkmjaaLetter
namespace Go.Proofs.Ytmllbemjcfkmjaa
open Go.RowKit Go.Maps
set_option linter.unusedSimpArgs false
set_option linter.unusedVariables false

def apS (days : Int) (s : Int) (c : Nat) : Int :=
  if s < 0 ∨ (1 < days ∧ s % 10 = c + 1) ∨ (2 < days ∧ s / 10 = c + 1) then -1 else if days = 2 then c + 1 else if days = 3 then s % 10 * 10 + c + 1 else 0
def apA (s : Int) : Bool := decide (0 ≤ s)
theorem apS_auto (L : Nat) (h1 : 1 ≤ L) (h6 : L ≤ 6) (days : Int) : AutoOK L (apS days) (-1) 100 := by
  refine ⟨h1, h6, by omega, by omega, by omega, by omega, fun s h0 h2 a ha => ?_⟩
  unfold apS
  split
  · omega
  · split
    · omega
    · split <;> omega
set_option maxRecDepth 100000 in
theorem ap_step (days : Int) (hd0 : 0 ≤ days) (hd3 : days ≤ 3) (s : Int) (hs0 : -1 ≤ s) (hs : s < 100) (c : Nat) (hc : c < 6) (H : Nat) (w : World) (hw : w.cell? ⟨H, 0, none⟩ = some (.int .i64 days)) :
    Calls Try.prog 83 #[.int .i64 s, .int .i64 c, .pointer (some ⟨H, 0, none⟩)] w fun e w' => e = .returned (.int .i64 (apS days s c)) ∧ Below w.heap.size w w' := by
  by_cases h0 : s < 0
  · have R : Hid (apS days s c = -1) := hid (by unfold apS; rw [if_pos (.inl h0)])
    go_enter Try.func83, Try.ntmps83
    go_wp2_with fail
    go_ret
    exact ⟨by rw [R.out]; rfl, Below.refl _ _⟩
  have h0' : 0 ≤ s := by omega
  by_cases hd1 : days ≤ 1
  · have R : Hid (apS days s c = 0) := hid (by unfold apS; rw [if_neg (by omega), if_neg (by omega), if_neg (by omega)])
    have d2 : (days == 2) = false := beq_eq_false_iff_ne.2 (by omega)
    have d3 : (days == 3) = false := beq_eq_false_iff_ne.2 (by omega)
    go_enter Try.func83, Try.ntmps83
    go_wp2_with fail
    go_ret
    exact ⟨by rw [R.out]; rfl, Below.refl _ _⟩
  by_cases hd2 : days = 2
  · subst hd2
    by_cases e1 : s % 10 = c + 1
    · have R : Hid (apS 2 s c = -1) := hid (by unfold apS; rw [if_pos (.inr (.inl ⟨by omega, e1⟩))])
      have t1 : (s % 10 == (c : Int) + 1) = true := beq_iff_eq.2 e1
      clear e1
      go_enter Try.func83, Try.ntmps83
      go_wp2_with fail
      go_ret
      exact ⟨by rw [R.out]; rfl, Below.refl _ _⟩
    · have R : Hid (apS 2 s c = c + 1) := hid (by unfold apS; rw [if_neg (by omega), if_pos rfl])
      have t1 : (s % 10 == (c : Int) + 1) = false := beq_eq_false_iff_ne.2 e1
      clear e1
      go_enter Try.func83, Try.ntmps83
      go_wp2_with fail
      go_ret
      exact ⟨by rw [R.out]; rfl, Below.refl _ _⟩
  · obtain rfl : days = 3 := by omega
    by_cases e1 : s % 10 = c + 1
    · have R : Hid (apS 3 s c = -1) := hid (by unfold apS; rw [if_pos (.inr (.inl ⟨by omega, e1⟩))])
      have t1 : (s % 10 == (c : Int) + 1) = true := beq_iff_eq.2 e1
      clear e1
      go_enter Try.func83, Try.ntmps83
      go_wp2_with fail
      go_ret
      exact ⟨by rw [R.out]; rfl, Below.refl _ _⟩
    · have t1 : (s % 10 == (c : Int) + 1) = false := beq_eq_false_iff_ne.2 e1
      by_cases e2 : s / 10 = c + 1
      · have R : Hid (apS 3 s c = -1) := hid (by unfold apS; rw [if_pos (.inr (.inr ⟨by omega, e2⟩))])
        have t2 : (s / 10 == (c : Int) + 1) = true := beq_iff_eq.2 e2
        clear e1 e2
        go_enter Try.func83, Try.ntmps83
        go_wp2_with fail
        go_ret
        exact ⟨by rw [R.out]; rfl, Below.refl _ _⟩
      · have R : Hid (apS 3 s c = s % 10 * 10 + c + 1) := hid (by unfold apS; rw [if_neg (by omega), if_neg (by omega), if_pos rfl])
        have t2 : (s / 10 == (c : Int) + 1) = false := beq_eq_false_iff_ne.2 e2
        clear e1 e2
        go_enter Try.func83, Try.ntmps83
        go_wp2_with fail
        go_ret
        exact ⟨by rw [R.out]; rfl, Below.refl _ _⟩
theorem ap_acc (s : Int) (w : World) : Calls Try.prog 84 #[.int .i64 s] w fun e w' => e = .returned (.bool (apA s)) ∧ Below w.heap.size w w' := by
  go_enter Try.func84, Try.ntmps84
  go_wp2_with fail
  go_ret
  exact ⟨rfl, Below.refl _ _⟩
noncomputable def apE (L days : Int) : Int := if (1 ≤ L ∧ L ≤ 6) ∧ 0 ≤ days ∧ days ≤ 3 then 0 else 1
def apL0 (L : Nat) (days : Int) : Lang := laA L (apS days) apA 0
def apL (L days : Int) : Lang := laA L.toNat (apS days) apA 0

set_option maxRecDepth 100000 in
set_option maxHeartbeats 2000000 in
theorem Apart_any (L days : Int) (W : World) : Calls Try.prog 42 #[.int .i64 L, .int .i64 days] W (GenPost W (apE L days) L.toNat (apL L days)) := by
  have hbA : Below W.heap.size W (W.alloc (.cells #[.int .i64 days] 3)) := below_alloc _ _
  have hbB : Below W.heap.size W ((W.alloc (.cells #[.int .i64 days] 3)).alloc (.cells #[.int .i64 0, .slice none 0 0, .slice none 0 0] 25)) := hbA.alloc (by simp) _
  have Hl := hid (fun w => letter_any L [] none 0 w (fun i hi => absurd hi (Nat.not_lt_zero i)) (Nat.zero_le _))
  by_cases hL : 1 ≤ L ∧ L ≤ 6
  · have hlt : ltrB L [] = true := by simp [ltrB, hL, anyI]
    rw [hlt] at Hl
    clear hlt
    by_cases h0 : days < 0
    · have R : Hid (apE L days = 1) := hid (by unfold apE; rw [if_neg (by omega)])
      go_enter Try.func42, Try.ntmps42
      go_wp2_with fail
      refine (Hl.out _).mono ?_; rintro e w1 ⟨he, hb1⟩
      have he' : e = .returned (.bool true) := he
      subst he'
      have hr := res_cells (B := W.heap.size + 1 + 1) (by simpa using hb1) (by simp)
      have hr' : w1.rowIs (W.heap.size + 1) 25 3 (outF 0 (.slice none 0 0) (.slice none 0 0)) := by simpa using hr
      have f0 := hr'.frozen 0
      have f1 := hr'.frozen 1
      have f2 := hr'.frozen 2
      have x0 := hr'.cell (i := 0) (by omega)
      have x1 := hr'.cell (i := 1) (by omega)
      have x2 := hr'.cell (i := 2) (by omega)
      have xl := hr'.lt
      have y0 : w1.cell? ⟨W.heap.size, 0, none⟩ = some (.int .i64 days) := by rw [hb1.cell (p := ⟨W.heap.size, 0, none⟩) (by simp; omega)]; simp
      have hz := hbB.trans (hb1.mono hbB.size)
      have hs := res_set hr' (.int .i64 0) (.slice none 0 0) (.slice none 0 0)
      have HC := hid hs
      clear hb1 hr hr' he hs
      simp only [outF] at x0 x1 x2
      go_wp2_with fail
      have o0 := HC.out.c0
      have o1 := HC.out.c1
      have o2 := HC.out.c2
      exact bodyPost_ret (v := .tuple #[.agg #[.int .i64 0, .slice none 0 0, .slice none 0 0], .int .i64 1]) (by simp [results, Try.results42, go_sem, o0, o1, o2]) rfl (.inr ⟨by rw [R.out]; decide, below_set3 hz (by omega) _ _ _, by rw [R.out]⟩)
    by_cases h3 : 3 < days
    · have R : Hid (apE L days = 1) := hid (by unfold apE; rw [if_neg (by omega)])
      go_enter Try.func42, Try.ntmps42
      go_wp2_with fail
      refine (Hl.out _).mono ?_; rintro e w1 ⟨he, hb1⟩
      have he' : e = .returned (.bool true) := he
      subst he'
      have hr := res_cells (B := W.heap.size + 1 + 1) (by simpa using hb1) (by simp)
      have hr' : w1.rowIs (W.heap.size + 1) 25 3 (outF 0 (.slice none 0 0) (.slice none 0 0)) := by simpa using hr
      have f0 := hr'.frozen 0
      have f1 := hr'.frozen 1
      have f2 := hr'.frozen 2
      have x0 := hr'.cell (i := 0) (by omega)
      have x1 := hr'.cell (i := 1) (by omega)
      have x2 := hr'.cell (i := 2) (by omega)
      have xl := hr'.lt
      have y0 : w1.cell? ⟨W.heap.size, 0, none⟩ = some (.int .i64 days) := by rw [hb1.cell (p := ⟨W.heap.size, 0, none⟩) (by simp; omega)]; simp
      have hz := hbB.trans (hb1.mono hbB.size)
      have hs := res_set hr' (.int .i64 0) (.slice none 0 0) (.slice none 0 0)
      have HC := hid hs
      clear hb1 hr hr' he hs
      simp only [outF] at x0 x1 x2
      go_wp2_with fail
      have o0 := HC.out.c0
      have o1 := HC.out.c1
      have o2 := HC.out.c2
      exact bodyPost_ret (v := .tuple #[.agg #[.int .i64 0, .slice none 0 0, .slice none 0 0], .int .i64 1]) (by simp [results, Try.results42, go_sem, o0, o1, o2]) rfl (.inr ⟨by rw [R.out]; decide, below_set3 hz (by omega) _ _ _, by rw [R.out]⟩)
    have R : Hid (apE L days = 0) := hid (by unfold apE; rw [if_pos (by omega)])
    obtain ⟨l, rfl⟩ : ∃ l : Nat, L = (l : Int) := ⟨L.toNat, by omega⟩
    simp only [apL, Int.toNat_natCast]
    go_enter Try.func42, Try.ntmps42
    go_wp2_with fail
    refine (Hl.out _).mono ?_; rintro e w1 ⟨he, hb1⟩
    have he' : e = .returned (.bool true) := he
    subst he'
    have hr := res_cells (B := W.heap.size + 1 + 1) (by simpa using hb1) (by simp)
    have hr' : w1.rowIs (W.heap.size + 1) 25 3 (outF 0 (.slice none 0 0) (.slice none 0 0)) := by simpa using hr
    have f0 := hr'.frozen 0
    have f1 := hr'.frozen 1
    have f2 := hr'.frozen 2
    have x0 := hr'.cell (i := 0) (by omega)
    have x1 := hr'.cell (i := 1) (by omega)
    have x2 := hr'.cell (i := 2) (by omega)
    have xl := hr'.lt
    have y0 : w1.cell? ⟨W.heap.size, 0, none⟩ = some (.int .i64 days) := by rw [hb1.cell (p := ⟨W.heap.size, 0, none⟩) (by simp; omega)]; simp
    have hz := hbB.trans (hb1.mono hbB.size)
    have HP := hid (plain_any l (apS days) apA (-1) 100 (apS_auto l (by omega) (by omega) days) 83 84 #[] #[.pointer (some ⟨W.heap.size, 0, none⟩)] #[] #[] w1 (hid (run_enter Try.func83 (by kernel_rfl) rfl))
      (hid fun w hw s hs0 hs a ha => ap_step days (by omega) (by omega) s hs0 hs a (by omega) W.heap.size w ((hw.cell (p := ⟨W.heap.size, 0, none⟩) (by simp; omega)).trans y0)) (hid (run_enter Try.func84 (by kernel_rfl) rfl)) (hid fun w hw s hs0 hs => ap_acc s w))
    have Hz := hid hz
    have Hr := hid hr'
    clear hb1 hr hr' he hz x0 x1 x2 f0 f1 f2
    go_wp2_with fail
    refine HP.out.mono ?_
    rintro e w2 ⟨F, hF, hb2, ⟨h64, base, vn, vb, hbase, rfl, hMA⟩ | ⟨h64, rfl⟩⟩
    · obtain ⟨an, cn, ab, cb, rfl, rfl, _⟩ := hMA.mac
      have HF := hid hF
      have HMA := hid hMA
      clear hF hMA
      have hr2 := rowIs_below Hr.out hb2 Hr.out.lt
      have hz2 := Hz.out.trans (hb2.mono Hz.out.size)
      have f0 := hr2.frozen 0
      have f1 := hr2.frozen 1
      have f2 := hr2.frozen 2
      have x0 := hr2.cell (i := 0) (by omega)
      have x1 := hr2.cell (i := 1) (by omega)
      have x2 := hr2.cell (i := 2) (by omega)
      have xl2 := hr2.lt
      have HC := hid (res_set hr2 (.int .i64 l) (.slice an F.length cn) (.slice ab F.length cb))
      clear hr2 hb2
      simp only [outF] at x0 x1 x2
      go_wp2_with fail
      have o0 := HC.out.c0
      have o1 := HC.out.c1
      have o2 := HC.out.c2
      exact bodyPost_ret (v := .tuple #[.agg #[.int .i64 l, .slice an F.length cn, .slice ab F.length cb], .int .i64 0]) (by simp [results, Try.results42, go_sem, o0, o1, o2]) rfl
        (.inl ⟨R.out, F, HF.out, below_set3 hz2 (by omega) _ _ _, .inl ⟨h64, base, _, _, by omega, rfl, mach_set3 HMA.out (by omega) _ _ _⟩⟩)
    · have HF := hid hF
      clear hF
      have hr2 := rowIs_below Hr.out hb2 Hr.out.lt
      have hz2 := Hz.out.trans (hb2.mono Hz.out.size)
      have f0 := hr2.frozen 0
      have f1 := hr2.frozen 1
      have f2 := hr2.frozen 2
      have x0 := hr2.cell (i := 0) (by omega)
      have x1 := hr2.cell (i := 1) (by omega)
      have x2 := hr2.cell (i := 2) (by omega)
      have xl2 := hr2.lt
      have HC := hid (res_set hr2 (.int .i64 0) (.slice none 0 0) (.slice none 0 0))
      clear hr2 hb2
      simp only [outF] at x0 x1 x2
      go_wp2_with fail
      have o0 := HC.out.c0
      have o1 := HC.out.c1
      have o2 := HC.out.c2
      exact bodyPost_ret (v := .tuple #[.agg #[.int .i64 0, .slice none 0 0, .slice none 0 0], .int .i64 4]) (by simp [results, Try.results42, go_sem, o0, o1, o2]) rfl
        (.inl ⟨R.out, F, HF.out, below_set3 hz2 (by omega) _ _ _, .inr ⟨h64, rfl⟩⟩)
  · have hlt : ltrB L [] = false := by
      unfold ltrB
      by_cases h1 : 1 ≤ L
      · have h6 : ¬ L ≤ 6 := by omega
        simp [h6]
      · simp [h1]
    rw [hlt] at Hl
    clear hlt
    have R : Hid (apE L days = 1) := hid (by unfold apE; rw [if_neg (by omega)])
    go_enter Try.func42, Try.ntmps42
    go_wp2_with fail
    refine (Hl.out _).mono ?_; rintro e w1 ⟨he, hb1⟩
    have he' : e = .returned (.bool false) := he
    subst he'
    have hr := res_cells (B := W.heap.size + 1 + 1) (by simpa using hb1) (by simp)
    have hr' : w1.rowIs (W.heap.size + 1) 25 3 (outF 0 (.slice none 0 0) (.slice none 0 0)) := by simpa using hr
    have f0 := hr'.frozen 0
    have f1 := hr'.frozen 1
    have f2 := hr'.frozen 2
    have x0 := hr'.cell (i := 0) (by omega)
    have x1 := hr'.cell (i := 1) (by omega)
    have x2 := hr'.cell (i := 2) (by omega)
    have xl := hr'.lt
    have y0 : w1.cell? ⟨W.heap.size, 0, none⟩ = some (.int .i64 days) := by rw [hb1.cell (p := ⟨W.heap.size, 0, none⟩) (by simp; omega)]; simp
    have hz := hbB.trans (hb1.mono hbB.size)
    have hs := res_set hr' (.int .i64 0) (.slice none 0 0) (.slice none 0 0)
    have HC := hid hs
    clear hb1 hr hr' he hs
    simp only [outF] at x0 x1 x2
    go_wp2_with fail
    have o0 := HC.out.c0
    have o1 := HC.out.c1
    have o2 := HC.out.c2
    exact bodyPost_ret (v := .tuple #[.agg #[.int .i64 0, .slice none 0 0, .slice none 0 0], .int .i64 1]) (by simp [results, Try.results42, go_sem, o0, o1, o2]) rfl (.inr ⟨by rw [R.out]; decide, below_set3 hz (by omega) _ _ _, by rw [R.out]⟩)
end Go.Proofs.Ytmllbemjcfkmjaa
