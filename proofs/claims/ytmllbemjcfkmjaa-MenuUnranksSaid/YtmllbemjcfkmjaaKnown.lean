/- Texts of the menu seat in one: Letter, Zed, Apart, KnownLaw, Known. -/
import Derived.Test.YtmllbemjcfkmjaaRank
import Derived.Test.YtmllbemjcfkmjaaPlainW
/- 'letter': what it returns; a function that gives a machine or an error: what it leaves. -/
namespace Go.Proofs.Ytmllbemjcfkmjaa
open Go.RowKit Go.Maps
set_option linter.unusedSimpArgs false
set_option linter.unusedVariables false

/-- What a function leaves that gives the plain form of a language, or an error. -/
def GenPost (W : World) (E : Int) (L : Nat) (la : Lang) (e : Ending) (w' : World) : Prop :=
  (E = 0 ∧ PlainPost W L la e w') ∨ (E ≠ 0 ∧ Below W.heap.size W w' ∧ e = .returned (.tuple #[.agg #[.int .i64 0, .slice none 0 0, .slice none 0 0], .int .i64 E]))
theorem res_cells {w w1 : World} {B : Nat} (hb : Below B (w.alloc (.cells #[.int .i64 0, .slice none 0 0, .slice none 0 0] 25)) w1) (hB : B = w.heap.size + 1) :
    w1.rowIs w.heap.size 25 3 (outF 0 (.slice none 0 0) (.slice none 0 0)) := by
  subst hB
  have h0 := (PlO.start w 0 (fun _ => []) (fun _ => undef)).out
  exact rowIs_below h0 hb (Nat.lt_succ_self _)
/-- Three cells behind three stores. -/
structure Cells3 (w : World) (H : Nat) (u v x : Value) : Prop where
  c0 : w.cell? ⟨H, 0, none⟩ = some u
  c1 : w.cell? ⟨H, 1, none⟩ = some v
  c2 : w.cell? ⟨H, 2, none⟩ = some x
theorem res_set {w : World} {H : Nat} {f : Nat → Value} (h : w.rowIs H 25 3 f) (u v x : Value) : Cells3 (((w.setCell ⟨H, 0, none⟩ u).setCell ⟨H, 1, none⟩ v).setCell ⟨H, 2, none⟩ x) H u v x := by
  have s1 := ((h.set 0 u).set 1 v).set 2 x
  exact ⟨by rw [s1.cell (i := 0) (by omega)]; simp, by rw [s1.cell (i := 1) (by omega)]; simp, by rw [s1.cell (i := 2) (by omega)]; simp⟩
theorem below_set3 {B H : Nat} {W w : World} (h : Below B W w) (hH : B ≤ H) (u v x : Value) : Below B W (((w.setCell ⟨H, 0, none⟩ u).setCell ⟨H, 1, none⟩ v).setCell ⟨H, 2, none⟩ x) :=
  ((h.setCell (p := ⟨H, 0, none⟩) hH u).setCell (p := ⟨H, 1, none⟩) hH v).setCell (p := ⟨H, 2, none⟩) hH x
theorem mach_set3 {w : World} {base L H : Nat} {F : List Lang} {vn vb : Value} (h : MachAt w base L F vn vb) (hH : H < base) (u v x : Value) : MachAt (((w.setCell ⟨H, 0, none⟩ u).setCell ⟨H, 1, none⟩ v).setCell ⟨H, 2, none⟩ x) base L F vn vb :=
  ((h.setCell (a := ⟨H, 0, none⟩) hH u).setCell (a := ⟨H, 1, none⟩) hH v).setCell (a := ⟨H, 2, none⟩) hH x
theorem clos112 (x L : Int) (H : Nat) (w : World) (hc : w.cell? ⟨H, 0, none⟩ = some (.int .i64 L)) :
    Calls Try.prog 112 #[.int .i64 x, .pointer (some ⟨H, 0, none⟩)] w fun e w' => e = .returned (.bool (outI L x)) ∧ w = w' := by
  by_cases h1 : x < 0
  · go_enter Try.func112, Try.ntmps112
    go_wp2
    go_ret
    exact ⟨by simp [outI, h1], rfl⟩
  · go_enter Try.func112, Try.ntmps112
    go_wp2
    go_ret
    exact ⟨by simp [outI]; omega, rfl⟩
theorem fn112 (L : Int) (H : Nat) (w : World) (hc : w.cell? ⟨H, 0, none⟩ = some (.int .i64 L)) : Hid (FnP 112 #[] #[.pointer (some ⟨H, 0, none⟩)] (outI L) w) :=
  hid ⟨run_enter Try.func112 (by kernel_rfl) rfl, fun x => clos112 x L H w hc⟩
def ltrB (L : Int) (xs : List Int) : Bool := decide (1 ≤ L) && decide (L ≤ 6) && !anyI (outI L) xs
set_option maxRecDepth 100000 in
theorem letter_any (L : Int) (xs : List Int) (a : Option Addr) (cap : Nat) (W : World) (hI : IntsAt W a xs) (hl : xs.length ≤ maxLen) :
    Calls Try.prog 82 #[.int .i64 L, .slice a xs.length cap] W fun e w' => e = .returned (.bool (ltrB L xs)) ∧ Below W.heap.size W w' := by
  have hb0 := below_alloc W (.cells #[.int .i64 L] 3)
  by_cases h1 : 1 ≤ L
  · by_cases h6 : L ≤ 6
    · have Hc := hid (containsFunc_any 112 #[] #[.pointer (some ⟨W.heap.size, 0, none⟩)] (outI L) xs a cap (W.alloc (.cells #[.int .i64 L] 3)) (hI.below hb0) hl (fn112 L W.heap.size (W.alloc (.cells #[.int .i64 L] 3)) (by simp)))
      have R : Hid (ltrB L xs = !anyI (outI L) xs) := hid (by simp [ltrB, h1, h6])
      clear hl
      cases hA : anyI (outI L) xs
      all_goals
        rw [hA] at Hc R
        clear hA
        go_enter Try.func82, Try.ntmps82
        go_wp2_with fail
        refine Hc.out.mono ?_; rintro e w' ⟨rfl, rfl⟩
        go_wp2_with fail
        go_ret
        exact ⟨by rw [R.out]; rfl, hb0⟩
    · have R : Hid (ltrB L xs = false) := hid (by simp [ltrB, h6])
      go_enter Try.func82, Try.ntmps82
      go_wp2_with fail
      go_ret
      exact ⟨by rw [R.out]; rfl, hb0⟩
  · have R : Hid (ltrB L xs = false) := hid (by simp [ltrB, h1])
    go_enter Try.func82, Try.ntmps82
    go_wp2_with fail
    go_ret
    exact ⟨by rw [R.out]; rfl, hb0⟩
end Go.Proofs.Ytmllbemjcfkmjaa
/- The plain form that a call gives back, its number of letters spelled as the caller spells it. -/
namespace Go.Proofs.Ytmllbemjcfkmjaa
open Go.RowKit Go.Maps
set_option linter.unusedSimpArgs false
set_option linter.unusedVariables false

def PlainZ (W : World) (z : Int) (L : Nat) (la : Lang) (e : Ending) (w' : World) : Prop :=
  ∃ F, Found (succL L) la F ∧ Below W.heap.size W w' ∧
    ((F.length ≤ 64 ∧ ∃ base an cn ab cb, W.heap.size ≤ base ∧ e = .returned (.tuple #[.agg #[.int .i64 z, .slice an F.length cn, .slice ab F.length cb], .int .i64 0]) ∧ MachAt w' base L F (.slice an F.length cn) (.slice ab F.length cb)) ∨
     (64 < F.length ∧ e = .returned (.tuple #[.agg #[.int .i64 0, .slice none 0 0, .slice none 0 0], .int .i64 4])))
theorem plainZ {W : World} {z : Int} {L : Nat} {la : Lang} {e : Ending} {w' : World} (hz : z = L) (h : PlainPost W L la e w') : PlainZ W z L la e w' := by
  subst hz
  obtain ⟨F, h1, h2, ⟨h3, base, vn, vb, h4, h5, h6⟩ | h3⟩ := h
  · obtain ⟨an, cn, ab, cb, rfl, rfl, _⟩ := h6.mac
    exact ⟨F, h1, h2, .inl ⟨h3, base, an, cn, ab, cb, h4, h5, h6⟩⟩
  · exact ⟨F, h1, h2, .inr h3⟩
theorem zplain {W : World} {z : Int} {L : Nat} {la : Lang} {e : Ending} {w' : World} (hz : z = L) (h : PlainZ W z L la e w') : PlainPost W L la e w' := by
  subst hz
  obtain ⟨F, h1, h2, ⟨h3, base, an, cn, ab, cb, h4, h5, h6⟩ | h3⟩ := h
  · exact ⟨F, h1, h2, .inl ⟨h3, base, _, _, h4, h5, h6⟩⟩
  · exact ⟨F, h1, h2, .inr h3⟩
/-- The end of a function that gives on what the plain form gave: the machine lies in its result's three cells. -/
theorem gen_ok {W w2 : World} {E z : Int} {L : Nat} {la : Lang} {F : List Lang} {H base : Nat} {an ab : Option Addr} {cn cb : Nat} (hE : E = 0) (hz : z = L) (hF : Found (succL L) la F) (hb : Below W.heap.size W w2) (hH : W.heap.size ≤ H) (hHb : H < base) (h64 : F.length ≤ 64)
    (hM : MachAt w2 base L F (.slice an F.length cn) (.slice ab F.length cb)) :
    GenPost W E L la (.returned (.tuple #[.agg #[.int .i64 z, .slice an F.length cn, .slice ab F.length cb], .int .i64 0]))
      (((w2.setCell ⟨H, 0, none⟩ (.int .i64 z)).setCell ⟨H, 1, none⟩ (.slice an F.length cn)).setCell ⟨H, 2, none⟩ (.slice ab F.length cb)) :=
  .inl ⟨hE, zplain hz ⟨F, hF, below_set3 hb hH _ _ _, .inl ⟨h64, base, an, cn, ab, cb, by omega, rfl, mach_set3 hM hHb _ _ _⟩⟩⟩
theorem gen_large {W w2 : World} {E : Int} {L : Nat} {la : Lang} {F : List Lang} {H : Nat} (hE : E = 0) (hF : Found (succL L) la F) (hb : Below W.heap.size W w2) (hH : W.heap.size ≤ H) (h64 : 64 < F.length) :
    GenPost W E L la (.returned (.tuple #[.agg #[.int .i64 0, .slice none 0 0, .slice none 0 0], .int .i64 4]))
      (((w2.setCell ⟨H, 0, none⟩ (.int .i64 0)).setCell ⟨H, 1, none⟩ (.slice none 0 0)).setCell ⟨H, 2, none⟩ (.slice none 0 0)) :=
  .inl ⟨hE, F, hF, below_set3 hb hH _ _ _, .inr ⟨h64, rfl⟩⟩
theorem gen_err {W w2 : World} {E z : Int} {L : Nat} {la : Lang} {H : Nat} (hE : E ≠ 0) (hz : z = E) (hb : Below W.heap.size W w2) (hH : W.heap.size ≤ H) :
    GenPost W E L la (.returned (.tuple #[.agg #[.int .i64 0, .slice none 0 0, .slice none 0 0], .int .i64 z]))
      (((w2.setCell ⟨H, 0, none⟩ (.int .i64 0)).setCell ⟨H, 1, none⟩ (.slice none 0 0)).setCell ⟨H, 2, none⟩ (.slice none 0 0)) :=
  .inr ⟨hE, below_set3 hb hH _ _ _, by rw [hz]⟩
/-- What a function that gives on another's result must know of it. -/
theorem gen_cases {W : World} {E z : Int} {L : Nat} {la : Lang} {e : Ending} {w' : World} (h : GenPost W E L la e w') (hz : E = 0 → z = L) :
    Below W.heap.size W w' ∧ ((E = 0 ∧ ∃ F, Found (succL L) la F ∧ ((F.length ≤ 64 ∧ ∃ base an cn ab cb, W.heap.size ≤ base ∧ e = .returned (.tuple #[.agg #[.int .i64 z, .slice an F.length cn, .slice ab F.length cb], .int .i64 0]) ∧ MachAt w' base L F (.slice an F.length cn) (.slice ab F.length cb)) ∨
      (64 < F.length ∧ e = .returned (.tuple #[.agg #[.int .i64 0, .slice none 0 0, .slice none 0 0], .int .i64 4])))) ∨
      (E ≠ 0 ∧ e = .returned (.tuple #[.agg #[.int .i64 0, .slice none 0 0, .slice none 0 0], .int .i64 E]))) := by
  rcases h with ⟨h0, h⟩ | ⟨h0, h1, h2⟩
  · obtain ⟨F, h1, h2, h3⟩ := plainZ (hz h0) h
    exact ⟨h2, .inl ⟨h0, F, h1, h3⟩⟩
  · exact ⟨h1, .inr ⟨h0, h2⟩⟩
end Go.Proofs.Ytmllbemjcfkmjaa
/- 'Apart': what it returns. -/
namespace Go.Proofs.Ytmllbemjcfkmjaa
open Go.RowKit Go.Maps
set_option linter.unusedSimpArgs false
set_option linter.unusedVariables false

def apS (days : Int) (s : Int) (c : Nat) : Int :=
  if s < 0 ∨ (1 < days ∧ s % 10 = c + 1) ∨ (2 < days ∧ s / 10 = c + 1) then -1 else if days = 2 then c + 1 else if days = 3 then s % 10 * 10 + c + 1 else 0
def apA (s : Int) : Bool := decide (0 ≤ s)
theorem apS_auto (L : Nat) (h1 : 1 ≤ L) (h6 : L ≤ 6) (days : Int) : AutoOK L (apS days) (-1) 100 := by
  refine ⟨h1, h6, by omega, by omega, by omega, by omega, fun s h0 h2 a ha => ?_⟩
  unfold apS
  split
  · omega
  · split
    · omega
    · split <;> omega
set_option maxRecDepth 100000 in
theorem ap_step (days : Int) (hd0 : 0 ≤ days) (hd3 : days ≤ 3) (s : Int) (hs0 : -1 ≤ s) (hs : s < 100) (c : Nat) (hc : c < 6) (H : Nat) (w : World) (hw : w.cell? ⟨H, 0, none⟩ = some (.int .i64 days)) :
    Calls Try.prog 83 #[.int .i64 s, .int .i64 c, .pointer (some ⟨H, 0, none⟩)] w fun e w' => e = .returned (.int .i64 (apS days s c)) ∧ Below w.heap.size w w' := by
  by_cases h0 : s < 0
  · have R : Hid (apS days s c = -1) := hid (by unfold apS; rw [if_pos (.inl h0)])
    go_enter Try.func83, Try.ntmps83
    go_wp2_with fail
    go_ret
    exact ⟨by rw [R.out]; rfl, Below.refl _ _⟩
  have h0' : 0 ≤ s := by omega
  by_cases hd1 : days ≤ 1
  · have R : Hid (apS days s c = 0) := hid (by unfold apS; rw [if_neg (by omega), if_neg (by omega), if_neg (by omega)])
    have d2 : (days == 2) = false := beq_eq_false_iff_ne.2 (by omega)
    have d3 : (days == 3) = false := beq_eq_false_iff_ne.2 (by omega)
    go_enter Try.func83, Try.ntmps83
    go_wp2_with fail
    go_ret
    exact ⟨by rw [R.out]; rfl, Below.refl _ _⟩
  by_cases hd2 : days = 2
  · subst hd2
    by_cases e1 : s % 10 = c + 1
    · have R : Hid (apS 2 s c = -1) := hid (by unfold apS; rw [if_pos (.inr (.inl ⟨by omega, e1⟩))])
      have t1 : (s % 10 == (c : Int) + 1) = true := beq_iff_eq.2 e1
      clear e1
      go_enter Try.func83, Try.ntmps83
      go_wp2_with fail
      go_ret
      exact ⟨by rw [R.out]; rfl, Below.refl _ _⟩
    · have R : Hid (apS 2 s c = c + 1) := hid (by unfold apS; rw [if_neg (by omega), if_pos rfl])
      have t1 : (s % 10 == (c : Int) + 1) = false := beq_eq_false_iff_ne.2 e1
      clear e1
      go_enter Try.func83, Try.ntmps83
      go_wp2_with fail
      go_ret
      exact ⟨by rw [R.out]; rfl, Below.refl _ _⟩
  · obtain rfl : days = 3 := by omega
    by_cases e1 : s % 10 = c + 1
    · have R : Hid (apS 3 s c = -1) := hid (by unfold apS; rw [if_pos (.inr (.inl ⟨by omega, e1⟩))])
      have t1 : (s % 10 == (c : Int) + 1) = true := beq_iff_eq.2 e1
      clear e1
      go_enter Try.func83, Try.ntmps83
      go_wp2_with fail
      go_ret
      exact ⟨by rw [R.out]; rfl, Below.refl _ _⟩
    · have t1 : (s % 10 == (c : Int) + 1) = false := beq_eq_false_iff_ne.2 e1
      by_cases e2 : s / 10 = c + 1
      · have R : Hid (apS 3 s c = -1) := hid (by unfold apS; rw [if_pos (.inr (.inr ⟨by omega, e2⟩))])
        have t2 : (s / 10 == (c : Int) + 1) = true := beq_iff_eq.2 e2
        clear e1 e2
        go_enter Try.func83, Try.ntmps83
        go_wp2_with fail
        go_ret
        exact ⟨by rw [R.out]; rfl, Below.refl _ _⟩
      · have R : Hid (apS 3 s c = s % 10 * 10 + c + 1) := hid (by unfold apS; rw [if_neg (by omega), if_neg (by omega), if_pos rfl])
        have t2 : (s / 10 == (c : Int) + 1) = false := beq_eq_false_iff_ne.2 e2
        clear e1 e2
        go_enter Try.func83, Try.ntmps83
        go_wp2_with fail
        go_ret
        exact ⟨by rw [R.out]; rfl, Below.refl _ _⟩
theorem ap_acc (s : Int) (w : World) : Calls Try.prog 84 #[.int .i64 s] w fun e w' => e = .returned (.bool (apA s)) ∧ Below w.heap.size w w' := by
  go_enter Try.func84, Try.ntmps84
  go_wp2_with fail
  go_ret
  exact ⟨rfl, Below.refl _ _⟩
noncomputable def apE (L days : Int) : Int := if (1 ≤ L ∧ L ≤ 6) ∧ 0 ≤ days ∧ days ≤ 3 then 0 else 1
def apL0 (L : Nat) (days : Int) : Lang := laA L (apS days) apA 0
def apL (L days : Int) : Lang := laA L.toNat (apS days) apA 0

set_option maxRecDepth 100000 in
set_option maxHeartbeats 2000000 in
theorem Apart_any (L days : Int) (W : World) : Calls Try.prog 42 #[.int .i64 L, .int .i64 days] W (GenPost W (apE L days) L.toNat (apL L days)) := by
  have hbA : Below W.heap.size W (W.alloc (.cells #[.int .i64 days] 3)) := below_alloc _ _
  have hbB : Below W.heap.size W ((W.alloc (.cells #[.int .i64 days] 3)).alloc (.cells #[.int .i64 0, .slice none 0 0, .slice none 0 0] 25)) := hbA.alloc (by simp) _
  have Hl := hid (fun w => letter_any L [] none 0 w (fun i hi => absurd hi (Nat.not_lt_zero i)) (Nat.zero_le _))
  by_cases hL : 1 ≤ L ∧ L ≤ 6
  · have hlt : ltrB L [] = true := by simp [ltrB, hL, anyI]
    rw [hlt] at Hl
    clear hlt
    by_cases h0 : days < 0
    · have R : Hid (apE L days = 1) := hid (by unfold apE; rw [if_neg (by omega)])
      go_enter Try.func42, Try.ntmps42
      go_wp2_with fail
      refine (Hl.out _).mono ?_; rintro e w1 ⟨he, hb1⟩
      have he' : e = .returned (.bool true) := he
      subst he'
      have hr := res_cells (B := W.heap.size + 1 + 1) (by simpa using hb1) (by simp)
      have hr' : w1.rowIs (W.heap.size + 1) 25 3 (outF 0 (.slice none 0 0) (.slice none 0 0)) := by simpa using hr
      have f0 := hr'.frozen 0
      have f1 := hr'.frozen 1
      have f2 := hr'.frozen 2
      have x0 := hr'.cell (i := 0) (by omega)
      have x1 := hr'.cell (i := 1) (by omega)
      have x2 := hr'.cell (i := 2) (by omega)
      have xl := hr'.lt
      have y0 : w1.cell? ⟨W.heap.size, 0, none⟩ = some (.int .i64 days) := by rw [hb1.cell (p := ⟨W.heap.size, 0, none⟩) (by simp; omega)]; simp
      have hz := hbB.trans (hb1.mono hbB.size)
      have hs := res_set hr' (.int .i64 0) (.slice none 0 0) (.slice none 0 0)
      have HC := hid hs
      clear hb1 hr hr' he hs
      simp only [outF] at x0 x1 x2
      go_wp2_with fail
      have o0 := HC.out.c0
      have o1 := HC.out.c1
      have o2 := HC.out.c2
      exact bodyPost_ret (v := .tuple #[.agg #[.int .i64 0, .slice none 0 0, .slice none 0 0], .int .i64 1]) (by simp [results, Try.results42, go_sem, o0, o1, o2]) rfl (.inr ⟨by rw [R.out]; decide, below_set3 hz (by omega) _ _ _, by rw [R.out]⟩)
    by_cases h3 : 3 < days
    · have R : Hid (apE L days = 1) := hid (by unfold apE; rw [if_neg (by omega)])
      go_enter Try.func42, Try.ntmps42
      go_wp2_with fail
      refine (Hl.out _).mono ?_; rintro e w1 ⟨he, hb1⟩
      have he' : e = .returned (.bool true) := he
      subst he'
      have hr := res_cells (B := W.heap.size + 1 + 1) (by simpa using hb1) (by simp)
      have hr' : w1.rowIs (W.heap.size + 1) 25 3 (outF 0 (.slice none 0 0) (.slice none 0 0)) := by simpa using hr
      have f0 := hr'.frozen 0
      have f1 := hr'.frozen 1
      have f2 := hr'.frozen 2
      have x0 := hr'.cell (i := 0) (by omega)
      have x1 := hr'.cell (i := 1) (by omega)
      have x2 := hr'.cell (i := 2) (by omega)
      have xl := hr'.lt
      have y0 : w1.cell? ⟨W.heap.size, 0, none⟩ = some (.int .i64 days) := by rw [hb1.cell (p := ⟨W.heap.size, 0, none⟩) (by simp; omega)]; simp
      have hz := hbB.trans (hb1.mono hbB.size)
      have hs := res_set hr' (.int .i64 0) (.slice none 0 0) (.slice none 0 0)
      have HC := hid hs
      clear hb1 hr hr' he hs
      simp only [outF] at x0 x1 x2
      go_wp2_with fail
      have o0 := HC.out.c0
      have o1 := HC.out.c1
      have o2 := HC.out.c2
      exact bodyPost_ret (v := .tuple #[.agg #[.int .i64 0, .slice none 0 0, .slice none 0 0], .int .i64 1]) (by simp [results, Try.results42, go_sem, o0, o1, o2]) rfl (.inr ⟨by rw [R.out]; decide, below_set3 hz (by omega) _ _ _, by rw [R.out]⟩)
    have R : Hid (apE L days = 0) := hid (by unfold apE; rw [if_pos (by omega)])
    obtain ⟨l, rfl⟩ : ∃ l : Nat, L = (l : Int) := ⟨L.toNat, by omega⟩
    simp only [apL, Int.toNat_natCast]
    go_enter Try.func42, Try.ntmps42
    go_wp2_with fail
    refine (Hl.out _).mono ?_; rintro e w1 ⟨he, hb1⟩
    have he' : e = .returned (.bool true) := he
    subst he'
    have hr := res_cells (B := W.heap.size + 1 + 1) (by simpa using hb1) (by simp)
    have hr' : w1.rowIs (W.heap.size + 1) 25 3 (outF 0 (.slice none 0 0) (.slice none 0 0)) := by simpa using hr
    have f0 := hr'.frozen 0
    have f1 := hr'.frozen 1
    have f2 := hr'.frozen 2
    have x0 := hr'.cell (i := 0) (by omega)
    have x1 := hr'.cell (i := 1) (by omega)
    have x2 := hr'.cell (i := 2) (by omega)
    have xl := hr'.lt
    have y0 : w1.cell? ⟨W.heap.size, 0, none⟩ = some (.int .i64 days) := by rw [hb1.cell (p := ⟨W.heap.size, 0, none⟩) (by simp; omega)]; simp
    have hz := hbB.trans (hb1.mono hbB.size)
    have HP := hid (plain_any l (apS days) apA (-1) 100 (apS_auto l (by omega) (by omega) days) 83 84 #[] #[.pointer (some ⟨W.heap.size, 0, none⟩)] #[] #[] w1 (hid (run_enter Try.func83 (by kernel_rfl) rfl))
      (hid fun w hw s hs0 hs a ha => ap_step days (by omega) (by omega) s hs0 hs a (by omega) W.heap.size w ((hw.cell (p := ⟨W.heap.size, 0, none⟩) (by simp; omega)).trans y0)) (hid (run_enter Try.func84 (by kernel_rfl) rfl)) (hid fun w hw s hs0 hs => ap_acc s w))
    have Hz := hid hz
    have Hr := hid hr'
    clear hb1 hr hr' he hz x0 x1 x2 f0 f1 f2
    go_wp2_with fail
    refine HP.out.mono ?_
    rintro e w2 ⟨F, hF, hb2, ⟨h64, base, vn, vb, hbase, rfl, hMA⟩ | ⟨h64, rfl⟩⟩
    · obtain ⟨an, cn, ab, cb, rfl, rfl, _⟩ := hMA.mac
      have HF := hid hF
      have HMA := hid hMA
      clear hF hMA
      have hr2 := rowIs_below Hr.out hb2 Hr.out.lt
      have hz2 := Hz.out.trans (hb2.mono Hz.out.size)
      have f0 := hr2.frozen 0
      have f1 := hr2.frozen 1
      have f2 := hr2.frozen 2
      have x0 := hr2.cell (i := 0) (by omega)
      have x1 := hr2.cell (i := 1) (by omega)
      have x2 := hr2.cell (i := 2) (by omega)
      have xl2 := hr2.lt
      have HC := hid (res_set hr2 (.int .i64 l) (.slice an F.length cn) (.slice ab F.length cb))
      clear hr2 hb2
      simp only [outF] at x0 x1 x2
      go_wp2_with fail
      have o0 := HC.out.c0
      have o1 := HC.out.c1
      have o2 := HC.out.c2
      exact bodyPost_ret (v := .tuple #[.agg #[.int .i64 l, .slice an F.length cn, .slice ab F.length cb], .int .i64 0]) (by simp [results, Try.results42, go_sem, o0, o1, o2]) rfl
        (.inl ⟨R.out, F, HF.out, below_set3 hz2 (by omega) _ _ _, .inl ⟨h64, base, _, _, by omega, rfl, mach_set3 HMA.out (by omega) _ _ _⟩⟩)
    · have HF := hid hF
      clear hF
      have hr2 := rowIs_below Hr.out hb2 Hr.out.lt
      have hz2 := Hz.out.trans (hb2.mono Hz.out.size)
      have f0 := hr2.frozen 0
      have f1 := hr2.frozen 1
      have f2 := hr2.frozen 2
      have x0 := hr2.cell (i := 0) (by omega)
      have x1 := hr2.cell (i := 1) (by omega)
      have x2 := hr2.cell (i := 2) (by omega)
      have xl2 := hr2.lt
      have HC := hid (res_set hr2 (.int .i64 0) (.slice none 0 0) (.slice none 0 0))
      clear hr2 hb2
      simp only [outF] at x0 x1 x2
      go_wp2_with fail
      have o0 := HC.out.c0
      have o1 := HC.out.c1
      have o2 := HC.out.c2
      exact bodyPost_ret (v := .tuple #[.agg #[.int .i64 0, .slice none 0 0, .slice none 0 0], .int .i64 4]) (by simp [results, Try.results42, go_sem, o0, o1, o2]) rfl
        (.inl ⟨R.out, F, HF.out, below_set3 hz2 (by omega) _ _ _, .inr ⟨h64, rfl⟩⟩)
  · have hlt : ltrB L [] = false := by
      unfold ltrB
      by_cases h1 : 1 ≤ L
      · have h6 : ¬ L ≤ 6 := by omega
        simp [h6]
      · simp [h1]
    rw [hlt] at Hl
    clear hlt
    have R : Hid (apE L days = 1) := hid (by unfold apE; rw [if_neg (by omega)])
    go_enter Try.func42, Try.ntmps42
    go_wp2_with fail
    refine (Hl.out _).mono ?_; rintro e w1 ⟨he, hb1⟩
    have he' : e = .returned (.bool false) := he
    subst he'
    have hr := res_cells (B := W.heap.size + 1 + 1) (by simpa using hb1) (by simp)
    have hr' : w1.rowIs (W.heap.size + 1) 25 3 (outF 0 (.slice none 0 0) (.slice none 0 0)) := by simpa using hr
    have f0 := hr'.frozen 0
    have f1 := hr'.frozen 1
    have f2 := hr'.frozen 2
    have x0 := hr'.cell (i := 0) (by omega)
    have x1 := hr'.cell (i := 1) (by omega)
    have x2 := hr'.cell (i := 2) (by omega)
    have xl := hr'.lt
    have y0 : w1.cell? ⟨W.heap.size, 0, none⟩ = some (.int .i64 days) := by rw [hb1.cell (p := ⟨W.heap.size, 0, none⟩) (by simp; omega)]; simp
    have hz := hbB.trans (hb1.mono hbB.size)
    have hs := res_set hr' (.int .i64 0) (.slice none 0 0) (.slice none 0 0)
    have HC := hid hs
    clear hb1 hr hr' he hs
    simp only [outF] at x0 x1 x2
    go_wp2_with fail
    have o0 := HC.out.c0
    have o1 := HC.out.c1
    have o2 := HC.out.c2
    exact bodyPost_ret (v := .tuple #[.agg #[.int .i64 0, .slice none 0 0, .slice none 0 0], .int .i64 1]) (by simp [results, Try.results42, go_sem, o0, o1, o2]) rfl (.inr ⟨by rw [R.out]; decide, below_set3 hz (by omega) _ _ _, by rw [R.out]⟩)
end Go.Proofs.Ytmllbemjcfkmjaa
/- The plain form of a machine whose states are told apart by a few words; the two machines of the chapter's examples; plainly. -/
namespace Go.Proofs.Ytmllbemjcfkmjaa
open Go.RowKit
set_option linter.unusedSimpArgs false
set_option linter.unusedVariables false

section
variable {α β : Type} [DecidableEq α] [DecidableEq β]
theorem visL_nodup_app (l : List α) : ∀ S : List α, (S ++ l).Nodup → visL S l = S ++ l := by
  induction l with
  | nil => intro S _; simp [visL]
  | cons x l ih =>
    intro S h
    have hx : x ∉ S := by
      intro hm
      have := (List.nodup_append.1 h).2.2 x hm x (by simp)
      exact this rfl
    rw [visL, vis_new S x hx, ih (S ++ [x]) (by simpa using h)]
    simp
theorem nub_self {l : List α} (h : l.Nodup) : nub l = l := by
  have := visL_nodup_app l [] (by simpa using h)
  simpa [nub] using this
theorem idx_map (h : α → β) (S : List α) (x : α) (hinj : ∀ y, y ∈ S → h y = h x → y = x) : idx (S.map h) (h x) = idx S x := by
  induction S with
  | nil => rfl
  | cons y t ih =>
    simp only [List.map_cons, idx]
    by_cases e : y = x
    · subst e; simp
    · rw [if_neg e, if_neg (fun hh => e (hinj y (by simp) hh)), ih fun z hz => hinj z (by simp [hz])]
end
theorem nodup_of_map {α β : Type} (f : α → β) {l : List α} (h : (l.map f).Nodup) : l.Nodup := by
  unfold List.Nodup at *
  rw [List.pairwise_map] at h
  exact h.imp fun hne e => hne (by rw [e])
/-- States that a few words tell apart are the plain form's states. -/
theorem conc {L : Nat} {step : Int → Nat → Int} {ac : Int → Bool} {lo hi : Int} (hA : AutoOK L step lo hi) (i : Nat) (S : List Int) (hS : raw L step i = S) (hi' : S.length ≤ i) (ws : List (List Nat))
    (hw : (S.map fun s => ws.map fun w => laA L step ac s w).Nodup) {F : List Lang} (hF : Found (succL L) (laA L step ac 0) F) :
    F = S.map (laA L step ac) ∧ macOf L F = ⟨L, S.map fun s => (List.range L).map fun a => ((idx S (step s a) : Nat) : Int), S.map ac⟩ := by
  have hE : EndOK L step S := hS ▸ raw_end hA i (by rw [hS]; exact hi')
  have hn : (S.map (laA L step ac)).Nodup := by
    refine nodup_of_map (fun l : Lang => ws.map l) ?_
    rw [List.map_map]
    exact hw
  have e1 : F = S.map (laA L step ac) := by
    rw [found_unique _ _ hF (forms_found (ac := ac) hE), forms_nub hE, nub_self hn]
  refine ⟨e1, ?_⟩
  subst e1
  have hinj : ∀ x, x ∈ S → ∀ y, y ∈ S → laA L step ac y = laA L step ac x → y = x := by
    intro x hx y hy e
    obtain ⟨i, hi, rfl⟩ := List.getElem_of_mem hx
    obtain ⟨j, hj, rfl⟩ := List.getElem_of_mem hy
    have hp := List.pairwise_iff_getElem.1 hn
    rcases Nat.lt_trichotomy i j with h | h | h
    · exact absurd (by rw [List.getElem_map, List.getElem_map]; exact e.symm) (hp i j (by simpa using hi) (by simpa using hj) h)
    · subst h; rfl
    · exact absurd (by rw [List.getElem_map, List.getElem_map]; exact e) (hp j i (by simpa using hj) (by simpa using hi) h)
  have e2 : canNext L (S.map (laA L step ac)) = S.map fun s => (List.range L).map fun a => ((idx S (step s a) : Nat) : Int) := by
    unfold canNext
    rw [List.map_map]
    refine List.map_congr_left fun s hs => ?_
    show canRow L _ (laA L step ac s) = _
    unfold canRow
    refine List.map_congr_left fun a ha => ?_
    have ha := List.mem_range.1 ha
    obtain ⟨k, hk, rfl⟩ := List.getElem_of_mem hs
    have hcl := hE.cl k hk a ha
    have eg : S.getD k 0 = S[k] := by simp [List.getD, hk]
    rw [eg] at hcl
    rw [laA_deriv hE _ a ha, idx_map (laA L step ac) S _ fun y hy => hinj _ hcl y hy]
  have e3 : canAcc (S.map (laA L step ac)) = S.map ac := by
    unfold canAcc
    rw [List.map_map]
    rfl
  unfold macOf
  rw [e2, e3]
def ap22S : List Int := [0, 1, 2, -1]
def ap32S : List Int := [0, 1, 2, 3, -1]
def m3 : Mac := ⟨3, [[1, 2, 3], [4, 2, 3], [1, 4, 3], [1, 2, 4], [4, 4, 4]], [true, true, true, true, false]⟩
theorem ap22 {F : List Lang} (hF : Found (succL 2) (apL0 2 2) F) : F.length = 4 := by
  have h := conc (ac := apA) (apS_auto 2 (by omega) (by omega) 2) 4 ap22S (by decide +kernel) (by decide) [[], [0], [1]] (by decide +kernel) hF
  rw [h.1]
  rfl
theorem ap32 {F : List Lang} (hF : Found (succL 3) (apL0 3 2) F) : F.length = 5 ∧ macOf 3 F = m3 := by
  have h := conc (ac := apA) (apS_auto 3 (by omega) (by omega) 2) 5 ap32S (by decide +kernel) (by decide) [[], [0], [1], [2]] (by decide +kernel) hF
  refine ⟨by rw [h.1]; rfl, ?_⟩
  rw [h.2]
  have e : (ap32S.map fun s => (List.range 3).map fun a => ((idx ap32S (apS 2 s a) : Nat) : Int)) = [[1, 2, 3], [4, 2, 3], [1, 4, 3], [1, 2, 4], [4, 4, 4]] := by decide +kernel
  rw [e]
  rfl
theorem m3_ok : MacOK m3 := ⟨by decide, by decide, by decide, by decide, by decide, by decide, by decide⟩
theorem m3_word : WordOK m3.L [0, 2, 0] := ⟨by decide, by decide⟩
theorem m3_count : cntN m3 3 = 12 ∧ sizE m3 3 = 0 := by
  have h := (sizE_zero (m := m3) (n := 3)).2 ⟨m3_ok, by decide, by decide⟩
  exact ⟨by rw [cntN_ok h]; decide +kernel, h⟩
theorem m3_rank : rnkN m3 [0, 2, 0] = 2 ∧ rnkE m3 [0, 2, 0] = 0 := by
  have h := rnk_ok (m := m3) (xs := [0, 2, 0]) (wodE_zero.2 ⟨m3_ok, m3_word⟩) (by decide +kernel)
  exact ⟨by rw [h.2]; decide +kernel, h.1⟩
end Go.Proofs.Ytmllbemjcfkmjaa
/- 'known': it returns true. -/
namespace Go.Proofs.Ytmllbemjcfkmjaa
open Go.RowKit
set_option linter.unusedSimpArgs false
set_option linter.unusedVariables false

def Ap22 (W : World) (e : Ending) (w' : World) : Prop := ∃ a cap a2 cap2, e = .returned (.tuple #[.agg #[.int .i64 2, .slice a 4 cap, .slice a2 4 cap2], .int .i64 0]) ∧ Below W.heap.size W w'
def Ap32 (W : World) (e : Ending) (w' : World) : Prop := ∃ a cap a2 cap2, e = .returned (.tuple #[.agg #[.int .i64 3, .slice a 5 cap, .slice a2 5 cap2], .int .i64 0]) ∧ MacAt w' a cap a2 cap2 m3 ∧ Below W.heap.size W w'
theorem apart22 (W : World) : Calls Try.prog 42 #[.int .i64 2, .int .i64 2] W (Ap22 W) := by
  refine (Apart_any 2 2 W).mono fun e w' h => ?_
  rcases h with ⟨_, F, hF, hb, ⟨h64, base, vn, vb, hbase, rfl, hM⟩ | ⟨h64, _⟩⟩ | ⟨h, _⟩
  · have h4 := ap22 hF
    obtain ⟨a, cap, a2, cap2, rfl, rfl, _⟩ := hM.mac
    exact ⟨a, cap, a2, cap2, by rw [h4]; rfl, hb⟩
  · have h4 := ap22 hF
    omega
  · exact absurd (by unfold apE; rw [if_pos (by decide)]) h
theorem apart32 (W : World) : Calls Try.prog 42 #[.int .i64 3, .int .i64 2] W (Ap32 W) := by
  refine (Apart_any 3 2 W).mono fun e w' h => ?_
  rcases h with ⟨_, F, hF, hb, ⟨h64, base, vn, vb, hbase, rfl, hM⟩ | ⟨h64, _⟩⟩ | ⟨h, _⟩
  · have h4 := ap32 hF
    obtain ⟨a, cap, a2, cap2, rfl, rfl, hA⟩ := hM.mac
    have e : macOf (3 : Int).toNat F = m3 := h4.2
    rw [e] at hA
    exact ⟨a, cap, a2, cap2, by rw [h4.1]; rfl, hA, hb⟩
  · have h4 := ap32 hF
    omega
  · exact absurd (by unfold apE; rw [if_pos (by decide)]) h
theorem count3 (W : World) (a a2 : Option Addr) (cap cap2 : Nat) (h : MacAt W a cap a2 cap2 m3) : Calls Try.prog 40 #[.agg #[.int .i64 3, .slice a 5 cap, .slice a2 5 cap2], .int .i64 3] W fun e w' => e = .returned (.tuple #[.int .i64 12, .int .i64 0]) ∧ Below W.heap.size W w' := by
  have := Count_any m3 a a2 cap cap2 3 W h
  rw [m3_count.1, m3_count.2] at this
  exact this
theorem rank3 (W : World) (a a2 b : Option Addr) (cap cap2 cb : Nat) (h : MacAt W a cap a2 cap2 m3) (hI : IntsAt W b [0, 2, 0]) : Calls Try.prog 29 #[.agg #[.int .i64 3, .slice a 5 cap, .slice a2 5 cap2], .slice b 3 cb] W fun e w' => e = .returned (.tuple #[.int .i64 2, .int .i64 0]) ∧ Below W.heap.size W w' := by
  have := Rank_any m3 a a2 cap cap2 [0, 2, 0] b cb W h hI (by unfold maxLen; decide)
  rw [m3_rank.1, m3_rank.2] at this
  exact this
set_option maxRecDepth 100000 in
set_option maxHeartbeats 2000000 in
theorem known_true (W : World) : Calls Try.prog 19 #[] W fun e w' => e = .returned (.bool true) ∧ Below W.heap.size W w' := by
  have H1 := hid (apart22 W)
  go_enter Try.func19, Try.ntmps19
  go_wp2_with fail
  refine H1.out.mono ?_; rintro e w1 ⟨a, cap, a2, cap2, rfl, hb1⟩
  have H2 := hid (fun w => apart32 w)
  go_wp2_with fail
  refine (H2.out _).mono ?_; rintro e w2 ⟨c, ccap, c2, ccap2, rfl, hM, hb2⟩
  have hX := box_at hb2 (by simp)
  have a0 := hX.c0
  have a1 := hX.c1
  have a2 := hX.c2
  have al := hX.lt
  have HM := hid hM
  have hbW2 : Below W.heap.size W w2 := (hb1.alloc hb1.size _).trans (hb2.mono (by have := hb1.size; simp; omega))
  have HB2 := hid hbW2
  clear hX hM hb2 hb1 hbW2
  have HM2 := hid (HM.out.below (below_alloc w2 (.cells #[.int .i64 3, .slice c 5 ccap, .slice c2 5 ccap2] 25)))
  have H3 := hid (count3 (w2.alloc (.cells #[.int .i64 3, .slice c 5 ccap, .slice c2 5 ccap2] 25)) c c2 ccap ccap2 HM2.out)
  go_wp2_with fail
  refine H3.out.mono ?_; rintro e w3 ⟨rfl, hb3⟩
  have hY := box_at hb3 (by simp)
  have b0 := hY.c0
  have b1 := hY.c1
  have b2 := hY.c2
  have bl := hY.lt
  have a0' := (hb3.cell (p := ⟨w1.heap.size, 0, none⟩) (by simp; omega)).trans (((below_alloc w2 _).cell (p := ⟨w1.heap.size, 0, none⟩) al).trans a0)
  have a1' := (hb3.cell (p := ⟨w1.heap.size, 1, none⟩) (by simp; omega)).trans (((below_alloc w2 _).cell (p := ⟨w1.heap.size, 1, none⟩) al).trans a1)
  have HB3 := hid (HB2.out.trans ((below_alloc w2 (.cells #[.int .i64 3, .slice c 5 ccap, .slice c2 5 ccap2] 25)).trans (hb3.mono (by simp)) |>.mono HB2.out.size))
  have HM3 := hid ((HM2.out.below hb3).below (below_alloc w3 (.cells #[.int .i64 0, .int .i64 2, .int .i64 0] 3)))
  have al3 : w1.heap.size < w3.heap.size := by omega
  clear hY hb3 a0 a1 a2 al
  have H4 := hid (rank3 (w3.alloc (.cells #[.int .i64 0, .int .i64 2, .int .i64 0] 3)) c c2 (some ⟨w3.heap.size, 0, none⟩) ccap ccap2 3 HM3.out (intsAt_alloc w3 [0, 2, 0] 3))
  go_wp2_with fail
  refine H4.out.mono ?_; rintro e w4 ⟨rfl, hb4⟩
  have a0'' := (hb4.cell (p := ⟨w1.heap.size, 0, none⟩) (by simp; omega)).trans (((below_alloc w3 _).cell (p := ⟨w1.heap.size, 0, none⟩) al3).trans a0')
  have a1'' := (hb4.cell (p := ⟨w1.heap.size, 1, none⟩) (by simp; omega)).trans (((below_alloc w3 _).cell (p := ⟨w1.heap.size, 1, none⟩) al3).trans a1')
  have al4 : w1.heap.size < w4.heap.size := by have := hb4.size; simp at this; omega
  have HB4 := HB3.out.trans (((below_alloc w3 (.cells #[.int .i64 0, .int .i64 2, .int .i64 0] 3)).trans (hb4.mono (by simp))).mono HB3.out.size)
  clear hb4 a0' a1' b0 b1 b2
  go_wp2_with fail
  go_ret
  exact ⟨rfl, HB4⟩
end Go.Proofs.Ytmllbemjcfkmjaa
