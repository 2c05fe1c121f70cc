/- 'letter': what it returns; a function that gives a machine or an error: what it leaves. -/
import Derived.Test.YtmllbemjcfkmjaaErr
namespace Go.Proofs.Ytmllbemjcfkmjaa
open Go.RowKit Go.Maps
set_option linter.unusedSimpArgs false
set_option linter.unusedVariables false

/-- What a function leaves that gives the plain form of a language, or an error. -/
def GenPost (W : World) (E : Int) (L : Nat) (la : Lang) (e : Ending) (w' : World) : Prop :=
  (E = 0 ∧ PlainPost W L la e w') ∨ (E ≠ 0 ∧ Below W.heap.size W w' ∧ e = .returned (.tuple #[.agg #[.int .i64 0, .slice none 0 0, .slice none 0 0], .int .i64 E]))
theorem res_cells {w w1 : World} {B : Nat} (hb : Below B (w.alloc (.cells #[.int .i64 0, .slice none 0 0, .slice none 0 0] 25)) w1) (hB : B = w.heap.size + 1) :
    w1.rowIs w.heap.size 25 3 (outF 0 (.slice none 0 0) (.slice none 0 0)) := by
  subst hB
  have h0 := (PlO.start w 0 (fun _ => []) (fun _ => undef)).out
  exact rowIs_below h0 hb (Nat.lt_succ_self _)
/-- Three cells behind three stores. -/
structure Cells3 (w : World) (H : Nat) (u v x : Value) : Prop where
  c0 : w.cell? ⟨H, 0, none⟩ = some u
  c1 : w.cell? ⟨H, 1, none⟩ = some v
  c2 : w.cell? ⟨H, 2, none⟩ = some x
theorem res_set {w : World} {H : Nat} {f : Nat → Value} (h : w.rowIs H 25 3 f) (u v x : Value) : Cells3 (((w.setCell ⟨H, 0, none⟩ u).setCell ⟨H, 1, none⟩ v).setCell ⟨H, 2, none⟩ x) H u v x := by
  have s1 := ((h.set 0 u).set 1 v).set 2 x
  exact ⟨by rw [s1.cell (i := 0) (by omega)]; simp, by rw [s1.cell (i := 1) (by omega)]; simp, by rw [s1.cell (i := 2) (by omega)]; simp⟩
theorem below_set3 {B H : Nat} {W w : World} (h : Below B W w) (hH : B ≤ H) (u v x : Value) : Below B W (((w.setCell ⟨H, 0, none⟩ u).setCell ⟨H, 1, none⟩ v).setCell ⟨H, 2, none⟩ x) :=
  ((h.setCell (p := ⟨H, 0, none⟩) hH u).setCell (p := ⟨H, 1, none⟩) hH v).setCell (p := ⟨H, 2, none⟩) hH x
theorem mach_set3 {w : World} {base L H : Nat} {F : List Lang} {vn vb : Value} (h : MachAt w base L F vn vb) (hH : H < base) (u v x : Value) : MachAt (((w.setCell ⟨H, 0, none⟩ u).setCell ⟨H, 1, none⟩ v).setCell ⟨H, 2, none⟩ x) base L F vn vb :=
  ((h.setCell (a := ⟨H, 0, none⟩) hH u).setCell (a := ⟨H, 1, none⟩) hH v).setCell (a := ⟨H, 2, none⟩) hH x
theorem clos112 (x L : Int) (H : Nat) (w : World) (hc : w.cell? ⟨H, 0, none⟩ = some (.int .i64 L)) :
    Calls Try.prog 112 #[.int .i64 x, .pointer (some ⟨H, 0, none⟩)] w fun e w' => e = .returned (.bool (outI L x)) ∧ w = w' := by
  by_cases h1 : x < 0
  · go_enter Try.func112, Try.ntmps112
    go_wp2
    go_ret
    exact ⟨by simp [outI, h1], rfl⟩
  · go_enter Try.func112, Try.ntmps112
    go_wp2
    go_ret
    exact ⟨by simp [outI]; omega, rfl⟩
theorem fn112 (L : Int) (H : Nat) (w : World) (hc : w.cell? ⟨H, 0, none⟩ = some (.int .i64 L)) : Hid (FnP 112 #[] #[.pointer (some ⟨H, 0, none⟩)] (outI L) w) :=
  hid ⟨run_enter Try.func112 (by kernel_rfl) rfl, fun x => clos112 x L H w hc⟩
def ltrB (L : Int) (xs : List Int) : Bool := decide (1 ≤ L) && decide (L ≤ 6) && !anyI (outI L) xs
set_option maxRecDepth 100000 in
theorem letter_any (L : Int) (xs : List Int) (a : Option Addr) (cap : Nat) (W : World) (hI : IntsAt W a xs) (hl : xs.length ≤ maxLen) :
    Calls Try.prog 82 #[.int .i64 L, .slice a xs.length cap] W fun e w' => e = .returned (.bool (ltrB L xs)) ∧ Below W.heap.size W w' := by
  have hb0 := below_alloc W (.cells #[.int .i64 L] 3)
  by_cases h1 : 1 ≤ L
  · by_cases h6 : L ≤ 6
    · have Hc := hid (containsFunc_any 112 #[] #[.pointer (some ⟨W.heap.size, 0, none⟩)] (outI L) xs a cap (W.alloc (.cells #[.int .i64 L] 3)) (hI.below hb0) hl (fn112 L W.heap.size (W.alloc (.cells #[.int .i64 L] 3)) (by simp)))
      have R : Hid (ltrB L xs = !anyI (outI L) xs) := hid (by simp [ltrB, h1, h6])
      clear hl
      cases hA : anyI (outI L) xs
      all_goals
        rw [hA] at Hc R
        clear hA
        go_enter Try.func82, Try.ntmps82
        go_wp2_with fail
        refine Hc.out.mono ?_; rintro e w' ⟨rfl, rfl⟩
        go_wp2_with fail
        go_ret
        exact ⟨by rw [R.out]; rfl, hb0⟩
    · have R : Hid (ltrB L xs = false) := hid (by simp [ltrB, h6])
      go_enter Try.func82, Try.ntmps82
      go_wp2_with fail
      go_ret
      exact ⟨by rw [R.out]; rfl, hb0⟩
  · have R : Hid (ltrB L xs = false) := hid (by simp [ltrB, h1])
    go_enter Try.func82, Try.ntmps82
    go_wp2_with fail
    go_ret
    exact ⟨by rw [R.out]; rfl, hb0⟩
end Go.Proofs.Ytmllbemjcfkmjaa
