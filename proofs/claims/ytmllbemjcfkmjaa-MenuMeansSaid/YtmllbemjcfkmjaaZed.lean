/- The plain form that a call gives back, its number of letters spelled as the caller spells it. -/
import Derived.Test.YtmllbemjcfkmjaaLetter
namespace Go.Proofs.Ytmllbemjcfkmjaa
open Go.RowKit Go.Maps
set_option linter.unusedSimpArgs false
set_option linter.unusedVariables false

def PlainZ (W : World) (z : Int) (L : Nat) (la : Lang) (e : Ending) (w' : World) : Prop :=
  ∃ F, Found (succL L) la F ∧ Below W.heap.size W w' ∧
    ((F.length ≤ 64 ∧ ∃ base an cn ab cb, W.heap.size ≤ base ∧ e = .returned (.tuple #[.agg #[.int .i64 z, .slice an F.length cn, .slice ab F.length cb], .int .i64 0]) ∧ MachAt w' base L F (.slice an F.length cn) (.slice ab F.length cb)) ∨
     (64 < F.length ∧ e = .returned (.tuple #[.agg #[.int .i64 0, .slice none 0 0, .slice none 0 0], .int .i64 4])))
theorem plainZ {W : World} {z : Int} {L : Nat} {la : Lang} {e : Ending} {w' : World} (hz : z = L) (h : PlainPost W L la e w') : PlainZ W z L la e w' := by
  subst hz
  obtain ⟨F, h1, h2, ⟨h3, base, vn, vb, h4, h5, h6⟩ | h3⟩ := h
  · obtain ⟨an, cn, ab, cb, rfl, rfl, _⟩ := h6.mac
    exact ⟨F, h1, h2, .inl ⟨h3, base, an, cn, ab, cb, h4, h5, h6⟩⟩
  · exact ⟨F, h1, h2, .inr h3⟩
theorem zplain {W : World} {z : Int} {L : Nat} {la : Lang} {e : Ending} {w' : World} (hz : z = L) (h : PlainZ W z L la e w') : PlainPost W L la e w' := by
  subst hz
  obtain ⟨F, h1, h2, ⟨h3, base, an, cn, ab, cb, h4, h5, h6⟩ | h3⟩ := h
  · exact ⟨F, h1, h2, .inl ⟨h3, base, _, _, h4, h5, h6⟩⟩
  · exact ⟨F, h1, h2, .inr h3⟩
/-- The end of a function that gives on what the plain form gave: the machine lies in its result's three cells. -/
theorem gen_ok {W w2 : World} {E z : Int} {L : Nat} {la : Lang} {F : List Lang} {H base : Nat} {an ab : Option Addr} {cn cb : Nat} (hE : E = 0) (hz : z = L) (hF : Found (succL L) la F) (hb : Below W.heap.size W w2) (hH : W.heap.size ≤ H) (hHb : H < base) (h64 : F.length ≤ 64)
    (hM : MachAt w2 base L F (.slice an F.length cn) (.slice ab F.length cb)) :
    GenPost W E L la (.returned (.tuple #[.agg #[.int .i64 z, .slice an F.length cn, .slice ab F.length cb], .int .i64 0]))
      (((w2.setCell ⟨H, 0, none⟩ (.int .i64 z)).setCell ⟨H, 1, none⟩ (.slice an F.length cn)).setCell ⟨H, 2, none⟩ (.slice ab F.length cb)) :=
  .inl ⟨hE, zplain hz ⟨F, hF, below_set3 hb hH _ _ _, .inl ⟨h64, base, an, cn, ab, cb, by omega, rfl, mach_set3 hM hHb _ _ _⟩⟩⟩
theorem gen_large {W w2 : World} {E : Int} {L : Nat} {la : Lang} {F : List Lang} {H : Nat} (hE : E = 0) (hF : Found (succL L) la F) (hb : Below W.heap.size W w2) (hH : W.heap.size ≤ H) (h64 : 64 < F.length) :
    GenPost W E L la (.returned (.tuple #[.agg #[.int .i64 0, .slice none 0 0, .slice none 0 0], .int .i64 4]))
      (((w2.setCell ⟨H, 0, none⟩ (.int .i64 0)).setCell ⟨H, 1, none⟩ (.slice none 0 0)).setCell ⟨H, 2, none⟩ (.slice none 0 0)) :=
  .inl ⟨hE, F, hF, below_set3 hb hH _ _ _, .inr ⟨h64, rfl⟩⟩
theorem gen_err {W w2 : World} {E z : Int} {L : Nat} {la : Lang} {H : Nat} (hE : E ≠ 0) (hz : z = E) (hb : Below W.heap.size W w2) (hH : W.heap.size ≤ H) :
    GenPost W E L la (.returned (.tuple #[.agg #[.int .i64 0, .slice none 0 0, .slice none 0 0], .int .i64 z]))
      (((w2.setCell ⟨H, 0, none⟩ (.int .i64 0)).setCell ⟨H, 1, none⟩ (.slice none 0 0)).setCell ⟨H, 2, none⟩ (.slice none 0 0)) :=
  .inr ⟨hE, below_set3 hb hH _ _ _, by rw [hz]⟩
/-- What a function that gives on another's result must know of it. -/
theorem gen_cases {W : World} {E z : Int} {L : Nat} {la : Lang} {e : Ending} {w' : World} (h : GenPost W E L la e w') (hz : E = 0 → z = L) :
    Below W.heap.size W w' ∧ ((E = 0 ∧ ∃ F, Found (succL L) la F ∧ ((F.length ≤ 64 ∧ ∃ base an cn ab cb, W.heap.size ≤ base ∧ e = .returned (.tuple #[.agg #[.int .i64 z, .slice an F.length cn, .slice ab F.length cb], .int .i64 0]) ∧ MachAt w' base L F (.slice an F.length cn) (.slice ab F.length cb)) ∨
      (64 < F.length ∧ e = .returned (.tuple #[.agg #[.int .i64 0, .slice none 0 0, .slice none 0 0], .int .i64 4])))) ∨
      (E ≠ 0 ∧ e = .returned (.tuple #[.agg #[.int .i64 0, .slice none 0 0, .slice none 0 0], .int .i64 E]))) := by
  rcases h with ⟨h0, h⟩ | ⟨h0, h1, h2⟩
  · obtain ⟨F, h1, h2, h3⟩ := plainZ (hz h0) h
    exact ⟨h2, .inl ⟨h0, F, h1, h3⟩⟩
  · exact ⟨h1, .inr ⟨h0, h2⟩⟩
end Go.Proofs.Ytmllbemjcfkmjaa
