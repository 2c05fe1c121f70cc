/- What a call that gives a machine or an error leaves, in one form; counting the words of two machines side by side; boxes. -/
import Derived.Test.YtmllbemjcfkmjaaZed
import Derived.Test.YtmllbemjcfkmjaaFormLaw
import Derived.Test.YtmllbemjcfkmjaaJoined
namespace Go.Proofs.Ytmllbemjcfkmjaa
open Go.RowKit
set_option linter.unusedSimpArgs false
set_option linter.unusedVariables false

theorem BoxAt.below {H : Nat} {w w' : World} {x y z : Value} (h : BoxAt H w x y z) (hb : Below w.heap.size w w') : BoxAt H w' x y z :=
  ⟨(hb.cell (p := ⟨H, 0, none⟩) h.lt).trans h.c0, (hb.cell (p := ⟨H, 1, none⟩) h.lt).trans h.c1, (hb.cell (p := ⟨H, 2, none⟩) h.lt).trans h.c2, Nat.lt_of_lt_of_le h.lt hb.size⟩
theorem box_new (w : World) (x y z : Value) (t : TypeId) : BoxAt w.heap.size (w.alloc (.cells #[x, y, z] t)) x y z := box_at (B := w.heap.size + 1) (Below.refl _ _) rfl
theorem mac_nx (L : Nat) (F : List Lang) : (macOf L F).nx.length = F.length := by show (canNext L F).length = _; simp [canNext]
theorem mac_acl (L : Nat) (F : List Lang) : (macOf L F).ac.length = F.length := by show (canAcc F).length = _; simp [canAcc]
/-- What the call gave: a machine with a number, its rows and answers; no error: it is the plain form. -/
structure GenOne (E : Int) (L : Nat) (la : Lang) (w' : World) (z : Int) (an : Option Addr) (p cn : Nat) (ab : Option Addr) (q cb : Nat) (E' : Int) (F : List Lang) : Prop where
  ok : E = 0
  fnd : Found (succL L) la F
  le : F.length ≤ 64
  z : z = L
  p : p = F.length
  q : q = F.length
  mac : MacAt w' an cn ab cb (macOf L F)
def GenE (W : World) (E : Int) (L : Nat) (la : Lang) (e : Ending) (w' : World) : Prop :=
  ∃ z an p cn ab q cb E', e = .returned (.tuple #[.agg #[.int .i64 z, .slice an p cn, .slice ab q cb], .int .i64 E']) ∧ Below W.heap.size W w' ∧ (E' = 0 → ∃ F, GenOne E L la w' z an p cn ab q cb E' F) ∧
    ((E ≠ 0 ∧ E' = E) ∨ (E = 0 ∧ (E' = 0 ∨ E' = 4)))
theorem gen_one {W : World} {E : Int} {L : Nat} {la : Lang} {e : Ending} {w' : World} (h : GenPost W E L la e w') : GenE W E L la e w' := by
  obtain ⟨hb, ⟨h0, F, hF, ⟨h64, base, an, cn, ab, cb, _, rfl, hM⟩ | ⟨h64, rfl⟩⟩ | ⟨h0, rfl⟩⟩ := gen_cases h (z := (L : Int)) fun _ => rfl
  · obtain ⟨a1, k1, a2, k2, e1, e2, hA⟩ := hM.mac
    cases e1
    cases e2
    exact ⟨L, _, _, _, _, _, _, 0, rfl, hb, fun _ => ⟨F, h0, hF, h64, rfl, rfl, rfl, hA⟩, .inr ⟨h0, .inl rfl⟩⟩
  · exact ⟨0, none, 0, 0, none, 0, 0, 4, rfl, hb, (fun h => by cases h), .inr ⟨h0, .inr rfl⟩⟩
  · exact ⟨0, none, 0, 0, none, 0, 0, E, rfl, hb, (fun h => absurd h h0), .inl ⟨h0, rfl⟩⟩
/-- A contract on the plain form's machine, its numbers spelled as they lie. -/
theorem form_args {L : Nat} {F : List Lang} {z : Int} {p q : Nat} (hz : z = L) (hp : p = F.length) (hq : q = F.length) (an ab : Option Addr) (cn cb : Nat) :
    Value.agg #[.int .i64 z, .slice an p cn, .slice ab q cb] = .agg #[.int .i64 (macOf L F).L, .slice an (macOf L F).nx.length cn, .slice ab (macOf L F).ac.length cb] := by
  rw [mac_nx, mac_acl, hz, hp, hq]
  rfl
theorem good_lt {L : Nat} {l : Lang} (hg : Good L l) (w : List Nat) : (∀ a, a ∈ w → a < L) ∨ l w = false := by
  by_cases h : ∀ a, a ∈ w → a < L
  · exact .inl h
  · refine .inr (hg w ?_)
    simp only [Classical.not_forall] at h
    obtain ⟨a, ha, hl⟩ := h
    exact ⟨a, ha, by omega⟩
theorem jnL_at {m k : Mac} (hp : paiE m k = 0) (f : Bool → Bool → Bool) (w : List Nat) (hw : ∀ a, a ∈ w → a < macL m) : jnL f m k w = f (langM m w) (langM k w) := by
  obtain ⟨hm, hk, hL⟩ := paiE_zero.1 hp
  have n1 := hm.n1
  have k1 := hk.n1
  have h := jn_lang hm hk hL f w 0 (by omega) (Int.mul_pos (by omega) (by omega)) hw
  rw [Int.zero_ediv, Int.zero_emod] at h
  exact h
theorem jnL_good (f : Bool → Bool → Bool) (m k : Mac) : Good m.L.toNat (jnL f m k) := laA_good _ _ _ _
theorem langM_good (m : Mac) : Good (macL m) (langM m) := laA_good _ _ _ _
theorem jnL_mono {m k : Mac} (hp : paiE m k = 0) {f : Bool → Bool → Bool} (h0 : f false false = false) : jnL f m k = fun w => f (langM m w) (langM k w) := by
  funext w
  by_cases h : ∀ a, a ∈ w → a < macL m
  · exact jnL_at hp f w h
  · simp only [Classical.not_forall] at h
    obtain ⟨a, ha, hl⟩ := h
    have hl' : macL m ≤ a := by omega
    have e : macL k = macL m := by unfold macL; rw [(paiE_zero.1 hp).2.2]
    rw [jnL_good f m k w ⟨a, ha, hl'⟩]
    show false = f (langM m w) (langM k w)
    rw [langM_good m w ⟨a, ha, hl'⟩, langM_good k w ⟨a, ha, by omega⟩, h0]
theorem count_pairs {m k : Mac} (hp : paiE m k = 0) {F G : List Lang} (hF : Found (succL m.L.toNat) (jnL wAnd m k) F) (hG : Found (succL m.L.toNat) (jnL wOr m k) G) (n : Nat) :
    cnt (macOf m.L.toNat F) n 0 + cnt (macOf m.L.toNat G) n 0 = cnt m n 0 + cnt k n 0 := by
  have e : macL k = macL m := by unfold macL; rw [(paiE_zero.1 hp).2.2]
  have eL : ∀ F, macL (macOf m.L.toNat F) = macL m := fun F => by show ((m.L.toNat : Int)).toNat = _; rw [Int.toNat_natCast]; rfl
  rw [cnt_langM, cnt_langM, cnt_langM, cnt_langM, eL, eL, e, form_langM hF (jnL_good _ _ _), form_langM hG (jnL_good _ _ _), jnL_mono hp (f := wAnd) rfl, jnL_mono hp (f := wOr) rfl]
  exact cL_both _ _ _ _
end Go.Proofs.Ytmllbemjcfkmjaa
