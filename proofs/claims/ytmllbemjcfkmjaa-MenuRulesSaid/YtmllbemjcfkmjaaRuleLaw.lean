/- What the document's rules remember of a word, as numbers; it accepts the same words as the program's machines; plainly. -/
import Derived.Test.YtmllbemjcfkmjaaRules
import Derived.Test.YtmllbemjcfkmjaaEqual
namespace Go.Proofs.Ytmllbemjcfkmjaa
open Go.RowKit Go.Maps
set_option linter.unusedSimpArgs false
set_option linter.unusedVariables false

/-! ### a rule's memory as a number -/
def encR (l b t x : Int) : Int := ((l * 7 + b) * 22 + t) * 2 + x
def rL (c : Int) : Int := c / 308
def rB (c : Int) : Int := c / 44 % 7
def rT (c : Int) : Int := c / 2 % 22
def rX (c : Int) : Int := c % 2
theorem enc_dec {l b t x : Int} (hl : 0 ≤ l ∧ l ≤ 6) (hb : 0 ≤ b ∧ b ≤ 6) (ht : 0 ≤ t ∧ t ≤ 21) (hx : 0 ≤ x ∧ x ≤ 1) :
    (0 ≤ encR l b t x ∧ encR l b t x < 2156) ∧ rL (encR l b t x) = l ∧ rB (encR l b t x) = b ∧ rT (encR l b t x) = t ∧ rX (encR l b t x) = x := by
  unfold encR rL rB rT rX
  omega
theorem dec_bd {c : Int} (h0 : 0 ≤ c) (h1 : c < 2156) : (0 ≤ rL c ∧ rL c ≤ 6) ∧ (0 ≤ rB c ∧ rB c ≤ 6) ∧ (0 ≤ rT c ∧ rT c ≤ 21) ∧ (0 ≤ rX c ∧ rX c ≤ 1) ∧ encR (rL c) (rB c) (rT c) (rX c) = c := by
  unfold encR rL rB rT rX
  omega
def lostI (p : Bool) : Int := if p then 1 else 0
def ruS (kind a b : Int) (c : Int) (d : Nat) : Int :=
  if kind = 0 then encR (d + 1) (rL c) 0 (lostI (decide (rX c = 1) || (decide (2 ≤ a) && decide ((d : Int) = rL c - 1)) || (decide (3 ≤ a) && decide ((d : Int) = rB c - 1))))
  else if kind = 3 then encR (d + 1) 0 0 (lostI (decide (rX c = 1) || (decide (rL c - 1 = a) && decide ((d : Int) = b))))
  else if (d : Int) = a then encR (rL c) (rB c) (if rT c + 1 < 21 then rT c + 1 else 21) (rX c) else c
def ruA (kind b : Int) (c : Int) : Bool := if kind = 1 then decide (b ≤ rT c) else if kind = 2 then decide (rT c ≤ b) else !decide (rX c = 1)
theorem ruA_1 (b c : Int) : ruA 1 b c = decide (b ≤ rT c) := rfl
theorem ruA_2 (b c : Int) : ruA 2 b c = decide (rT c ≤ b) := rfl
theorem ruA_3 (b c : Int) : ruA 3 b c = !decide (rX c = 1) := rfl
theorem ruA_0 (b c : Int) : ruA 0 b c = !decide (rX c = 1) := rfl
theorem ruS_cnt {kind : Int} (hk : kind = 1 ∨ kind = 2) (a b c : Int) (d : Nat) : ruS kind a b c d = if (d : Int) = a then encR (rL c) (rB c) (if rT c + 1 < 21 then rT c + 1 else 21) (rX c) else c := by
  rcases hk with rfl | rfl <;> rfl
theorem ruS_never (a b c : Int) (d : Nat) : ruS 3 a b c d = encR (d + 1) 0 0 (lostI (decide (rX c = 1) || (decide (rL c - 1 = a) && decide ((d : Int) = b)))) := rfl
theorem ruS_apart (a b c : Int) (d : Nat) : ruS 0 a b c d = encR (d + 1) (rL c) 0 (lostI (decide (rX c = 1) || (decide (2 ≤ a) && decide ((d : Int) = rL c - 1)) || (decide (3 ≤ a) && decide ((d : Int) = rB c - 1)))) := rfl
theorem lost_bd (p : Bool) : 0 ≤ lostI p ∧ lostI p ≤ 1 := by unfold lostI; split <;> omega
theorem lost_one (p : Bool) : lostI p = 1 ↔ p = true := by cases p <;> simp [lostI]
theorem ruS_in {kind a b c : Int} (h0 : 0 ≤ c) (h1 : c < 2156) {d : Nat} (hd : d < 6) : 0 ≤ ruS kind a b c d ∧ ruS kind a b c d < 2156 := by
  obtain ⟨g1, g2, g3, g4, g5⟩ := dec_bd h0 h1
  unfold ruS
  split
  · exact (enc_dec (by omega) g1 (by omega) (lost_bd _)).1
  · split
    · exact (enc_dec (by omega) (by omega) (by omega) (lost_bd _)).1
    · split
      · exact (enc_dec g1 g2 (by split <;> omega) g4).1
      · omega
theorem ru_auto {L : Nat} (h1 : 1 ≤ L) (h6 : L ≤ 6) (kind a b : Int) : AutoOK L (ruS kind a b) 0 2156 :=
  ⟨h1, h6, by omega, by omega, by omega, by omega, fun s h0 h1 d hd => ruS_in h0 h1 (by omega)⟩
/-! ### two machines that go on alike -/
theorem sim_lang {L : Nat} {st st' : Int → Nat → Int} {ac ac' : Int → Bool} (R : Int → Int → Prop) (h0 : R 0 0) (ha : ∀ c s, R c s → ac c = ac' s) (hs : ∀ c s, R c s → ∀ d, d < L → R (st c d) (st' s d)) :
    laA L st ac 0 = laA L st' ac' 0 := by
  have key : ∀ (w : List Nat) c s, R c s → langA L st ac w c = langA L st' ac' w s := by
    intro w
    induction w with
    | nil => intro c s h; exact ha c s h
    | cons d w ih =>
      intro c s h
      simp only [langA]
      by_cases hd : d < L
      · rw [ih _ _ (hs c s h d hd)]
      · simp [hd]
  funext w
  exact key w 0 0 h0
theorem ru_least {L : Nat} (h6 : L ≤ 6) {a t : Int} (h0 : 0 ≤ t) (h20 : t ≤ 20) : laA L (ruS 1 a t) (ruA 1 t) 0 = laA L (cuS a t) (leA t) 0 := by
  refine sim_lang (fun c s => (0 ≤ c ∧ c < 2156) ∧ s = (if rT c < t + 1 then rT c else t + 1)) ⟨by omega, by unfold rT; simp; omega⟩ (fun c s h => ?_) (fun c s h d hd => ?_)
  · obtain ⟨_, h⟩ := h
    rw [ruA_1]
    unfold leA
    rw [h]
    refine decide_eq_decide.2 ?_
    split <;> omega
  · obtain ⟨⟨g0, g1⟩, h⟩ := h
    refine ⟨ruS_in g0 g1 (by omega), ?_⟩
    obtain ⟨e1, e2, e3, e4, e5⟩ := dec_bd g0 g1
    rw [ruS_cnt (by decide)]
    unfold cuS
    by_cases ed : (d : Int) = a
    · rw [if_pos ed, (enc_dec e1 e2 (by split <;> omega) e4).2.2.2.1, h]
      repeat' split
      all_goals omega
    · rw [if_neg ed, if_neg (fun x => ed x.1)]
      exact h
theorem ru_most {L : Nat} (h6 : L ≤ 6) {a t : Int} (h0 : 0 ≤ t) (h20 : t ≤ 20) : laA L (ruS 2 a t) (ruA 2 t) 0 = laA L (cuS a t) (moA t) 0 := by
  refine sim_lang (fun c s => (0 ≤ c ∧ c < 2156) ∧ s = (if rT c < t + 1 then rT c else t + 1)) ⟨by omega, by unfold rT; simp; omega⟩ (fun c s h => ?_) (fun c s h d hd => ?_)
  · obtain ⟨_, h⟩ := h
    rw [ruA_2]
    unfold moA
    rw [h]
    refine decide_eq_decide.2 ?_
    split <;> omega
  · obtain ⟨⟨g0, g1⟩, h⟩ := h
    refine ⟨ruS_in g0 g1 (by omega), ?_⟩
    obtain ⟨e1, e2, e3, e4, e5⟩ := dec_bd g0 g1
    rw [ruS_cnt (by decide)]
    unfold cuS
    by_cases ed : (d : Int) = a
    · rw [if_pos ed, (enc_dec e1 e2 (by split <;> omega) e4).2.2.2.1, h]
      repeat' split
      all_goals omega
    · rw [if_neg ed, if_neg (fun x => ed x.1)]
      exact h
theorem ru_never {L : Nat} (h6 : L ≤ 6) {p q : Int} (hp : 0 ≤ p) : laA L (ruS 3 p q) (ruA 3 q) 0 = laA L (nvS p q) nvA 0 := by
  refine sim_lang (fun c s => (0 ≤ c ∧ c < 2156) ∧ (0 ≤ s ∧ s ≤ 2) ∧ (rX c = 1 ↔ s = 2) ∧ (rX c ≠ 1 → (s = 1 ↔ rL c - 1 = p))) ⟨by omega, by omega, by unfold rX; simp, fun _ => by unfold rL; simp; omega⟩ (fun c s h => ?_) (fun c s h d hd => ?_)
  · obtain ⟨_, h1, h2, h3⟩ := h
    rw [ruA_3]
    unfold nvA
    by_cases e : rX c = 1
    · rw [decide_eq_true e, decide_eq_false (by have := h2.1 e; omega)]; rfl
    · rw [decide_eq_false e, decide_eq_true (by have : s ≠ 2 := fun x => e (h2.2 x); omega)]; rfl
  · obtain ⟨⟨g0, g1⟩, h1, h2, h3⟩ := h
    obtain ⟨e1, e2, e3, e4, e5⟩ := dec_bd g0 g1
    refine ⟨ruS_in g0 g1 (by omega), ?_⟩
    rw [ruS_never]
    unfold nvS
    have hdd := (enc_dec (l := (d : Int) + 1) (b := 0) (t := 0) (x := lostI (decide (rX c = 1) || (decide (rL c - 1 = p) && decide ((d : Int) = q)))) (by omega) (by omega) (by omega) (lost_bd _))
    obtain ⟨_, k1, _, _, k4⟩ := hdd
    rw [k1, k4]
    simp only [ne_eq, lost_one, Bool.or_eq_true, Bool.and_eq_true, decide_eq_true_eq]
    by_cases hx : rX c = 1
    · have hs2 := h2.1 hx
      rw [if_pos (.inl hs2)]
      exact ⟨by omega, by simp [hx], fun hn => absurd (.inl hx) hn⟩
    · have hs2 : s ≠ 2 := fun x => hx (h2.2 x)
      have h3 := h3 hx
      by_cases hq : s = 1 ∧ (d : Int) = q
      · rw [if_pos (.inr hq)]
        exact ⟨by omega, ⟨fun _ => rfl, fun _ => .inr ⟨h3.1 hq.1, hq.2⟩⟩, fun hn => absurd (.inr ⟨h3.1 hq.1, hq.2⟩) hn⟩
      · rw [if_neg (by rintro (x | x); exact hs2 x; exact hq x)]
        have hnl : ¬ (rX c = 1 ∨ rL c - 1 = p ∧ (d : Int) = q) := by
          rintro (x | x)
          · exact hx x
          · exact hq ⟨h3.2 x.1, x.2⟩
        by_cases hdp : (d : Int) = p
        · rw [if_pos hdp]
          exact ⟨by omega, ⟨fun x => absurd x hnl, fun x => by omega⟩, fun _ => ⟨fun _ => by omega, fun _ => rfl⟩⟩
        · rw [if_neg hdp]
          exact ⟨by omega, ⟨fun x => absurd x hnl, fun x => by omega⟩, fun _ => ⟨fun x => by omega, fun x => by omega⟩⟩
theorem ru_apart {L : Nat} (h6 : L ≤ 6) {d : Int} (h0 : 0 ≤ d) (h3 : d ≤ 3) : laA L (ruS 0 d 0) (ruA 0 0) 0 = laA L (apS d) apA 0 := by
  refine sim_lang (fun c s => (0 ≤ c ∧ c < 2156) ∧ (rX c = 1 ↔ s < 0) ∧ (rX c ≠ 1 → s = (if d ≤ 1 then 0 else if d = 2 then rL c else rB c * 10 + rL c))) ⟨by omega, by unfold rX; simp, fun _ => by unfold rL rB; simp⟩ (fun c s h => ?_) (fun c s h a ha => ?_)
  · obtain ⟨_, h2, _⟩ := h
    rw [ruA_0]
    unfold apA
    by_cases e : rX c = 1
    · rw [decide_eq_true e, decide_eq_false (by have := h2.1 e; omega)]; rfl
    · rw [decide_eq_false e, decide_eq_true (by have : ¬ s < 0 := fun x => e (h2.2 x); omega)]; rfl
  · obtain ⟨⟨g0, g1⟩, h2, h5⟩ := h
    obtain ⟨e1, e2, e3, e4, e5⟩ := dec_bd g0 g1
    refine ⟨ruS_in g0 g1 (by omega), ?_⟩
    rw [ruS_apart]
    unfold apS
    have hdd := (enc_dec (l := (a : Int) + 1) (b := rL c) (t := 0) (x := lostI (decide (rX c = 1) || (decide (2 ≤ d) && decide ((a : Int) = rL c - 1)) || (decide (3 ≤ d) && decide ((a : Int) = rB c - 1)))) (by omega) e1 (by omega) (lost_bd _))
    obtain ⟨_, k1, k2, _, k4⟩ := hdd
    rw [k1, k2, k4]
    simp only [ne_eq, lost_one, Bool.or_eq_true, Bool.and_eq_true, decide_eq_true_eq]
    by_cases hx : rX c = 1
    · have hs2 := h2.1 hx
      rw [if_pos (.inl hs2)]
      exact ⟨⟨fun _ => by omega, fun _ => .inl (.inl hx)⟩, fun hn => absurd (.inl (.inl hx)) hn⟩
    · have hs2 : ¬ s < 0 := fun x => hx (h2.2 x)
      have h5 := h5 hx
      have hiff : (s < 0 ∨ 1 < d ∧ s % 10 = (a : Int) + 1 ∨ 2 < d ∧ s / 10 = (a : Int) + 1) ↔ ((rX c = 1 ∨ 2 ≤ d ∧ (a : Int) = rL c - 1) ∨ 3 ≤ d ∧ (a : Int) = rB c - 1) := by
        by_cases c1 : d ≤ 1
        · rw [if_pos c1] at h5; omega
        · rw [if_neg c1] at h5
          by_cases c2 : d = 2
          · rw [if_pos c2] at h5; omega
          · rw [if_neg c2] at h5; omega
      by_cases hl : ((rX c = 1 ∨ 2 ≤ d ∧ (a : Int) = rL c - 1) ∨ 3 ≤ d ∧ (a : Int) = rB c - 1)
      · rw [if_pos (hiff.2 hl)]
        exact ⟨⟨fun _ => by omega, fun _ => hl⟩, fun hn => absurd hl hn⟩
      · rw [if_neg (fun x => hl (hiff.1 x))]
        refine ⟨⟨fun x => absurd x hl, fun x => ?_⟩, fun _ => ?_⟩
        · exfalso
          revert x
          repeat' split
          all_goals omega
        · by_cases c1 : d ≤ 1
          · rw [if_pos c1] at h5 ⊢
            rw [if_neg (by omega), if_neg (by omega)]
          · rw [if_neg c1] at h5 ⊢
            by_cases c2 : d = 2
            · rw [if_pos c2, if_pos c2]
            · rw [if_neg c2] at h5
              rw [if_neg c2, if_pos (by omega), if_neg c2]
              omega
end Go.Proofs.Ytmllbemjcfkmjaa
