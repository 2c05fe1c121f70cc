/- Plain laws on games: weights, what the office says, and that it never errs more often than the bound. -/
import Derived.Test.YtedgndangamkaaaGame
import Derived.Test.YtedgndangamkaaaPort
namespace Go.Proofs.Ytedgndangamkaaa
open Go.RowKit
set_option linter.unusedSimpArgs false
set_option linter.unusedVariables false

def wt (w : Nat) : Int := 2 ^ (24 - w)
theorem wt_nat (w : Nat) : wt w = ((2 ^ (24 - w) : Nat) : Int) := by simp [wt]
theorem wt_bd (w : Nat) : 1 ≤ wt w ∧ wt w ≤ 16777216 := by
  have h1 : 2 ^ (24 - w) ≤ 2 ^ 24 := Nat.pow_le_pow_right (by omega) (by omega)
  have h2 : 2 ^ 24 = 16777216 := by decide
  have h3 : 1 ≤ 2 ^ (24 - w) := Nat.one_le_two_pow
  rw [wt_nat]
  generalize 2 ^ (24 - w) = z at *
  omega
theorem wt_half (w : Nat) (h : w < 24) : wt (w + 1) * 2 = wt w := by
  unfold wt
  rw [show 24 - w = (24 - (w + 1)) + 1 by omega, Int.pow_succ]
/-- The sum of the weights of those who say true, less the others'. -/
def sgn (T : Nat → Int) (bs : List Bool) : Nat → Int
  | 0 => 0
  | k + 1 => if bth bs k then sgn T bs k + T k else sgn T bs k - T k
theorem sgn_congr (T U : Nat → Int) (bs : List Bool) (k : Nat) (h : ∀ i, i < k → T i = U i) : sgn T bs k = sgn U bs k := by
  induction k with
  | zero => rfl
  | succ k ih => simp only [sgn]; rw [ih fun i hi => h i (by omega), h k (by omega)]
theorem sgn_bd (T : Nat → Int) (bs : List Bool) (k : Nat) (h : ∀ i, i < k → 0 ≤ T i ∧ T i ≤ 16777216) : -(16777216 * k) ≤ sgn T bs k ∧ sgn T bs k ≤ 16777216 * k := by
  induction k with
  | zero => simp [sgn]
  | succ k ih =>
    have h1 := ih fun i hi => h i (by omega)
    have h2 := h k (by omega)
    simp only [sgn]
    push_cast
    split <;> omega
def wts (g : List Rd) (k : Nat) (a : Nat) : Int := wt (wrg g a k)
def saidB (g : List Rd) (k : Nat) : Bool := decide (0 < sgn (wts g k) (adv g k) (adv g k).length)
def sayB (g : List Rd) (bs : List Bool) : Bool := decide (0 < sgn (wts g g.length) bs bs.length)
theorem say_take (g : List Rd) (k : Nat) (h : k < g.length) : sayB (g.take k) (adv g k) = saidB g k := by
  unfold sayB saidB
  have e : (g.take k).length = k := by simp; omega
  rw [e, sgn_congr (wts (g.take k) k) (wts g k) _ _ fun i _ => by unfold wts; rw [wr_take g i k k (Nat.le_refl _)]]
theorem adv_take (g : List Rd) (m i : Nat) (h : i < m) : adv (g.take m) i = adv g i := by unfold adv; rw [rd_take g m i h]
theorem came_take (g : List Rd) (m i : Nat) (h : i < m) : came (g.take m) i = came g i := by unfold came; rw [rd_take g m i h]
theorem said_take (g : List Rd) (m k : Nat) (h : k < m) : saidB (g.take m) k = saidB g k := by
  unfold saidB
  rw [adv_take g m k h, sgn_congr (wts (g.take m) k) (wts g k) _ _ fun i _ => by unfold wts; rw [wr_take g i m k (by omega)]]
/-- How often the office erred in the first k rounds. -/
def er (g : List Rd) : Nat → Nat
  | 0 => 0
  | k + 1 => er g k + (if saidB g k != came g k then 1 else 0)
theorem er_le (g : List Rd) (k : Nat) : er g k ≤ k := by
  induction k with
  | zero => exact Nat.le_refl _
  | succ k ih => simp only [er]; split <;> omega
theorem er_take (g : List Rd) (m k : Nat) (h : k ≤ m) : er (g.take m) k = er g k := by
  induction k with
  | zero => rfl
  | succ k ih => simp only [er]; rw [ih (by omega), said_take g m k (by omega), came_take g m k (by omega)]
/-! ### the office is never much worse -/
def pos (T : Nat → Int) (bs : List Bool) (k : Nat) : Int := sumTo (fun a => if bth bs a then T a else 0) k
def neg (T : Nat → Int) (bs : List Bool) (k : Nat) : Int := sumTo (fun a => if bth bs a then 0 else T a) k
theorem sgn_eq (T : Nat → Int) (bs : List Bool) (k : Nat) : sgn T bs k = pos T bs k - neg T bs k := by
  induction k with
  | zero => rfl
  | succ k ih =>
    simp only [sgn, pos, neg, sumTo] at *
    rw [ih]
    split <;> omega
theorem sum_eq (T : Nat → Int) (bs : List Bool) (k : Nat) : sumTo T k = pos T bs k + neg T bs k := by
  induction k with
  | zero => rfl
  | succ k ih =>
    simp only [pos, neg, sumTo] at *
    rw [ih]
    split <;> omega
theorem halved (g : List Rd) (k m : Nat) (hk : k < 24) : sumTo (wts g (k + 1)) m * 2 = (if came g k then 2 * pos (wts g k) (adv g k) m + neg (wts g k) (adv g k) m else pos (wts g k) (adv g k) m + 2 * neg (wts g k) (adv g k) m) := by
  induction m with
  | zero => simp [sumTo, pos, neg]
  | succ m ih =>
    simp only [pos, neg, sumTo] at *
    rw [Int.add_mul, ih]
    have hw : wrg g m k < 24 := Nat.lt_of_le_of_lt (wr_le g m k) hk
    have e : wts g (k + 1) m * 2 = if bth (adv g k) m != came g k then wts g k m else wts g k m * 2 := by
      unfold wts
      simp only [wrg]
      split
      · exact wt_half _ hw
      · rfl
    rw [e]
    cases came g k <;> cases bth (adv g k) m <;> simp <;> omega
theorem weigh_step (g : List Rd) (k m : Nat) (hk : k < 24) (hm : (adv g k).length = m) :
    sumTo (wts g (k + 1)) m ≤ sumTo (wts g k) m ∧ (saidB g k ≠ came g k → 4 * sumTo (wts g (k + 1)) m ≤ 3 * sumTo (wts g k) m) := by
  have h := halved g k m hk
  have hs := sum_eq (wts g k) (adv g k) m
  have hp : 0 ≤ pos (wts g k) (adv g k) m := (sumTo_bd _ 16777216 m fun d _ => by have := wt_bd (wrg g d k); unfold wts; split <;> omega).1
  have hn : 0 ≤ neg (wts g k) (adv g k) m := (sumTo_bd _ 16777216 m fun d _ => by have := wt_bd (wrg g d k); unfold wts; split <;> omega).1
  have hq := sgn_eq (wts g k) (adv g k) m
  have hb : saidB g k = decide (0 < sgn (wts g k) (adv g k) m) := by unfold saidB; rw [hm]
  rw [hs]
  refine ⟨by cases hc : came g k <;> rw [hc] at h <;> simp at h <;> omega, fun hne => ?_⟩
  rw [hb] at hne
  cases hc : came g k
  · rw [hc] at h hne
    simp at h hne
    omega
  · rw [hc] at h hne
    simp at h hne
    omega
theorem weigh_all (g : List Rd) (m k : Nat) (hk : k ≤ 24) (hm : ∀ i, i < k → (adv g i).length = m) :
    sumTo (wts g k) m * 4 ^ er g k ≤ m * 16777216 * 3 ^ er g k := by
  induction k with
  | zero =>
    have e : ∀ j, sumTo (wts g 0) j = j * 16777216 := by
      intro j
      induction j with
      | zero => rfl
      | succ j ih => simp only [sumTo, ih]; simp [wts, wrg, wt]; omega
    simp [er, e]
  | succ k ih =>
    have h1 := ih (by omega) fun i hi => hm i (by omega)
    obtain ⟨h2, h3⟩ := weigh_step g k m (by omega) (hm k (by omega))
    have p4 : (0 : Int) ≤ 4 ^ er g k := Int.pow_nonneg (by omega)
    simp only [er]
    by_cases hne : saidB g k = came g k
    · have e : (saidB g k != came g k) = false := by simp [hne]
      rw [e]
      simp only [Bool.false_eq_true, if_false, Nat.add_zero]
      exact Int.le_trans (Int.mul_le_mul_of_nonneg_right h2 p4) h1
    · have e : (saidB g k != came g k) = true := by simp [hne]
      rw [e]
      simp only [if_true]
      have h4 := Int.mul_le_mul_of_nonneg_right (h3 hne) p4
      rw [Int.pow_succ, Int.pow_succ]
      have e1 : sumTo (wts g (k + 1)) m * (4 ^ er g k * 4) = 4 * sumTo (wts g (k + 1)) m * 4 ^ er g k := by
        rw [← Int.mul_assoc, Int.mul_comm _ 4, Int.mul_assoc]
      have e2 : (m : Int) * 16777216 * (3 ^ er g k * 3) = 3 * ((m : Int) * 16777216 * 3 ^ er g k) := by
        rw [← Int.mul_assoc, Int.mul_comm _ 3]
      have e3 : 3 * sumTo (wts g k) m * 4 ^ er g k = 3 * (sumTo (wts g k) m * 4 ^ er g k) := Int.mul_assoc _ _ _
      rw [e1, e2]
      omega
theorem term_le (f : Nat → Int) (m a : Nat) (h : ∀ i, i < m → 0 ≤ f i) (ha : a < m) : f a ≤ sumTo f m := by
  induction m with
  | zero => omega
  | succ m ih =>
    simp only [sumTo]
    have h0 := h m (by omega)
    by_cases e : a = m
    · subst e
      have : 0 ≤ sumTo f a := by
        clear ih h0
        have hh : ∀ i, i < a → 0 ≤ f i := fun i hi => h i (by omega)
        clear h ha
        induction a with
        | zero => exact Int.le_refl _
        | succ a ih => simp only [sumTo]; have := hh a (by omega); have := ih fun i hi => hh i (by omega); omega
      omega
    · have := ih (fun i hi => h i (by omega)) (by omega)
      omega
theorem rb_ge (a q m : Nat) (h : bq a q m = true) : ∀ M, m < M → m ≤ rb a q M := by
  intro M hM
  induction M with
  | zero => omega
  | succ M ih =>
    rw [rb]
    split
    · omega
    · rename_i hn
      by_cases e : m = M
      · subst e; exact absurd h hn
      · exact ih (by omega)
theorem mul_four (m p q r : Nat) : m * (p * q) * r = p * (m * q * r) := by
  rw [← Nat.mul_assoc m p q, Nat.mul_comm m p, Nat.mul_assoc p m q, Nat.mul_assoc p (m * q) r]
theorem mul_three (m q r : Nat) : m * q * r = q * (m * r) := by
  rw [Nat.mul_comm m q, Nat.mul_assoc]
/-- The office never errs more often than the bound of any adviser. -/
theorem never_worse {g : List Rd} (h : GOK g) (a : Nat) (ha : a < (adv g 0).length) : er g g.length ≤ gbound (adv g 0).length (wrg g a g.length) := by
  have hl := h.len
  by_cases h0 : g.length = 0
  · rw [h0]; exact Nat.zero_le _
  have hm := (h.el 0 (by omega)).2
  have key := weigh_all g (adv g 0).length g.length hl fun i hi => (h.el i hi).1
  have ht := term_le (wts g g.length) (adv g 0).length a (fun i _ => by have := wt_bd (wrg g i g.length); unfold wts; omega) ha
  have hw := wr_le g a g.length
  have hE := er_le g g.length
  generalize (adv g 0).length = m at *
  generalize hW : wrg g a g.length = w at *
  generalize er g g.length = E at *
  have hq : bq m w E = true := by
    have h4 := Int.mul_le_mul_of_nonneg_right ht (show (0 : Int) ≤ 4 ^ E from Int.pow_nonneg (by omega))
    have h5 : wt w * 4 ^ E ≤ m * 16777216 * 3 ^ E := by
      have : wts g g.length a = wt w := by unfold wts; rw [hW]
      rw [this] at h4
      omega
    have h6 : 2 ^ (24 - w) * 4 ^ E ≤ m * 16777216 * 3 ^ E := by
      have e1 : ((2 ^ (24 - w) * 4 ^ E : Nat) : Int) = wt w * 4 ^ E := by rw [wt_nat, Int.natCast_mul, Int.natCast_pow 4]; rfl
      have e2 : ((m * 16777216 * 3 ^ E : Nat) : Int) = (m : Int) * 16777216 * 3 ^ E := by rw [Int.natCast_mul, Int.natCast_mul, Int.natCast_pow]; rfl
      omega
    have h7 : 16777216 = 2 ^ (24 - w) * 2 ^ w := by rw [← Nat.pow_add, show 24 - w + w = 24 by omega]
    have p0 : 0 < 2 ^ (24 - w) := Nat.pow_pos (by omega)
    have h8 : 4 ^ E ≤ m * 2 ^ w * 3 ^ E := by
      refine Nat.le_of_mul_le_mul_left ?_ p0
      calc 2 ^ (24 - w) * 4 ^ E ≤ m * 16777216 * 3 ^ E := h6
        _ = 2 ^ (24 - w) * (m * 2 ^ w * 3 ^ E) := by
          rw [h7]
          exact mul_four m _ _ _
    unfold bq
    rw [Bool.or_eq_true, decide_eq_true_eq, decide_eq_true_eq]
    by_cases hc : 2 * E ≤ w
    · exact .inl hc
    · right
      have pw : 0 < 2 ^ w := Nat.pow_pos (by omega)
      refine Nat.le_of_mul_le_mul_left ?_ pw
      have e4 : 2 ^ w * 2 ^ (2 * E - w) = 4 ^ E := by
        rw [← Nat.pow_add, show w + (2 * E - w) = 2 * E by omega, Nat.pow_mul]
      rw [e4]
      calc 4 ^ E ≤ m * 2 ^ w * 3 ^ E := h8
        _ = 2 ^ w * (m * 3 ^ E) := mul_three _ _ _
  have hg := rb_ge m w E hq 25 (by omega)
  rcases rb_gb m (by omega) w (by omega) with k | k <;> omega
end Go.Proofs.Ytedgndangamkaaa
