/- Division by remainders, plainly: nobody is far from the quota, and no other division of as many meals is nearer. -/
import Derived.Test.YthankdfjkmfokaaBestLaw
import Derived.Test.YthankdfjkmfokaaSomeLaw
namespace Go.Proofs.Ythankdfjkmfokaa
open Go.RowKit
set_option linter.unusedSimpArgs false
set_option linter.unusedVariables false

def flo (xs : List Int) (n : Int) (i : Nat) : Int := n * nth xs i / tot xs
def rst (xs : List Int) (n : Int) (i : Nat) : Int := n * nth xs i % tot xs
/-- The first index of the greatest of the first k numbers. -/
def mxI (rs : List Int) : Nat → Nat
  | 0 => 0
  | k + 1 => if nth rs (mxI rs k) < nth rs k then k else mxI rs k
theorem mxI_yes (rs : List Int) (k : Nat) (h : nth rs (mxI rs k) < nth rs k) : mxI rs (k + 1) = k := by rw [mxI, if_pos h]
theorem mxI_no (rs : List Int) (k : Nat) (h : ¬ nth rs (mxI rs k) < nth rs k) : mxI rs (k + 1) = mxI rs k := by rw [mxI, if_neg h]
theorem mxI_lt (rs : List Int) (k : Nat) : mxI rs k ≤ k - 1 := by
  induction k with
  | zero => simp [mxI]
  | succ k ih => rw [mxI]; split <;> omega
theorem mxI_one (rs : List Int) : mxI rs 1 = 0 := by rw [mxI]; split <;> rfl
theorem mxI_ge (rs : List Int) (k i : Nat) (hi : i < k) : nth rs i ≤ nth rs (mxI rs k) := by
  induction k with
  | zero => omega
  | succ k ih =>
    by_cases h : nth rs (mxI rs k) < nth rs k
    · rw [mxI_yes rs k h]
      by_cases e : i = k
      · subst e; exact Int.le_refl _
      · have := ih (by omega); omega
    · rw [mxI_no rs k h]
      by_cases e : i = k
      · subst e; omega
      · exact ih (by omega)
theorem mxI_first (rs : List Int) (k i : Nat) (hi : i < mxI rs k) : nth rs i < nth rs (mxI rs k) := by
  induction k with
  | zero => simp [mxI] at hi
  | succ k ih =>
    by_cases h : nth rs (mxI rs k) < nth rs k
    · rw [mxI_yes rs k h] at hi ⊢
      have := mxI_ge rs k i hi
      omega
    · rw [mxI_no rs k h] at hi ⊢
      exact ih hi
def floL (xs : List Int) (n : Int) : Nat → List Int := fun k => (List.range k).map (flo xs n)
def rstL (xs : List Int) (n : Int) : Nat → List Int := fun k => (List.range k).map (rst xs n)
theorem floL_at (xs : List Int) (n : Int) (k i : Nat) (h : i < k) : nth (floL xs n k) i = flo xs n i := by simp [nth, floL, List.getD, h]
theorem rstL_at (xs : List Int) (n : Int) (k i : Nat) (h : i < k) : nth (rstL xs n k) i = rst xs n i := by simp [nth, rstL, List.getD, h]
def strike (rs : List Int) (c : Nat) : List Int := rs.set c (-1)
theorem strike_at (rs : List Int) (c i : Nat) (hc : c < rs.length) : nth (strike rs c) i = if i = c then -1 else nth rs i := by
  unfold strike nth
  by_cases h : i = c
  · subst h; simp [List.getD, hc]
  · simp [List.getD, List.getElem?_set, h, Ne.symm h]
def remO (xs : List Int) (n : Int) : Nat → List Int × List Int
  | 0 => (floL xs n xs.length, rstL xs n xs.length)
  | j + 1 => (bump (remO xs n j).1 (mxI (remO xs n j).2 xs.length), strike (remO xs n j).2 (mxI (remO xs n j).2 xs.length))
def lef (xs : List Int) (n : Int) : Int := n - sumTo (flo xs n) xs.length
def remL (xs : List Int) (n : Int) : List Int := (remO xs n (lef xs n).toNat).1
theorem remO_len (xs : List Int) (n : Int) (j : Nat) : (remO xs n j).1.length = xs.length ∧ (remO xs n j).2.length = xs.length := by
  induction j with
  | zero => simp [remO, floL, rstL]
  | succ j ih => simp only [remO, bump_len, strike, List.length_set]; exact ih
theorem remL_len (xs : List Int) (n : Int) : (remL xs n).length = xs.length := (remO_len xs n _).1
theorem rst_bd {xs : List Int} (ho : OrdOK xs) (n : Int) (i : Nat) : 0 ≤ rst xs n i ∧ rst xs n i < tot xs := by
  have := tot_ord ho
  exact ⟨Int.emod_nonneg _ (by omega), Int.emod_lt_of_pos _ (by omega)⟩
theorem flo_rst (xs : List Int) (n : Int) (i : Nat) : flo xs n i * tot xs + rst xs n i = n * nth xs i := by
  unfold flo rst
  rw [Int.mul_comm]
  exact Int.mul_ediv_add_emod _ _
theorem flo_bd {xs : List Int} (ho : OrdOK xs) {n : Int} (hn : NumOK n) (i : Nat) (hi : i < xs.length) : 0 ≤ flo xs n i ∧ flo xs n i ≤ n := by
  have t := tot_ord ho
  have o := ho.el i hi
  have h0 := hn.1
  refine ⟨Int.ediv_nonneg (Int.mul_nonneg h0 (by omega)) (by omega), ?_⟩
  have hle : nth xs i ≤ tot xs := sumTo_at _ _ _ hi fun d hd => by have := ho.el d hd; omega
  have := Int.ediv_le_ediv (show 0 < tot xs by omega) (Int.mul_le_mul_of_nonneg_left hle h0)
  rw [Int.mul_ediv_cancel _ (by omega)] at this
  exact this
theorem sumTo_add (f g : Nat → Int) (n : Nat) : sumTo (fun i => f i + g i) n = sumTo f n + sumTo g n := by
  induction n with
  | zero => rfl
  | succ n ih => simp only [sumTo, ih]; omega
/-- What is left is as many times the sum of the orders as the rests are together. -/
theorem lef_rst (xs : List Int) (n : Int) : lef xs n * tot xs = sumTo (rst xs n) xs.length := by
  have h1 : sumTo (fun i => flo xs n i * tot xs + rst xs n i) xs.length = n * tot xs := by
    rw [sumTo_congr _ _ _ fun d _ => flo_rst xs n d, sumTo_mul]; rfl
  rw [sumTo_add, sumTo_mul'] at h1
  unfold lef
  rw [Int.sub_mul]
  omega
theorem lef_bd {xs : List Int} (ho : OrdOK xs) (n : Int) : 0 ≤ lef xs n ∧ lef xs n < xs.length := by
  have t := tot_ord ho
  have h := lef_rst xs n
  have h1 := ho.l1
  have hz : 0 ≤ sumTo (rst xs n) xs.length := (sumTo_bd _ (tot xs) xs.length fun d _ => ⟨(rst_bd ho n d).1, by have := (rst_bd ho n d).2; omega⟩).1
  have hl : sumTo (rst xs n) xs.length < sumTo (fun _ => 1 * tot xs) xs.length := sumTo_lt _ _ _ 0 h1 (fun d _ => by have := (rst_bd ho n d).2; omega) (by have := (rst_bd ho n 0).2; omega)
  rw [sumTo_mul'] at hl
  have e1 : sumTo (fun _ => (1 : Int)) xs.length = xs.length := by
    generalize xs.length = m
    induction m with
    | zero => rfl
    | succ m ih => simp only [sumTo, ih]; push_cast; rfl
  rw [e1, ← h] at hl
  rw [← h] at hz
  refine ⟨?_, ?_⟩
  · by_cases hn : 0 ≤ lef xs n
    · exact hn
    · have := Int.mul_neg_of_neg_of_pos (show lef xs n < 0 by omega) (show 0 < tot xs by omega)
      omega
  · exact Int.lt_of_mul_lt_mul_right hl (by omega)
/-- How school i stands: not given one more, or given one more and its rest struck out. -/
inductive RemAt (xs : List Int) (n : Int) (s : List Int × List Int) (θ : Int) (i : Nat) : Prop where
  | open_ (h1 : nth s.1 i = flo xs n i) (h2 : nth s.2 i = rst xs n i) (h3 : rst xs n i ≤ θ)
  | done (h1 : nth s.1 i = flo xs n i + 1) (h2 : nth s.2 i = -1) (h3 : 0 < rst xs n i) (h4 : θ ≤ rst xs n i)
structure RemInv (xs : List Int) (n : Int) (s : List Int × List Int) (j : Nat) (θ : Int) : Prop where
  at_ : ∀ i, i < xs.length → RemAt xs n s θ i
  tot_ : tot s.1 = sumTo (flo xs n) xs.length + j
  t0 : 0 ≤ θ
  t1 : θ ≤ tot xs
theorem rem_inv {xs : List Int} (ho : OrdOK xs) (n : Int) (j : Nat) (hj : (j : Int) ≤ lef xs n) : ∃ θ, RemInv xs n (remO xs n j) j θ := by
  have t := tot_ord ho
  have h1 := ho.l1
  induction j with
  | zero =>
    refine ⟨tot xs, fun i hi => .open_ (floL_at _ _ _ _ hi) (rstL_at _ _ _ _ hi) (by have := (rst_bd ho n i).2; omega), ?_, by omega, Int.le_refl _⟩
    have : (floL xs n xs.length).length = xs.length := by simp [floL]
    show tot (floL xs n xs.length) = _
    unfold tot
    rw [this, sumTo_congr _ _ _ fun d hd => floL_at xs n _ d hd]
    simp
  | succ j ih =>
    obtain ⟨θ, hI⟩ := ih (by omega)
    have hl := remO_len xs n j
    have hm : mxI (remO xs n j).2 xs.length < xs.length := by have := mxI_lt (remO xs n j).2 xs.length; omega
    have hge := mxI_ge (remO xs n j).2 xs.length
    have hpos : 0 < nth (remO xs n j).2 (mxI (remO xs n j).2 xs.length) := by
      refine Classical.byContradiction fun hno => ?_
      have hle : sumTo (rst xs n) xs.length ≤ sumTo (fun i => (nth (remO xs n j).1 i - flo xs n i) * (tot xs - 1)) xs.length := by
        refine sumTo_le _ _ _ fun i hi => ?_
        have hg := hge i hi
        have hr := rst_bd ho n i
        rcases hI.at_ i hi with ⟨a1, a2, a3⟩ | ⟨a1, a2, a3, a4⟩
        · rw [a1, Int.sub_self, Int.zero_mul]; omega
        · rw [a1, show flo xs n i + 1 - flo xs n i = 1 by omega, Int.one_mul]; omega
      rw [sumTo_mul'] at hle
      have es : sumTo (fun i => nth (remO xs n j).1 i - flo xs n i) xs.length = j := by
        have := sumTo_add (fun i => nth (remO xs n j).1 i - flo xs n i) (flo xs n) xs.length
        rw [sumTo_congr _ (nth (remO xs n j).1) _ fun d _ => by omega] at this
        have h2 := hI.tot_
        unfold tot at h2
        rw [hl.1] at h2
        omega
      rw [es, ← lef_rst] at hle
      have h3 : (j : Int) * (tot xs - 1) ≤ (j : Int) * tot xs := Int.mul_le_mul_of_nonneg_left (by omega) (by omega)
      have h4 : ((j : Int) + 1) * tot xs ≤ lef xs n * tot xs := Int.mul_le_mul_of_nonneg_right (by push_cast at hj; omega) (by omega)
      rw [Int.add_mul, Int.one_mul] at h4
      omega
    generalize hc : mxI (remO xs n j).2 xs.length = c at *
    have hcat := hI.at_ c hm
    have hopen : nth (remO xs n j).1 c = flo xs n c ∧ nth (remO xs n j).2 c = rst xs n c ∧ rst xs n c ≤ θ := by
      rcases hcat with ⟨a1, a2, a3⟩ | ⟨a1, a2, a3, a4⟩
      · exact ⟨a1, a2, a3⟩
      · omega
    have es : remO xs n (j + 1) = (bump (remO xs n j).1 c, strike (remO xs n j).2 c) := by simp only [remO]; rw [hc]
    rw [es]
    refine ⟨rst xs n c, fun i hi => ?_, ?_, (rst_bd ho n c).1, by have := (rst_bd ho n c).2; omega⟩
    · by_cases e : i = c
      · subst e
        refine .done ?_ ?_ (by omega) (Int.le_refl _)
        · show nth (bump _ _) _ = _
          rw [bump_at _ _ _ (by rw [hl.1]; exact hm), if_pos rfl, hopen.1]
        · show nth (strike _ _) _ = _
          rw [strike_at _ _ _ (by rw [hl.2]; exact hm), if_pos rfl]
      · have hb : nth (bump (remO xs n j).1 c) i = nth (remO xs n j).1 i := by rw [bump_at _ _ _ (by rw [hl.1]; exact hm), if_neg e]
        have hs : nth (strike (remO xs n j).2 c) i = nth (remO xs n j).2 i := by rw [strike_at _ _ _ (by rw [hl.2]; exact hm), if_neg e]
        have hg := hge i hi
        rcases hI.at_ i hi with ⟨a1, a2, a3⟩ | ⟨a1, a2, a3, a4⟩
        · exact .open_ (hb.trans a1) (hs.trans a2) (by omega)
        · exact .done (hb.trans a1) (hs.trans a2) a3 (by omega)
    · show tot (bump _ _) = _
      rw [tot_bump _ _ (by rw [hl.1]; exact hm), hI.tot_]
      push_cast; omega
theorem rem_end {xs : List Int} (ho : OrdOK xs) (n : Int) : ∃ θ, RemInv xs n (remO xs n (lef xs n).toNat) (lef xs n).toNat θ := rem_inv ho n _ (by have := (lef_bd ho n).1; omega)
theorem rem_tot {xs : List Int} (ho : OrdOK xs) (n : Int) : tot (remL xs n) = n := by
  obtain ⟨θ, h⟩ := rem_end ho n
  have h1 := h.tot_
  have h2 := (lef_bd ho n).1
  rw [Int.toNat_of_nonneg h2] at h1
  unfold remL
  rw [h1]
  unfold lef
  omega
theorem rem_ok {xs : List Int} (ho : OrdOK xs) {n : Int} (hn : NumOK n) : MealsOK xs (remL xs n) := by
  obtain ⟨θ, h⟩ := rem_end ho n
  have ht := rem_tot ho n
  have hl := remL_len xs n
  have lo : ∀ i, i < xs.length → 0 ≤ nth (remL xs n) i := by
    intro i hi
    have := flo_bd ho hn i hi
    rcases h.at_ i hi with ⟨a1, a2, a3⟩ | ⟨a1, a2, a3, a4⟩
    · unfold remL; omega
    · unfold remL; omega
  refine ⟨hl, fun i hi => ?_⟩
  rw [hl] at hi
  refine ⟨lo i hi, ?_⟩
  have h2 : nth (remL xs n) i ≤ tot (remL xs n) := by
    refine sumTo_at _ _ _ (by rw [hl]; exact hi) fun d hd => lo d (by rw [hl] at hd; exact hd)
  have := hn.2
  omega
theorem rem_keep {xs : List Int} (ho : OrdOK xs) (n : Int) : KeepOK xs (remL xs n) := by
  obtain ⟨θ, h⟩ := rem_end ho n
  have ht := rem_tot ho n
  intro i hi
  have hr := rst_bd ho n i
  have hf := flo_rst xs n i
  have key : -tot xs < offD xs (remL xs n) i ∧ offD xs (remL xs n) i < tot xs := by
    unfold offD
    rw [ht, ← hf]
    rcases h.at_ i hi with ⟨a1, a2, a3⟩ | ⟨a1, a2, a3, a4⟩
    · unfold remL; rw [a1]; omega
    · unfold remL; rw [a1, Int.add_mul, Int.one_mul]; omega
  exact ⟨key.1, key.2⟩
def absI (x : Int) : Int := if x < 0 then -x else x
/-- How far meals are from the quotas, times the sum of the orders. -/
def offT (xs ms : List Int) : Int := sumTo (fun i => absI (offD xs ms i)) xs.length
theorem one_near {d S r θ : Int} (r0 : 0 ≤ r) (r1 : r < S) (t0 : 0 ≤ θ) (t1 : θ ≤ S) : 2 * (d * (S - θ)) - 2 * (if θ ≤ r then r - θ else 0) - (d * S - r) ≤ absI (d * S - r) := by
  have e : d * (S - θ) = d * S - d * θ := Int.mul_sub _ _ _
  unfold absI
  by_cases h : d * S - r < 0
  · rw [if_pos h]
    have hd : d ≤ 0 := by
      refine Classical.byContradiction fun hn => ?_
      have := Int.mul_le_mul_of_nonneg_right (show 1 ≤ d by omega) (show 0 ≤ S by omega)
      omega
    have := Int.mul_nonpos_of_nonpos_of_nonneg hd (show 0 ≤ S - θ by omega)
    split <;> omega
  · rw [if_neg h, e]
    by_cases hd : 1 ≤ d
    · have := Int.mul_le_mul_of_nonneg_right hd t0
      split <;> omega
    · by_cases hd0 : d = 0
      · subst hd0
        simp only [Int.zero_mul] at h ⊢
        split <;> omega
      · have := Int.mul_le_mul_of_nonneg_right (show d ≤ -1 by omega) (show 0 ≤ S by omega)
        omega
theorem sumTo_sub (f g : Nat → Int) (n : Nat) : sumTo (fun i => f i - g i) n = sumTo f n - sumTo g n := by
  induction n with
  | zero => rfl
  | succ n ih => simp only [sumTo, ih]; omega
/-- Division by remainders is nearest. -/
theorem rem_near {xs ms : List Int} (ho : OrdOK xs) (hl : ms.length = xs.length) : offT xs (remL xs (tot ms)) ≤ offT xs ms := by
  generalize hn : tot ms = n
  obtain ⟨θ, h⟩ := rem_end ho n
  have ht := rem_tot ho n
  have hrl := remL_len xs n
  have tp := tot_ord ho
  have low : ∀ (zs : List Int), zs.length = xs.length → tot zs = n → sumTo (fun i => 2 * ((nth zs i - flo xs n i) * (tot xs - θ)) - 2 * (if θ ≤ rst xs n i then rst xs n i - θ else 0) - ((nth zs i - flo xs n i) * tot xs - rst xs n i)) xs.length
      = 2 * (lef xs n * (tot xs - θ)) - 2 * sumTo (fun i => if θ ≤ rst xs n i then rst xs n i - θ else 0) xs.length := by
    intro zs hz hzt
    have e1 : sumTo (fun i => nth zs i - flo xs n i) xs.length = lef xs n := by
      rw [sumTo_sub]
      unfold lef
      rw [← hzt]
      unfold tot
      rw [hz]
    have A : sumTo (fun i => (nth zs i - flo xs n i) * (tot xs - θ)) xs.length = lef xs n * (tot xs - θ) := by rw [sumTo_mul', e1]
    have B : sumTo (fun i => (nth zs i - flo xs n i) * tot xs - rst xs n i) xs.length = lef xs n * tot xs - sumTo (rst xs n) xs.length := by rw [sumTo_sub, sumTo_mul', e1]
    rw [sumTo_sub, sumTo_sub, sumTo_mul, sumTo_mul, A, B, ← lef_rst]
    omega
  have offd : ∀ (zs : List Int), tot zs = n → ∀ i, offD xs zs i = (nth zs i - flo xs n i) * tot xs - rst xs n i := by
    intro zs hz i
    unfold offD
    rw [hz, ← flo_rst xs n i, Int.sub_mul]
    omega
  have up : offT xs (remL xs n) = 2 * (lef xs n * (tot xs - θ)) - 2 * sumTo (fun i => if θ ≤ rst xs n i then rst xs n i - θ else 0) xs.length := by
    rw [← low (remL xs n) hrl ht]
    unfold offT
    refine sumTo_congr _ _ _ fun i hi => ?_
    rw [offd _ ht]
    have hr := rst_bd ho n i
    unfold absI
    rcases h.at_ i hi with ⟨a1, a2, a3⟩ | ⟨a1, a2, a3, a4⟩
    · have e : nth (remL xs n) i - flo xs n i = 0 := by unfold remL; omega
      rw [e, Int.zero_mul, Int.zero_mul]
      split <;> (try split) <;> omega
    · have e : nth (remL xs n) i - flo xs n i = 1 := by unfold remL; omega
      rw [e, Int.one_mul, Int.one_mul]
      split <;> (try split) <;> omega
  rw [up, ← low ms hl hn]
  unfold offT
  refine sumTo_le _ _ _ fun i hi => ?_
  rw [offd _ hn]
  have hr := rst_bd ho n i
  exact one_near hr.1 hr.2 h.t0 h.t1
end Go.Proofs.Ythankdfjkmfokaa
