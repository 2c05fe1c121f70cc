/- What is divided is fair, plainly; who got the last meal is the one that gives back first. -/
import Derived.Test.YthankdfjkmfokaaClaims
namespace Go.Proofs.Ythankdfjkmfokaa
open Go.RowKit
set_option linter.unusedSimpArgs false
set_option linter.unusedVariables false

/-- A claim as a fraction with a denominator above 0. -/
def cv (v a : Int) : Int := if a = 0 then 1000000 + v else v
def ca (a : Int) : Int := if a = 0 then 1 else a
theorem ca_pos {a : Int} (h : 0 ≤ a) : 1 ≤ ca a := by unfold ca; split <;> omega
structure COK (v a : Int) : Prop where
  v1 : 1 ≤ v
  v2 : v ≤ 1000000
  a0 : 0 ≤ a
theorem sg_pos {x y : Int} : 0 < sg x y ↔ y < x := by unfold sg; split <;> (try split) <;> omega
theorem sg_neg {x y : Int} : sg x y < 0 ↔ x < y := by unfold sg; split <;> (try split) <;> omega
theorem szC_key {v a w b : Int} (h1 : COK v a) (h2 : COK w b) : szC v a w b = sg (cv v a * ca b) (cv w b * ca a) := by
  have ⟨v1, v2, a0⟩ := h1
  have ⟨w1, w2, b0⟩ := h2
  rw [sz_ways]
  unfold cv ca
  by_cases ha : a = 0
  · by_cases hb : b = 0
    · simp only [ha, hb, if_true, Int.mul_one]
      unfold sg
      split <;> split <;> (try split) <;> (try split) <;> omega
    · simp only [ha, if_true, if_neg hb, Int.mul_one]
      have e : w < (1000000 + v) * b := by
        have : 1000000 + v ≤ (1000000 + v) * b := by
          have := Int.mul_le_mul_of_nonneg_left (show (1 : Int) ≤ b by omega) (show (0 : Int) ≤ 1000000 + v by omega)
          rwa [Int.mul_one] at this
        omega
      have := sg_pos.2 e
      have h3 := sg_bd ((1000000 + v) * b) w
      omega
  · by_cases hb : b = 0
    · simp only [if_neg ha, hb, if_true, Int.mul_one]
      have e : v < (1000000 + w) * a := by
        have : 1000000 + w ≤ (1000000 + w) * a := by
          have := Int.mul_le_mul_of_nonneg_left (show (1 : Int) ≤ a by omega) (show (0 : Int) ≤ 1000000 + w by omega)
          rwa [Int.mul_one] at this
        omega
      have := sg_neg.2 e
      have h3 := sg_bd v ((1000000 + w) * a)
      omega
    · simp only [if_neg ha, if_neg hb]
theorem key_trans {V A W B X C : Int} (hA : 1 ≤ A) (hB : 1 ≤ B) (hC : 1 ≤ C) (h1 : W * A ≤ V * B) (h2 : X * B ≤ W * C) : X * A ≤ V * C := by
  have e1 : W * A * C ≤ V * B * C := Int.mul_le_mul_of_nonneg_right h1 (by omega)
  have e2 : X * B * A ≤ W * C * A := Int.mul_le_mul_of_nonneg_right h2 (by omega)
  have e3 : W * C * A = W * A * C := by rw [Int.mul_assoc, Int.mul_comm C A, ← Int.mul_assoc]
  have e4 : B * (X * A) ≤ B * (V * C) := by
    have f1 : B * (X * A) = X * B * A := by rw [Int.mul_comm B (X * A), Int.mul_assoc, Int.mul_comm A B, ← Int.mul_assoc]
    have f2 : B * (V * C) = V * B * C := by rw [Int.mul_comm B (V * C), Int.mul_assoc, Int.mul_comm C B, ← Int.mul_assoc]
    rw [f1, f2]; omega
  exact Int.le_of_mul_le_mul_left e4 (by omega)
theorem key_trans_lt {V A W B X C : Int} (hA : 1 ≤ A) (hB : 1 ≤ B) (hC : 1 ≤ C) (h1 : W * A < V * B) (h2 : X * B ≤ W * C) : X * A < V * C := by
  by_cases h : X * A < V * C
  · exact h
  · exfalso
    have h3 : V * C ≤ X * A := by omega
    have h6 := key_trans (V := W) (A := B) (W := X) (B := C) (X := V) (C := A) hB hC hA h2 h3
    omega
theorem key_trans_lt' {V A W B X C : Int} (hA : 1 ≤ A) (hB : 1 ≤ B) (hC : 1 ≤ C) (h1 : W * A ≤ V * B) (h2 : X * B < W * C) : X * A < V * C := by
  by_cases h : X * A < V * C
  · exact h
  · exfalso
    have h3 : V * C ≤ X * A := by omega
    have h6 := key_trans (V := X) (A := C) (W := V) (B := A) (X := W) (C := B) hC hA hB h3 h1
    omega
theorem sg_anti (x y : Int) : sg y x = -sg x y := by unfold sg; split <;> split <;> (try split) <;> (try split) <;> omega
theorem sz_anti {v a w b : Int} (h1 : COK v a) (h2 : COK w b) : szC w b v a = -szC v a w b := by rw [szC_key h1 h2, szC_key h2 h1, sg_anti]
theorem sz_pos {v a w b : Int} (h1 : COK v a) (h2 : COK w b) : 0 < szC v a w b ↔ cv w b * ca a < cv v a * ca b := by rw [szC_key h1 h2, sg_pos]
theorem sz_neg {v a w b : Int} (h1 : COK v a) (h2 : COK w b) : szC v a w b < 0 ↔ cv v a * ca b < cv w b * ca a := by rw [szC_key h1 h2, sg_neg]
/-- Of two claims the first is greater; of equal ones that of the smaller number. -/
def gtC (v a : Int) (i : Nat) (w b : Int) (k : Nat) : Prop := 0 < szC v a w b ∨ (szC v a w b = 0 ∧ i < k)
theorem pos_pos {v a w b x c : Int} (h1 : COK v a) (h2 : COK w b) (h3 : COK x c) (g1 : 0 < szC v a w b) (g2 : 0 ≤ szC w b x c) : 0 < szC v a x c := by
  rw [sz_pos h1 h2] at g1
  rw [sz_pos h1 h3]
  have : cv x c * ca b ≤ cv w b * ca c := by
    have := sz_neg h2 h3
    omega
  exact key_trans_lt (ca_pos h1.a0) (ca_pos h2.a0) (ca_pos h3.a0) g1 this
theorem ge_pos {v a w b x c : Int} (h1 : COK v a) (h2 : COK w b) (h3 : COK x c) (g1 : 0 ≤ szC v a w b) (g2 : 0 < szC w b x c) : 0 < szC v a x c := by
  rw [sz_pos h2 h3] at g2
  rw [sz_pos h1 h3]
  have : cv w b * ca a ≤ cv v a * ca b := by
    have := sz_neg h1 h2
    omega
  exact key_trans_lt' (ca_pos h1.a0) (ca_pos h2.a0) (ca_pos h3.a0) this g2
theorem zero_zero {v a w b x c : Int} (h1 : COK v a) (h2 : COK w b) (h3 : COK x c) (g1 : szC v a w b = 0) (g2 : szC w b x c = 0) : szC v a x c = 0 := by
  have p1 := sz_pos h1 h2
  have n1 := sz_neg h1 h2
  have p2 := sz_pos h2 h3
  have n2 := sz_neg h2 h3
  have p3 := sz_pos h1 h3
  have n3 := sz_neg h1 h3
  have e1 := key_trans (V := cv v a) (A := ca a) (W := cv w b) (B := ca b) (X := cv x c) (C := ca c) (ca_pos h1.a0) (ca_pos h2.a0) (ca_pos h3.a0) (by omega) (by omega)
  have e2 := key_trans (V := cv x c) (A := ca c) (W := cv w b) (B := ca b) (X := cv v a) (C := ca a) (ca_pos h3.a0) (ca_pos h2.a0) (ca_pos h1.a0) (by omega) (by omega)
  omega
theorem gt_ge {v a w b : Int} {i k : Nat} (h : gtC v a i w b k) : 0 ≤ szC v a w b := by rcases h with h | h <;> omega
theorem gt_trans {v a w b x c : Int} {i k l : Nat} (h1 : COK v a) (h2 : COK w b) (h3 : COK x c) (g1 : gtC v a i w b k) (g2 : gtC w b k x c l) : gtC v a i x c l := by
  rcases g1 with g1 | ⟨g1, hik⟩
  · exact .inl (pos_pos h1 h2 h3 g1 (gt_ge g2))
  · rcases g2 with g2 | ⟨g2, hkl⟩
    · exact .inl (ge_pos h1 h2 h3 (by omega) g2)
    · exact .inr ⟨zero_zero h1 h2 h3 g1 g2, by omega⟩
theorem sz_own {v a b : Int} (h1 : COK v a) (hab : a < b) : 0 < szC v a v b := by
  have h2 : COK v b := ⟨h1.v1, h1.v2, by have := h1.a0; omega⟩
  rw [sz_pos h1 h2]
  have ⟨v1, v2, a0⟩ := h1
  unfold cv ca
  rw [if_neg (by omega : b ≠ 0), if_neg (by omega : b ≠ 0)]
  by_cases ha : a = 0
  · rw [if_pos ha, if_pos ha, Int.mul_one]
    have := Int.mul_le_mul_of_nonneg_left (show (1 : Int) ≤ b by omega) (show (0 : Int) ≤ 1000000 + v by omega)
    rw [Int.mul_one] at this
    omega
  · rw [if_neg ha, if_neg ha]
    exact Int.mul_lt_mul_of_pos_left hab (by omega)
theorem stp_up (kd m : Int) (h : 0 ≤ m) : stp kd m < stp kd (m + 1) := by unfold stp; split <;> (try split) <;> omega
theorem cok {kd : Int} {xs : List Int} (ho : OrdOK xs) {i : Nat} (hi : i < xs.length) {m : Int} (h : 0 ≤ m) : COK (nth xs i) (stp kd m) := by
  have := ho.el i hi
  exact ⟨this.1, this.2, by unfold stp; split <;> (try split) <;> omega⟩
theorem top_gt {kd : Int} {xs ms : List Int} (ho : OrdOK xs) (hm : ∀ i, i < xs.length → 0 ≤ nth ms i) : ∀ n, n ≤ xs.length → ∀ i, i < n → i ≠ topI kd xs ms n →
    gtC (nth xs (topI kd xs ms n)) (stp kd (nth ms (topI kd xs ms n))) (topI kd xs ms n) (nth xs i) (stp kd (nth ms i)) i := by
  intro n
  induction n with
  | zero => intro _ i hi; omega
  | succ n ih =>
    intro hn i hi hne
    have ih := ih (by omega)
    have ht := topI_lt kd xs ms n
    have cn := cok (kd := kd) ho (show n < xs.length by omega) (hm n (by omega))
    have cT := cok (kd := kd) ho (show topI kd xs ms n < xs.length by omega) (hm (topI kd xs ms n) (by omega))
    have ci := cok (kd := kd) ho (show i < xs.length by omega) (hm i (by omega))
    by_cases h : 0 < szAt kd xs ms n (topI kd xs ms n)
    · rw [topI_yes kd xs ms n h] at hne ⊢
      by_cases hT : i = topI kd xs ms n
      · rw [hT]; exact .inl h
      · exact .inl (pos_pos cn cT ci h (gt_ge (ih i (by omega) hT)))
    · rw [topI_no kd xs ms n h] at hne ⊢
      by_cases hin : i = n
      · subst hin
        have e := sz_anti cn cT
        unfold szAt at h
        by_cases h0 : szC (nth xs (topI kd xs ms i)) (stp kd (nth ms (topI kd xs ms i))) (nth xs i) (stp kd (nth ms i)) = 0
        · exact .inr ⟨h0, by omega⟩
        · exact .inl (by omega)
      · exact ih i (by omega) hne
def SF (kd : Int) (xs ms : List Int) : Prop := ∀ i k, i < xs.length → k < xs.length → i ≠ k → 0 < nth ms i → gtC (nth xs i) (stp kd (nth ms i - 1)) i (nth xs k) (stp kd (nth ms k)) k
theorem giv_at (kd : Int) {xs : List Int} (h1 : 1 ≤ xs.length) (j i : Nat) : nth (giv kd xs (j + 1)) i = if i = got kd xs j then nth (giv kd xs j) (got kd xs j) + 1 else nth (giv kd xs j) i := by
  rw [giv_succ, bump_at _ _ _ (by rw [giv_len]; exact got_lt h1 j)]
theorem giv_fair (kd : Int) {xs : List Int} (ho : OrdOK xs) (j : Nat) : SF kd xs (giv kd xs j) := by
  have h1 := ho.l1
  induction j with
  | zero =>
    intro i k hi hk hne hp
    have : nth (giv kd xs 0) i = 0 := by simp [giv, nth, List.getD, hi]
    omega
  | succ j ih =>
    intro i k hi hk hne hp
    have hb := giv_bd (kd := kd) h1 j
    have hc := got_lt (kd := kd) h1 j
    have tg := top_gt (kd := kd) ho (fun i hi => (hb i hi).1) xs.length (Nat.le_refl _)
    have cc := cok (kd := kd) ho hc (hb _ hc).1
    rw [giv_at kd h1 j i] at hp ⊢
    rw [giv_at kd h1 j k]
    by_cases hic : i = got kd xs j
    · rw [if_pos hic, if_neg (by omega)]
      subst hic
      rw [Int.add_sub_cancel]
      exact tg k hk (by intro e; exact hne e.symm)
    · rw [if_neg hic] at hp ⊢
      have ci := cok (kd := kd) ho hi (show 0 ≤ nth (giv kd xs j) i - 1 by omega)
      by_cases hkc : k = got kd xs j
      · subst hkc
        rw [if_pos rfl]
        exact .inl (ge_pos ci cc (cok ho hc (by have := (hb _ hc).1; omega)) (gt_ge (ih i _ hi hc hne hp)) (sz_own cc (stp_up kd _ (hb _ hc).1)))
      · rw [if_neg hkc]
        exact ih i k hi hk hne hp
theorem low_is {kd : Int} {xs ms : List Int} (ho : OrdOK xs) (c : Nat) (hc : c < xs.length) (hp : 0 < nth ms c)
    (h : ∀ i, i < xs.length → i ≠ c → 0 < nth ms i → gtC (nth xs i) (stp kd (nth ms i - 1)) i (nth xs c) (stp kd (nth ms c - 1)) c) :
    ∀ k, k ≤ xs.length → c < k → lowI kd xs ms k = c := by
  intro k
  induction k with
  | zero => intro _ h; omega
  | succ k ih =>
    intro hk hck
    have cc := cok (kd := kd) ho hc (show 0 ≤ nth ms c - 1 by omega)
    by_cases e : k = c
    · subst e
      have hb := lowI_bd kd xs ms k
      by_cases h0 : lowI kd xs ms k < 0
      · exact lowI_first kd xs ms k hp h0
      · have hp2 := hb.2.2 (by omega)
        have hl : (lowI kd xs ms k).toNat < xs.length := by omega
        have g := h _ hl (by omega) hp2
        have cl := cok (kd := kd) ho hl (show 0 ≤ nth ms (lowI kd xs ms k).toNat - 1 by omega)
        have := sz_anti cl cc
        exact lowI_yes kd xs ms k hp (by unfold lzAt; have := gt_ge g; omega)
    · have ih := ih (by omega) (by omega)
      by_cases hpk : 0 < nth ms k
      · have g := h k (by omega) e hpk
        rw [lowI_no kd xs ms k (by omega) ?_, ih]
        rw [ih]
        unfold lzAt
        rw [Int.toNat_natCast]
        rcases g with g | g <;> omega
      · rw [lowI_none kd xs ms k hpk, ih]
/-- Who got the last meal gives back first. -/
theorem giv_low (kd : Int) {xs : List Int} (ho : OrdOK xs) (j : Nat) : lowI kd xs (giv kd xs (j + 1)) xs.length = got kd xs j := by
  have h1 := ho.l1
  have hb := giv_bd (kd := kd) h1 j
  have hc := got_lt (kd := kd) h1 j
  refine low_is ho _ hc (by rw [giv_at kd h1 j, if_pos rfl]; have := (hb _ hc).1; omega) ?_ xs.length (Nat.le_refl _) hc
  intro i hi hne hp
  rw [giv_at kd h1 j i, if_neg hne] at hp ⊢
  rw [giv_at kd h1 j (got kd xs j), if_pos rfl, Int.add_sub_cancel]
  exact giv_fair kd ho j i _ hi hc hne hp
end Go.Proofs.Ythankdfjkmfokaa
