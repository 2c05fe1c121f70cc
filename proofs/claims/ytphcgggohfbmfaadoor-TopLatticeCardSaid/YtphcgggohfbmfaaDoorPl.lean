/- Whole pairs of a table, plainly: sets as bits of a number; what all of a set can eat, who can eat all of a set; both of two whole pairs. -/
import Derived.KernelRfl
namespace Go.Proofs.YtphcgggohfbmfaaDoor
set_option linter.unusedSimpArgs false
set_option linter.unusedVariables false

/-- The members of a set, ascending. -/
def mems (m : Nat) : List Nat := (List.range 8).filter fun i => m.testBit i
/-- The dishes that all children of a set can eat. -/
def eatN (R : Nat → Nat) (d c : Nat) : Nat := (mems c).foldl (fun m i => m &&& R i) (2 ^ d - 1)
/-- The children who can eat all dishes of a set, of the first n. -/
def etrN (R : Nat → Nat) (m : Nat) : Nat → Nat
  | 0 => 0
  | n + 1 => if (∀ j, j < 8 → m.testBit j = true → (R n).testBit j = true) then etrN R m n ||| 2 ^ n else etrN R m n
theorem mem_mems {m i : Nat} : i ∈ mems m ↔ i < 8 ∧ m.testBit i = true := by simp [mems]
theorem foldl_and (R : Nat → Nat) (j : Nat) : ∀ (l : List Nat) (a : Nat), (l.foldl (fun m i => m &&& R i) a).testBit j = true ↔ a.testBit j = true ∧ ∀ i, i ∈ l → (R i).testBit j = true := by
  intro l
  induction l with
  | nil => intro a; simp
  | cons i l ih =>
    intro a
    rw [List.foldl_cons, ih, Nat.testBit_and, Bool.and_eq_true]
    constructor
    · rintro ⟨⟨h1, h2⟩, h3⟩
      refine ⟨h1, fun k hk => ?_⟩
      rcases List.mem_cons.1 hk with rfl | hk
      · exact h2
      · exact h3 k hk
    · rintro ⟨h1, h2⟩
      exact ⟨⟨h1, h2 i (by simp)⟩, fun k hk => h2 k (by simp [hk])⟩
theorem eat_bit (R : Nat → Nat) (d c j : Nat) : (eatN R d c).testBit j = true ↔ j < d ∧ ∀ i, i < 8 → c.testBit i = true → (R i).testBit j = true := by
  unfold eatN
  rw [foldl_and, Nat.testBit_two_pow_sub_one, decide_eq_true_iff]
  constructor
  · rintro ⟨h1, h2⟩
    exact ⟨h1, fun i hi hc => h2 i (mem_mems.2 ⟨hi, hc⟩)⟩
  · rintro ⟨h1, h2⟩
    exact ⟨h1, fun i hi => h2 i (mem_mems.1 hi).1 (mem_mems.1 hi).2⟩
theorem etr_bit (R : Nat → Nat) (m i : Nat) : ∀ n, (etrN R m n).testBit i = true ↔ i < n ∧ ∀ j, j < 8 → m.testBit j = true → (R i).testBit j = true := by
  intro n
  induction n with
  | zero => simp [etrN]
  | succ n ih =>
    unfold etrN
    by_cases h : ∀ j, j < 8 → m.testBit j = true → (R n).testBit j = true
    · rw [if_pos h, Nat.testBit_or, Bool.or_eq_true, ih, Nat.testBit_two_pow, decide_eq_true_iff]
      constructor
      · rintro (⟨h1, h2⟩ | rfl)
        · exact ⟨by omega, h2⟩
        · exact ⟨by omega, h⟩
      · rintro ⟨h1, h2⟩
        by_cases e : n = i
        · exact .inr e
        · exact .inl ⟨by omega, h2⟩
    · rw [if_neg h, ih]
      constructor
      · rintro ⟨h1, h2⟩; exact ⟨by omega, h2⟩
      · rintro ⟨h1, h2⟩
        refine ⟨?_, h2⟩
        by_cases e : i = n
        · subst e; exact absurd h2 h
        · omega
theorem bit_lt {m j k : Nat} (h : m < 2 ^ k) (hb : m.testBit j = true) : j < k := by
  rcases Nat.lt_or_ge j k with h1 | h1
  · exact h1
  · have : m < 2 ^ j := Nat.lt_of_lt_of_le h (Nat.pow_le_pow_right (by omega) h1)
    rw [Nat.testBit_lt_two_pow this] at hb
    cases hb
theorem eq_bits {a b : Nat} (h : ∀ j, a.testBit j = true ↔ b.testBit j = true) : a = b := by
  refine Nat.eq_of_testBit_eq fun j => ?_
  rw [Bool.eq_iff_iff]
  exact h j
theorem lt_bits {a k : Nat} (h : ∀ j, a.testBit j = true → j < k) : a < 2 ^ k := by
  rcases Nat.lt_or_ge a (2 ^ k) with h1 | h1
  · exact h1
  · obtain ⟨i, hi, hb⟩ := Nat.exists_ge_and_testBit_of_ge_two_pow h1
    have := h i hb
    omega
theorem eat_lt (R : Nat → Nat) (d c : Nat) : eatN R d c < 2 ^ d := lt_bits fun j h => ((eat_bit R d c j).1 h).1
theorem etr_lt (R : Nat → Nat) (m n : Nat) : etrN R m n < 2 ^ n := lt_bits fun j h => ((etr_bit R m j n).1 h).1
/-- A whole pair. -/
structure Whole (R : Nat → Nat) (n d c m : Nat) : Prop where
  eat : m = eatN R d c
  etr : c = etrN R m n
/-- What both of two whole pairs have belongs to a whole pair; and more children share fewer dishes. -/
theorem whole_both {R : Nat → Nat} {n d c m c' m' : Nat} (hn : n ≤ 8) (hd : d ≤ 8) (h : Whole R n d c m) (h' : Whole R n d c' m') :
    Whole R n d (c &&& c') (eatN R d (c &&& c')) ∧ Whole R n d (etrN R (m &&& m') n) (m &&& m') ∧ ((c &&& c' = c) ↔ (m &&& m' = m')) := by
  have hm : ∀ j, m.testBit j = true ↔ j < d ∧ ∀ i, i < 8 → c.testBit i = true → (R i).testBit j = true := fun j => by rw [h.eat]; exact eat_bit R d c j
  have hm' : ∀ j, m'.testBit j = true ↔ j < d ∧ ∀ i, i < 8 → c'.testBit i = true → (R i).testBit j = true := fun j => by rw [h'.eat]; exact eat_bit R d c' j
  have hc : ∀ i, c.testBit i = true ↔ i < n ∧ ∀ j, j < 8 → m.testBit j = true → (R i).testBit j = true := fun i => by rw [h.etr]; exact etr_bit R m i n
  have hc' : ∀ i, c'.testBit i = true ↔ i < n ∧ ∀ j, j < 8 → m'.testBit j = true → (R i).testBit j = true := fun i => by rw [h'.etr]; exact etr_bit R m' i n
  refine ⟨⟨rfl, ?_⟩, ⟨?_, rfl⟩, ?_⟩
  · refine eq_bits fun i => ?_
    rw [etr_bit, Nat.testBit_and, Bool.and_eq_true]
    constructor
    · rintro ⟨h1, h2⟩
      refine ⟨((hc i).1 h1).1, fun j hj hb => ?_⟩
      rw [eat_bit] at hb
      exact hb.2 i (by have := ((hc i).1 h1).1; omega) (by rw [Nat.testBit_and, h1, h2]; rfl)
    · rintro ⟨h1, h2⟩
      refine ⟨(hc i).2 ⟨h1, fun j hj hb => h2 j hj ?_⟩, (hc' i).2 ⟨h1, fun j hj hb => h2 j hj ?_⟩⟩
      · rw [eat_bit]
        refine ⟨((hm j).1 hb).1, fun k hk hkb => ?_⟩
        rw [Nat.testBit_and, Bool.and_eq_true] at hkb
        exact ((hm j).1 hb).2 k hk hkb.1
      · rw [eat_bit]
        refine ⟨((hm' j).1 hb).1, fun k hk hkb => ?_⟩
        rw [Nat.testBit_and, Bool.and_eq_true] at hkb
        exact ((hm' j).1 hb).2 k hk hkb.2
  · refine eq_bits fun j => ?_
    rw [eat_bit, Nat.testBit_and, Bool.and_eq_true]
    constructor
    · rintro ⟨h1, h2⟩
      refine ⟨((hm j).1 h1).1, fun i hi hb => ?_⟩
      rw [etr_bit] at hb
      exact hb.2 j (by have := ((hm j).1 h1).1; omega) (by rw [Nat.testBit_and, h1, h2]; rfl)
    · rintro ⟨h1, h2⟩
      refine ⟨(hm j).2 ⟨h1, fun i hi hb => h2 i hi ?_⟩, (hm' j).2 ⟨h1, fun i hi hb => h2 i hi ?_⟩⟩
      · rw [etr_bit]
        refine ⟨((hc i).1 hb).1, fun k hk hkb => ?_⟩
        rw [Nat.testBit_and, Bool.and_eq_true] at hkb
        exact ((hc i).1 hb).2 k hk hkb.1
      · rw [etr_bit]
        refine ⟨((hc' i).1 hb).1, fun k hk hkb => ?_⟩
        rw [Nat.testBit_and, Bool.and_eq_true] at hkb
        exact ((hc' i).1 hb).2 k hk hkb.2
  · constructor
    · intro e
      have hs : ∀ i, c.testBit i = true → c'.testBit i = true := fun i hb => by
        rw [← e, Nat.testBit_and, Bool.and_eq_true] at hb
        exact hb.2
      refine eq_bits fun j => ?_
      rw [Nat.testBit_and, Bool.and_eq_true]
      constructor
      · exact fun x => x.2
      · exact fun x => ⟨(hm j).2 ⟨((hm' j).1 x).1, fun i hi hb => ((hm' j).1 x).2 i hi (hs i hb)⟩, x⟩
    · intro e
      have hs : ∀ j, m'.testBit j = true → m.testBit j = true := fun j hb => by
        rw [← e, Nat.testBit_and, Bool.and_eq_true] at hb
        exact hb.1
      refine eq_bits fun i => ?_
      rw [Nat.testBit_and, Bool.and_eq_true]
      constructor
      · exact fun x => x.1
      · exact fun x => ⟨x, (hc' i).2 ⟨((hc i).1 x).1, fun j hj hb => ((hc i).1 x).2 j hj (hs j hb)⟩⟩
/-! ### the smallest sets that feed every child -/
def feedN (R : Nat → Nat) (n m : Nat) : Bool := (List.range n).all fun i => R i &&& m != 0
def leastN (R : Nat → Nat) (n m : Nat) : Bool := feedN R n m && (mems m).all fun j => !feedN R n (m &&& (255 - 2 ^ j))
theorem feed_iff {R : Nat → Nat} {n m : Nat} : feedN R n m = true ↔ ∀ i, i < n → R i &&& m ≠ 0 := by
  unfold feedN
  rw [List.all_eq_true]
  constructor
  · intro h i hi
    have := h i (List.mem_range.2 hi)
    simpa using this
  · intro h i hi
    have := h i (List.mem_range.1 hi)
    simpa using this
theorem and_ne {a b : Nat} : a &&& b ≠ 0 ↔ ∃ j, a.testBit j = true ∧ b.testBit j = true := by
  constructor
  · intro h
    obtain ⟨j, hj⟩ := Nat.exists_testBit_of_ne_zero h
    rw [Nat.testBit_and, Bool.and_eq_true] at hj
    exact ⟨j, hj⟩
  · rintro ⟨j, h1, h2⟩ e
    have : (a &&& b).testBit j = true := by rw [Nat.testBit_and, h1, h2]; rfl
    rw [e, Nat.zero_testBit] at this
    cases this
theorem feed_mono {R : Nat → Nat} {n m m' : Nat} (hs : ∀ j, m.testBit j = true → m'.testBit j = true) (h : feedN R n m = true) : feedN R n m' = true :=
  feed_iff.2 fun i hi => by
    obtain ⟨j, h1, h2⟩ := and_ne.1 (feed_iff.1 h i hi)
    exact and_ne.2 ⟨j, h1, hs j h2⟩
theorem but_bit (j k : Nat) (hj : j < 8) : (255 - 2 ^ j).testBit k = true ↔ k < 8 ∧ k ≠ j := by
  by_cases hk : k < 8
  · have key : ∀ j : Fin 8, ∀ k : Fin 8, ((255 - 2 ^ j.1).testBit k.1 = true ↔ k.1 ≠ j.1) := by decide
    have := key ⟨j, hj⟩ ⟨k, hk⟩
    rw [this]
    exact ⟨fun h => ⟨hk, h⟩, fun h => h.2⟩
  · constructor
    · intro h
      exact absurd (bit_lt (k := 8) (Nat.lt_of_le_of_lt (Nat.sub_le 255 (2 ^ j)) (by decide)) h) hk
    · rintro ⟨h, _⟩; exact absurd h hk
theorem least_apart {R : Nat → Nat} {n a b : Nat} (hb8 : b < 256) (ha : leastN R n a = true) (hb : leastN R n b = true) (hs : a &&& b = a) : a = b := by
  have hsub : ∀ j, a.testBit j = true → b.testBit j = true := fun j h => by
    rw [← hs, Nat.testBit_and, Bool.and_eq_true] at h
    exact h.2
  refine eq_bits fun j => ⟨hsub j, fun h => ?_⟩
  rcases Bool.eq_false_or_eq_true (a.testBit j) with e | e
  · exact e
  · exfalso
    have hj := bit_lt (k := 8) hb8 h
    unfold leastN at ha hb
    rw [Bool.and_eq_true] at ha hb
    have h1 := List.all_eq_true.1 hb.2 j (mem_mems.2 ⟨hj, h⟩)
    have h2 : feedN R n (b &&& (255 - 2 ^ j)) = true := feed_mono (fun k hk => by
      rw [Nat.testBit_and, Bool.and_eq_true]
      refine ⟨hsub k hk, (but_bit j k hj).2 ⟨bit_lt (k := 8) hb8 (hsub k hk), fun x => ?_⟩⟩
      subst x
      rw [e] at hk
      cases hk) ha.1
    rw [h2] at h1
    cases h1
/-! ### the lists -/
def pairsN (R : Nat → Nat) (n d : Nat) (k : Nat) : List (Nat × Nat) := ((List.range k).filter fun c => etrN R (eatN R d c) n == c).map fun c => (c, eatN R d c)
def menusN (R : Nat → Nat) (n : Nat) (k : Nat) : List Nat := (List.range k).filter (leastN R n)
theorem pairsN_succ (R : Nat → Nat) (n d k : Nat) : pairsN R n d (k + 1) = if etrN R (eatN R d k) n = k then pairsN R n d k ++ [(k, eatN R d k)] else pairsN R n d k := by
  unfold pairsN
  rw [List.range_succ, List.filter_append]
  by_cases h : etrN R (eatN R d k) n = k
  · rw [if_pos h]; simp [h]
  · rw [if_neg h]; simp [h]
theorem menusN_succ (R : Nat → Nat) (n k : Nat) : menusN R n (k + 1) = if leastN R n k = true then menusN R n k ++ [k] else menusN R n k := by
  unfold menusN
  rw [List.range_succ, List.filter_append]
  by_cases h : leastN R n k = true
  · rw [if_pos h]; simp [h]
  · rw [if_neg h]; simp [h]
theorem mem_pairsN {R : Nat → Nat} {n d : Nat} {p : Nat × Nat} : p ∈ pairsN R n d (2 ^ n) ↔ Whole R n d p.1 p.2 := by
  unfold pairsN
  rw [List.mem_map]
  constructor
  · rintro ⟨c, hc, rfl⟩
    rw [List.mem_filter] at hc
    exact ⟨rfl, (beq_iff_eq.1 hc.2).symm⟩
  · intro h
    refine ⟨p.1, List.mem_filter.2 ⟨List.mem_range.2 ?_, ?_⟩, ?_⟩
    · rw [h.etr]; exact etr_lt R _ n
    · rw [← h.eat, ← h.etr]; simp
    · rw [← h.eat]
theorem menusN_nodup (R : Nat → Nat) (n k : Nat) : (menusN R n k).Nodup := List.nodup_range.sublist List.filter_sublist
theorem mem_menusN {R : Nat → Nat} {n k m : Nat} : m ∈ menusN R n k ↔ m < k ∧ leastN R n m = true := by simp [menusN]
end Go.Proofs.YtphcgggohfbmfaaDoor
