/- What the plain form's walk keeps in memory. -/
import Derived.Test.YtmllbemjcfkmjaaMapOf
import Derived.Test.YtmllbemjcfkmjaaAutoLaw
import Derived.Maps.AppendAt
namespace Go.Proofs.Ytmllbemjcfkmjaa
open Go.RowKit Go.Maps
set_option linter.unusedSimpArgs false
set_option linter.unusedVariables false

theorem info33 : (Try.prog.info? 33).map (fun i => (i.zero, i.size, i.bytes)) = some (some (.slice none 0 0), 1, 24) := by kernel_rfl
theorem info4 : (Try.prog.info? 4).map (fun i => (i.zero, i.size, i.bytes)) = some (some (.bool false), 1, 1) := by kernel_rfl
theorem info5 : (Try.prog.info? 5).map (fun i => (i.zero, i.size, i.bytes)) = some (some (.int .u8 0), 1, 1) := by kernel_rfl
theorem law3 : Keyed Try.prog 3 := int_keyed Try.underlying3
theorem law9 : Keyed Try.prog 9 := string_keyed Try.underlying9
theorem zero3 (w : World) : (zeroValue 3).run Try.prog w = .ok (.int .i64 0) w := by kernel_rfl

def Apart (v u : Value) : Prop := ∀ g, v.ownBlock = some g → u.ownBlock ≠ some g
theorem Apart.symm {v u : Value} (h : Apart v u) : Apart u v := fun g h1 h2 => h g h2 h1
theorem Apart.ne {v u : Value} (h : Apart v u) : u.ownBlock = none ∨ u.ownBlock ≠ v.ownBlock := by
  cases e : u.ownBlock with
  | none => exact .inl rfl
  | some g => exact .inr fun h' => h g h'.symm e
section
variable {w w' : World} {o : Obj} {B n m : Nat} {e e' : TypeId} {v v' u : Value} {zs ys : List Value}
theorem own_kept (h : w.ownsRow B e 1 u n zs) (hg : (w.alloc o).grownBy w' v.ownBlock) (ha : Apart v u) : w'.ownsRow B e 1 u n zs :=
  (h.alloc o).kept hg ha.ne
theorem apart_new (h : w.ownsRow B e 1 u n zs) (ha : Apart v u) (hl : v'.ownBlock = v.ownBlock ∨ v'.ownBlock = some (w.alloc o).heap.size) : Apart v' u := by
  intro g h1 h2
  rcases hl with e | e
  · exact ha g (e ▸ h1) h2
  · rw [e] at h1
    cases h1
    have := (h.lt _ h2).2
    simp at this
    omega
theorem own_map {mb k : Nat} {g : Value → Option Value} (h : w.ownsRow B e 1 u n zs) (hm : MapOf Try.prog 3 w mb k g) (hg : w.grownBy w' (some mb)) : w'.ownsRow B e 1 u n zs :=
  h.kept hg (.inr (hm.own_ne h))
theorem own_types (h : w.ownsRow B e 1 u n zs) (h' : w.ownsRow B e' 1 v m ys) (hne : e ≠ e') : Apart v u := by
  intro g h1 h2
  rcases h.2 with ⟨rfl, _⟩ | ⟨q, cap, cur, rfl, _, hg, _⟩
  · simp [Value.ownBlock] at h2
  · rcases h'.2 with ⟨rfl, _⟩ | ⟨q', cap', cur', rfl, _, hg', _⟩
    · simp [Value.ownBlock] at h1
    · simp [Value.ownBlock] at h1 h2
      subst h1
      subst h2
      rw [hg] at hg'
      cases hg'
      exact hne rfl
theorem apart_nil (u : Value) : Apart (.slice none 0 0) u := fun g h => by simp [Value.ownBlock] at h
theorem own_one (V : World) (x : Value) (hx : V.heap[m]? = some (.cells #[x] e (0, 0))) (hB : B ≤ m) : V.ownsRow B e 1 (.slice (some ⟨m, 0, none⟩) 1 1) 1 [x] :=
  ⟨rfl, .inr ⟨m, 1, #[x], rfl, hB, hx, Nat.le_refl _, by unfold maxLen; omega, rfl, rfl⟩⟩
end
/-- The numbers of the states that were found. -/
def gN (S : List Int) : Value → Option Value
  | .int .i64 s => if s ∈ S then some (.int .i64 (idx S s : Nat)) else none
  | _ => none
theorem gN_yes {S : List Int} {s : Int} (h : s ∈ S) : gN S (.int .i64 s) = some (.int .i64 (idx S s : Nat)) := by simp [gN, h]
theorem gN_no {S : List Int} {s : Int} (h : s ∉ S) : gN S (.int .i64 s) = none := by simp [gN, h]
open Classical in
theorem gN_new {S : List Int} {s : Int} (h : s ∉ S) (y : Value) : (if y = .int .i64 s then some (.int .i64 (S.length : Nat)) else gN S y) = gN (S ++ [s]) y := by
  by_cases e : y = .int .i64 s
  · subst e
    rw [if_pos rfl, gN_yes (by simp), idx_app_new h]
  · rw [if_neg e]
    cases y with
    | int k t =>
      cases k
      case i64 =>
        have hts : t ≠ s := fun hh => e (by rw [hh])
        by_cases ht : t ∈ S
        · rw [gN_yes ht, gN_yes (by simp [ht]), idx_app_mem ht]
        · rw [gN_no ht, gN_no (by simp [ht, hts])]
      all_goals rfl
    | _ => rfl
section
variable (L : Nat) (step : Int → Nat → Int)
/-- The numbers behind the letters below a of state i, as they were given. -/
def rowP (i a : Nat) : List Int := (List.range a).map fun b => ((idx (part L step i (b + 1)) (step ((raw L step i).getD i 0) b) : Nat) : Int)
theorem rowP_len (i a : Nat) : (rowP L step i a).length = a := by simp [rowP]
theorem rowP_succ (i a : Nat) : (rowP L step i a).map (Value.int .i64) ++ [.int .i64 ((idx (part L step i (a + 1)) (step ((raw L step i).getD i 0) a) : Nat) : Int)] = (rowP L step i (a + 1)).map (Value.int .i64) := by
  simp [rowP, List.range_succ]
theorem part_get (i a : Nat) (hi : i < (raw L step i).length) : i < (part L step i a).length ∧ nth (part L step i a) i = (raw L step i).getD i 0 := by
  have hp : raw L step i <+: part L step i a := part_pre (L := L) (step := step) i (Nat.zero_le a)
  have hl := hp.length_le
  refine ⟨by omega, ?_⟩
  have := pre_get' hp hi
  simp [nth, List.getD, this]
theorem part_old (i a : Nat) (h : step ((raw L step i).getD i 0) a ∈ part L step i a) : part L step i (a + 1) = part L step i a := by rw [part_succ, vis_mem _ _ h]
theorem part_fresh (i a : Nat) (h : step ((raw L step i).getD i 0) a ∉ part L step i a) : part L step i (a + 1) = part L step i a ++ [step ((raw L step i).getD i 0) a] ∧ idx (part L step i (a + 1)) (step ((raw L step i).getD i 0) a) = (part L step i a).length := by
  rw [part_succ, vis_new _ _ h]
  exact ⟨rfl, idx_app_new h⟩
end
/-- Rows of numbers that lie in blocks of their own, none in that of v. -/
def RowsOwn (w : World) (B : Nat) (R : Nat → Value) (ln : Nat) (f : Nat → List Int) (i : Nat) (v : Value) : Prop := ∀ j, j < i → w.ownsRow B 3 1 (R j) ln ((f j).map (Value.int .i64)) ∧ Apart v (R j)
theorem RowsOwn.below {w w' : World} {B : Nat} {R : Nat → Value} {ln : Nat} {f : Nat → List Int} {i : Nat} {v : Value} (h : RowsOwn w B R ln f i v) (hb : Below w.heap.size w w') : RowsOwn w' B R ln f i v :=
  fun j hj => ⟨own_below (h j hj).1 hb, (h j hj).2⟩
theorem RowsOwn.grown {w w' : World} {o : Obj} {B : Nat} {R : Nat → Value} {ln : Nat} {f : Nat → List Int} {i : Nat} {v v' : Value} (h : RowsOwn w B R ln f i v) (hg : (w.alloc o).grownBy w' v.ownBlock)
    (hl : v'.ownBlock = v.ownBlock ∨ v'.ownBlock = some (w.alloc o).heap.size) : RowsOwn w' B R ln f i v' :=
  fun j hj => ⟨own_kept (h j hj).1 hg (h j hj).2, apart_new (h j hj).1 (h j hj).2 hl⟩
theorem RowsOwn.other {w w' : World} {o : Obj} {B : Nat} {R : Nat → Value} {ln : Nat} {f : Nat → List Int} {i : Nat} {v u : Value} (h : RowsOwn w B R ln f i v) (h2 : RowsOwn w B R ln f i u) (hg : (w.alloc o).grownBy w' u.ownBlock) : RowsOwn w' B R ln f i v :=
  fun j hj => ⟨own_kept (h j hj).1 hg (h2 j hj).2, (h j hj).2⟩
theorem RowsOwn.map {w w' : World} {B : Nat} {R : Nat → Value} {ln : Nat} {f : Nat → List Int} {i : Nat} {v : Value} (h : RowsOwn w B R ln f i v) {mb k : Nat} {g : Value → Option Value} (hm : MapOf Try.prog 3 w mb k g) (hg : w.grownBy w' (some mb)) : RowsOwn w' B R ln f i v :=
  fun j hj => ⟨own_map (h j hj).1 hm hg, (h j hj).2⟩
end Go.Proofs.Ytmllbemjcfkmjaa
