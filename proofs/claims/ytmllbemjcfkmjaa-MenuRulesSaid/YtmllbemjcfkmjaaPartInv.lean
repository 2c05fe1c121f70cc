/- What the program's 'Part' keeps in memory; and the word that its closure puts together. -/
import Derived.Test.YtmllbemjcfkmjaaSameLaw
import Derived.Test.YtmllbemjcfkmjaaDocWalk
import Derived.Test.YtmllbemjcfkmjaaCopy
import Derived.BigQuiet
import Derived.Deep.DeepCutAuto
namespace Go.Proofs.Ytmllbemjcfkmjaa
open Go.RowKit Go.Maps
set_option linter.unusedSimpArgs false
set_option linter.unusedVariables false

theorem own_row_neZ {w : World} {N base z n b : Nat} {v : Value} {fv : Nat → Value} {xs : List Value} {t e : TypeId} (h : w.rowIs b t N fv) (ho : w.ownsRow base e z v n xs) (hne : e ≠ t) : v.ownBlock ≠ some b := by
  intro he
  obtain ⟨c, hb, _⟩ := h
  rcases ho.2 with ⟨rfl, _⟩ | ⟨q, cap, cur, rfl, _, hg, _⟩
  · simp [Value.ownBlock] at he
  · simp [Value.ownBlock] at he
    subst he
    rw [hb] at hg
    cases hg
    exact hne rfl
theorem row_keptZ {w w' : World} {o : Obj} {N base z n b : Nat} {v : Value} {fv : Nat → Value} {xs : List Value} {t e : TypeId} (h : w.rowIs b t N fv) (ho : w.ownsRow base e z v n xs) (hne : e ≠ t) (hg : (w.alloc o).grownBy w' v.ownBlock) : w'.rowIs b t N fv :=
  (h.alloc o).of_block (hg.block b (h.alloc o).lt fun e' => own_row_neZ h ho hne e'.symm)
theorem own_setZ {w : World} {B z n e t b N : Nat} {v : Value} {xs : List Value} {g : Nat → Value} (h : w.ownsRow B e z v n xs) (hr : w.rowIs b t N g) (hne : e ≠ t) (i : Nat) (u : Value) : (w.setCell ⟨b, i, none⟩ u).ownsRow B e z v n xs :=
  h.kept (but_store (World.grownBy.refl _ (some b)) i u) (.inr (own_row_neZ hr h hne))
theorem row_typeNe {w : World} {b b' t t' N N' : Nat} {f f' : Nat → Value} (h : w.rowIs b t N f) (h' : w.rowIs b' t' N' f') (hne : t ≠ t') : b ≠ b' := by
  intro e
  subst e
  obtain ⟨c, hb, _⟩ := h
  obtain ⟨c', hb', _⟩ := h'
  rw [hb] at hb'
  cases hb'
  exact hne rfl
/-! ### the places in memory -/
def row4 (K : Int) (P : List (Int × Int)) (S : List Int) (j : Nat) : List Value := [.int .i64 (P.getD j (0, 0)).1, .int .i64 (P.getD j (0, 0)).2, .int .i64 (S.getD j 0 / K), .int .i64 (S.getD j 0 % K)]
def rows4 (K : Int) (P : List (Int × Int)) (S : List Int) : List Value := (List.range S.length).flatMap (row4 K P S)
theorem rows4_snoc (K : Int) {P : List (Int × Int)} {S : List Int} (hl : P.length = S.length) (p : Int × Int) (c : Int) : rows4 K (P ++ [p]) (S ++ [c]) = rows4 K P S ++ [.int .i64 p.1, .int .i64 p.2, .int .i64 (c / K), .int .i64 (c % K)] := by
  unfold rows4
  rw [List.length_append, List.length_singleton, List.range_succ, List.flatMap_append]
  congr 1
  · rw [List.flatMap_def, List.flatMap_def]
    congr 1
    refine List.map_congr_left fun j hj => ?_
    have hj := List.mem_range.1 hj
    have hj' : j < P.length := by omega
    unfold row4
    simp [List.getD, List.getElem?_append, hj, hj']
  · simp [row4, ← hl]
theorem rows4_get (K : Int) (P : List (Int × Int)) (S : List Int) (j : Nat) (hj : j < S.length) (r : Nat) (hr : r < 4) : (rows4 K P S)[j * 4 + r]? = (row4 K P S j)[r]? := by
  have key : ∀ n, n ≤ S.length → j < n → ((List.range n).flatMap (row4 K P S))[j * 4 + r]? = (row4 K P S j)[r]? ∧ ((List.range n).flatMap (row4 K P S)).length = n * 4 := by
    intro n
    induction n with
    | zero => intro _ h; omega
    | succ n ih =>
      intro hn hjn
      rw [List.range_succ, List.flatMap_append]
      have hl : ((List.range n).flatMap (row4 K P S)).length = n * 4 := by
        clear ih hn hjn
        induction n with
        | zero => rfl
        | succ n ih => rw [List.range_succ, List.flatMap_append, List.length_append, ih]; simp [row4]; omega
      refine ⟨?_, by rw [List.length_append, hl]; simp [row4]; omega⟩
      by_cases h : j < n
      · rw [List.getElem?_append_left (by rw [hl]; omega)]
        exact (ih (by omega) h).1
      · obtain rfl : j = n := by omega
        rw [List.getElem?_append_right (by rw [hl]; omega), hl]
        simp
  exact (key S.length (Nat.le_refl _) hj).1
def fnV (A B : Nat) : Value := .func (.func 96) #[] #[.pointer (some ⟨A, 0, none⟩), .pointer (some ⟨B, 0, none⟩)]
/-- The places (S, with where they were found P) lie in the list of block A's variable; the pairs Sm are seen; block B's variable holds the closure. -/
structure PkI (V : World) (mb A B : Nat) (K : Int) (S Sm : List Int) (P : List (Int × Int)) (v : Value) (w : World) : Prop where
  bl : Below V.heap.size V w
  gm : V.heap.size ≤ mb
  gA : V.heap.size ≤ A
  ga : w.rowIs A 101 1 (fun _ => v)
  gb : w.rowIs B 104 1 (fun _ => fnV A B)
  map : MapOf Try.prog 102 w mb Sm.length (gS K Sm)
  out : w.ownsRow V.heap.size 100 4 v S.length (rows4 K P S)
  lp : P.length = S.length
section
variable {V w w' : World} {mb A B n m : Nat} {K : Int} {S Sm S' : List Int} {P : List (Int × Int)} {v v' : Value} {o : Obj}
theorem PkI.below (h : PkI V mb A B K S Sm P v w) (hb : Below w.heap.size w w') : PkI V mb A B K S Sm P v w' :=
  ⟨h.bl.trans (hb.mono h.bl.size), h.gm, h.gA, rowIs_below h.ga hb h.ga.lt, rowIs_below h.gb hb h.gb.lt, h.map.below hb h.map.lt, own_below h.out hb, h.lp⟩
theorem row_ne_map {g : Value → Option Value} {b t N k mb : Nat} {f : Nat → Value} (h : w.rowIs b t N f) (hm : MapOf Try.prog k w mb n g) : b ≠ mb := by
  obtain ⟨c, hb, _⟩ := h
  obtain ⟨es, clock, hm, _⟩ := hm
  intro e
  subst e
  rw [hb] at hm
  cases hm
theorem PkI.insert (h : PkI V mb A B K S Sm P v w) (hg : w.grownBy w' (some mb)) (hm : MapOf Try.prog 102 w' mb S'.length (gS K S')) : PkI V mb A B K S S' P v w' :=
  ⟨h.bl.grown hg h.bl.size fun k hk => by cases hk; exact h.gm, h.gm, h.gA, rowIs_map h.ga h.map hg (row_ne_map h.ga h.map), rowIs_map h.gb h.map hg (row_ne_map h.gb h.map), hm, own_mapG h.out h.map hg, h.lp⟩
theorem PkI.push (h : PkI V mb A B K S Sm P v w) (p : Int × Int) (c : Int) (hg : (w.alloc o).grownBy w' v.ownBlock) (ho : w'.ownsRow V.heap.size 100 4 v' (S.length + 1) (rows4 K P S ++ [.int .i64 p.1, .int .i64 p.2, .int .i64 (c / K), .int .i64 (c % K)])) :
    PkI V mb A B K (S ++ [c]) Sm (P ++ [p]) v' (w'.setCell ⟨A, 0, none⟩ v') := by
  have ga := row_keptZ h.ga h.out (by decide) hg
  have gb := row_keptZ h.gb h.out (by decide) hg
  have hbl : Below V.heap.size V w' := (h.bl.alloc h.bl.size o).grown hg (by have := h.bl.size; simp; omega) fun k hk => (h.out.lt k hk).1
  have hmap : MapOf Try.prog 102 w' mb Sm.length (gS K Sm) := (h.map.grown (World.grownBy_alloc w o none) (by simp)).grown hg (h.map.own_ne h.out)
  refine ⟨hbl.setCell h.gA _, h.gm, h.gA, (ga.set 0 v').congr fun i hi => ?_, ?_, ?_, ?_, by simp [h.lp]⟩
  · obtain rfl : i = 0 := by omega
    simp
  · exact gb.of_block (Below.heap_setCell w' ⟨A, 0, none⟩ v' B (fun e => row_typeNe gb ga (by decide) e))
  · exact hmap.of_block (Below.heap_setCell w' ⟨A, 0, none⟩ v' mb (fun e => row_ne_map ga hmap e.symm))
  · rw [rows4_snoc K h.lp]
    have := own_setZ ho ga (by decide) 0 v'
    simpa using this
theorem PkI.cells (h : PkI V mb A B K S Sm P v w) {i : Nat} (hi : i < S.length) : ∃ b cap, v = .slice (some ⟨b, 0, none⟩) S.length cap ∧ b < w.heap.size ∧ V.heap.size ≤ b ∧ w.cell? ⟨b, i * 4, none⟩ = some (.int .i64 (P.getD i (0, 0)).1) ∧ w.cell? ⟨b, i * 4 + 1, none⟩ = some (.int .i64 (P.getD i (0, 0)).2) ∧
    w.cell? ⟨b, i * 4 + 2, none⟩ = some (.int .i64 (S.getD i 0 / K)) ∧ w.cell? ⟨b, i * 4 + 3, none⟩ = some (.int .i64 (S.getD i 0 % K)) := by
  obtain ⟨g, cap, rfl, hge, hlt⟩ := h.out.form (by omega)
  refine ⟨g, cap, rfl, hlt, hge, ?_, ?_, ?_, ?_⟩
  · rw [h.out.cellAt (i * 4) (by omega)]
    exact (rows4_get K P S i hi 0 (by omega)).trans rfl
  · rw [h.out.cellAt (i * 4 + 1) (by omega)]
    exact (rows4_get K P S i hi 1 (by omega)).trans rfl
  · rw [h.out.cellAt (i * 4 + 2) (by omega)]
    exact (rows4_get K P S i hi 2 (by omega)).trans rfl
  · rw [h.out.cellAt (i * 4 + 3) (by omega)]
    exact (rows4_get K P S i hi 3 (by omega)).trans rfl
end

theorem grown_ofB {W w w' : World} {row : Option Nat} {B0 : Nat} (h : Below B0 W w) (hg : w.grownBy w' row) (hr : ∀ k, row = some k → B0 ≤ k) (hs : B0 ≤ w.heap.size) : Below B0 W w' := h.grown hg hs hr
/-- What the closure reads. -/
structure PlacesAt (w : World) (A B b cap : Nat) (n : Nat) (F : Nat → Nat → Int) : Prop where
  la : A < w.heap.size
  lB : B < w.heap.size
  lb : b < w.heap.size
  ca : w.cell? ⟨A, 0, none⟩ = some (.slice (some ⟨b, 0, none⟩) n cap)
  cB : w.cell? ⟨B, 0, none⟩ = some (fnV A B)
  c0 : ∀ j, j < n → w.cell? ⟨b, j * 4, none⟩ = some (.int .i64 (F j 0))
  c1 : ∀ j, j < n → w.cell? ⟨b, j * 4 + 1, none⟩ = some (.int .i64 (F j 1))
  c2 : ∀ j, j < n → w.cell? ⟨b, j * 4 + 2, none⟩ = some (.int .i64 (F j 2))
  c3 : ∀ j, j < n → w.cell? ⟨b, j * 4 + 3, none⟩ = some (.int .i64 (F j 3))
theorem PlacesAt.below {w w' : World} {A B b cap n : Nat} {F : Nat → Nat → Int} (h : PlacesAt w A B b cap n F) (hb : Below w.heap.size w w') : PlacesAt w' A B b cap n F :=
  ⟨Nat.lt_of_lt_of_le h.la hb.size, Nat.lt_of_lt_of_le h.lB hb.size, Nat.lt_of_lt_of_le h.lb hb.size, (hb.cell (p := ⟨A, 0, none⟩) h.la).trans h.ca, (hb.cell (p := ⟨B, 0, none⟩) h.lB).trans h.cB,
   fun j hj => (hb.cell (p := ⟨b, j * 4, none⟩) h.lb).trans (h.c0 j hj), fun j hj => (hb.cell (p := ⟨b, j * 4 + 1, none⟩) h.lb).trans (h.c1 j hj), fun j hj => (hb.cell (p := ⟨b, j * 4 + 2, none⟩) h.lb).trans (h.c2 j hj), fun j hj => (hb.cell (p := ⟨b, j * 4 + 3, none⟩) h.lb).trans (h.c3 j hj)⟩
structure WordsOK (n : Nat) (F : Nat → Nat → Int) (Wd : Nat → List Int) : Prop where
  at' : ∀ j, j < n → (F j 0 = -1 ∧ Wd j = []) ∨ ∃ f c : Nat, F j 0 = (f : Int) ∧ F j 1 = (c : Int) ∧ f < j ∧ c ≤ 6 ∧ Wd j = Wd f ++ [(c : Int)]
  len : ∀ j, j < n → (Wd j).length ≤ 5100
def WordPost (xs : List Int) (w : World) (e : Ending) (w' : World) : Prop :=
  ∃ v, e = .returned v ∧ w'.ownsRow w.heap.size 3 1 v xs.length (xs.map (Value.int .i64)) ∧ Below w.heap.size w w'
set_option maxRecDepth 100000 in
set_option maxHeartbeats 4000000 in
theorem word96_any {n : Nat} {F : Nat → Nat → Int} {Wd : Nat → List Int} (HW : Hid (WordsOK n F Wd)) (A B b cap : Nat) (hn : n ≤ 5100) : ∀ j, j < n → ∀ w, PlacesAt w A B b cap n F →
    Calls Try.prog 96 #[.int .i64 (j : Nat), .pointer (some ⟨A, 0, none⟩), .pointer (some ⟨B, 0, none⟩)] w (WordPost (Wd j) w) := by
  intro j
  induction j using Nat.strongRecOn with
  | _ j ih =>
    intro hj w h
    obtain ⟨i0, hi0, hz0, hz1, hz2⟩ := info_parts info3
    have a0 := h.ca
    have a1 := h.c0 j hj
    have a2 := h.c1 j hj
    have a3 := h.c2 j hj
    have a4 := h.c3 j hj
    have l0 := h.la
    have l1 := h.lb
    have i1 : (0 : Int) ≤ (j : Int) := by omega
    have i2 : (j : Int) < (n : Int) := by omega
    have HP := hid h
    rcases HW.out.at' j hj with ⟨e0, e1⟩ | ⟨f, c, e0, e1, hf, hc, ew⟩
    · rw [e0] at a1
      clear e0 h ih
      unfold WordPost
      rw [e1]
      clear e1
      go_enter Try.func96, Try.ntmps96
      go_wp2_with fail
      go_ret
      exact ⟨_, rfl, World.ownsRow_nil _ _ _ _, below_alloc w _⟩
    · rw [e0] at a1
      rw [e1] at a2
      have IH := hid (fun w h => ih f hf (by omega) w h)
      have Hl := hid (HW.out.len f (by omega))
      have HWj := hid ew
      generalize F j 2 = x2 at *
      generalize F j 3 = x3 at *
      clear e0 e1 h ih ew hf
      have i3 : (0 : Int) ≤ (f : Int) := by omega
      go_enter Try.func96, Try.ntmps96
      go_wp2_with fail
      clear a0 a1 a2 a3 a4 l0 l1 i1 i2
      refine wp_region_but_d2 (fun w' => w'.cell? ⟨B, 0, none⟩ = some (.func (.func 96) #[] #[.pointer (some ⟨A, 0, none⟩), .pointer (some ⟨B, 0, none⟩)]) ∧ w'.cell? ⟨w.heap.size, 0, none⟩ = some (.int .i64 (f : Nat)) ∧ w'.cell? ⟨w.heap.size, 1, none⟩ = some (.int .i64 (c : Nat))) 8 (by kernel_rfl) ?_
      intro Z0 hZ0
      have hbX : Below w.heap.size w Z0 := by rw [hZ0]; exact (below_alloc w _).drew
      have hX : Below (w.heap.size + 1) (w.alloc (.cells #[.int .i64 (f : Nat), .int .i64 (c : Nat), .int .i64 x2, .int .i64 x3] 100)) Z0 := by rw [hZ0]; exact (Below.refl _ _).drew
      have HS : Hid (∀ w', Below Z0.heap.size Z0 w' → w'.cell? ⟨B, 0, none⟩ = some (.func (.func 96) #[] #[.pointer (some ⟨A, 0, none⟩), .pointer (some ⟨B, 0, none⟩)]) ∧ w'.cell? ⟨w.heap.size, 0, none⟩ = some (.int .i64 (f : Nat)) ∧ w'.cell? ⟨w.heap.size, 1, none⟩ = some (.int .i64 (c : Nat))) := hid (fun w' hb => by
        have hb1 := hX.trans (hb.mono (by have := hX.size; simp at this; omega))
        exact ⟨((hbX.trans (hb.mono hbX.size)).cell (p := ⟨B, 0, none⟩) HP.out.lB).trans HP.out.cB, (hb1.cell (p := ⟨w.heap.size, 0, none⟩) (by simp)).trans (by simp), (hb1.cell (p := ⟨w.heap.size, 1, none⟩) (by simp)).trans (by simp)⟩)
      have H20 := hid (HS.out Z0 (Below.refl _ _))
      have HB := hid hbX
      clear hZ0 hbX hX
      refine but_take (i := 0) (v := (.func (.func 96) #[] #[.pointer (some ⟨A, 0, none⟩), .pointer (some ⟨B, 0, none⟩)])) rfl (by kernel_rfl) (by kernel_rfl) (by kernel_rfl) (by kernel_rfl) (fun _ _ _ h => h) (Or.inl ⟨by rfl, ?hy⟩) H20.out ?_
      case hy => intro w hSw; (try dsimp only at hSw); go_simp
      try simp only [Act.put, List.setIfInBounds_toArray, List.set_cons_zero, List.set_cons_succ]
      refine but_take (i := 1) (v := (.pointer (some ⟨w.heap.size, 0, none⟩))) rfl (by kernel_rfl) (by kernel_rfl) (by kernel_rfl) (by kernel_rfl) (fun _ _ _ h => h) (Or.inl ⟨by rfl, ?hy⟩) H20.out ?_
      case hy => intro w hSw; (try dsimp only at hSw); go_simp
      try simp only [Act.put, List.setIfInBounds_toArray, List.set_cons_zero, List.set_cons_succ]
      refine but_take (i := 2) (v := (.int .i64 (f : Nat))) rfl (by kernel_rfl) (by kernel_rfl) (by kernel_rfl) (by kernel_rfl) (fun _ _ _ h => h) (Or.inl ⟨by rfl, ?hy⟩) H20.out ?_
      case hy => intro w hSw; (try dsimp only at hSw); go_simp
      try simp only [Act.put, List.setIfInBounds_toArray, List.set_cons_zero, List.set_cons_succ]
      refine but_take (i := 4) (v := (.pointer (some ⟨w.heap.size, 1, none⟩))) rfl (by kernel_rfl) (by kernel_rfl) (by kernel_rfl) (by kernel_rfl) (fun _ _ _ h => h) (Or.inl ⟨by rfl, ?hy⟩) H20.out ?_
      case hy => intro w hSw; (try dsimp only at hSw); go_simp
      try simp only [Act.put, List.setIfInBounds_toArray, List.set_cons_zero, List.set_cons_succ]
      refine but_take (i := 5) (v := (.int .i64 (c : Nat))) rfl (by kernel_rfl) (by kernel_rfl) (by kernel_rfl) (by kernel_rfl) (fun _ _ _ h => h) (Or.inl ⟨by rfl, ?hy⟩) H20.out ?_
      case hy => intro w hSw; (try dsimp only at hSw); go_simp
      try simp only [Act.put, List.setIfInBounds_toArray, List.set_cons_zero, List.set_cons_succ]
      refine but_two2 (i := 3) (j := 6) (by kernel_rfl) ?_ ?_
      · have HC := hid (IH.out Z0 (HP.out.below HB.out))
        refine wpOp_one rfl (by rfl) (fun K' hK => ?_)
        go_simp
        refine HC.out.mono ?_
        rintro e w2 ⟨v, rfl, hown, hb⟩
        refine hK _ _ ⟨fun _ => HS.out _ hb, ?_⟩
        clear hK K'
        try simp only [Act.put, List.setIfInBounds_toArray, List.set_cons_zero, List.set_cons_succ]
        obtain ⟨a3, k3, e3⟩ := row_shape hown
        subst e3
        have hbA := below_alloc w2 (.cells #[.int .i64 (c : Nat)] 3)
        have H21 := HS.out _ (hb.trans (hbA.mono hb.size))
        refine but_one (i := 6) (by kernel_rfl) ?_
        refine wpOp_one rfl (by rfl) (fun K hK => ?_)
        go_simp
        refine hK _ _ ⟨fun _ => H21, ?_⟩
        clear hK K
        try simp only [Act.put, List.setIfInBounds_toArray, List.set_cons_zero, List.set_cons_succ]
        refine but_one (i := 7) (by kernel_rfl) ?_
        refine wpOp_one rfl (by rfl) (fun K' hK => ?_)
        refine wp_append_own_at2 _ _ _ (by rfl) Z0.heap.size 3 i0 (.int .i64 0) 1 8 Try.underlying33 hi0 hz0 hz1 hz2 rfl (by omega) _ _ _ (by rfl) (hown.alloc _) ⟨w2.heap.size, 0, none⟩ 1 1 [.int .i64 (c : Nat)] (by rfl) (by rfl) (World.news_of_block (cs := #[.int .i64 (c : Nat)]) (t := 3) (fr := (0, 0)) (heap_alloc_new w2 _)) (by simp [Value.oneCell']) (by have := Hl.out; unfold maxLen; omega) (by have := Hl.out; omega) (by have := hb.size; simp; omega) ?_
        intro v4 w4 hown4 hgrow4 hat4
        have hb4 : Below Z0.heap.size Z0 w4 := (hb.trans (hbA.mono hb.size)).grown hgrow4 (by have := hb.size; simp; omega) fun g hg => (hown.lt g hg).1
        refine hK _ _ ⟨fun _ => HS.out _ hb4, ?_⟩
        clear hK K' hgrow4 hat4 H21 hbA hown hb
        try simp only [Act.put, List.setIfInBounds_toArray, List.set_cons_zero, List.set_cons_succ]
        refine but_one (i := 8) (by kernel_rfl) ?_
        refine wpOp_one rfl (by rfl) (fun K hK => ?_)
        go_simp
        refine hK _ _ ⟨fun h => absurd rfl h, but_done (by kernel_rfl) ?_ _⟩
        clear hK K
        try simp only [Act.put, List.setIfInBounds_toArray, List.set_cons_zero, List.set_cons_succ]
        go_wp2_with fail
        go_ret
        refine ⟨v4, rfl, ?_, HB.out.trans (hb4.mono HB.out.size)⟩
        rw [HWj.out, List.length_append, List.map_append]
        exact own_mono hown4 HB.out.size
      · refine wpOp_one rfl (by rfl) (fun K' hK => ?_)
        go_simp
        have hbA := below_alloc Z0 (.cells #[.int .i64 (c : Nat)] 3)
        refine hK _ _ ⟨fun _ => HS.out _ hbA, ?_⟩
        clear hK K'
        try simp only [Act.put, List.setIfInBounds_toArray, List.set_cons_zero, List.set_cons_succ]
        have HC := hid (IH.out (Z0.alloc (.cells #[.int .i64 (c : Nat)] 3)) (HP.out.below (HB.out.trans (hbA.mono HB.out.size))))
        refine but_one (i := 3) (by kernel_rfl) ?_
        refine wpOp_one rfl (by rfl) (fun K' hK => ?_)
        go_simp
        refine HC.out.mono ?_
        rintro e w2 ⟨v, rfl, hown, hb⟩
        have hbz : Below Z0.heap.size Z0 w2 := hbA.trans (hb.mono (by simp))
        refine hK _ _ ⟨fun _ => HS.out _ hbz, ?_⟩
        clear hK K'
        try simp only [Act.put, List.setIfInBounds_toArray, List.set_cons_zero, List.set_cons_succ]
        obtain ⟨a3, k3, e3⟩ := row_shape hown
        subst e3
        have hnw := World.news_of_block (cs := #[.int .i64 (c : Nat)]) (t := 3) (fr := (0, 0)) (heap_alloc_new Z0 (.cells #[.int .i64 (c : Nat)] 3))
        refine but_one (i := 7) (by kernel_rfl) ?_
        refine wpOp_one rfl (by rfl) (fun K' hK => ?_)
        refine wp_append_own_at2 _ _ _ (by rfl) Z0.heap.size 3 i0 (.int .i64 0) 1 8 Try.underlying33 hi0 hz0 hz1 hz2 rfl (by omega) _ _ _ (by rfl) (own_mono hown (by simp)) ⟨Z0.heap.size, 0, none⟩ 1 1 [.int .i64 (c : Nat)] (by rfl) (by rfl) (fun t u hu => by
          have h0 := hnw t u hu
          rw [show (⟨Z0.heap.size, 0, none⟩ : Addr).add t = ⟨Z0.heap.size, 0 + t, none⟩ from add_plain0 _ _ _] at h0 ⊢
          rw [hb.cell (p := ⟨Z0.heap.size, 0 + t, none⟩) (by simp)]
          exact h0) (by simp [Value.oneCell']) (by have := Hl.out; unfold maxLen; omega) (by have := Hl.out; omega) (by have := hbz.size; omega) ?_
        intro v4 w4 hown4 hgrow4 hat4
        have hb4 : Below Z0.heap.size Z0 w4 := grown_ofB hbz hgrow4 (fun g hg => by have := (hown.lt g hg).1; simp at this; omega) hbz.size
        refine hK _ _ ⟨fun _ => HS.out _ hb4, ?_⟩
        clear hK K' hgrow4 hat4 hbA hown hb hbz hnw
        try simp only [Act.put, List.setIfInBounds_toArray, List.set_cons_zero, List.set_cons_succ]
        refine but_one (i := 8) (by kernel_rfl) ?_
        refine wpOp_one rfl (by rfl) (fun K hK => ?_)
        go_simp
        refine hK _ _ ⟨fun h => absurd rfl h, but_done (by kernel_rfl) ?_ _⟩
        clear hK K
        try simp only [Act.put, List.setIfInBounds_toArray, List.set_cons_zero, List.set_cons_succ]
        go_wp2_with fail
        go_ret
        refine ⟨v4, rfl, ?_, HB.out.trans (hb4.mono HB.out.size)⟩
        rw [HWj.out, List.length_append, List.map_append]
        exact own_mono hown4 HB.out.size

def fourF (K : Int) (P : List (Int × Int)) (S : List Int) (j r : Nat) : Int := if r = 0 then (P.getD j (0, 0)).1 else if r = 1 then (P.getD j (0, 0)).2 else if r = 2 then S.getD j 0 / K else S.getD j 0 % K
theorem PkI.places {V w : World} {mb A B n b cap : Nat} {K : Int} {S Sm : List Int} {P : List (Int × Int)} (h : PkI V mb A B K S Sm P (.slice (some ⟨b, 0, none⟩) n cap) w) (h1 : 1 ≤ S.length) (hn : n = S.length) : PlacesAt w A B b cap n (fourF K P S) := by
  have hc : ∀ j, j < n → b < w.heap.size ∧ w.cell? ⟨b, j * 4, none⟩ = some (.int .i64 (P.getD j (0, 0)).1) ∧ w.cell? ⟨b, j * 4 + 1, none⟩ = some (.int .i64 (P.getD j (0, 0)).2) ∧ w.cell? ⟨b, j * 4 + 2, none⟩ = some (.int .i64 (S.getD j 0 / K)) ∧ w.cell? ⟨b, j * 4 + 3, none⟩ = some (.int .i64 (S.getD j 0 % K)) := by
    intro j hj
    obtain ⟨b', cap', e, hlt, _, c0, c1, c2, c3⟩ := h.cells (i := j) (by omega)
    cases e
    exact ⟨hlt, c0, c1, c2, c3⟩
  exact ⟨h.ga.lt, h.gb.lt, (hc 0 (by omega)).1, h.ga.cell (i := 0) (by omega), h.gb.cell (i := 0) (by omega), fun j hj => (hc j hj).2.1, fun j hj => (hc j hj).2.2.1, fun j hj => (hc j hj).2.2.2.1, fun j hj => (hc j hj).2.2.2.2⟩
theorem words_ok {step : Int → Nat → Int} {K : Int} {P : List (Int × Int)} {Wd : List (List Int)} {S : List Int} (h : ParOK step P Wd S) (hl : ∀ j, j < S.length → (Wd.getD j []).length ≤ 5100) : WordsOK S.length (fourF K P S) (fun j => Wd.getD j []) := by
  refine ⟨fun j hj => ?_, hl⟩
  rcases h.at' j hj with ⟨e1, e2⟩ | ⟨f, c, e1, h2, h3, h4⟩
  · refine .inl ⟨?_, e2⟩
    show (P.getD j (0, 0)).1 = -1
    rw [e1]
  · refine .inr ⟨f, c, ?_, ?_, h2, h3, h4⟩
    · show (P.getD j (0, 0)).1 = _
      rw [e1]
    · show (P.getD j (0, 0)).2 = _
      rw [e1]
end Go.Proofs.Ytmllbemjcfkmjaa
