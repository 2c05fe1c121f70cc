/- What the document's 'made' keeps in memory. -/
import Derived.Test.YtmllbemjcfkmjaaRuleFn
import Derived.Test.YtmllbemjcfkmjaaPPart
import Derived.Test.YtmllbemjcfkmjaaProd
import Derived.Deep.DeepCutAuto
namespace Go.Proofs.Ytmllbemjcfkmjaa
open Go.RowKit Go.Maps
set_option linter.unusedSimpArgs false
set_option linter.unusedVariables false

def recC (c : Int) : List Value := [.int .i64 (rL c - 1), .int .i64 (rB c - 1), .int .i64 (rT c), .bool (decide (rX c = 1))]
def rowsR (S : List Int) : List Value := S.flatMap recC
theorem rowsR_snoc (S : List Int) (c : Int) : rowsR (S ++ [c]) = rowsR S ++ recC c := by simp [rowsR]
theorem rowsR_len (S : List Int) : (rowsR S).length = S.length * 4 := by
  unfold rowsR
  induction S with
  | nil => rfl
  | cons c S ih => rw [List.flatMap_cons, List.length_append, ih]; simp [recC]; omega
theorem rowsR_get (S : List Int) (j : Nat) (hj : j < S.length) (r : Nat) (hr : r < 4) : (rowsR S)[j * 4 + r]? = (recC (S.getD j 0))[r]? := by
  unfold rowsR
  induction S generalizing j with
  | nil => simp at hj
  | cons c S ih =>
    rw [List.flatMap_cons]
    cases j with
    | zero =>
      rw [List.getElem?_append_left (by simp [recC]; omega)]
      simp
    | succ j =>
      rw [List.getElem?_append_right (by simp [recC]; omega)]
      have e : (j + 1) * 4 + r - (recC c).length = j * 4 + r := by simp [recC]; omega
      rw [e, ih j (by simp at hj; omega)]
      simp
structure MkO (V : World) (mb bx L n : Nat) (f : Nat → List Int) (S Sm : List Int) (bs : List Bool) (v4 vn vb : Value) (Q : Nat → Value) (w : World) : Prop where
  bl : Below V.heap.size V w
  ge : V.heap.size ≤ bx
  gm : V.heap.size ≤ mb
  ne : bx ≠ mb
  out : w.rowIs bx 25 3 (outF L vn vb)
  map : MapOf Try.prog 122 w mb Sm.length (gE recV Sm)
  st : w.ownsRow V.heap.size 122 4 v4 S.length (rowsR S)
  nx : w.ownsRow V.heap.size 33 1 vn n ((List.range n).map Q)
  rs : ∀ k, k < n → w.ownsRow V.heap.size 3 1 (Q k) L ((f k).map (Value.int .i64))
  ac : w.ownsRow V.heap.size 4 1 vb bs.length (bs.map Value.bool)
structure MkJ (V : World) (mb bx L n : Nat) (f : Nat → List Int) (S Sm : List Int) (bs : List Bool) (v4 vn vb v8 : Value) (Q : Nat → Value) (a : Nat) (r : List Int) (w : World) : Prop where
  O : MkO V mb bx L n f S Sm bs v4 vn vb Q w
  own8 : w.ownsRow V.heap.size 3 1 v8 a (r.map (Value.int .i64))
  ap8 : ∀ k, k < n → Apart v8 (Q k)
section
variable {V w w' : World} {mb bx L n a : Nat} {f : Nat → List Int} {S Sm S' Sm' : List Int} {bs : List Bool} {v4 vn vb v8 v' : Value} {Q : Nat → Value} {r r' : List Int} {o : Obj}
theorem own_keptG {B z m e : Nat} {u v : Value} {xs : List Value} (h : w.ownsRow B e z u m xs) (hg : (w.alloc o).grownBy w' v.ownBlock) (ha : Apart v u) : w'.ownsRow B e z u m xs :=
  (h.alloc o).kept hg ha.ne
theorem map_setZ {b N t kt : Nat} {g : Nat → Value} {k : Nat} {h' : Value → Option Value} (h : MapOf Try.prog kt w mb k h') (hne : b ≠ mb) (i : Nat) (u : Value) : MapOf Try.prog kt (w.setCell ⟨b, i, none⟩ u) mb k h' :=
  h.of_block (Below.heap_setCell w ⟨b, i, none⟩ u mb (fun e => hne e.symm))
theorem mapZ_kept {kt k m z : Nat} {g : Value → Option Value} {e B : Nat} {v : Value} {xs : List Value} (h : MapOf Try.prog kt w mb k g) (ho : w.ownsRow B e z v m xs) (hg : (w.alloc o).grownBy w' v.ownBlock) : MapOf Try.prog kt w' mb k g :=
  (h.grown (World.grownBy_alloc w o none) (by simp)).grown hg (h.own_ne ho)
theorem blZ_kept {e m z : Nat} {v : Value} {xs : List Value} (h : Below V.heap.size V w) (ho : w.ownsRow V.heap.size e z v m xs) (hg : (w.alloc o).grownBy w' v.ownBlock) : Below V.heap.size V w' :=
  (h.alloc h.size o).grown hg (by have := h.size; simp; omega) fun k hk => (ho.lt k hk).1
theorem MkO.below (h : MkO V mb bx L n f S Sm bs v4 vn vb Q w) (hb : Below w.heap.size w w') : MkO V mb bx L n f S Sm bs v4 vn vb Q w' :=
  ⟨h.bl.trans (hb.mono h.bl.size), h.ge, h.gm, h.ne, rowIs_below h.out hb h.out.lt, h.map.below hb h.map.lt, own_belowG h.st hb, own_below h.nx hb, fun k hk => own_below (h.rs k hk) hb, own_below h.ac hb⟩
theorem MkJ.below (h : MkJ V mb bx L n f S Sm bs v4 vn vb v8 Q a r w) (hb : Below w.heap.size w w') : MkJ V mb bx L n f S Sm bs v4 vn vb v8 Q a r w' :=
  ⟨h.O.below hb, own_below h.own8 hb, h.ap8⟩
theorem MkO.inner (h : MkO V mb bx L n f S Sm bs v4 vn vb Q w) : MkJ V mb bx L n f S Sm bs v4 vn vb (.slice none 0 0) Q 0 [] w :=
  ⟨h, World.ownsRow_nil _ _ _ _, fun k hk => apart_nil _⟩
theorem MkJ.insert (h : MkJ V mb bx L n f S Sm bs v4 vn vb v8 Q a r w) (hg : w.grownBy w' (some mb)) (hm : MapOf Try.prog 122 w' mb Sm'.length (gE recV Sm')) : MkJ V mb bx L n f S Sm' bs v4 vn vb v8 Q a r w' :=
  ⟨⟨h.O.bl.grown hg h.O.bl.size fun k hk => by cases hk; exact h.O.gm, h.O.ge, h.O.gm, h.O.ne, rowIs_map h.O.out h.O.map hg h.O.ne, hm, own_mapG h.O.st h.O.map hg, own_mapG h.O.nx h.O.map hg, fun k hk => own_mapG (h.O.rs k hk) h.O.map hg, own_mapG h.O.ac h.O.map hg⟩, own_mapG h.own8 h.O.map hg, h.ap8⟩
theorem MkJ.push (h : MkJ V mb bx L n f S Sm bs v4 vn vb v8 Q a r w) (hg : (w.alloc o).grownBy w' v4.ownBlock) (ho : w'.ownsRow V.heap.size 122 4 v' S'.length (rowsR S')) : MkJ V mb bx L n f S' Sm bs v' vn vb v8 Q a r w' :=
  ⟨⟨blZ_kept h.O.bl h.O.st hg, h.O.ge, h.O.gm, h.O.ne, row_keptZ h.O.out h.O.st (by decide) hg, mapZ_kept h.O.map h.O.st hg, ho, own_keptG h.O.nx hg (own_typesG h.O.nx h.O.st (by decide)),
    fun k hk => own_keptG (h.O.rs k hk) hg (own_typesG (h.O.rs k hk) h.O.st (by decide)), own_keptG h.O.ac hg (own_typesG h.O.ac h.O.st (by decide))⟩,
   own_keptG h.own8 hg (own_typesG h.own8 h.O.st (by decide)), h.ap8⟩
theorem MkJ.push8 (h : MkJ V mb bx L n f S Sm bs v4 vn vb v8 Q a r w) (hg : (w.alloc o).grownBy w' v8.ownBlock) (ho : w'.ownsRow V.heap.size 3 1 v' (a + 1) (r'.map (Value.int .i64)))
    (hl : v'.ownBlock = v8.ownBlock ∨ v'.ownBlock = some (w.alloc o).heap.size) : MkJ V mb bx L n f S Sm bs v4 vn vb v' Q (a + 1) r' w' :=
  ⟨⟨blZ_kept h.O.bl h.own8 hg, h.O.ge, h.O.gm, h.O.ne, row_keptZ h.O.out h.own8 (by decide) hg, mapZ_kept h.O.map h.own8 hg, own_keptG h.O.st hg (own_typesG h.O.st h.own8 (by decide)), own_keptG h.O.nx hg (own_typesG h.O.nx h.own8 (by decide)),
    fun k hk => own_kept (h.O.rs k hk) hg (h.ap8 k hk), own_keptG h.O.ac hg (own_typesG h.O.ac h.own8 (by decide))⟩,
   ho, fun k hk => apart_new (h.O.rs k hk) (h.ap8 k hk) hl⟩
theorem MkJ.close (h : MkJ V mb bx L n f S Sm bs v4 vn vb v8 Q L (f n) w) (hg : (w.alloc o).grownBy w' vn.ownBlock) (ho : w'.ownsRow V.heap.size 33 1 v' (n + 1) ((List.range n).map Q ++ [v8])) :
    MkO V mb bx L (n + 1) f S Sm bs v4 v' vb (fun k => if k = n then v8 else Q k) (w'.setCell ⟨bx, 1, none⟩ v') := by
  have hout := row_keptZ h.O.out h.O.nx (by decide) hg
  refine ⟨(blZ_kept h.O.bl h.O.nx hg).setCell h.O.ge _, h.O.ge, h.O.gm, h.O.ne, outG1 hout v', map_setZ (t := 0) (N := 0) (g := fun _ => undef) (mapZ_kept h.O.map h.O.nx hg) h.O.ne _ _,
    own_setZ (own_keptG h.O.st hg (own_typesG h.O.st h.O.nx (by decide))) hout (by decide) _ _, ?_, fun k hk => ?_, own_setZ (own_keptG h.O.ac hg (own_typesG h.O.ac h.O.nx (by decide))) hout (by decide) _ _⟩
  · rw [range_snoc]
    exact own_setZ ho hout (by decide) _ _
  · refine own_setZ ?_ hout (by decide) _ _
    by_cases e : k = n
    · subst e
      simp only [if_true]
      exact own_keptG h.own8 hg (own_typesG h.own8 h.O.nx (by decide))
    · simp only [e, if_false]
      exact own_keptG (h.O.rs k (by omega)) hg (own_typesG (h.O.rs k (by omega)) h.O.nx (by decide))
theorem MkO.accept (h : MkO V mb bx L n f S Sm bs v4 vn vb Q w) (x : Bool) (hg : (w.alloc o).grownBy w' vb.ownBlock) (ho : w'.ownsRow V.heap.size 4 1 v' (bs.length + 1) (bs.map Value.bool ++ [.bool x])) :
    MkO V mb bx L n f S Sm (bs ++ [x]) v4 vn v' Q (w'.setCell ⟨bx, 2, none⟩ v') := by
  have hout := row_keptZ h.out h.ac (by decide) hg
  refine ⟨(blZ_kept h.bl h.ac hg).setCell h.ge _, h.ge, h.gm, h.ne, outG2 hout v', map_setZ (t := 0) (N := 0) (g := fun _ => undef) (mapZ_kept h.map h.ac hg) h.ne _ _,
    own_setZ (own_keptG h.st hg (own_typesG h.st h.ac (by decide))) hout (by decide) _ _, own_setZ (own_keptG h.nx hg (own_typesG h.nx h.ac (by decide))) hout (by decide) _ _,
    fun k hk => own_setZ (own_keptG (h.rs k hk) hg (own_typesG (h.rs k hk) h.ac (by decide))) hout (by decide) _ _, ?_⟩
  have := own_setZ ho hout (by decide) 2 v'
  rw [show (bs ++ [x]).length = bs.length + 1 by simp, List.map_append]
  exact this
theorem MkO.cells (h : MkO V mb bx L n f S Sm bs v4 vn vb Q w) {i : Nat} (hi : i < S.length) : ∃ b cap, v4 = .slice (some ⟨b, 0, none⟩) S.length cap ∧ b < w.heap.size ∧ V.heap.size ≤ b ∧ w.cell? ⟨b, i * 4, none⟩ = some (.int .i64 (rL (S.getD i 0) - 1)) ∧ w.cell? ⟨b, i * 4 + 1, none⟩ = some (.int .i64 (rB (S.getD i 0) - 1)) ∧
    w.cell? ⟨b, i * 4 + 2, none⟩ = some (.int .i64 (rT (S.getD i 0))) ∧ w.cell? ⟨b, i * 4 + 3, none⟩ = some (.bool (decide (rX (S.getD i 0) = 1))) := by
  obtain ⟨g, cap, rfl, hge, hlt⟩ := h.st.form (by omega)
  refine ⟨g, cap, rfl, hlt, hge, ?_, ?_, ?_, ?_⟩
  · rw [h.st.cellAt (i * 4) (by omega)]
    exact (rowsR_get S i hi 0 (by omega)).trans rfl
  · rw [h.st.cellAt (i * 4 + 1) (by omega)]
    exact (rowsR_get S i hi 1 (by omega)).trans rfl
  · rw [h.st.cellAt (i * 4 + 2) (by omega)]
    exact (rowsR_get S i hi 2 (by omega)).trans rfl
  · rw [h.st.cellAt (i * 4 + 3) (by omega)]
    exact (rowsR_get S i hi 3 (by omega)).trans rfl
end
theorem rec0 : recV 0 = .agg #[.int .i64 (-1), .int .i64 (-1), .int .i64 0, .bool false] := by
  have e : rL 0 = 0 ∧ rB 0 = 0 ∧ rT 0 = 0 ∧ rX 0 = 0 := by unfold rL rB rT rX; omega
  unfold recV rvV
  rw [e.1, e.2.1, e.2.2.1, e.2.2.2]
  rfl
theorem rows0 : rowsR [0] = [.int .i64 (-1), .int .i64 (-1), .int .i64 0, .bool false] := by
  have e : rL 0 = 0 ∧ rB 0 = 0 ∧ rT 0 = 0 ∧ rX 0 = 0 := by unfold rL rB rT rX; omega
  unfold rowsR recC
  simp [e.1, e.2.1, e.2.2.1, e.2.2.2]
theorem mk_start {V w4 : World} (L : Nat) (f : Nat → List Int) (Q : Nat → Value) (hM : MapOf Try.prog 122 w4 (V.heap.size + 1) 1 (gE recV [0])) (hg : ((V.alloc (.cells #[.int .i64 (-1), .int .i64 (-1), .int .i64 0, .bool false] 122)).alloc (.map #[] 0)).grownBy w4 (some (V.heap.size + 1))) (hz : w4.heap.size = V.heap.size + 1 + 1) :
    MkO V (V.heap.size + 1) (V.heap.size + 1 + 1) L 0 f [0] [0] [] (.slice (some ⟨V.heap.size, 0, none⟩) 1 1) (.slice none 0 0) (.slice none 0 0) Q (w4.alloc (.cells #[.int .i64 L, .slice none 0 0, .slice none 0 0] 25)) := by
  have hb4 : Below V.heap.size V w4 := (((below_alloc V _).alloc (by simp) _)).grown hg (by simp; omega) fun k hk => by cases hk; omega
  have ho := World.ownsRow_lit (base := V.heap.size) (e := 122) (size := 4) V #[.int .i64 (-1), .int .i64 (-1), .int .i64 0, .bool false] 1 (Nat.le_refl _) (by unfold maxLen; omega) rfl
  refine ⟨hb4.alloc hb4.size _, by omega, by omega, by omega, ?_, ?_, ?_, World.ownsRow_nil _ _ _ _, fun k hk => absurd hk (Nat.not_lt_zero k), World.ownsRow_nil _ _ _ _⟩
  · rw [← hz]
    exact (PlO.start w4 L (fun _ => []) (fun _ => undef)).out
  · exact hM.grown (World.grownBy_alloc w4 _ none) (by simp)
  · rw [rows0]
    have h1 := (ho.alloc (.map #[] 0)).kept hg (.inr (by intro e; have e' : some V.heap.size = some (V.heap.size + 1) := e; simp at e'))
    exact h1.alloc _
/-- What was built is the machine of the list. -/
theorem MkO.mac {V w : World} {mb bx L : Nat} {n : Nat} {bs : List Bool} {v4 vn vb : Value} {Q : Nat → Value} {step : Int → Nat → Int} {ac : Int → Bool} {S Sm : List Int} {z : Int} (hz : z.toNat = L) (hn : n = S.length) (hbs : bs = S.map ac) {f : Nat → List Int} (hf : ∀ j, j < n → f j = rowA L step S j) (h : MkO V mb bx L n f S Sm bs v4 vn vb Q w) (h1 : 1 ≤ n) :
    ∃ a cap a2 cap2, vn = .slice a n cap ∧ vb = .slice a2 n cap2 ∧ MacAt w a cap a2 cap2 (prodM z step ac S) := by
  subst hn hbs hz
  have h3 := h.ac
  have e3 : (S.map ac).length = S.length := by simp
  obtain ⟨a2, cap2, rfl, hB, b1, b2⟩ := own_bools h3
  rcases h.nx.2 with ⟨rfl, h0⟩ | ⟨gb, cap, cur, rfl, hb, hg, hn, hcm, hcs, htake⟩
  · omega
  · refine ⟨some ⟨gb, 0, none⟩, cap, a2, cap2, rfl, by rw [e3], ⟨by rw [prod_n]; omega, hcm, b1, b2, hB, fun j hj => ?_⟩⟩
    rw [prod_n] at hj
    have hr : w.ownsRow V.heap.size 3 1 (Q j) z.toNat ((rowA z.toNat step S j).map (Value.int .i64)) := by rw [← hf j hj]; exact h.rs j hj
    rw [prod_row hj]
    have hl := rowA_len z.toNat step S j
    generalize rowA z.toNat step S j = xs at hr hl ⊢
    rw [← hl] at hr
    obtain ⟨ra, rc, er, hI, r1, r2⟩ := own_ints hr
    refine ⟨gb, 0, rfl, (Array.getElem?_eq_some_iff.1 hg).1, ra, rc, ?_, r1, r2, hI⟩
    rw [cell_of_row w gb (0 + j) cur 33 (0, 0) hg, Nat.zero_add]
    have e : (cur.toList.take (S.length * 1))[j]? = ((List.range S.length).map Q)[j]? := by rw [htake]
    rw [List.getElem?_take, if_pos (by omega)] at e
    rw [← Array.getElem?_toList, e]
    simp [hj, er]
theorem info122 : (Try.prog.info? 122).map (fun i => (i.zero, i.size, i.bytes)) = some (some (.agg #[.int .i64 0, .int .i64 0, .int .i64 0, .bool false]), 4, 32) := by kernel_rfl
end Go.Proofs.Ytmllbemjcfkmjaa
