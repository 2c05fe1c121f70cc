/- What stands while the plain form finds the states: one bundle for the loop on states, one for the loop on letters; how each operation carries them. -/
import Derived.Test.YtmllbemjcfkmjaaPlainMem
namespace Go.Proofs.Ytmllbemjcfkmjaa
open Go.RowKit Go.Maps
set_option linter.unusedSimpArgs false
set_option linter.unusedVariables false

structure PlI (w0 : World) (B mb L : Nat) (step : Int → Nat → Int) (i : Nat) (S Sm : List Int) (v4 v6 : Value) (R : Nat → Value) (w : World) : Prop where
  bl : Below B w0 w
  own : w.ownsRow B 3 1 v4 S.length (S.map (Value.int .i64))
  map : MapOf Try.prog 3 w mb Sm.length (gN Sm)
  rows : w.ownsRow B 33 1 v6 i ((List.range i).map R)
  rs : RowsOwn w B R L (fun j => rowP L step j L) i v4
  ge : B ≤ mb
  sz : B ≤ w.heap.size
structure PlJ (w0 : World) (B mb L : Nat) (step : Int → Nat → Int) (i a : Nat) (S Sm : List Int) (v4 v6 v8 : Value) (R : Nat → Value) (w : World) : Prop where
  I : PlI w0 B mb L step i S Sm v4 v6 R w
  own8 : w.ownsRow B 3 1 v8 a ((rowP L step i a).map (Value.int .i64))
  ap : Apart v4 v8
  rs8 : RowsOwn w B R L (fun j => rowP L step j L) i v8
section
variable {w0 w w' : World} {B mb L : Nat} {step : Int → Nat → Int} {i a : Nat} {S Sm S' : List Int} {v4 v6 v8 v' : Value} {R : Nat → Value} {o : Obj}
theorem PlI.start {w : World} (hb : Below B w0 w) (v : Value) (h4 : w.ownsRow B 3 1 v 1 [.int .i64 0]) (hm : MapOf Try.prog 3 w mb 1 (gN [0])) (hge : B ≤ mb) (hsz : B ≤ w.heap.size) (R : Nat → Value) :
    PlI w0 B mb L step 0 (raw L step 0) (raw L step 0) v (.slice none 0 0) R w :=
  ⟨hb, h4, hm, World.ownsRow_nil _ _ _ _, fun j hj => absurd hj (Nat.not_lt_zero j), hge, hsz⟩
theorem PlI.below (h : PlI w0 B mb L step i S Sm v4 v6 R w) (hb : Below w.heap.size w w') : PlI w0 B mb L step i S Sm v4 v6 R w' :=
  ⟨h.bl.trans (hb.mono h.sz), own_below h.own hb, h.map.below hb h.map.lt, own_below h.rows hb, h.rs.below hb, h.ge, Nat.le_trans h.sz hb.size⟩
theorem PlI.inner (h : PlI w0 B mb L step i S Sm v4 v6 R w) : PlJ w0 B mb L step i 0 S Sm v4 v6 (.slice none 0 0) R w :=
  ⟨h, World.ownsRow_nil _ _ _ _, (apart_nil v4).symm, fun j hj => ⟨(h.rs j hj).1, apart_nil _⟩⟩
theorem PlJ.below (h : PlJ w0 B mb L step i a S Sm v4 v6 v8 R w) (hb : Below w.heap.size w w') : PlJ w0 B mb L step i a S Sm v4 v6 v8 R w' :=
  ⟨h.I.below hb, own_below h.own8 hb, h.ap, h.rs8.below hb⟩
theorem PlJ.insert (h : PlJ w0 B mb L step i a S Sm v4 v6 v8 R w) (hg : w.grownBy w' (some mb)) (hm : MapOf Try.prog 3 w' mb S'.length (gN S')) : PlJ w0 B mb L step i a S S' v4 v6 v8 R w' :=
  ⟨⟨h.I.bl.grown hg h.I.sz fun k hk => by cases hk; exact h.I.ge, own_map h.I.own h.I.map hg, hm, own_map h.I.rows h.I.map hg, h.I.rs.map h.I.map hg, h.I.ge, Nat.le_trans h.I.sz hg.size⟩, own_map h.own8 h.I.map hg, h.ap, h.rs8.map h.I.map hg⟩
theorem map_kept {k n : Nat} {g : Value → Option Value} {e : TypeId} {v : Value} {m : Nat} {xs : List Value} (h : MapOf Try.prog k w mb n g) (ho : w.ownsRow B e 1 v m xs) (hg : (w.alloc o).grownBy w' v.ownBlock) : MapOf Try.prog k w' mb n g :=
  (h.grown (World.grownBy_alloc w o none) (by simp)).grown hg (h.own_ne ho)
theorem bl_kept {e : TypeId} {v : Value} {m : Nat} {xs : List Value} (h : Below B w0 w) (hsz : B ≤ w.heap.size) (ho : w.ownsRow B e 1 v m xs) (hg : (w.alloc o).grownBy w' v.ownBlock) : Below B w0 w' ∧ B ≤ w'.heap.size := by
  have h1 : B ≤ (w.alloc o).heap.size := by simp; omega
  exact ⟨(h.alloc hsz o).grown hg h1 fun k hk => (ho.lt k hk).1, Nat.le_trans h1 hg.size⟩
theorem PlJ.push (h : PlJ w0 B mb L step i a S Sm v4 v6 v8 R w) (hg : (w.alloc o).grownBy w' v4.ownBlock) (ho : w'.ownsRow B 3 1 v' S'.length (S'.map (Value.int .i64)))
    (hl : v'.ownBlock = v4.ownBlock ∨ v'.ownBlock = some (w.alloc o).heap.size) : PlJ w0 B mb L step i a S' Sm v' v6 v8 R w' := by
  have hb := bl_kept h.I.bl h.I.sz h.I.own hg
  exact ⟨⟨hb.1, ho, map_kept h.I.map h.I.own hg, own_kept h.I.rows hg (own_types h.I.rows h.I.own (by decide)), h.I.rs.grown hg hl, h.I.ge, hb.2⟩, own_kept h.own8 hg h.ap, apart_new h.own8 h.ap hl, h.rs8.other h.I.rs hg⟩
theorem PlJ.push8 (h : PlJ w0 B mb L step i a S Sm v4 v6 v8 R w) (hg : (w.alloc o).grownBy w' v8.ownBlock) (ho : w'.ownsRow B 3 1 v' (a + 1) ((rowP L step i (a + 1)).map (Value.int .i64)))
    (hl : v'.ownBlock = v8.ownBlock ∨ v'.ownBlock = some (w.alloc o).heap.size) : PlJ w0 B mb L step i (a + 1) S Sm v4 v6 v' R w' := by
  have hb := bl_kept h.I.bl h.I.sz h.own8 hg
  exact ⟨⟨hb.1, own_kept h.I.own hg h.ap.symm, map_kept h.I.map h.own8 hg, own_kept h.I.rows hg (own_types h.I.rows h.own8 (by decide)), h.I.rs.other h.rs8 hg, h.I.ge, hb.2⟩, ho, (apart_new h.I.own h.ap.symm hl).symm, h.rs8.grown hg hl⟩
theorem PlJ.close (h : PlJ w0 B mb L step i L S Sm v4 v6 v8 R w) (hg : (w.alloc o).grownBy w' v6.ownBlock) (ho : w'.ownsRow B 33 1 v' (i + 1) ((List.range i).map R ++ [v8])) :
    PlI w0 B mb L step (i + 1) S Sm v4 v' (fun j => if j = i then v8 else R j) w' := by
  have hb := bl_kept h.I.bl h.I.sz h.I.rows hg
  refine ⟨hb.1, own_kept h.I.own hg (own_types h.I.own h.I.rows (by decide)), map_kept h.I.map h.I.rows hg, ?_, fun j hj => ?_, h.I.ge, hb.2⟩
  · have e : (List.range (i + 1)).map (fun j => if j = i then v8 else R j) = (List.range i).map R ++ [v8] := by
      rw [List.range_succ, List.map_append]
      simp only [List.map_cons, List.map_nil, if_true]
      congr 1
      refine List.map_congr_left fun j hj => ?_
      have := List.mem_range.1 hj
      rw [if_neg (by omega)]
    rw [e]
    exact ho
  · by_cases e : j = i
    · subst e
      simp only [if_true]
      exact ⟨own_kept h.own8 hg (own_types h.own8 h.I.rows (by decide)), h.ap⟩
    · have hj' : j < i := by omega
      simp only [e, if_false]
      exact ⟨own_kept (h.I.rs j hj').1 hg (own_types (h.I.rs j hj').1 h.I.rows (by decide)), (h.I.rs j hj').2⟩
end
theorem row_len {w : World} {B n : Nat} {v : Value} {xs : List Value} (h : w.ownsRow B 33 1 v n xs) : ∃ a cap, v = .slice a n cap := by
  rcases h.2 with ⟨rfl, rfl⟩ | ⟨g, cap, cur, rfl, _⟩
  · exact ⟨_, _, rfl⟩
  · exact ⟨_, _, rfl⟩
theorem own_cell {w : World} {B n : Nat} {e : TypeId} {v : Value} {xs : List Value} (h : w.ownsRow B e 1 v n xs) (i : Nat) (hi : i < n) : ∃ b cap, v = .slice (some ⟨b, 0, none⟩) n cap ∧ b < w.heap.size ∧ w.cell? ⟨b, i, none⟩ = xs[i]? := by
  rcases h.2 with ⟨_, h0⟩ | ⟨gb, cap, cur, rfl, hb, hg, hn, hcm, hcs, htake⟩
  · omega
  · refine ⟨gb, cap, rfl, (Array.getElem?_eq_some_iff.1 hg).1, ?_⟩
    rw [cell_of_row w gb i cur e (0, 0) hg]
    have e : (cur.toList.take (n * 1))[i]? = xs[i]? := by rw [htake]
    rw [List.getElem?_take, if_pos (by omega)] at e
    rw [← Array.getElem?_toList, e]
end Go.Proofs.Ytmllbemjcfkmjaa
