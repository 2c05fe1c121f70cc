/- 'play': the weights behind all rounds, and what the office said in each. -/
import Derived.Test.YtedgndangamkaaaLearn
import Derived.Deep.RegionHeld3
import Derived.Deep.AppendLies
namespace Go.Proofs.Ytedgndangamkaaa
open Go.RowKit
set_option linter.unusedSimpArgs false
set_option linter.unusedVariables false

theorem info4 : (Try.prog.info? 4).map (fun i => (i.zero, i.size, i.bytes)) = some (some (.bool false), 1, 1) := by kernel_rfl
def sd (g : List Rd) (k : Nat) : List Bool := (List.range k).map (saidB g)
theorem sd_len (g : List Rd) (k : Nat) : (sd g k).length = k := by simp [sd]
theorem sd_succ (g : List Rd) (k : Nat) : sd g (k + 1) = sd g k ++ [saidB g k] := by simp [sd, List.range_succ]
theorem sd_at (g : List Rd) (k i : Nat) (h : i < k) : bth (sd g k) i = saidB g i := by simp [bth, sd, List.getD, h]
/-- The weights of all eight places. -/
def tbl (g : List Rd) (k a : Nat) : Int := if a < (adv g 0).length then wt (wrg g a k) else wt 0
theorem tbl_bd (g : List Rd) (k a : Nat) : 0 ≤ tbl g k a ∧ tbl g k a ≤ 16777216 := by
  have h1 := wt_bd (wrg g a k)
  have h2 := wt_bd 0
  unfold tbl; split <;> omega
theorem tbl_zero (g : List Rd) (a : Nat) : tbl g 0 a = 16777216 := by
  unfold tbl
  have : wt 0 = 16777216 := by decide
  split
  · exact this
  · exact this
theorem tbl_said {g : List Rd} (h : GOK g) (k : Nat) (hk : k < g.length) : decide (0 < sgn (tbl g k) (adv g k) (adv g k).length) = saidB g k := by
  unfold saidB
  rw [sgn_congr (tbl g k) (wts g k) _ _ fun i hi => by unfold tbl wts; rw [if_pos (by rw [← (h.el k hk).1]; exact hi)]]
theorem tbl_learn {g : List Rd} (h : GOK g) (k : Nat) (hk : k < g.length) (a : Nat) : lrn (tbl g k) (adv g k) (came g k) (adv g k).length a = tbl g (k + 1) a := by
  have hl := h.len
  have he := (h.el k hk).1
  have hw := wr_le g a k
  unfold lrn tbl
  rw [he]
  by_cases ha : a < (adv g 0).length
  · rw [if_pos ha, if_pos ha]
    cases hx : (bth (adv g k) a == came g k)
    · rw [wr_step g a k hx, if_pos ⟨ha, rfl⟩]
      have := wt_half (wrg g a k) (by omega)
      omega
    · rw [wr_skip g a k hx, if_neg (by simp)]
  · rw [if_neg ha, if_neg ha, if_neg (by simp [ha])]
theorem own_bools {w : World} {B : Nat} {t : TypeId} {v : Value} {bs : List Bool} (h : w.ownsRow B t 1 v bs.length (bs.map Value.bool)) : ∃ a cap, v = .slice a bs.length cap ∧ BoolsAt w a bs ∧ bs.length ≤ cap ∧ cap ≤ maxLen := by
  obtain ⟨_, h2⟩ := h
  rcases h2 with ⟨rfl, h0⟩ | ⟨gb, cap, cur, rfl, hb, hg, hn, hcm, hcs, htake⟩
  · refine ⟨none, 0, by rw [h0], fun i hi => by omega, by omega, Nat.zero_le _⟩
  · refine ⟨some ⟨gb, 0, none⟩, cap, rfl, fun i hi => ⟨gb, 0, rfl, (Array.getElem?_eq_some_iff.1 hg).1, ?_⟩, hn, hcm⟩
    rw [cell_of_row w gb (0 + i) cur t (0, 0) hg, Nat.zero_add]
    have e : (cur.toList.take (bs.length * 1))[i]? = (bs.map Value.bool)[i]? := by rw [htake]
    rw [List.getElem?_take, if_pos (by omega)] at e
    rw [← Array.getElem?_toList, e]
    simp [bth, List.getD, hi]
theorem keep9 {w w1 : World} {row : Option Nat} {g : List Rd} {k tb b off c : Nat} {aa : Option Addr} {T : Nat → Int} (hg : w.grownBy w1 row) (h1 : row ≠ some tb) (h2 : row ≠ some b) (h : w.cell? ⟨tb, 0, none⟩ = some (.int .i64 (T 0)) ∧ w.cell? ⟨tb, 1, none⟩ = some (.int .i64 (T 1)) ∧ w.cell? ⟨tb, 2, none⟩ = some (.int .i64 (T 2)) ∧ w.cell? ⟨tb, 3, none⟩ = some (.int .i64 (T 3)) ∧ w.cell? ⟨tb, 4, none⟩ = some (.int .i64 (T 4)) ∧ w.cell? ⟨tb, 5, none⟩ = some (.int .i64 (T 5)) ∧ w.cell? ⟨tb, 6, none⟩ = some (.int .i64 (T 6)) ∧ w.cell? ⟨tb, 7, none⟩ = some (.int .i64 (T 7)) ∧ w.cell? ⟨b, off + k * 2, none⟩ = some (.slice aa (adv g k).length c) ∧ tb < w.heap.size ∧ b < w.heap.size) :
    w1.cell? ⟨tb, 0, none⟩ = some (.int .i64 (T 0)) ∧ w1.cell? ⟨tb, 1, none⟩ = some (.int .i64 (T 1)) ∧ w1.cell? ⟨tb, 2, none⟩ = some (.int .i64 (T 2)) ∧ w1.cell? ⟨tb, 3, none⟩ = some (.int .i64 (T 3)) ∧ w1.cell? ⟨tb, 4, none⟩ = some (.int .i64 (T 4)) ∧ w1.cell? ⟨tb, 5, none⟩ = some (.int .i64 (T 5)) ∧ w1.cell? ⟨tb, 6, none⟩ = some (.int .i64 (T 6)) ∧ w1.cell? ⟨tb, 7, none⟩ = some (.int .i64 (T 7)) ∧ w1.cell? ⟨b, off + k * 2, none⟩ = some (.slice aa (adv g k).length c) ∧ tb < w1.heap.size ∧ b < w1.heap.size := by
  obtain ⟨k0, k1, k2, k3, k4, k5, k6, k7, k8, l1, l2⟩ := h
  exact ⟨hg.cell k0 (fun e => h1 e.symm), hg.cell k1 (fun e => h1 e.symm), hg.cell k2 (fun e => h1 e.symm), hg.cell k3 (fun e => h1 e.symm), hg.cell k4 (fun e => h1 e.symm), hg.cell k5 (fun e => h1 e.symm), hg.cell k6 (fun e => h1 e.symm), hg.cell k7 (fun e => h1 e.symm), hg.cell k8 (fun e => h2 e.symm), Nat.lt_of_lt_of_le l1 hg.size, Nat.lt_of_lt_of_le l2 hg.size⟩

theorem own_mono {w : World} {B B' : Nat} {e : TypeId} {size : Nat} {v : Value} {n : Nat} {xs : List Value} (h : w.ownsRow B e size v n xs) (hB : B' ≤ B) : w.ownsRow B' e size v n xs := by
  refine ⟨h.1, ?_⟩
  rcases h.2 with h2 | ⟨g, cap, cur, hv, hg, r⟩
  · exact .inl h2
  · exact .inr ⟨g, cap, cur, hv, Nat.le_trans hB hg, r⟩
theorem undrew {w w1 : World} (h : Below w.drew.heap.size w.drew w1) : Below w.heap.size w w1 := ⟨h.os, h.tape, h.output, h.size, h.block⟩
theorem own_below {w w1 : World} {B : Nat} {e : TypeId} {size : Nat} {v : Value} {n : Nat} {xs : List Value} (h : w.ownsRow B e size v n xs) (hb : Below w.heap.size w w1) : w1.ownsRow B e size v n xs :=
  h.kept (but_below (World.grownBy.refl _ none) hb) (by cases v.ownBlock <;> simp)
def PlayPost (g : List Rd) (W : World) (e : Ending) (w' : World) : Prop :=
  ∃ v, e = .returned (.tuple #[.agg #[.int .i64 (tbl g g.length 0), .int .i64 (tbl g g.length 1), .int .i64 (tbl g g.length 2), .int .i64 (tbl g g.length 3), .int .i64 (tbl g g.length 4), .int .i64 (tbl g g.length 5), .int .i64 (tbl g g.length 6), .int .i64 (tbl g g.length 7)], v]) ∧ w'.ownsRow W.heap.size 4 1 v g.length ((sd g g.length).map Value.bool) ∧ Below W.heap.size W w'

set_option maxHeartbeats 4000000 in
theorem play_any (g : List Rd) (a : Option Addr) (cap : Nat) (W : World) (hG : GameAt W a g) (hok : GOK g) :
    Calls Try.prog 71 #[.slice a g.length cap] W (PlayPost g W) := by
  have hl := hok.len
  obtain ⟨i0, hi0, hz0, hz1, hz2⟩ := info_parts info4
  go_enter Try.func71, Try.ntmps71
  go_wp2_with fail
  refine (fresh_any _).mono ?_; rintro e w1 ⟨rfl, hb1⟩
  go_wp2_with fail
  have hR : w1.rowIs W.heap.size 79 8 (fun _ => .int .i64 0) := rowIs_below (row_new8 W (fun _ => 0) 79) hb1 (by simp)
  have hW1 : Below W.heap.size W w1 := (below_alloc W _).trans (hb1.mono (by simp))
  have htb : (w1.alloc (.cells #[.int .i64 16777216, .int .i64 16777216, .int .i64 16777216, .int .i64 16777216, .int .i64 16777216, .int .i64 16777216, .int .i64 16777216, .int .i64 16777216] 79)).rowIs w1.heap.size 79 8 (fun i => .int .i64 (tbl g 0 i)) := (row_new8 w1 (fun _ => 16777216) 79).congr fun i _ => by rw [tbl_zero]
  have hsz1 : W.heap.size < w1.heap.size := by have := hb1.size; simp at this; omega
  go_loopw [5, 10] (fun v5 v10 w' => ∃ k : Nat, k ≤ g.length ∧ v10 = .int .i64 k ∧ w'.rowIs W.heap.size 79 8 (fun _ => .int .i64 0) ∧ w'.rowIs w1.heap.size 79 8 (fun i => .int .i64 (tbl g k i)) ∧ w'.ownsRow (w1.heap.size + 1) 4 1 v5 k ((sd g k).map Value.bool) ∧ Below W.heap.size W w') (fun _ v10 _ => g.length - (intOf v10).toNat)
  case atStart => exact ⟨0, by omega, rfl, hR.alloc _, htb, World.ownsRow_nil _ _ _ _, hW1.alloc hW1.size _⟩
  case round =>
    obtain ⟨k, hk, rfl, hr0, hr, hown, hbel⟩ := hrel
    by_cases hlt : k < g.length
    · obtain ⟨b, off, aa', c', rfl, hbW, g1, g2, g3, _, _⟩ := hG k hlt
      have c1 := (hbel.cell (p := ⟨b, off + k * 2, none⟩) hbW).trans g1
      have hbl : b < wr.heap.size := Nat.lt_of_lt_of_le hbW hbel.size
      have he := (hok.el k hlt).2
      have hrl := hr.lt
      have hne1 : u5.ownBlock ≠ some w1.heap.size := fun e => by have := (hown.lt _ e).1; omega
      have hne2 : u5.ownBlock ≠ some b := fun e => by have := (hown.lt _ e).1; omega
      have hne3 : u5.ownBlock ≠ some W.heap.size := fun e => by have := (hown.lt _ e).1; omega
      have hk0 : (0 : Int) ≤ (k : Int) := by omega
      have hk1 : (k : Int) < (g.length : Int) := by omega
      have hB : ∀ w' : World, Below wr.heap.size wr w' → BoolsAt w' aa' (adv g k) := fun w' hb => (g3.below hbel).below hb
      have HB := hid hB
      have HE := hid he
      have Hne := hid hne1
      have Hne2 := hid hne2
      have Hne3 := hid hne3
      clear hB he hne1 hne2 hne3
      have t0 := hr.cell (i := 0) (by omega)
      have t1 := hr.cell (i := 1) (by omega)
      have t2 := hr.cell (i := 2) (by omega)
      have t3 := hr.cell (i := 3) (by omega)
      have t4 := hr.cell (i := 4) (by omega)
      have t5 := hr.cell (i := 5) (by omega)
      have t6 := hr.cell (i := 6) (by omega)
      have t7 := hr.cell (i := 7) (by omega)
      have cs : ∀ w' : World, Below wr.heap.size wr w' → Calls Try.prog 72 #[.agg #[.int .i64 (tbl g k 0), .int .i64 (tbl g k 1), .int .i64 (tbl g k 2), .int .i64 (tbl g k 3), .int .i64 (tbl g k 4), .int .i64 (tbl g k 5), .int .i64 (tbl g k 6), .int .i64 (tbl g k 7)], .slice aa' (adv g k).length c'] w' fun e w2 => e = .returned (.bool (saidB g k)) ∧ Below w'.heap.size w' w2 := fun w' hb => by
        rw [← tbl_said hok k hlt]
        exact says_any (tbl g k) aa' (adv g k) c' w' (HB.out w' hb) HE.out.2 fun i _ => tbl_bd g k i
      have Cs := hid cs
      clear cs
      go_wp2
      go_region_held3 (fun w' => w'.cell? ⟨w1.heap.size, 0, none⟩ = some (.int .i64 (tbl g k 0)) ∧ w'.cell? ⟨w1.heap.size, 1, none⟩ = some (.int .i64 (tbl g k 1)) ∧ w'.cell? ⟨w1.heap.size, 2, none⟩ = some (.int .i64 (tbl g k 2)) ∧ w'.cell? ⟨w1.heap.size, 3, none⟩ = some (.int .i64 (tbl g k 3)) ∧ w'.cell? ⟨w1.heap.size, 4, none⟩ = some (.int .i64 (tbl g k 4)) ∧ w'.cell? ⟨w1.heap.size, 5, none⟩ = some (.int .i64 (tbl g k 5)) ∧ w'.cell? ⟨w1.heap.size, 6, none⟩ = some (.int .i64 (tbl g k 6)) ∧ w'.cell? ⟨w1.heap.size, 7, none⟩ = some (.int .i64 (tbl g k 7)) ∧ w'.cell? ⟨b, off + k * 2, none⟩ = some (.slice aa' (adv g k).length c') ∧ w1.heap.size < w'.heap.size ∧ b < w'.heap.size) (first | exact ⟨t0, t1, t2, t3, t4, t5, t6, t7, c1, hrl, hbl⟩ | exact keep9 hgrow Hne.out Hne2.out (by assumption) | exact keep9 (World.grownBy_alloc _ _ none) (by simp) (by simp) (by assumption) | exact keep9 (but_below (World.grownBy.refl _ none) hb2) (by simp) (by simp) (by assumption)) (first | (go_at_call 72; refine (Cs.out _ ((Below.refl _ _).drew)).mono ?_; rintro e w2 ⟨rfl, hb2⟩) | (refine step_append_lies _ (by rfl) _ _ _ (by rfl) (w1.heap.size + 1) 4 i0 _ 1 1 Try.underlying47 hi0 hz0 hz1 hz2 rfl (by omega) u5 k ((sd g k).map Value.bool) (by rfl) ((own_below hown (undrew hb2)).alloc _) ⟨w2.heap.size, 0, none⟩ 1 1 [.bool (saidB g k)] (by rfl) (by rfl) (World.news_of_block (cs := #[.bool (saidB g k)]) (t := 4) (fr := (0, 0)) (heap_alloc_new w2 _)) (by simp [Value.oneCell']) (by omega) (by unfold maxLen; omega) (by omega) (by have := hb2.size; simp at this; simp; omega) (w2.heap.size + 1) (by simp) ?_; intro gg cap2 w3 hown1 hgrow hat hltg))
      have G : wr.grownBy w3 u5.ownBlock := World.grownBy.trans (World.grownBy.trans (but_below (World.grownBy.refl wr _) (undrew hb2)) (World.grownBy_alloc _ _ _)) hgrow
      have hbel3 : Below W.heap.size W w3 := hbel.grown G hbel.size fun j hj => by have := (hown.lt j hj).1; omega
      have hr3 : w3.rowIs w1.heap.size 79 8 (fun i => .int .i64 (tbl g k i)) := hr.of_block (G.block _ hrl fun e => Hne.out e.symm)
      have hr03 : w3.rowIs W.heap.size 79 8 (fun _ => .int .i64 0) := hr0.of_block (G.block _ hr0.lt fun e => Hne3.out e.symm)
      have hgg : w1.heap.size < gg := by
        rcases hat with e | e
        · have := (hown.lt _ e).1; omega
        · have := hb2.size; simp at this; omega
      have d1 := (hbel3.cell (p := ⟨b, off + k * 2, none⟩) hbW).trans g1
      have d2 := (hbel3.cell (p := ⟨b, off + k * 2 + 1, none⟩) hbW).trans g2
      have hadv : ∀ bb oo, aa' = some ⟨bb, oo, none⟩ → bb ≠ w1.heap.size := by
        intro bb oo e
        obtain ⟨b4, off4, e4, h4, _⟩ := g3 0 (by have := HE.out.1; omega)
        rw [e4] at e
        cases e
        omega
      have cl : Calls Try.prog 80 #[.pointer (some ⟨w1.heap.size, 0, none⟩), .agg #[.slice aa' (adv g k).length c', .bool (came g k)]] w3 fun e w' => e = .returned (.tuple #[]) ∧ w'.rowIs w1.heap.size 79 8 (fun i => .int .i64 (tbl g (k + 1) i)) ∧ w3.grownBy w' (some w1.heap.size) := by
        refine (learn_any w1.heap.size (tbl g k) aa' (adv g k) c' (came g k) w3 (g3.below hbel3) HE.out.2 (fun i _ => tbl_bd g k i) hr3 hadv).mono ?_
        rintro e w' ⟨rfl, hr4, hg4⟩
        exact ⟨rfl, hr4.congr fun i _ => by rw [tbl_learn hok k hlt], hg4⟩
      have Cl := hid cl
      clear cl hadv hr hown t0 t1 t2 t3 t4 t5 t6 t7 c1 hb2 hgrow hr0 G Cs HB hr3
      go_wp2_with fail
      refine Cl.out.mono ?_; rintro e w4 ⟨rfl, hr4, hg4⟩
      have hbel4 : Below W.heap.size W w4 := hbel3.grown hg4 hbel3.size fun j hj => by have := Option.some.inj hj; omega
      have hr04 : w4.rowIs W.heap.size 79 8 (fun _ => .int .i64 0) := hr03.of_block (hg4.block _ hr03.lt fun e => by have := Option.some.inj e; omega)
      have hown4 := hown1.kept hg4 (.inr (by simp [Value.ownBlock]; omega))
      rw [show (List.map Value.bool (sd g k) ++ [Value.bool (saidB g k)]) = (sd g (k + 1)).map Value.bool by rw [sd_succ]; simp] at hown4
      clear Cl hg4 hr03 hown1
      go_wp2
      go_roundw
      case rel => exact ⟨k + 1, by omega, by go_num, hr04, hr4, hown4, hbel4⟩
      case measure => simp [intOf]; omega
    · obtain rfl : k = g.length := by omega
      have q0 := hr.cell (i := 0) (by omega)
      have z0 := hr0.cell (i := 0) (by omega)
      have f0 := hr0.frozen 0
      have q1 := hr.cell (i := 1) (by omega)
      have z1 := hr0.cell (i := 1) (by omega)
      have f1 := hr0.frozen 1
      have q2 := hr.cell (i := 2) (by omega)
      have z2 := hr0.cell (i := 2) (by omega)
      have f2 := hr0.frozen 2
      have q3 := hr.cell (i := 3) (by omega)
      have z3 := hr0.cell (i := 3) (by omega)
      have f3 := hr0.frozen 3
      have q4 := hr.cell (i := 4) (by omega)
      have z4 := hr0.cell (i := 4) (by omega)
      have f4 := hr0.frozen 4
      have q5 := hr.cell (i := 5) (by omega)
      have z5 := hr0.cell (i := 5) (by omega)
      have f5 := hr0.frozen 5
      have q6 := hr.cell (i := 6) (by omega)
      have z6 := hr0.cell (i := 6) (by omega)
      have f6 := hr0.frozen 6
      have q7 := hr.cell (i := 7) (by omega)
      have z7 := hr0.cell (i := 7) (by omega)
      have f7 := hr0.frozen 7
      have hsb : W.heap.size < w1.heap.size + 1 := by omega
      go_wp2
      refine bodyPost_ret (v := .tuple #[.agg #[.int .i64 (tbl g g.length 0), .int .i64 (tbl g g.length 1), .int .i64 (tbl g g.length 2), .int .i64 (tbl g g.length 3), .int .i64 (tbl g g.length 4), .int .i64 (tbl g g.length 5), .int .i64 (tbl g g.length 6), .int .i64 (tbl g g.length 7)], u5]) (by simp [results, Try.results71, go_sem, z0, z1, z2, z3, z4, z5, z6, z7]) rfl ⟨u5, rfl, own_mono (ownsRow_setCell_below (ownsRow_setCell_below (ownsRow_setCell_below (ownsRow_setCell_below (ownsRow_setCell_below (ownsRow_setCell_below (ownsRow_setCell_below (ownsRow_setCell_below hown (a := ⟨W.heap.size, 0, none⟩) hsb _) (a := ⟨W.heap.size, 1, none⟩) hsb _) (a := ⟨W.heap.size, 2, none⟩) hsb _) (a := ⟨W.heap.size, 3, none⟩) hsb _) (a := ⟨W.heap.size, 4, none⟩) hsb _) (a := ⟨W.heap.size, 5, none⟩) hsb _) (a := ⟨W.heap.size, 6, none⟩) hsb _) (a := ⟨W.heap.size, 7, none⟩) hsb _) (by omega), ((((((((hbel.setCell (p := ⟨W.heap.size, 0, none⟩) (Nat.le_refl _) _).setCell (p := ⟨W.heap.size, 1, none⟩) (Nat.le_refl _) _).setCell (p := ⟨W.heap.size, 2, none⟩) (Nat.le_refl _) _).setCell (p := ⟨W.heap.size, 3, none⟩) (Nat.le_refl _) _).setCell (p := ⟨W.heap.size, 4, none⟩) (Nat.le_refl _) _).setCell (p := ⟨W.heap.size, 5, none⟩) (Nat.le_refl _) _).setCell (p := ⟨W.heap.size, 6, none⟩) (Nat.le_refl _) _).setCell (p := ⟨W.heap.size, 7, none⟩) (Nat.le_refl _) _)⟩
end Go.Proofs.Ytedgndangamkaaa
