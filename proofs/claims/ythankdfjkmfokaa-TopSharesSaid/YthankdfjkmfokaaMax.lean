/- 'slices.MaxFunc' and 'slices.MinFunc' at claims: what they return. -/
import Derived.Test.YthankdfjkmfokaaLast
namespace Go.Proofs.Ythankdfjkmfokaa
open Go.RowKit
set_option linter.unusedSimpArgs false
set_option linter.unusedVariables false

def cmpAt (cs : List Cl) (i j : Nat) : Int := cmpC (cth cs i).v (cth cs i).a (cth cs i).i (cth cs j).v (cth cs j).a (cth cs j).i
def maxI (cs : List Cl) : Nat → Nat
  | 0 => 0
  | k + 1 => if 0 < cmpAt cs k (maxI cs k) then k else maxI cs k
def minI (cs : List Cl) : Nat → Nat
  | 0 => 0
  | k + 1 => if cmpAt cs k (minI cs k) < 0 then k else minI cs k
theorem maxI_yes (cs : List Cl) (k : Nat) (h : 0 < cmpAt cs k (maxI cs k)) : maxI cs (k + 1) = k := by rw [maxI, if_pos h]
theorem maxI_no (cs : List Cl) (k : Nat) (h : ¬ 0 < cmpAt cs k (maxI cs k)) : maxI cs (k + 1) = maxI cs k := by rw [maxI, if_neg h]
theorem minI_yes (cs : List Cl) (k : Nat) (h : cmpAt cs k (minI cs k) < 0) : minI cs (k + 1) = k := by rw [minI, if_pos h]
theorem minI_no (cs : List Cl) (k : Nat) (h : ¬ cmpAt cs k (minI cs k) < 0) : minI cs (k + 1) = minI cs k := by rw [minI, if_neg h]
theorem maxI_lt (cs : List Cl) (k : Nat) : maxI cs k ≤ k - 1 := by
  induction k with
  | zero => exact Nat.le_refl _
  | succ k ih => rw [maxI]; split <;> omega
theorem minI_lt (cs : List Cl) (k : Nat) : minI cs k ≤ k - 1 := by
  induction k with
  | zero => exact Nat.le_refl _
  | succ k ih => rw [minI]; split <;> omega
theorem maxI_one (cs : List Cl) : maxI cs 1 = 0 := by rw [maxI]; split <;> rfl
theorem minI_one (cs : List Cl) : minI cs 1 = 0 := by rw [minI]; split <;> rfl
def c3 (c : Cl) (t : Nat) : Value := if t = 0 then .int .i64 c.v else if t = 1 then .int .i64 c.a else .int .i64 c.i
theorem row_new3 (w : World) (c : Cl) (t : TypeId) : (w.alloc (.cells #[.int .i64 c.v, .int .i64 c.a, .int .i64 c.i] t)).rowIs w.heap.size t 3 (c3 c) := by
  refine World.rowIs_alloc w #[.int .i64 c.v, .int .i64 c.a, .int .i64 c.i] t _ fun i hi => ?_
  have : i = 0 ∨ i = 1 ∨ i = 2 := by simp at hi; omega
  rcases this with rfl | rfl | rfl <;> rfl
theorem row_set3 {w : World} {H : Nat} {t : TypeId} {f : Nat → Value} (h : w.rowIs H t 3 f) (c : Cl) :
    (((w.setCell ⟨H, 0, none⟩ (.int .i64 c.v)).setCell ⟨H, 1, none⟩ (.int .i64 c.a)).setCell ⟨H, 2, none⟩ (.int .i64 c.i)).rowIs H t 3 (c3 c) := by
  refine (((h.set 0 _).set 1 _).set 2 _).congr fun i hi => ?_
  have : i = 0 ∨ i = 1 ∨ i = 2 := by omega
  rcases this with rfl | rfl | rfl <;> simp [c3]
def ClaimsOK (cs : List Cl) : Prop := ∀ i, i < cs.length → ClaimOK (cth cs i).v (cth cs i).a
theorem keep6c {w w1 : World} {row : Option Nat} {H b o : Nat} {c d : Cl} (hg : w.grownBy w1 row) (h1 : row ≠ some H) (h2 : row ≠ some b)
    (h : w.cell? ⟨b, o, none⟩ = some (.int .i64 c.v) ∧ w.cell? ⟨b, o + 1, none⟩ = some (.int .i64 c.a) ∧ w.cell? ⟨b, o + 2, none⟩ = some (.int .i64 c.i) ∧ w.cell? ⟨H, 0, none⟩ = some (.int .i64 d.v) ∧ w.cell? ⟨H, 1, none⟩ = some (.int .i64 d.a) ∧ w.cell? ⟨H, 2, none⟩ = some (.int .i64 d.i)) :
    w1.cell? ⟨b, o, none⟩ = some (.int .i64 c.v) ∧ w1.cell? ⟨b, o + 1, none⟩ = some (.int .i64 c.a) ∧ w1.cell? ⟨b, o + 2, none⟩ = some (.int .i64 c.i) ∧ w1.cell? ⟨H, 0, none⟩ = some (.int .i64 d.v) ∧ w1.cell? ⟨H, 1, none⟩ = some (.int .i64 d.a) ∧ w1.cell? ⟨H, 2, none⟩ = some (.int .i64 d.i) := by
  obtain ⟨k0, k1, k2, k3, k4, k5⟩ := h
  exact ⟨hg.cell k0 (fun e => h2 e.symm), hg.cell k1 (fun e => h2 e.symm), hg.cell k2 (fun e => h2 e.symm), hg.cell k3 (fun e => h1 e.symm), hg.cell k4 (fun e => h1 e.symm), hg.cell k5 (fun e => h1 e.symm)⟩
theorem below_set3 {B : Nat} {a w : World} (h : Below B a w) {g : Nat} (hg : B ≤ g) (u v x : Value) : Below B a (((w.setCell ⟨g, 0, none⟩ u).setCell ⟨g, 1, none⟩ v).setCell ⟨g, 2, none⟩ x) :=
  ((h.setCell (p := ⟨g, 0, none⟩) hg u).setCell (p := ⟨g, 1, none⟩) hg v).setCell (p := ⟨g, 2, none⟩) hg x
theorem other3 {w : World} {H g : Nat} {t : TypeId} {n : Nat} {f : Nat → Value} (h : w.rowIs H t n f) (hne : g ≠ H) (u v x : Value) : (((w.setCell ⟨g, 0, none⟩ u).setCell ⟨g, 1, none⟩ v).setCell ⟨g, 2, none⟩ x).rowIs H t n f :=
  ((h.setOther (by exact fun e => hne e.symm) u).setOther (by exact fun e => hne e.symm) v).setOther (by exact fun e => hne e.symm) x

set_option maxRecDepth 100000 in
set_option maxHeartbeats 2000000 in
theorem maxFunc_any (cs : List Cl) (a : Option Addr) (cap : Nat) (W : World) (hC : ClaimsAt W a cs) (hok : ClaimsOK cs) (h1 : 1 ≤ cs.length) (hl : cs.length ≤ 8) :
    Calls Try.prog 71 #[.slice a cs.length cap, .func (.func 72) #[] #[]] W fun e w' => e = .returned (.agg #[.int .i64 (cth cs (maxI cs cs.length)).v, .int .i64 (cth cs (maxI cs cs.length)).a, .int .i64 (cth cs (maxI cs cs.length)).i]) ∧ Below W.heap.size W w' := by
  have Hok := hid hok
  clear hok
  obtain ⟨b, off, rfl, hbl, z0, z1, z2⟩ := hC 0 (by omega)
  have y0 : W.cell? ⟨b, off, none⟩ = some (.int .i64 (cth cs 0).v) := by simpa using z0
  have y1 : W.cell? ⟨b, off + 1, none⟩ = some (.int .i64 (cth cs 0).a) := by simpa using z1
  have y2 : W.cell? ⟨b, off + 2, none⟩ = some (.int .i64 (cth cs 0).i) := by simpa using z2
  clear z0 z1 z2
  have hA : Below W.heap.size W (W.alloc (.cells #[.int .i64 0, .int .i64 0, .int .i64 0] 83)) := below_alloc _ _
  have x0 := (hA.cell (p := ⟨b, off, none⟩) hbl).trans y0
  have x1 := (hA.cell (p := ⟨b, off + 1, none⟩) hbl).trans y1
  have x2 := (hA.cell (p := ⟨b, off + 2, none⟩) hbl).trans y2
  clear y0 y1 y2
  go_enter Try.func71, Try.ntmps71
  go_wp2_with fail
  go_loopw [6] (fun v6 w' => ∃ k : Nat, 1 ≤ k ∧ k ≤ cs.length ∧ v6 = .int .i64 k ∧ w'.rowIs W.heap.size 83 3 (c3 ⟨0, 0, 0⟩) ∧ w'.rowIs (W.heap.size + 1) 83 3 (c3 (cth cs (maxI cs k))) ∧ Below W.heap.size W w') (fun v6 _ => cs.length - (intOf v6).toNat)
  case atStart =>
    refine ⟨1, by omega, by omega, rfl, (row_new3 W ⟨0, 0, 0⟩ 83).alloc _, ?_, hA.alloc hA.size _⟩
    rw [maxI_one]
    have := row_new3 (W.alloc (.cells #[.int .i64 0, .int .i64 0, .int .i64 0] 83)) (cth cs 0) 83
    simpa using this
  case round =>
    clear x0 x1 x2 hA
    obtain ⟨k, hk1, hk, rfl, hr0, hr, hb⟩ := hrel
    have q0 := hr.cell (i := 0) (by omega)
    have q1 := hr.cell (i := 1) (by omega)
    have q2 := hr.cell (i := 2) (by omega)
    simp only [c3, if_true, if_false, show (1 : Nat) ≠ 0 by omega, show (2 : Nat) ≠ 0 by omega, show (2 : Nat) ≠ 1 by omega, if_neg, ite_false] at q0 q1 q2
    have f0 := hr.frozen 0
    have f1 := hr.frozen 1
    have f2 := hr.frozen 2
    have hmi := maxI_lt cs k
    by_cases hlt : k < cs.length
    · obtain ⟨b', off', e', hbl', c0, c1, c2⟩ := (hC.below hb) k hlt
      cases e'
      have hk0 : (0 : Int) ≤ (k : Int) := by omega
      have hk2 : (k : Int) < (cs.length : Int) := by omega
      have Hcmp : Hid (∀ w', Calls Try.prog 72 #[.agg #[.int .i64 (cth cs k).v, .int .i64 (cth cs k).a, .int .i64 (cth cs k).i], .agg #[.int .i64 (cth cs (maxI cs k)).v, .int .i64 (cth cs (maxI cs k)).a, .int .i64 (cth cs (maxI cs k)).i]] w' fun e w2 => e = .returned (.int .i64 (cmpAt cs k (maxI cs k))) ∧ Below w'.heap.size w' w2) := fun w' => compare_any _ _ _ _ _ _ (Hok.out k hlt) (Hok.out (maxI cs k) (by omega)) w'
      by_cases ht : 0 < cmpAt cs k (maxI cs k)
      · have S := hid (maxI_yes cs k ht)
        go_wp2_with fail
        go_region_held3 (fun w' => w'.cell? ⟨b, off + k * 3, none⟩ = some (.int .i64 (cth cs k).v) ∧ w'.cell? ⟨b, off + k * 3 + 1, none⟩ = some (.int .i64 (cth cs k).a) ∧ w'.cell? ⟨b, off + k * 3 + 2, none⟩ = some (.int .i64 (cth cs k).i) ∧ w'.cell? ⟨W.heap.size + 1, 0, none⟩ = some (.int .i64 (cth cs (maxI cs k)).v) ∧ w'.cell? ⟨W.heap.size + 1, 1, none⟩ = some (.int .i64 (cth cs (maxI cs k)).a) ∧ w'.cell? ⟨W.heap.size + 1, 2, none⟩ = some (.int .i64 (cth cs (maxI cs k)).i)) (first | exact ⟨c0, c1, c2, q0, q1, q2⟩ | exact keep6c (row := none) (but_below (World.grownBy.refl _ none) hb2) (fun h => by cases h) (fun h => by cases h) (by assumption)) (first | (go_at_call 72; refine (Hcmp.out _).mono ?_; rintro e w2 ⟨rfl, hb2⟩))
        have hbu := undrew hb2
        have G := but_below (World.grownBy.refl wr none) hbu
        have hb4 := hb.trans (hbu.mono hb.size)
        have r4 : w2.rowIs (W.heap.size + 1) 83 3 (c3 (cth cs (maxI cs k))) := hr.of_block (hbu.block _ hr.lt)
        have r04 : w2.rowIs W.heap.size 83 3 (c3 ⟨0, 0, 0⟩) := hr0.of_block (hbu.block _ hr0.lt)
        have g0 := r4.cell (i := 0) (by omega)
        have g1 := r4.cell (i := 1) (by omega)
        have g2 := r4.cell (i := 2) (by omega)
        have e0 := r4.frozen 0
        have e1 := r4.frozen 1
        have e2 := r4.frozen 2
        have d0 := (hbu.cell (p := ⟨b, off + k * 3, none⟩) hbl').trans c0
        have d1 := (hbu.cell (p := ⟨b, off + k * 3 + 1, none⟩) hbl').trans c1
        have d2 := (hbu.cell (p := ⟨b, off + k * 3 + 2, none⟩) hbl').trans c2
        clear hb2 G Hcmp hbu c0 c1 c2 q0 q1 q2 f0 f1 f2 hr hr0 hb
        go_wp2_with fail
        go_roundw
        case rel => exact ⟨k + 1, by omega, by omega, by go_num, other3 r04 (by omega) _ _ _, by rw [S.out]; exact row_set3 r4 (cth cs k), below_set3 hb4 (by omega) _ _ _⟩
        case measure => simp [intOf]; omega
      · have S := hid (maxI_no cs k ht)
        go_wp2_with fail
        go_region_held3 (fun w' => w'.cell? ⟨b, off + k * 3, none⟩ = some (.int .i64 (cth cs k).v) ∧ w'.cell? ⟨b, off + k * 3 + 1, none⟩ = some (.int .i64 (cth cs k).a) ∧ w'.cell? ⟨b, off + k * 3 + 2, none⟩ = some (.int .i64 (cth cs k).i) ∧ w'.cell? ⟨W.heap.size + 1, 0, none⟩ = some (.int .i64 (cth cs (maxI cs k)).v) ∧ w'.cell? ⟨W.heap.size + 1, 1, none⟩ = some (.int .i64 (cth cs (maxI cs k)).a) ∧ w'.cell? ⟨W.heap.size + 1, 2, none⟩ = some (.int .i64 (cth cs (maxI cs k)).i)) (first | exact ⟨c0, c1, c2, q0, q1, q2⟩ | exact keep6c (row := none) (but_below (World.grownBy.refl _ none) hb2) (fun h => by cases h) (fun h => by cases h) (by assumption)) (first | (go_at_call 72; refine (Hcmp.out _).mono ?_; rintro e w2 ⟨rfl, hb2⟩))
        have hbu := undrew hb2
        have hb4 := hb.trans (hbu.mono hb.size)
        have r4 : w2.rowIs (W.heap.size + 1) 83 3 (c3 (cth cs (maxI cs k))) := hr.of_block (hbu.block _ hr.lt)
        have r04 : w2.rowIs W.heap.size 83 3 (c3 ⟨0, 0, 0⟩) := hr0.of_block (hbu.block _ hr0.lt)
        clear hb2 Hcmp hbu c0 c1 c2 q0 q1 q2 f0 f1 f2 hr hr0 hb
        go_wp2_with fail
        go_roundw
        case rel => exact ⟨k + 1, by omega, by omega, by go_num, r04, by rw [S.out]; exact r4, hb4⟩
        case measure => simp [intOf]; omega
    · obtain rfl : k = cs.length := by omega
      have o0 := hr0.cell (i := 0) (by omega)
      have o1 := hr0.cell (i := 1) (by omega)
      have o2 := hr0.cell (i := 2) (by omega)
      have p0 := hr0.frozen 0
      have p1 := hr0.frozen 1
      have p2 := hr0.frozen 2
      go_wp2_with fail
      refine bodyPost_ret (v := .agg #[.int .i64 (cth cs (maxI cs cs.length)).v, .int .i64 (cth cs (maxI cs cs.length)).a, .int .i64 (cth cs (maxI cs cs.length)).i]) (by simp [results, Try.results71, go_sem, o0, o1, o2]) rfl ⟨rfl, below_set3 hb (Nat.le_refl _) _ _ _⟩

set_option maxRecDepth 100000 in
set_option maxHeartbeats 2000000 in
theorem minFunc_any (cs : List Cl) (a : Option Addr) (cap : Nat) (W : World) (hC : ClaimsAt W a cs) (hok : ClaimsOK cs) (h1 : 1 ≤ cs.length) (hl : cs.length ≤ 8) :
    Calls Try.prog 74 #[.slice a cs.length cap, .func (.func 72) #[] #[]] W fun e w' => e = .returned (.agg #[.int .i64 (cth cs (minI cs cs.length)).v, .int .i64 (cth cs (minI cs cs.length)).a, .int .i64 (cth cs (minI cs cs.length)).i]) ∧ Below W.heap.size W w' := by
  have Hok := hid hok
  clear hok
  obtain ⟨b, off, rfl, hbl, z0, z1, z2⟩ := hC 0 (by omega)
  have y0 : W.cell? ⟨b, off, none⟩ = some (.int .i64 (cth cs 0).v) := by simpa using z0
  have y1 : W.cell? ⟨b, off + 1, none⟩ = some (.int .i64 (cth cs 0).a) := by simpa using z1
  have y2 : W.cell? ⟨b, off + 2, none⟩ = some (.int .i64 (cth cs 0).i) := by simpa using z2
  clear z0 z1 z2
  have hA : Below W.heap.size W (W.alloc (.cells #[.int .i64 0, .int .i64 0, .int .i64 0] 83)) := below_alloc _ _
  have x0 := (hA.cell (p := ⟨b, off, none⟩) hbl).trans y0
  have x1 := (hA.cell (p := ⟨b, off + 1, none⟩) hbl).trans y1
  have x2 := (hA.cell (p := ⟨b, off + 2, none⟩) hbl).trans y2
  clear y0 y1 y2
  go_enter Try.func74, Try.ntmps74
  go_wp2_with fail
  go_loopw [6] (fun v6 w' => ∃ k : Nat, 1 ≤ k ∧ k ≤ cs.length ∧ v6 = .int .i64 k ∧ w'.rowIs W.heap.size 83 3 (c3 ⟨0, 0, 0⟩) ∧ w'.rowIs (W.heap.size + 1) 83 3 (c3 (cth cs (minI cs k))) ∧ Below W.heap.size W w') (fun v6 _ => cs.length - (intOf v6).toNat)
  case atStart =>
    refine ⟨1, by omega, by omega, rfl, (row_new3 W ⟨0, 0, 0⟩ 83).alloc _, ?_, hA.alloc hA.size _⟩
    rw [minI_one]
    have := row_new3 (W.alloc (.cells #[.int .i64 0, .int .i64 0, .int .i64 0] 83)) (cth cs 0) 83
    simpa using this
  case round =>
    clear x0 x1 x2 hA
    obtain ⟨k, hk1, hk, rfl, hr0, hr, hb⟩ := hrel
    have q0 := hr.cell (i := 0) (by omega)
    have q1 := hr.cell (i := 1) (by omega)
    have q2 := hr.cell (i := 2) (by omega)
    simp only [c3, if_true, if_false, show (1 : Nat) ≠ 0 by omega, show (2 : Nat) ≠ 0 by omega, show (2 : Nat) ≠ 1 by omega, if_neg, ite_false] at q0 q1 q2
    have f0 := hr.frozen 0
    have f1 := hr.frozen 1
    have f2 := hr.frozen 2
    have hmi := minI_lt cs k
    by_cases hlt : k < cs.length
    · obtain ⟨b', off', e', hbl', c0, c1, c2⟩ := (hC.below hb) k hlt
      cases e'
      have hk0 : (0 : Int) ≤ (k : Int) := by omega
      have hk2 : (k : Int) < (cs.length : Int) := by omega
      have Hcmp : Hid (∀ w', Calls Try.prog 72 #[.agg #[.int .i64 (cth cs k).v, .int .i64 (cth cs k).a, .int .i64 (cth cs k).i], .agg #[.int .i64 (cth cs (minI cs k)).v, .int .i64 (cth cs (minI cs k)).a, .int .i64 (cth cs (minI cs k)).i]] w' fun e w2 => e = .returned (.int .i64 (cmpAt cs k (minI cs k))) ∧ Below w'.heap.size w' w2) := fun w' => compare_any _ _ _ _ _ _ (Hok.out k hlt) (Hok.out (minI cs k) (by omega)) w'
      by_cases ht : cmpAt cs k (minI cs k) < 0
      · have S := hid (minI_yes cs k ht)
        go_wp2_with fail
        go_region_held3 (fun w' => w'.cell? ⟨b, off + k * 3, none⟩ = some (.int .i64 (cth cs k).v) ∧ w'.cell? ⟨b, off + k * 3 + 1, none⟩ = some (.int .i64 (cth cs k).a) ∧ w'.cell? ⟨b, off + k * 3 + 2, none⟩ = some (.int .i64 (cth cs k).i) ∧ w'.cell? ⟨W.heap.size + 1, 0, none⟩ = some (.int .i64 (cth cs (minI cs k)).v) ∧ w'.cell? ⟨W.heap.size + 1, 1, none⟩ = some (.int .i64 (cth cs (minI cs k)).a) ∧ w'.cell? ⟨W.heap.size + 1, 2, none⟩ = some (.int .i64 (cth cs (minI cs k)).i)) (first | exact ⟨c0, c1, c2, q0, q1, q2⟩ | exact keep6c (row := none) (but_below (World.grownBy.refl _ none) hb2) (fun h => by cases h) (fun h => by cases h) (by assumption)) (first | (go_at_call 72; refine (Hcmp.out _).mono ?_; rintro e w2 ⟨rfl, hb2⟩))
        have hbu := undrew hb2
        have G := but_below (World.grownBy.refl wr none) hbu
        have hb4 := hb.trans (hbu.mono hb.size)
        have r4 : w2.rowIs (W.heap.size + 1) 83 3 (c3 (cth cs (minI cs k))) := hr.of_block (hbu.block _ hr.lt)
        have r04 : w2.rowIs W.heap.size 83 3 (c3 ⟨0, 0, 0⟩) := hr0.of_block (hbu.block _ hr0.lt)
        have g0 := r4.cell (i := 0) (by omega)
        have g1 := r4.cell (i := 1) (by omega)
        have g2 := r4.cell (i := 2) (by omega)
        have e0 := r4.frozen 0
        have e1 := r4.frozen 1
        have e2 := r4.frozen 2
        have d0 := (hbu.cell (p := ⟨b, off + k * 3, none⟩) hbl').trans c0
        have d1 := (hbu.cell (p := ⟨b, off + k * 3 + 1, none⟩) hbl').trans c1
        have d2 := (hbu.cell (p := ⟨b, off + k * 3 + 2, none⟩) hbl').trans c2
        clear hb2 G Hcmp hbu c0 c1 c2 q0 q1 q2 f0 f1 f2 hr hr0 hb
        go_wp2_with fail
        go_roundw
        case rel => exact ⟨k + 1, by omega, by omega, by go_num, other3 r04 (by omega) _ _ _, by rw [S.out]; exact row_set3 r4 (cth cs k), below_set3 hb4 (by omega) _ _ _⟩
        case measure => simp [intOf]; omega
      · have S := hid (minI_no cs k ht)
        go_wp2_with fail
        go_region_held3 (fun w' => w'.cell? ⟨b, off + k * 3, none⟩ = some (.int .i64 (cth cs k).v) ∧ w'.cell? ⟨b, off + k * 3 + 1, none⟩ = some (.int .i64 (cth cs k).a) ∧ w'.cell? ⟨b, off + k * 3 + 2, none⟩ = some (.int .i64 (cth cs k).i) ∧ w'.cell? ⟨W.heap.size + 1, 0, none⟩ = some (.int .i64 (cth cs (minI cs k)).v) ∧ w'.cell? ⟨W.heap.size + 1, 1, none⟩ = some (.int .i64 (cth cs (minI cs k)).a) ∧ w'.cell? ⟨W.heap.size + 1, 2, none⟩ = some (.int .i64 (cth cs (minI cs k)).i)) (first | exact ⟨c0, c1, c2, q0, q1, q2⟩ | exact keep6c (row := none) (but_below (World.grownBy.refl _ none) hb2) (fun h => by cases h) (fun h => by cases h) (by assumption)) (first | (go_at_call 72; refine (Hcmp.out _).mono ?_; rintro e w2 ⟨rfl, hb2⟩))
        have hbu := undrew hb2
        have hb4 := hb.trans (hbu.mono hb.size)
        have r4 : w2.rowIs (W.heap.size + 1) 83 3 (c3 (cth cs (minI cs k))) := hr.of_block (hbu.block _ hr.lt)
        have r04 : w2.rowIs W.heap.size 83 3 (c3 ⟨0, 0, 0⟩) := hr0.of_block (hbu.block _ hr0.lt)
        clear hb2 Hcmp hbu c0 c1 c2 q0 q1 q2 f0 f1 f2 hr hr0 hb
        go_wp2_with fail
        go_roundw
        case rel => exact ⟨k + 1, by omega, by omega, by go_num, r04, by rw [S.out]; exact r4, hb4⟩
        case measure => simp [intOf]; omega
    · obtain rfl : k = cs.length := by omega
      have o0 := hr0.cell (i := 0) (by omega)
      have o1 := hr0.cell (i := 1) (by omega)
      have o2 := hr0.cell (i := 2) (by omega)
      have p0 := hr0.frozen 0
      have p1 := hr0.frozen 1
      have p2 := hr0.frozen 2
      go_wp2_with fail
      refine bodyPost_ret (v := .agg #[.int .i64 (cth cs (minI cs cs.length)).v, .int .i64 (cth cs (minI cs cs.length)).a, .int .i64 (cth cs (minI cs cs.length)).i]) (by simp [results, Try.results74, go_sem, o0, o1, o2]) rfl ⟨rfl, below_set3 hb (Nat.le_refl _) _ _ _⟩
end Go.Proofs.Ythankdfjkmfokaa
