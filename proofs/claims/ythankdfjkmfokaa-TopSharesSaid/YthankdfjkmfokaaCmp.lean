/- Comparing claims: 'cmp.Compare', 'cmp.Or', 'size', 'compare', and the document's 'step' and 'compare'. -/
import Derived.Test.YthankdfjkmfokaaKinds
import Derived.Deep.RegionHeld3
namespace Go.Proofs.Ythankdfjkmfokaa
open Go.RowKit
set_option linter.unusedSimpArgs false
set_option linter.unusedVariables false

def sg (x y : Int) : Int := if x < y then -1 else if y < x then 1 else 0
def szC (v a w b : Int) : Int := if a = 0 ∧ b = 0 then sg v w else if a = 0 then 1 else if b = 0 then -1 else sg (v * b) (w * a)
/-- The step of a kind behind k meals. -/
def stp (kd k : Int) : Int := if kd = 0 then k + 1 else if kd = 1 then 2 * k + 1 else k
def fac (kd : Int) : Int := if kd = 1 then 2 else 1
def KindOK (kd : Int) : Prop := kd = 0 ∨ kd = 1 ∨ kd = 2
theorem stp_bd {kd k : Int} (h0 : 0 ≤ k) (h1 : k ≤ 1000) : 0 ≤ stp kd k ∧ stp kd k ≤ 2001 := by unfold stp; split <;> (try split) <;> omega
theorem sg_bd (x y : Int) : -1 ≤ sg x y ∧ sg x y ≤ 1 := by unfold sg; split <;> (try split) <;> omega
theorem isNaN_any (x : Int) (W : World) : Calls Try.prog 95 #[.int .i64 x] W fun e w' => e = .returned (.bool false) ∧ W = w' := by
  have h : (x != x) = false := by simp
  go_enter Try.func95, Try.ntmps95
  go_wp2
  go_ret
  exact ⟨by simp, rfl⟩
theorem Compare_any (x y : Int) (W : World) : Calls Try.prog 88 #[.int .i64 x, .int .i64 y] W fun e w' => e = .returned (.int .i64 (sg x y)) ∧ W = w' := by
  have key : ∀ r : Int, sg x y = r → Calls Try.prog 88 #[.int .i64 x, .int .i64 y] W (fun e w' => e = .returned (.int .i64 r) ∧ W = w') → Calls Try.prog 88 #[.int .i64 x, .int .i64 y] W fun e w' => e = .returned (.int .i64 (sg x y)) ∧ W = w' := by
    intro r hr h; rw [hr]; exact h
  by_cases h1 : x < y
  · refine key (-1) (by simp [sg, h1]) ?_
    go_enter Try.func88, Try.ntmps88
    go_wp2_with fail
    refine (isNaN_any _ _).mono ?_; rintro e w' ⟨rfl, rfl⟩
    go_wp2_with fail
    refine (isNaN_any _ _).mono ?_; rintro e w' ⟨rfl, rfl⟩
    go_wp2_with fail
    go_ret
    exact ⟨rfl, rfl⟩
  · by_cases h2 : y < x
    · refine key 1 (by simp [sg, h1, h2]) ?_
      go_enter Try.func88, Try.ntmps88
      go_wp2_with fail
      refine (isNaN_any _ _).mono ?_; rintro e w' ⟨rfl, rfl⟩
      go_wp2_with fail
      refine (isNaN_any _ _).mono ?_; rintro e w' ⟨rfl, rfl⟩
      go_wp2_with fail
      go_ret
      exact ⟨rfl, rfl⟩
    · refine key 0 (by simp [sg, h1, h2]) ?_
      go_enter Try.func88, Try.ntmps88
      go_wp2_with fail
      refine (isNaN_any _ _).mono ?_; rintro e w' ⟨rfl, rfl⟩
      go_wp2_with fail
      refine (isNaN_any _ _).mono ?_; rintro e w' ⟨rfl, rfl⟩
      go_wp2_with fail
      go_ret
      exact ⟨rfl, rfl⟩
def or2 (x y : Int) : Int := if x = 0 then y else x
theorem Or_any (x y : Int) (a : Option Addr) (W : World) (h : IntsAt W a [x, y]) : Calls Try.prog 89 #[.slice a 2 2] W fun e w' => e = .returned (.int .i64 (or2 x y)) ∧ W = w' := by
  obtain ⟨b, off, rfl, _, c0⟩ := h 0 (by simp)
  obtain ⟨b', off', e', _, c1⟩ := h 1 (by simp)
  cases e'
  simp [nth] at c0 c1
  have key : ∀ r : Int, or2 x y = r → Calls Try.prog 89 #[.slice (some ⟨b, off, none⟩) 2 2] W (fun e w' => e = .returned (.int .i64 r) ∧ W = w') → Calls Try.prog 89 #[.slice (some ⟨b, off, none⟩) 2 2] W fun e w' => e = .returned (.int .i64 (or2 x y)) ∧ W = w' := by
    intro r hr h; rw [hr]; exact h
  by_cases h1 : x = 0
  · have h1b : (x != 0) = false := by simp [h1]
    have h1c : (x == 0) = true := by simp [h1]
    by_cases h2 : y = 0
    · have h2b : (y != 0) = false := by simp [h2]
      have h2c : (y == 0) = true := by simp [h2]
      refine key 0 (by simp [or2, h1, h2]) ?_
      clear h1 h2
      go_enter Try.func89, Try.ntmps89
      go_wp2_with fail
      go_rounds 3
      go_ret
      exact ⟨rfl, rfl⟩
    · have h2b : (y != 0) = true := by simp [h2]
      have h2c : (y == 0) = false := by simp [h2]
      refine key y (by simp [or2, h1]) ?_
      clear h1 h2
      go_enter Try.func89, Try.ntmps89
      go_wp2_with fail
      go_rounds 2
      go_ret
      exact ⟨rfl, rfl⟩
  · have h1b : (x != 0) = true := by simp [h1]
    have h1c : (x == 0) = false := by simp [h1]
    refine key x (by simp [or2, h1]) ?_
    clear h1
    go_enter Try.func89, Try.ntmps89
    go_wp2_with fail
    go_rounds 1
    go_ret
    exact ⟨rfl, rfl⟩

/-! ### size, compare -/
def claimV (v a i : Int) : Value := .agg #[.int .i64 v, .int .i64 a, .int .i64 i]
structure ClaimOK (v a : Int) : Prop where
  v0 : 1 ≤ v
  v1 : v ≤ 1000000
  a0 : 0 ≤ a
  a1 : a ≤ 2001
theorem mul_in {v b : Int} (h0 : 1 ≤ v) (h1 : v ≤ 1000000) (h2 : 0 ≤ b) (h3 : b ≤ 2001) : 0 ≤ v * b ∧ v * b ≤ 2001000000 := by
  have := mul_bd (show 0 ≤ v by omega) h1 h2 h3
  omega
theorem sz_ways (v a w b : Int) : szC v a w b = if a = 0 then (if b = 0 then sg v w else 1) else if b = 0 then -1 else sg (v * b) (w * a) := by
  unfold szC
  by_cases h1 : a = 0 <;> by_cases h2 : b = 0 <;> simp [h1, h2]
theorem below2 (w : World) (o o' : Obj) : Below w.heap.size w ((w.alloc o).alloc o') := ((Below.refl _ _).alloc (Nat.le_refl _) _).alloc (by simp) _
set_option maxHeartbeats 1000000 in
theorem size_any (v a i w b j : Int) (h1 : ClaimOK v a) (h2 : ClaimOK w b) (W : World) :
    Calls Try.prog 66 #[.agg #[.int .i64 v, .int .i64 a, .int .i64 i], .agg #[.int .i64 w, .int .i64 b, .int .i64 j]] W fun e w' => e = .returned (.int .i64 (szC v a w b)) ∧ Below W.heap.size W w' := by
  obtain ⟨p1, p2, p3, p4⟩ := h1
  obtain ⟨q1, q2, q3, q4⟩ := h2
  have key : ∀ r : Int, szC v a w b = r → Calls Try.prog 66 #[.agg #[.int .i64 v, .int .i64 a, .int .i64 i], .agg #[.int .i64 w, .int .i64 b, .int .i64 j]] W (fun e w' => e = .returned (.int .i64 r) ∧ Below W.heap.size W w') → Calls Try.prog 66 #[.agg #[.int .i64 v, .int .i64 a, .int .i64 i], .agg #[.int .i64 w, .int .i64 b, .int .i64 j]] W fun e w' => e = .returned (.int .i64 (szC v a w b)) ∧ Below W.heap.size W w' := by
    intro r hr h; rw [hr]; exact h
  rw [sz_ways] at key
  by_cases ha : a = 0
  · have ha1 : (a == 0) = true := by simp [ha]
    by_cases hb : b = 0
    · have hb1 : (b == 0) = true := by simp [hb]
      rw [sz_ways]
      refine key (sg v w) (by simp [ha, hb]) ?_
      clear key ha hb
      go_enter Try.func66, Try.ntmps66
      go_wp2_with fail
      refine (Compare_any _ _ _).mono ?_; rintro e w' ⟨rfl, rfl⟩
      go_wp2_with fail
      go_ret
      exact ⟨rfl, below2 _ _ _⟩
    · have hb1 : (b == 0) = false := by simp [hb]
      rw [sz_ways]
      refine key 1 (by simp [ha, hb]) ?_
      clear key ha hb
      go_enter Try.func66, Try.ntmps66
      go_wp2_with fail
      go_ret
      exact ⟨rfl, below2 _ _ _⟩
  · have ha1 : (a == 0) = false := by simp [ha]
    by_cases hb : b = 0
    · have hb1 : (b == 0) = true := by simp [hb]
      rw [sz_ways]
      refine key (-1) (by simp [ha, hb]) ?_
      clear key ha hb
      go_enter Try.func66, Try.ntmps66
      go_wp2_with fail
      go_ret
      exact ⟨rfl, below2 _ _ _⟩
    · have hb1 : (b == 0) = false := by simp [hb]
      rw [sz_ways]
      refine key (sg (v * b) (w * a)) (by simp [ha, hb]) ?_
      clear key ha hb
      have m1 := mul_in p1 p2 q3 q4
      have m2 := mul_in q1 q2 p3 p4
      go_enter Try.func66, Try.ntmps66
      go_wp2_with fail
      refine (Compare_any _ _ _).mono ?_; rintro e w' ⟨rfl, rfl⟩
      go_wp2_with fail
      go_ret
      exact ⟨rfl, below2 _ _ _⟩

def cmpC (v a i w b j : Int) : Int := or2 (szC v a w b) (sg j i)
def Boxes (H : Nat) (v a i w b j : Int) (W : World) : Prop :=
  W.cell? ⟨H, 0, none⟩ = some (.int .i64 v) ∧ W.cell? ⟨H, 1, none⟩ = some (.int .i64 a) ∧ W.cell? ⟨H, 2, none⟩ = some (.int .i64 i) ∧ W.cell? ⟨H + 1, 0, none⟩ = some (.int .i64 w) ∧ W.cell? ⟨H + 1, 1, none⟩ = some (.int .i64 b) ∧ W.cell? ⟨H + 1, 2, none⟩ = some (.int .i64 j) ∧ H + 1 < W.heap.size
theorem keep6 {H : Nat} {v a i w b j : Int} {W W1 : World} (hg : Below W.heap.size W W1) (h : W.cell? ⟨H, 0, none⟩ = some (.int .i64 v) ∧ W.cell? ⟨H, 1, none⟩ = some (.int .i64 a) ∧ W.cell? ⟨H, 2, none⟩ = some (.int .i64 i) ∧ W.cell? ⟨H + 1, 0, none⟩ = some (.int .i64 w) ∧ W.cell? ⟨H + 1, 1, none⟩ = some (.int .i64 b) ∧ W.cell? ⟨H + 1, 2, none⟩ = some (.int .i64 j) ∧ H + 1 < W.heap.size) :
    W1.cell? ⟨H, 0, none⟩ = some (.int .i64 v) ∧ W1.cell? ⟨H, 1, none⟩ = some (.int .i64 a) ∧ W1.cell? ⟨H, 2, none⟩ = some (.int .i64 i) ∧ W1.cell? ⟨H + 1, 0, none⟩ = some (.int .i64 w) ∧ W1.cell? ⟨H + 1, 1, none⟩ = some (.int .i64 b) ∧ W1.cell? ⟨H + 1, 2, none⟩ = some (.int .i64 j) ∧ H + 1 < W1.heap.size := by
  obtain ⟨k0, k1, k2, k3, k4, k5, l⟩ := h
  have l0 : H < W.heap.size := by omega
  exact ⟨(hg.cell (p := ⟨H, 0, none⟩) l0).trans k0, (hg.cell (p := ⟨H, 1, none⟩) l0).trans k1, (hg.cell (p := ⟨H, 2, none⟩) l0).trans k2, (hg.cell (p := ⟨H + 1, 0, none⟩) l).trans k3, (hg.cell (p := ⟨H + 1, 1, none⟩) l).trans k4, (hg.cell (p := ⟨H + 1, 2, none⟩) l).trans k5, Nat.lt_of_lt_of_le l hg.size⟩
theorem cmp_below {W w2 : World} {o o' : Obj} (hb : Below ((W.alloc o).alloc o').drew.heap.size ((W.alloc o).alloc o').drew w2) (o2 : Obj) : Below W.heap.size W (w2.alloc o2) := by
  have h := (below2 W o o').trans ((undrew hb).mono (by simp; omega))
  exact h.alloc h.size _
set_option maxHeartbeats 2000000 in
theorem compare_any (v a i w b j : Int) (h1 : ClaimOK v a) (h2 : ClaimOK w b) (W : World) :
    Calls Try.prog 72 #[.agg #[.int .i64 v, .int .i64 a, .int .i64 i], .agg #[.int .i64 w, .int .i64 b, .int .i64 j]] W fun e w' => e = .returned (.int .i64 (cmpC v a i w b j)) ∧ Below W.heap.size W w' := by
  have H1 := hid h1
  have H2 := hid h2
  clear h1 h2
  go_enter Try.func72, Try.ntmps72
  go_wp2_with fail
  go_region_held3 (fun w' => w'.cell? ⟨W.heap.size, 0, none⟩ = some (.int .i64 v) ∧ w'.cell? ⟨W.heap.size, 1, none⟩ = some (.int .i64 a) ∧ w'.cell? ⟨W.heap.size, 2, none⟩ = some (.int .i64 i) ∧ w'.cell? ⟨W.heap.size + 1, 0, none⟩ = some (.int .i64 w) ∧ w'.cell? ⟨W.heap.size + 1, 1, none⟩ = some (.int .i64 b) ∧ w'.cell? ⟨W.heap.size + 1, 2, none⟩ = some (.int .i64 j) ∧ W.heap.size + 1 < w'.heap.size) (first | exact keep6 hb (by assumption) | exact keep6 (below_alloc _ _) (by assumption) | assumption | go_keep) (first | (go_at_call 66; refine (size_any v a i w b j H1.out H2.out _).mono ?_; rintro e w2 ⟨rfl, hb⟩) | (go_at_call 88; refine (Compare_any _ _ _).mono ?_; rintro e w' ⟨rfl, rfl⟩) | (go_at_call 89; refine (Or_any _ _ _ _ (intsAt_alloc _ [_, _] 3)).mono ?_; rintro e w' ⟨rfl, rfl⟩))
  all_goals
    go_wp2
    go_ret
    exact ⟨rfl, cmp_below hb _⟩
end Go.Proofs.Ythankdfjkmfokaa
