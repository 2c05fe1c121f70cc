/- 'within' and the document's 'Validate': what they return. -/
import Derived.Test.YtmllbemjcfkmjaaMacLaw
import Derived.Test.YtmllbemjcfkmjaaQuietB
import Derived.Test.YtmllbemjcfkmjaaFn
namespace Go.Proofs.Ytmllbemjcfkmjaa
open Go.RowKit
set_option linter.unusedSimpArgs false
set_option linter.unusedVariables false

theorem within_any (n lo hi : Int) (w : World) :
    Calls Try.prog 73 #[.int .i64 n, .int .i64 lo, .int .i64 hi] w fun e w' => e = .returned (.bool (decide (lo ≤ n) && decide (n ≤ hi))) ∧ w = w' := by
  by_cases h1 : lo ≤ n
  · by_cases h2 : n ≤ hi
    · go_enter Try.func73, Try.ntmps73
      go_wp2
      go_ret
      exact ⟨by simp [h1, h2], rfl⟩
    · go_enter Try.func73, Try.ntmps73
      go_wp2
      go_ret
      exact ⟨by simp [h1, h2], rfl⟩
  · go_enter Try.func73, Try.ntmps73
    go_wp2
    go_ret
    exact ⟨by simp; omega, rfl⟩
theorem within_yes (n lo hi : Int) (w : World) (h1 : lo ≤ n) (h2 : n ≤ hi) :
    Calls Try.prog 73 #[.int .i64 n, .int .i64 lo, .int .i64 hi] w fun e w' => e = .returned (.bool true) ∧ w = w' :=
  (within_any n lo hi w).mono fun e w' ⟨he, hw⟩ => ⟨by rw [he]; simp [h1, h2], hw⟩
theorem within_no (n lo hi : Int) (w : World) (h : n < lo ∨ hi < n) :
    Calls Try.prog 73 #[.int .i64 n, .int .i64 lo, .int .i64 hi] w fun e w' => e = .returned (.bool false) ∧ w = w' :=
  (within_any n lo hi w).mono fun e w' ⟨he, hw⟩ => ⟨by
    rw [he]
    have : (decide (lo ≤ n) && decide (n ≤ hi)) = false := by
      rw [Bool.and_eq_false_iff, decide_eq_false_iff_not, decide_eq_false_iff_not]; omega
    rw [this], hw⟩
theorem quiet_eq {P : Program} {f : FuncId} {args : Array Value} {w : World} {n : Nat} {v : Value}
    (h : Calls P f args (w.drewN n) fun e w' => e = .returned v ∧ w.drewN n = w') : Calls P f args (w.drewN n) fun e w' => e = .returned v ∧ ∃ n', w' = w.drewN n' :=
  h.mono fun e w' ⟨h1, h2⟩ => ⟨h1, n, h2.symm⟩
theorem quiet_eq2 {P : Program} {f : FuncId} {args : Array Value} {w : World} {n x : Nat} {v : Value}
    (h : Calls P f args (w.drewN (n + x)) fun e w' => e = .returned v ∧ w.drewN (n + x) = w') : Calls P f args (w.drewN (n + x)) fun e w' => e = .returned v ∧ ∃ n', w' = w.drewN (n + n') :=
  h.mono fun e w' ⟨h1, h2⟩ => ⟨h1, x, h2.symm⟩
theorem below_quiet {B n : Nat} {w w' : World} (h : Below B w w') : Below B w (w'.drewN n) := ⟨h.os, h.tape, h.output, h.size, h.block⟩
structure BoxAt (H : Nat) (w : World) (x y z : Value) : Prop where
  c0 : w.cell? ⟨H, 0, none⟩ = some x
  c1 : w.cell? ⟨H, 1, none⟩ = some y
  c2 : w.cell? ⟨H, 2, none⟩ = some z
  lt : H < w.heap.size
theorem box_at {W w : World} {x y z : Value} {t : TypeId} {B : Nat} (h : Below B (W.alloc (.cells #[x, y, z] t)) w) (hB : B = W.heap.size + 1) : BoxAt W.heap.size w x y z := by
  subst hB
  have h' := h.size
  refine ⟨?_, ?_, ?_, ?_⟩
  · rw [h.cell (by simp)]; simp
  · rw [h.cell (by simp)]; simp
  · rw [h.cell (by simp)]; simp
  · simp at h'; omega

structure RowOK (m : Mac) (j : Nat) : Prop where
  len : ((rowOf m j).length : Int) = m.L
  el : ∀ a, a < (rowOf m j).length → 0 ≤ nth (rowOf m j) a ∧ nth (rowOf m j) a < m.nx.length
theorem mac_rows {m : Mac} (l1 : 1 ≤ m.L) (l6 : m.L ≤ 6) (n1 : 1 ≤ m.nx.length) (n64 : m.nx.length ≤ 64) (ac : m.ac.length = m.nx.length) (h : ∀ j, j < m.nx.length → RowOK m j) : MacOK m :=
  ⟨l1, l6, n1, n64, ac, fun j hj => (h j hj).len, fun j hj => (h j hj).el⟩
theorem row_of {m : Mac} (h : MacOK m) (j : Nat) (hj : j < m.nx.length) : RowOK m j := ⟨h.len j hj, h.el j hj⟩
theorem val_bad {m : Mac} (l1 : 1 ≤ m.L) (l6 : m.L ≤ 6) (n64 : m.nx.length ≤ 64) (h : ¬ MacOK m) : valE m = 1 := by
  unfold valE
  rw [if_neg (by omega), if_neg (by omega), if_neg h]
def outN (n : Nat) (x : Int) : Bool := decide (x < 0) || decide ((n : Int) ≤ x)
theorem outN_no {n : Nat} {x : Int} : outN n x = false ↔ 0 ≤ x ∧ x < n := by
  unfold outN
  rw [Bool.or_eq_false_iff, decide_eq_false_iff_not, decide_eq_false_iff_not]
  omega
theorem row_any {m : Mac} {j : Nat} (hl : ((rowOf m j).length : Int) = m.L) : anyI (outN m.nx.length) (rowOf m j) = false ↔ RowOK m j := by
  rw [anyI_no]
  constructor
  · intro h
    exact ⟨hl, fun a ha => outN_no.1 (h a ha)⟩
  · intro h a ha
    exact outN_no.2 (h.el a ha)

theorem clos72 (x : Int) (n H : Nat) (a : Option Addr) (cap : Nat) (w : World) (hc : w.cell? ⟨H, 1, none⟩ = some (.slice a n cap)) :
    Calls Try.prog 72 #[.int .i64 x, .pointer (some ⟨H, 0, none⟩)] w fun e w' => e = .returned (.bool (outN n x)) ∧ w = w' := by
  by_cases h1 : x < 0
  · go_enter Try.func72, Try.ntmps72
    go_wp2
    go_ret
    exact ⟨by simp [outN, h1], rfl⟩
  · go_enter Try.func72, Try.ntmps72
    go_wp2
    go_ret
    exact ⟨by simp [outN]; omega, rfl⟩
theorem fn72 (n H : Nat) (a : Option Addr) (cap : Nat) (w : World) (hc : w.cell? ⟨H, 1, none⟩ = some (.slice a n cap)) : Hid (FnP 72 #[] #[.pointer (some ⟨H, 0, none⟩)] (outN n) w) :=
  hid ⟨run_enter Try.func72 (by kernel_rfl) rfl, fun x => clos72 x n H a cap w hc⟩

set_option maxRecDepth 100000 in
set_option maxHeartbeats 4000000 in
theorem rValidate_any (m : Mac) (a a2 : Option Addr) (cap cap2 : Nat) (W : World) (hM : MacAt W a cap a2 cap2 m) :
    Calls Try.prog 28 #[.agg #[.int .i64 m.L, .slice a m.nx.length cap, .slice a2 m.ac.length cap2]] W fun e w' => e = .returned (.int .i64 (valE m)) ∧ Below W.heap.size W w' := by
  have hb0 := below_alloc W (.cells #[.int .i64 m.L, .slice a m.nx.length cap, .slice a2 m.ac.length cap2] 25)
  by_cases hL : 1 ≤ m.L ∧ m.L ≤ 6
  · have Hw := hid (fun w => within_yes m.L 1 6 w hL.1 hL.2)
    by_cases h64 : m.nx.length ≤ 64
    · have HB := hid (fun h => val_bad (m := m) hL.1 hL.2 h64 h)
      by_cases h1 : m.nx.length = 0 ∨ m.ac.length ≠ m.nx.length
      · have R := hid (HB.out fun h => by have := h.n1; have := h.ac; omega)
        by_cases hn0 : m.nx.length = 0
        · have dn : ((m.nx.length : Int) == 0) = true := by rw [hn0]; rfl
          have dm : (m.nx.length == 0) = true := by rw [hn0]; rfl
          clear hn0
          go_enter Try.func28, Try.ntmps28
          go_wp2_with fail
          refine (Hw.out _).mono ?_; rintro e w' ⟨rfl, rfl⟩
          go_wp2_with fail
          go_ret
          exact ⟨by rw [R.out]; rfl, hb0⟩
        · have dn : ((m.nx.length : Int) == 0) = false := beq_eq_false_iff_ne.2 (by omega)
          have dm : ((m.ac.length : Int) == (m.nx.length : Int)) = false := beq_eq_false_iff_ne.2 (by omega)
          have dm2 : (m.ac.length == m.nx.length) = false := beq_eq_false_iff_ne.2 (by omega)
          go_enter Try.func28, Try.ntmps28
          go_wp2_with fail
          refine (Hw.out _).mono ?_; rintro e w' ⟨rfl, rfl⟩
          go_wp2_with fail
          go_ret
          exact ⟨by rw [R.out]; rfl, hb0⟩
      · have dn : ((m.nx.length : Int) == 0) = false := beq_eq_false_iff_ne.2 (by omega)
        have dm : ((m.ac.length : Int) == (m.nx.length : Int)) = true := beq_iff_eq.2 (by omega)
        have dm2 : (m.ac.length == m.nx.length) = true := beq_iff_eq.2 (by omega)
        have hn1 : 1 ≤ m.nx.length := by omega
        have hac : Hid (m.ac.length = m.nx.length) := hid (by omega)
        have HM := hid (hM.below hb0)
        have HBz := hid hb0
        clear h1 hM hb0
        go_enter Try.func28, Try.ntmps28
        go_wp2_with fail
        refine (Hw.out _).mono ?_; rintro e w' ⟨rfl, rfl⟩
        go_wp2_with fail
        generalize hV : W.alloc (.cells #[.int .i64 m.L, .slice a m.nx.length cap, .slice a2 m.ac.length cap2] 25) = V at *
        have HV := hid hV
        clear hV
        go_loopw [3, 4] (fun v3 v4 w' => ∃ k : Nat, k ≤ m.nx.length ∧ v3 = .int .i64 k ∧ Hid (∀ j, j < k → RowOK m j) ∧ Below (W.heap.size + 1) V w') (fun v3 _ _ => m.nx.length - (intOf v3).toNat)
        case atStart => exact ⟨0, by omega, rfl, hid fun j hj => by omega, Below.refl _ _⟩
        case round =>
          obtain ⟨k, hk, rfl, HR, hb⟩ := hrel
          have hsz : V.heap.size = W.heap.size + 1 := by rw [← HV.out]; simp
          have hX := box_at (by rw [HV.out]; exact hb) rfl
          have x0 := hX.c0
          have x1 := hX.c1
          have xl := hX.lt
          have hMk := HM.out.below (by rw [hsz]; exact hb)
          have hbW : Below W.heap.size W wr := HBz.out.trans (hb.mono (by omega))
          have hsw : W.heap.size + 1 ≤ wr.heap.size := by have := hb.size; omega
          clear hX hsz
          by_cases hlt : k < m.nx.length
          · obtain ⟨b, off, rfl, hbl, ra, rc, hc, r1, r2, hI⟩ := hMk.nx k hlt
            have i1 : (0 : Int) ≤ (k : Int) := by omega
            have i2 : (k : Int) < (m.nx.length : Int) := by omega
            by_cases hlen : ((rowOf m k).length : Int) = m.L
            · have de : (((rowOf m k).length : Int) == m.L) = true := beq_iff_eq.2 hlen
              have hl6 : (rowOf m k).length ≤ 6 := by omega
              have Hlen := hid hlen
              have HBad : Hid (¬ RowOK m k → valE m = 1) := hid (fun h => HB.out fun hh => h (row_of hh k hlt))
              clear hlen
              go_wp2_with fail
              go_quiet (fail)
              go_wp2_with fail
              generalize hY : wr.drewN _ = Y
              have hbY : Below wr.heap.size wr Y := by rw [← hY]; exact below_quiet (Below.refl _ _)
              have hsY := hbY.size
              have hbq := hb.trans (hbY.mono (by omega))
              have hIq := hI.below hbY
              have xq0 := (hbY.cell (p := ⟨W.heap.size, 0, none⟩) xl).trans x0
              have xq1 := (hbY.cell (p := ⟨W.heap.size, 1, none⟩) xl).trans x1
              have hcq := (hbY.cell (p := ⟨b, off + k, none⟩) hbl).trans hc
              have hbWq := hbW.trans (hbY.mono hbW.size)
              have xlq : W.heap.size < Y.heap.size := by omega
              clear hb hI x0 x1 hc hbW xl hMk hY hbY hsY
              go_loopw [4] (fun v4 w' => ∃ j : Nat, j ≤ (rowOf m k).length ∧ v4 = .int .i64 j ∧ Hid (∀ i, i < j → 0 ≤ nth (rowOf m k) i ∧ nth (rowOf m k) i < m.nx.length) ∧ ∃ n, w' = Y.drewN n) (fun v4 _ => (rowOf m k).length - (intOf v4).toNat)
              case atStart => exact ⟨0, by omega, rfl, hid fun j hj => by omega, 0, rfl⟩
              case round =>
                obtain ⟨j, hj, rfl, HE, n, rfl⟩ := hrel
                by_cases hjl : j < (rowOf m k).length
                · obtain ⟨b', off', rfl, hbl', c1⟩ := hIq j hjl
                  have i3 : (0 : Int) ≤ (j : Int) := by omega
                  have i4 : (j : Int) < ((rowOf m k).length : Int) := by omega
                  have dj : decide ((j : Int) < m.L) = true := decide_eq_true (by rw [← Hlen.out]; omega)
                  have w1 : IntKind.i64.wrap ((m.nx.length : Int) - 1) = (m.nx.length : Int) - 1 := IntWalk.i64_in _ (by omega)
                  by_cases hin : 0 ≤ nth (rowOf m k) j ∧ nth (rowOf m k) j ≤ (m.nx.length : Int) - 1
                  · go_wp2_with fail
                    go_quiet ((go_at_call 73; exact quiet_eq2 (within_yes _ _ _ _ hin.1 hin.2)))
                    clear w1
                    go_wp2_with fail
                    go_roundw
                    case rel => exact ⟨j + 1, by omega, by go_num, hid fun i hi => by
                      by_cases e : i = j
                      · subst e; exact ⟨hin.1, by omega⟩
                      · exact HE.out i (by omega), _, rfl⟩
                    case measure => simp [intOf]; omega
                  · have R := hid (HBad.out fun h => hin ⟨(h.el j hjl).1, by have := (h.el j hjl).2; omega⟩)
                    have hin' : nth (rowOf m k) j < 0 ∨ (m.nx.length : Int) - 1 < nth (rowOf m k) j := by omega
                    clear hin
                    go_wp2_with fail
                    go_quiet ((go_at_call 73; exact quiet_eq2 (within_no _ _ _ _ hin')))
                    clear w1
                    go_wp2_with fail
                    go_ret
                    exact ⟨by rw [R.out]; rfl, below_quiet (below_quiet hbWq)⟩
                · have dj : decide ((j : Int) < m.L) = false := decide_eq_false (by rw [← Hlen.out]; omega)
                  have HRk : Hid (RowOK m k) := hid ⟨Hlen.out, fun i hi => HE.out i (by omega)⟩
                  go_wp2_with fail
                  go_roundw
                  case rel => exact ⟨k + 1, by omega, by go_num, hid fun i hi => by
                    by_cases e : i = k
                    · subst e; exact HRk.out
                    · exact HR.out i (by omega), below_quiet hbq⟩
                  case measure => simp [intOf]; omega
            · have de : (((rowOf m k).length : Int) == m.L) = false := beq_eq_false_iff_ne.2 hlen
              have R := hid (HB.out fun h => hlen (h.len k hlt))
              clear hlen
              go_wp2_with fail
              go_quiet (fail)
              go_wp2_with fail
              go_ret
              exact ⟨by rw [R.out]; rfl, below_quiet hbW⟩
          · obtain rfl : k = m.nx.length := by omega
            have R := hid (valE_ok (mac_rows hL.1 hL.2 hn1 h64 hac.out HR.out))
            go_wp2_with fail
            go_ret
            exact ⟨by rw [R.out]; rfl, hbW⟩
    · have d64 : decide ((64 : Int) < (m.nx.length : Int)) = true := decide_eq_true (by omega)
      have d64n : decide (64 < m.nx.length) = true := decide_eq_true (by omega)
      have R : Hid (valE m = 4) := hid (by unfold valE; rw [if_neg (by omega), if_pos (by omega)])
      go_enter Try.func28, Try.ntmps28
      go_wp2_with fail
      refine (Hw.out _).mono ?_; rintro e w' ⟨rfl, rfl⟩
      go_wp2_with fail
      go_ret
      exact ⟨by rw [R.out]; rfl, hb0⟩
  · have Hw := hid (fun w => within_no m.L 1 6 w (by omega))
    have R : Hid (valE m = 1) := hid (by unfold valE; rw [if_pos (by omega)])
    go_enter Try.func28, Try.ntmps28
    go_wp2_with fail
    refine (Hw.out _).mono ?_; rintro e w' ⟨rfl, rfl⟩
    go_wp2_with fail
    go_ret
    exact ⟨by rw [R.out]; rfl, hb0⟩

set_option maxRecDepth 100000 in
set_option maxHeartbeats 4000000 in
theorem Validate_any (m : Mac) (a a2 : Option Addr) (cap cap2 : Nat) (W : World) (hM : MacAt W a cap a2 cap2 m) :
    Calls Try.prog 27 #[.agg #[.int .i64 m.L, .slice a m.nx.length cap, .slice a2 m.ac.length cap2]] W fun e w' => e = .returned (.int .i64 (valE m)) ∧ Below W.heap.size W w' := by
  have hb0 := below_alloc W (.cells #[.int .i64 m.L, .slice a m.nx.length cap, .slice a2 m.ac.length cap2] 25)
  by_cases hL1 : m.L < 1
  · have R : Hid (valE m = 1) := hid (by unfold valE; rw [if_pos (by omega)])
    go_enter Try.func27, Try.ntmps27
    go_wp2_with fail
    go_ret
    exact ⟨by rw [R.out]; rfl, hb0⟩
  by_cases hL6 : 6 < m.L
  · have R : Hid (valE m = 1) := hid (by unfold valE; rw [if_pos (by omega)])
    go_enter Try.func27, Try.ntmps27
    go_wp2_with fail
    go_ret
    exact ⟨by rw [R.out]; rfl, hb0⟩
  by_cases h64 : m.nx.length ≤ 64
  · have HB := hid (fun h => val_bad (m := m) (by omega) (by omega) h64 h)
    by_cases h1 : m.nx.length = 0 ∨ m.ac.length ≠ m.nx.length
    · have R := hid (HB.out fun h => by have := h.n1; have := h.ac; omega)
      by_cases hn0 : m.nx.length = 0
      · have dn : ((m.nx.length : Int) == 0) = true := by rw [hn0]; rfl
        have dm : (m.nx.length == 0) = true := by rw [hn0]; rfl
        clear hn0
        go_enter Try.func27, Try.ntmps27
        go_wp2_with fail
        go_ret
        exact ⟨by rw [R.out]; rfl, hb0⟩
      · have dn : ((m.nx.length : Int) == 0) = false := beq_eq_false_iff_ne.2 (by omega)
        have dm : ((m.ac.length : Int) == (m.nx.length : Int)) = false := beq_eq_false_iff_ne.2 (by omega)
        have dm2 : (m.ac.length == m.nx.length) = false := beq_eq_false_iff_ne.2 (by omega)
        go_enter Try.func27, Try.ntmps27
        go_wp2_with fail
        go_ret
        exact ⟨by rw [R.out]; rfl, hb0⟩
    · have dn : ((m.nx.length : Int) == 0) = false := beq_eq_false_iff_ne.2 (by omega)
      have dm : ((m.ac.length : Int) == (m.nx.length : Int)) = true := beq_iff_eq.2 (by omega)
      have dm2 : (m.ac.length == m.nx.length) = true := beq_iff_eq.2 (by omega)
      have hn1 : 1 ≤ m.nx.length := by omega
      have hac : Hid (m.ac.length = m.nx.length) := hid (by omega)
      have HM := hid (hM.below hb0)
      have HBz := hid hb0
      clear h1 hM hb0
      go_enter Try.func27, Try.ntmps27
      go_wp2_with fail
      generalize hV : W.alloc (.cells #[.int .i64 m.L, .slice a m.nx.length cap, .slice a2 m.ac.length cap2] 25) = V at *
      have HV := hid hV
      clear hV
      have hX := box_at (by rw [HV.out]; exact Below.refl _ _) rfl
      have x0 := hX.c0
      have x1 := hX.c1
      have xl := hX.lt
      clear hX
      go_loop [4, 36] (fun v4 v36 => ∃ k : Nat, k ≤ m.nx.length ∧ v36 = .int .i64 k ∧ Hid (∀ j, j < k → RowOK m j)) (fun _ v36 => m.nx.length - (intOf v36).toNat)
      case atStart => exact ⟨0, by omega, rfl, hid fun j hj => by omega⟩
      case round =>
        obtain ⟨k, hk, rfl, HR⟩ := hrel
        by_cases hlt : k < m.nx.length
        · obtain ⟨b, off, rfl, hbl, ra, rc, hc, r1, r2, hI⟩ := HM.out.nx k hlt
          have i1 : (0 : Int) ≤ (k : Int) := by omega
          have i2 : (k : Int) < (m.nx.length : Int) := by omega
          by_cases hlen : ((rowOf m k).length : Int) = m.L
          · have de : (((rowOf m k).length : Int) == m.L) = true := beq_iff_eq.2 hlen
            have dne : (((rowOf m k).length : Int) != m.L) = false := by rw [bne, de]; rfl
            have HRA := hid (row_any hlen)
            have HBad : Hid (¬ RowOK m k → valE m = 1) := hid (fun h => HB.out fun hh => h (row_of hh k hlt))
            have Hc := hid (containsFunc_any 72 #[] #[.pointer (some ⟨W.heap.size, 0, none⟩)] (outN m.nx.length) (rowOf m k) ra rc V hI (by omega) (fn72 m.nx.length W.heap.size _ cap V x1))
            clear hlen
            cases hA : anyI (outN m.nx.length) (rowOf m k)
            · have HRk := hid (HRA.out.1 hA)
              rw [hA] at Hc
              clear hA HRA HBad
              go_wp2_with fail
              refine Hc.out.mono ?_; rintro e w' ⟨rfl, rfl⟩
              go_wp2_with fail
              go_round
              case rel => exact ⟨k + 1, by omega, by go_num, hid fun i hi => by
                by_cases e : i = k
                · subst e; exact HRk.out
                · exact HR.out i (by omega)⟩
              case measure => simp [intOf]; omega
            · have R := hid (HBad.out fun h => by rw [HRA.out.2 h] at hA; cases hA)
              rw [hA] at Hc
              clear hA HRA HBad
              go_wp2_with fail
              refine Hc.out.mono ?_; rintro e w' ⟨rfl, rfl⟩
              go_wp2_with fail
              go_ret
              exact ⟨by rw [R.out]; rfl, HBz.out⟩
          · have de : (((rowOf m k).length : Int) == m.L) = false := beq_eq_false_iff_ne.2 hlen
            have dne : (((rowOf m k).length : Int) != m.L) = true := by rw [bne, de]; rfl
            have R := hid (HB.out fun h => hlen (h.len k hlt))
            clear hlen
            go_wp2_with fail
            go_ret
            exact ⟨by rw [R.out]; rfl, HBz.out⟩
        · obtain rfl : k = m.nx.length := by omega
          have R := hid (valE_ok (mac_rows (by omega) (by omega) hn1 h64 hac.out HR.out))
          go_wp2_with fail
          go_ret
          exact ⟨by rw [R.out]; rfl, HBz.out⟩
  · have d64 : decide ((64 : Int) < (m.nx.length : Int)) = true := decide_eq_true (by omega)
    have d64n : decide (64 < m.nx.length) = true := decide_eq_true (by omega)
    have R : Hid (valE m = 4) := hid (by unfold valE; rw [if_neg (by omega), if_pos (by omega)])
    go_enter Try.func27, Try.ntmps27
    go_wp2_with fail
    go_ret
    exact ⟨by rw [R.out]; rfl, hb0⟩
end Go.Proofs.Ytmllbemjcfkmjaa
