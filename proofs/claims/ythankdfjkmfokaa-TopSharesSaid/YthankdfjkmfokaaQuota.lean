/- 'Quota' and the document's: what they return. -/
import Derived.Test.YthankdfjkmfokaaKeeps
import Derived.Test.YthankdfjkmfokaaGcd
import Derived.Test.YthankdfjkmfokaaStillSt
namespace Go.Proofs.Ythankdfjkmfokaa
open Go.RowKit
set_option linter.unusedSimpArgs false
set_option linter.unusedVariables false

def frN (x y : Int) : Int := x / (gc x.toNat y.toNat : Nat)
def frD (x y : Int) : Int := y / (gc x.toNat y.toNat : Nat)
theorem fraction_any (x y : Int) (w : World) (hx0 : 0 ≤ x) (hx : x ≤ 4611686018427387904) (hy0 : 1 ≤ y) (hy : y ≤ 4611686018427387904) :
    Calls Try.prog 68 #[.int .i64 x, .int .i64 y] w fun e w' => e = .returned (.agg #[.int .i64 (frN x y), .int .i64 (frD x y)]) ∧ Below w.heap.size w w' := by
  have h := fraction_in x.toNat y.toNat w (by omega) (by omega) (by omega)
  rw [Int.toNat_of_nonneg hx0, Int.toNat_of_nonneg (by omega : 0 ≤ y)] at h
  exact h
theorem rFraction_any (x y : Int) (w : World) (hx0 : 0 ≤ x) (hx : x ≤ 4611686018427387904) (hy0 : 1 ≤ y) (hy : y ≤ 4611686018427387904) :
    Calls Try.prog 70 #[.int .i64 x, .int .i64 y] w fun e w' => e = .returned (.agg #[.int .i64 (frN x y), .int .i64 (frD x y)]) ∧ Below w.heap.size w w' := by
  have h := rFraction_in x.toNat y.toNat w (by omega) (by omega) (by omega)
  rw [Int.toNat_of_nonneg hx0, Int.toNat_of_nonneg (by omega : 0 ≤ y)] at h
  exact h
structure SchOK (xs : List Int) (s : Int) : Prop where
  lo : 0 ≤ s
  hi : s < xs.length
def QuoOK (xs : List Int) (n s : Int) : Prop := (OrdOK xs ∧ NumOK n) ∧ SchOK xs s
open Classical in
noncomputable def quoE (xs : List Int) (n s : Int) : Int := if OrdOK xs ∧ NumOK n then (if SchOK xs s then 0 else 5) else 1
open Classical in
noncomputable def quoN (xs : List Int) (n s : Int) : Int := if QuoOK xs n s then frN (n * nth xs s.toNat) (tot xs) else 0
open Classical in
noncomputable def quoD (xs : List Int) (n s : Int) : Int := if QuoOK xs n s then frD (n * nth xs s.toNat) (tot xs) else 0
theorem quo_yes {xs : List Int} {n s : Int} (h : QuoOK xs n s) : quoE xs n s = 0 ∧ quoN xs n s = frN (n * nth xs s.toNat) (tot xs) ∧ quoD xs n s = frD (n * nth xs s.toNat) (tot xs) :=
  ⟨by rw [quoE, if_pos h.1, if_pos h.2], by rw [quoN, if_pos h], by rw [quoD, if_pos h]⟩
theorem quo_5 {xs : List Int} {n s : Int} (h : OrdOK xs ∧ NumOK n) (h2 : ¬ SchOK xs s) : quoE xs n s = 5 ∧ quoN xs n s = 0 ∧ quoD xs n s = 0 :=
  ⟨by rw [quoE, if_pos h, if_neg h2], by rw [quoN, if_neg fun x => h2 x.2], by rw [quoD, if_neg fun x => h2 x.2]⟩
theorem quo_1 {xs : List Int} {n s : Int} (h : ¬ (OrdOK xs ∧ NumOK n)) : quoE xs n s = 1 ∧ quoN xs n s = 0 ∧ quoD xs n s = 0 :=
  ⟨by rw [quoE, if_neg h], by rw [quoN, if_neg fun x => h x.1], by rw [quoD, if_neg fun x => h x.1]⟩
theorem rat_cells (w w' : World) (hb : Below (w.alloc (.cells #[.int .i64 0, .int .i64 0] 44)).heap.size (w.alloc (.cells #[.int .i64 0, .int .i64 0] 44)) w') :
    w'.rowIs w.heap.size 44 2 (fun _ => .int .i64 0) := by
  have h0 : (w.alloc (.cells #[.int .i64 0, .int .i64 0] 44)).rowIs w.heap.size 44 2 (fun _ => .int .i64 0) := by
    refine World.rowIs_alloc w #[.int .i64 0, .int .i64 0] 44 _ fun i hi => ?_
    have : i = 0 ∨ i = 1 := by simp at hi; omega
    rcases this with rfl | rfl <;> rfl
  exact h0.of_block (hb.block _ h0.lt)

set_option maxRecDepth 100000 in
set_option maxHeartbeats 1000000 in
theorem Quota_any (xs : List Int) (a : Option Addr) (cap : Nat) (n s : Int) (W : World) (h1 : IntsAt W a xs) (hm : xs.length ≤ 1000) :
    Calls Try.prog 35 #[.slice a xs.length cap, .int .i64 n, .int .i64 s] W fun e w' => e = .returned (.tuple #[.agg #[.int .i64 (quoN xs n s), .int .i64 (quoD xs n s)], .int .i64 (quoE xs n s)]) ∧ Below W.heap.size W w' := by
  have hbA : Below W.heap.size W (W.alloc (.cells #[.int .i64 0, .int .i64 0] 44)) := below_alloc _ _
  have hIA := h1.below hbA
  have Hv := hid (Validate_any xs a cap (W.alloc (.cells #[.int .i64 0, .int .i64 0] 44)) hIA (by unfold maxLen; omega))
  have Hn := hid (number_any n)
  by_cases ho : OrdOK xs
  · rw [e01_yes ho] at Hv
    by_cases hn : NumOK n
    · rw [e01_yes hn] at Hn
      by_cases hs : SchOK xs s
      · have R := hid (quo_yes ⟨⟨ho, hn⟩, hs⟩)
        have T := hid (total61 xs a cap (W.alloc (.cells #[.int .i64 0, .int .i64 0] 44)).drew (hIA.below (Below.refl _ _).drew) ho.small)
        have ht := tot_ord ho
        have hs0 := hs.lo
        have hs1 := hs.hi
        obtain ⟨j, rfl⟩ : ∃ j : Nat, s = j := ⟨s.toNat, by omega⟩
        simp only [Int.toNat_natCast] at R
        have hj : j < xs.length := by omega
        have hv := ho.el j hj
        have hp := mul_bds hn.1 hn.2 (by omega) hv.2
        obtain ⟨b, off, rfl, hbl, c1⟩ := hIA j hj
        have w1 : IntKind.i64.wrap (n * nth xs j) = n * nth xs j := IntWalk.i64_in _ (by omega)
        have Hf := hid (fun w => fraction_any (n * nth xs j) (tot xs) w hp.1 (by omega) ht.1 (by omega))
        have w2 : IntKind.i64.wrap ((xs.length : Int) - 1) = (xs.length : Int) - 1 := IntWalk.i64_in _ (by omega)
        have Hw : Hid (Calls Try.prog 57 #[.int .i64 (j : Int), .int .i64 0, .int .i64 ((xs.length : Int) - 1)] (W.alloc (.cells #[.int .i64 0, .int .i64 0] 44)) fun e w' => e = .returned (.bool true) ∧ (W.alloc (.cells #[.int .i64 0, .int .i64 0] 44)) = w') := hid (within_yes _ _ _ _ (by omega) (by omega))
        clear ho hn hs hp
        go_enter Try.func35, Try.ntmps35
        go_wp2_with fail
        refine Hv.out.mono ?_; rintro e w' ⟨rfl, rfl⟩
        go_wp2_with fail
        refine (Hn.out _).mono ?_; rintro e w' ⟨rfl, rfl⟩
        go_wp2_with fail
        refine Hw.out.mono ?_; rintro e w' ⟨rfl, rfl⟩
        go_wp2_with fail
        generalize hV : (W.alloc (.cells #[.int .i64 0, .int .i64 0] 44)) = V at *
        have c2 : ({ V with drawn := V.drawn + 1 } : World).cell? ⟨b, off + j, none⟩ = some (.int .i64 (nth xs j)) := c1
        refine wp_region_still_tail 8 (by kernel_rfl) (by kernel_rfl) ?_
        simp only [List.take_succ_cons, List.take_zero, List.drop_succ_cons, List.drop_zero]
        refine St.out ?_
        iterate 7 (refine st_want (by kernel_rfl) (fun K hK => ?_); go_simp; refine hK _ ?_; clear hK K)
        refine st_want (by kernel_rfl) (fun K hK => ?_); go_simp
        refine ⟨_, T.out.mono fun e w' h => ⟨h.1, h.2.symm⟩, hK _ ?_⟩
        clear hK K
        refine st_nil ?_
        change wpList _ _ _ _ _ V.drew
        subst hV
        go_wp2_with fail
        refine (Hf.out _).mono ?_; rintro e w2 ⟨rfl, hb2⟩
        have hr := rat_cells W w2 (undrew hb2)
        have q0 := hr.cell (i := 0) (by omega)
        have q1 := hr.cell (i := 1) (by omega)
        have f0 := hr.frozen 0
        have f1 := hr.frozen 1
        have hbz := hbA.trans ((undrew hb2).mono hbA.size)
        have s1 := (hr.set 0 (.int .i64 (frN (n * nth xs j) (tot xs)))).set 1 (.int .i64 (frD (n * nth xs j) (tot xs)))
        have o0 := s1.cell (i := 0) (by omega)
        have o1 := s1.cell (i := 1) (by omega)
        simp only [if_true, if_false, show (0 : Nat) ≠ 1 by omega, ite_true, ite_false] at o0 o1
        clear s1 hr hb2
        go_wp2_with fail
        refine bodyPost_ret (v := .tuple #[.agg #[.int .i64 (frN (n * nth xs j) (tot xs)), .int .i64 (frD (n * nth xs j) (tot xs))], .int .i64 0]) (by simp [results, Try.results35, go_sem, o0, o1]) rfl ⟨by rw [R.out.1, R.out.2.1, R.out.2.2], (hbz.setCell (p := ⟨W.heap.size, 0, none⟩) (Nat.le_refl _) _).setCell (p := ⟨W.heap.size, 1, none⟩) (Nat.le_refl _) _⟩
      · have R := hid (quo_5 ⟨ho, hn⟩ hs)
        have hl := ho.l8
        have hs' : s < 0 ∨ (xs.length : Int) ≤ s := by
          by_cases h : s < 0
          · exact .inl h
          · exact .inr (by have : ¬ s < (xs.length : Int) := fun x => hs ⟨by omega, x⟩; omega)
        have w2 : IntKind.i64.wrap ((xs.length : Int) - 1) = (xs.length : Int) - 1 := IntWalk.i64_in _ (by omega)
        have Hw : Hid (Calls Try.prog 57 #[.int .i64 s, .int .i64 0, .int .i64 ((xs.length : Int) - 1)] (W.alloc (.cells #[.int .i64 0, .int .i64 0] 44)) fun e w' => e = .returned (.bool false) ∧ (W.alloc (.cells #[.int .i64 0, .int .i64 0] 44)) = w') := hid (within_no _ _ _ _ (by omega))
        clear ho hn hs hs'
        go_enter Try.func35, Try.ntmps35
        go_wp2_with fail
        refine Hv.out.mono ?_; rintro e w' ⟨rfl, rfl⟩
        go_wp2_with fail
        refine (Hn.out _).mono ?_; rintro e w' ⟨rfl, rfl⟩
        go_wp2_with fail
        refine Hw.out.mono ?_; rintro e w' ⟨rfl, rfl⟩
        go_wp2_with fail
        refine bodyPost_ret (v := .tuple #[.agg #[.int .i64 0, .int .i64 0], .int .i64 5]) (by simp [results, Try.results35, go_sem]) rfl ⟨by rw [R.out.1, R.out.2.1, R.out.2.2], ?_⟩
        first | exact hbA | exact (hbA.setCell (p := ⟨W.heap.size, 0, none⟩) (Nat.le_refl _) _).setCell (p := ⟨W.heap.size, 1, none⟩) (Nat.le_refl _) _
    · rw [e01_no hn] at Hn
      have R := hid (quo_1 (xs := xs) (n := n) (s := s) fun x => hn x.2)
      clear ho hn
      go_enter Try.func35, Try.ntmps35
      go_wp2_with fail
      refine Hv.out.mono ?_; rintro e w' ⟨rfl, rfl⟩
      go_wp2_with fail
      refine (Hn.out _).mono ?_; rintro e w' ⟨rfl, rfl⟩
      go_wp2_with fail
      refine bodyPost_ret (v := .tuple #[.agg #[.int .i64 0, .int .i64 0], .int .i64 1]) (by simp [results, Try.results35, go_sem]) rfl ⟨by rw [R.out.1, R.out.2.1, R.out.2.2], ?_⟩
      first | exact hbA | exact (hbA.setCell (p := ⟨W.heap.size, 0, none⟩) (Nat.le_refl _) _).setCell (p := ⟨W.heap.size, 1, none⟩) (Nat.le_refl _) _
  · rw [e01_no ho] at Hv
    have R := hid (quo_1 (xs := xs) (n := n) (s := s) fun x => ho x.1)
    clear ho
    go_enter Try.func35, Try.ntmps35
    go_wp2_with fail
    refine Hv.out.mono ?_; rintro e w' ⟨rfl, rfl⟩
    go_wp2_with fail
    refine bodyPost_ret (v := .tuple #[.agg #[.int .i64 0, .int .i64 0], .int .i64 1]) (by simp [results, Try.results35, go_sem]) rfl ⟨by rw [R.out.1, R.out.2.1, R.out.2.2], ?_⟩
    first | exact hbA | exact (hbA.setCell (p := ⟨W.heap.size, 0, none⟩) (Nat.le_refl _) _).setCell (p := ⟨W.heap.size, 1, none⟩) (Nat.le_refl _) _

set_option maxRecDepth 100000 in
set_option maxHeartbeats 1000000 in
theorem rQuota_any (xs : List Int) (a : Option Addr) (cap : Nat) (n s : Int) (W : World) (h1 : IntsAt W a xs) (hm : xs.length ≤ 1000) :
    Calls Try.prog 36 #[.slice a xs.length cap, .int .i64 n, .int .i64 s] W fun e w' => e = .returned (.tuple #[.agg #[.int .i64 (quoN xs n s), .int .i64 (quoD xs n s)], .int .i64 (quoE xs n s)]) ∧ Below W.heap.size W w' := by
  have hbA : Below W.heap.size W (W.alloc (.cells #[.int .i64 0, .int .i64 0] 44)) := below_alloc _ _
  have hIA := h1.below hbA
  have Hv := hid (rValidate_any xs a cap (W.alloc (.cells #[.int .i64 0, .int .i64 0] 44)) hIA (by unfold maxLen; omega))
  have Hn := hid (countOK_any n)
  by_cases ho : OrdOK xs
  · rw [e01_yes ho] at Hv
    by_cases hn : NumOK n
    · rw [numB_yes hn] at Hn
      by_cases hs : SchOK xs s
      · have R := hid (quo_yes ⟨⟨ho, hn⟩, hs⟩)
        have T := hid (sum63 xs a cap (W.alloc (.cells #[.int .i64 0, .int .i64 0] 44)).drew (hIA.below (Below.refl _ _).drew) ho.small)
        have ht := tot_ord ho
        have hs0 := hs.lo
        have hs1 := hs.hi
        obtain ⟨j, rfl⟩ : ∃ j : Nat, s = j := ⟨s.toNat, by omega⟩
        simp only [Int.toNat_natCast] at R
        have hj : j < xs.length := by omega
        have hv := ho.el j hj
        have hp := mul_bds hn.1 hn.2 (by omega) hv.2
        obtain ⟨b, off, rfl, hbl, c1⟩ := hIA j hj
        have w1 : IntKind.i64.wrap (n * nth xs j) = n * nth xs j := IntWalk.i64_in _ (by omega)
        have Hf := hid (fun w => rFraction_any (n * nth xs j) (tot xs) w hp.1 (by omega) ht.1 (by omega))
        have d1 : decide ((j : Int) < 0) = false := decide_eq_false (by omega)
        have d2 : decide ((xs.length : Int) ≤ (j : Int)) = false := decide_eq_false (by omega)
        clear ho hn hs hp
        go_enter Try.func36, Try.ntmps36
        go_wp2_with fail
        refine Hv.out.mono ?_; rintro e w' ⟨rfl, rfl⟩
        go_wp2_with fail
        refine (Hn.out _).mono ?_; rintro e w' ⟨rfl, rfl⟩
        go_wp2_with fail
        generalize hV : (W.alloc (.cells #[.int .i64 0, .int .i64 0] 44)) = V at *
        have c2 : ({ V with drawn := V.drawn + 1 } : World).cell? ⟨b, off + j, none⟩ = some (.int .i64 (nth xs j)) := c1
        refine wp_region_still_tail 8 (by kernel_rfl) (by kernel_rfl) ?_
        simp only [List.take_succ_cons, List.take_zero, List.drop_succ_cons, List.drop_zero]
        refine St.out ?_
        iterate 7 (refine st_want (by kernel_rfl) (fun K hK => ?_); go_simp; refine hK _ ?_; clear hK K)
        refine st_want (by kernel_rfl) (fun K hK => ?_); go_simp
        refine ⟨_, T.out.mono fun e w' h => ⟨h.1, h.2.symm⟩, hK _ ?_⟩
        clear hK K
        refine st_nil ?_
        change wpList _ _ _ _ _ V.drew
        subst hV
        go_wp2_with fail
        refine (Hf.out _).mono ?_; rintro e w2 ⟨rfl, hb2⟩
        have hr := rat_cells W w2 (undrew hb2)
        have q0 := hr.cell (i := 0) (by omega)
        have q1 := hr.cell (i := 1) (by omega)
        have f0 := hr.frozen 0
        have f1 := hr.frozen 1
        have hbz := hbA.trans ((undrew hb2).mono hbA.size)
        have s1 := (hr.set 0 (.int .i64 (frN (n * nth xs j) (tot xs)))).set 1 (.int .i64 (frD (n * nth xs j) (tot xs)))
        have o0 := s1.cell (i := 0) (by omega)
        have o1 := s1.cell (i := 1) (by omega)
        simp only [if_true, if_false, show (0 : Nat) ≠ 1 by omega, ite_true, ite_false] at o0 o1
        clear s1 hr hb2
        go_wp2_with fail
        refine bodyPost_ret (v := .tuple #[.agg #[.int .i64 (frN (n * nth xs j) (tot xs)), .int .i64 (frD (n * nth xs j) (tot xs))], .int .i64 0]) (by simp [results, Try.results36, go_sem, o0, o1]) rfl ⟨by rw [R.out.1, R.out.2.1, R.out.2.2], (hbz.setCell (p := ⟨W.heap.size, 0, none⟩) (Nat.le_refl _) _).setCell (p := ⟨W.heap.size, 1, none⟩) (Nat.le_refl _) _⟩
      · have R := hid (quo_5 ⟨ho, hn⟩ hs)
        have hl := ho.l8
        have hs' : s < 0 ∨ (xs.length : Int) ≤ s := by
          by_cases h : s < 0
          · exact .inl h
          · exact .inr (by have : ¬ s < (xs.length : Int) := fun x => hs ⟨by omega, x⟩; omega)
        clear ho hn hs
        rcases hs' with hs' | hs'
        · have d1 : decide (s < 0) = true := decide_eq_true hs'
          go_enter Try.func36, Try.ntmps36
          go_wp2_with fail
          refine Hv.out.mono ?_; rintro e w' ⟨rfl, rfl⟩
          go_wp2_with fail
          refine (Hn.out _).mono ?_; rintro e w' ⟨rfl, rfl⟩
          go_wp2_with fail
          refine bodyPost_ret (v := .tuple #[.agg #[.int .i64 0, .int .i64 0], .int .i64 5]) (by simp [results, Try.results36, go_sem]) rfl ⟨by rw [R.out.1, R.out.2.1, R.out.2.2], ?_⟩
          first | exact hbA | exact (hbA.setCell (p := ⟨W.heap.size, 0, none⟩) (Nat.le_refl _) _).setCell (p := ⟨W.heap.size, 1, none⟩) (Nat.le_refl _) _
        · have d1 : decide (s < 0) = false := decide_eq_false (by omega)
          have d2 : decide ((xs.length : Int) ≤ s) = true := decide_eq_true hs'
          go_enter Try.func36, Try.ntmps36
          go_wp2_with fail
          refine Hv.out.mono ?_; rintro e w' ⟨rfl, rfl⟩
          go_wp2_with fail
          refine (Hn.out _).mono ?_; rintro e w' ⟨rfl, rfl⟩
          go_wp2_with fail
          refine bodyPost_ret (v := .tuple #[.agg #[.int .i64 0, .int .i64 0], .int .i64 5]) (by simp [results, Try.results36, go_sem]) rfl ⟨by rw [R.out.1, R.out.2.1, R.out.2.2], ?_⟩
          first | exact hbA | exact (hbA.setCell (p := ⟨W.heap.size, 0, none⟩) (Nat.le_refl _) _).setCell (p := ⟨W.heap.size, 1, none⟩) (Nat.le_refl _) _
    · rw [numB_no hn] at Hn
      have R := hid (quo_1 (xs := xs) (n := n) (s := s) fun x => hn x.2)
      clear ho hn
      go_enter Try.func36, Try.ntmps36
      go_wp2_with fail
      refine Hv.out.mono ?_; rintro e w' ⟨rfl, rfl⟩
      go_wp2_with fail
      refine (Hn.out _).mono ?_; rintro e w' ⟨rfl, rfl⟩
      go_wp2_with fail
      refine bodyPost_ret (v := .tuple #[.agg #[.int .i64 0, .int .i64 0], .int .i64 1]) (by simp [results, Try.results36, go_sem]) rfl ⟨by rw [R.out.1, R.out.2.1, R.out.2.2], ?_⟩
      first | exact hbA | exact (hbA.setCell (p := ⟨W.heap.size, 0, none⟩) (Nat.le_refl _) _).setCell (p := ⟨W.heap.size, 1, none⟩) (Nat.le_refl _) _
  · rw [e01_no ho] at Hv
    have R := hid (quo_1 (xs := xs) (n := n) (s := s) fun x => ho x.1)
    clear ho
    go_enter Try.func36, Try.ntmps36
    go_wp2_with fail
    refine Hv.out.mono ?_; rintro e w' ⟨rfl, rfl⟩
    go_wp2_with fail
    refine bodyPost_ret (v := .tuple #[.agg #[.int .i64 0, .int .i64 0], .int .i64 1]) (by simp [results, Try.results36, go_sem]) rfl ⟨by rw [R.out.1, R.out.2.1, R.out.2.2], ?_⟩
    first | exact hbA | exact (hbA.setCell (p := ⟨W.heap.size, 0, none⟩) (Nat.le_refl _) _).setCell (p := ⟨W.heap.size, 1, none⟩) (Nat.le_refl _) _
end Go.Proofs.Ythankdfjkmfokaa
