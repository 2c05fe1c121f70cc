/- 'Least', 'Most', 'Never': what they return. -/
import Derived.Test.YtmllbemjcfkmjaaPlainW
import Derived.Test.YtmllbemjcfkmjaaKnown
namespace Go.Proofs.Ytmllbemjcfkmjaa
open Go.RowKit Go.Maps
set_option linter.unusedSimpArgs false
set_option linter.unusedVariables false

theorem ltr_iff {L : Int} {xs : List Int} : ltrB L xs = true ↔ (1 ≤ L ∧ L ≤ 6) ∧ ∀ i, i < xs.length → 0 ≤ nth xs i ∧ nth xs i < L := by
  unfold ltrB
  rw [Bool.and_eq_true, Bool.and_eq_true, decide_eq_true_iff, decide_eq_true_iff, Bool.not_eq_true', anyI_no]
  exact and_congr Iff.rfl ⟨fun h i hi => outI_no.1 (h i hi), fun h i hi => outI_no.2 (h i hi)⟩
/-! ### counting a letter -/
def cuS (a t : Int) (s : Int) (c : Nat) : Int := if (c : Int) = a ∧ s ≤ t then s + 1 else s
noncomputable def cuE (L a t : Int) : Int := if ((1 ≤ L ∧ L ≤ 6) ∧ 0 ≤ a ∧ a < L) ∧ 0 ≤ t ∧ t ≤ 20 then 0 else 1
def leA (t : Int) (s : Int) : Bool := decide (t ≤ s)
def moA (t : Int) (s : Int) : Bool := decide (s ≤ t)
theorem cuS_auto {L : Nat} (h1 : 1 ≤ L) (h6 : L ≤ 6) {a t : Int} (h0 : 0 ≤ t) (h20 : t ≤ 20) : AutoOK L (cuS a t) 0 (t + 2) := by
  refine ⟨h1, h6, by omega, by omega, by omega, by omega, fun s hs0 hs c hc => ?_⟩
  unfold cuS
  split <;> omega
set_option maxRecDepth 100000 in
theorem cu_step (a t : Int) (s : Int) (h0 : 0 ≤ s) (h1 : s < t + 2) (h20 : t ≤ 20) (c : Nat) (hc : c < 6) (HA HT : Nat) (w : World) (ha : w.cell? ⟨HA, 0, none⟩ = some (.int .i64 a)) (ht : w.cell? ⟨HT, 0, none⟩ = some (.int .i64 t)) :
    Calls Try.prog 115 #[.int .i64 s, .int .i64 c, .pointer (some ⟨HA, 0, none⟩), .pointer (some ⟨HT, 0, none⟩)] w fun e w' => e = .returned (.int .i64 (cuS a t s c)) ∧ Below w.heap.size w w' := by
  by_cases h : (c : Int) = a
  · have d1 : ((c : Int) == a) = true := beq_iff_eq.2 h
    by_cases h2 : s ≤ t
    · have R : Hid (cuS a t s c = s + 1) := hid (by unfold cuS; rw [if_pos ⟨h, h2⟩])
      clear h
      go_enter Try.func115, Try.ntmps115
      go_wp2_with fail
      go_ret
      exact ⟨by rw [R.out]; rfl, Below.refl _ _⟩
    · have R : Hid (cuS a t s c = s) := hid (by unfold cuS; rw [if_neg fun x => h2 x.2])
      clear h
      go_enter Try.func115, Try.ntmps115
      go_wp2_with fail
      go_ret
      exact ⟨by rw [R.out]; rfl, Below.refl _ _⟩
  · have d1 : ((c : Int) == a) = false := beq_eq_false_iff_ne.2 h
    have R : Hid (cuS a t s c = s) := hid (by unfold cuS; rw [if_neg fun x => h x.1])
    clear h
    go_enter Try.func115, Try.ntmps115
    go_wp2_with fail
    go_ret
    exact ⟨by rw [R.out]; rfl, Below.refl _ _⟩
theorem ac89 (t s : Int) (HT : Nat) (w : World) (ht : w.cell? ⟨HT, 0, none⟩ = some (.int .i64 t)) : Calls Try.prog 89 #[.int .i64 s, .pointer (some ⟨HT, 0, none⟩)] w fun e w' => e = .returned (.bool (leA t s)) ∧ Below w.heap.size w w' := by
  go_enter Try.func89, Try.ntmps89
  go_wp2_with fail
  go_ret
  exact ⟨rfl, Below.refl _ _⟩
theorem ac91 (t s : Int) (HT : Nat) (w : World) (ht : w.cell? ⟨HT, 0, none⟩ = some (.int .i64 t)) : Calls Try.prog 91 #[.int .i64 s, .pointer (some ⟨HT, 0, none⟩)] w fun e w' => e = .returned (.bool (moA t s)) ∧ Below w.heap.size w w' := by
  go_enter Try.func91, Try.ntmps91
  go_wp2_with fail
  go_ret
  exact ⟨rfl, Below.refl _ _⟩

set_option maxRecDepth 100000 in
set_option maxHeartbeats 2000000 in
theorem counting_any (L a t : Int) (g : Nat) (b2 c2 : Array Value) (ac : Int → Bool) (W : World) (Hg : Hid (∀ w args, Sem.run Try.prog (callFunc g args) w = .ok (.enter g args) w))
    (HAc : Hid (∀ w, Below W.heap.size W w → ∀ s, 0 ≤ s → s < t + 2 → Calls Try.prog g (b2.push (.int .i64 s) ++ c2) w fun e w' => e = .returned (.bool (ac s)) ∧ Below w.heap.size w w')) :
    Calls Try.prog 88 #[.int .i64 L, .int .i64 a, .int .i64 t, .func (.func g) b2 c2] W (GenPost W (cuE L a t) L.toNat (laA L.toNat (cuS a t) ac 0)) := by
  have hb0 : Below W.heap.size W ((((W.alloc (.cells #[.int .i64 a] 3)).alloc (.cells #[.int .i64 t] 3)).alloc (.cells #[.int .i64 0, .slice none 0 0, .slice none 0 0] 25)).alloc (.cells #[.int .i64 a] 3)) := (((below_alloc W _).alloc (by simp) _).alloc (by simp <;> omega) _).alloc (by simp <;> omega) _
  have HB := hid hb0
  have hI : IntsAt ((((W.alloc (.cells #[.int .i64 a] 3)).alloc (.cells #[.int .i64 t] 3)).alloc (.cells #[.int .i64 0, .slice none 0 0, .slice none 0 0] 25)).alloc (.cells #[.int .i64 a] 3)) (some ⟨W.heap.size + 1 + 1 + 1, 0, none⟩) [a] := by
    have := intsAt_alloc (((W.alloc (.cells #[.int .i64 a] 3)).alloc (.cells #[.int .i64 t] 3)).alloc (.cells #[.int .i64 0, .slice none 0 0, .slice none 0 0] 25)) [a] 3
    rw [show (((W.alloc (.cells #[.int .i64 a] 3)).alloc (.cells #[.int .i64 t] 3)).alloc (.cells #[.int .i64 0, .slice none 0 0, .slice none 0 0] 25)).heap.size = W.heap.size + 1 + 1 + 1 by simp] at this
    exact this
  have hl0 := letter_any L [a] (some ⟨W.heap.size + 1 + 1 + 1, 0, none⟩) 1 ((((W.alloc (.cells #[.int .i64 a] 3)).alloc (.cells #[.int .i64 t] 3)).alloc (.cells #[.int .i64 0, .slice none 0 0, .slice none 0 0] 25)).alloc (.cells #[.int .i64 a] 3)) hI (by unfold maxLen; simp)
  clear hI hb0
  have hLt := ltr_iff (L := L) (xs := [a])
  have hone : (∀ i, i < [a].length → 0 ≤ nth [a] i ∧ nth [a] i < L) ↔ 0 ≤ a ∧ a < L := by
    constructor
    · intro h
      exact h 0 (by simp)
    · intro h i hi
      obtain rfl : i = 0 := by simpa using hi
      exact h
  rw [hone] at hLt
  clear hone
  cases hB : ltrB L [a]
  · have R : Hid (cuE L a t = 1) := hid (by unfold cuE; rw [if_neg fun h => by rw [hLt.2 h.1] at hB; cases hB])
    rw [hB] at hl0
    have Hl := hid hl0
    clear hl0 hB
    clear hLt
    go_enter Try.func88, Try.ntmps88
    go_wp2_with fail
    refine Hl.out.mono ?_; rintro e w1 ⟨rfl, hb1⟩
    have y0 : w1.cell? ⟨W.heap.size + 1, 0, none⟩ = some (.int .i64 t) := by
      have hS : Below (W.heap.size + 1 + 1) ((W.alloc (.cells #[.int .i64 a] 3)).alloc (.cells #[.int .i64 t] 3)) w1 := ((((Below.refl _ _).alloc (by simp) _).alloc (by simp) _)).trans (hb1.mono (by simp))
      rw [hS.cell (p := ⟨W.heap.size + 1, 0, none⟩) (Nat.lt_succ_self _)]
      have h0 := heap_alloc_new (W.alloc (.cells #[.int .i64 a] 3)) (.cells #[.int .i64 t] 3)
      rw [show (W.alloc (.cells #[.int .i64 a] 3)).heap.size = W.heap.size + 1 by first | rfl | simp] at h0
      rw [cell_of_row ((W.alloc (.cells #[.int .i64 a] 3)).alloc (.cells #[.int .i64 t] 3)) (W.heap.size + 1) 0 #[.int .i64 t] 3 (0, 0) h0]
      rfl
    have xl : W.heap.size + 1 + 1 + 1 < w1.heap.size := by have := hb1.size; simp at this; omega
    have hr' : w1.rowIs (W.heap.size + 1 + 1) 25 3 (outF 0 (.slice none 0 0) (.slice none 0 0)) := by
      have hS : Below (W.heap.size + 1 + 1 + 1) (((W.alloc (.cells #[.int .i64 a] 3)).alloc (.cells #[.int .i64 t] 3)).alloc (.cells #[.int .i64 0, .slice none 0 0, .slice none 0 0] 25)) w1 := (((Below.refl _ _).alloc (by simp) _)).trans (hb1.mono (by simp))
      have := res_cells (w := ((W.alloc (.cells #[.int .i64 a] 3)).alloc (.cells #[.int .i64 t] 3))) hS (by simp)
      rw [show ((W.alloc (.cells #[.int .i64 a] 3)).alloc (.cells #[.int .i64 t] 3)).heap.size = W.heap.size + 1 + 1 by first | rfl | simp] at this
      exact this
    have hz := HB.out.trans (hb1.mono HB.out.size)
    have f0 := hr'.frozen 0
    have f1 := hr'.frozen 1
    have f2 := hr'.frozen 2
    have x0 := hr'.cell (i := 0) (by omega)
    have x1 := hr'.cell (i := 1) (by omega)
    have x2 := hr'.cell (i := 2) (by omega)
    have xl2 := hr'.lt
    have HC := hid (res_set hr' (.int .i64 0) (.slice none 0 0) (.slice none 0 0))
    simp only [outF] at x0 x1 x2
    clear hr' hb1
    go_wp2_with fail
    have o0 := HC.out.c0
    have o1 := HC.out.c1
    have o2 := HC.out.c2
    exact bodyPost_ret (v := .tuple #[.agg #[.int .i64 0, .slice none 0 0, .slice none 0 0], .int .i64 1]) (by simp [results, Try.results88, go_sem, o0, o1, o2]) rfl (gen_err (by rw [R.out]; decide) R.out.symm hz (by omega))
  · have hLa := hLt.1 hB
    rw [hB] at hl0
    have Hl := hid hl0
    clear hl0 hB
    by_cases ht0 : t < 0
    · have R : Hid (cuE L a t = 1) := hid (by unfold cuE; rw [if_neg (by omega)])
      clear hLt
      go_enter Try.func88, Try.ntmps88
      go_wp2_with fail
      refine Hl.out.mono ?_; rintro e w1 ⟨rfl, hb1⟩
      have y0 : w1.cell? ⟨W.heap.size + 1, 0, none⟩ = some (.int .i64 t) := by
        have hS : Below (W.heap.size + 1 + 1) ((W.alloc (.cells #[.int .i64 a] 3)).alloc (.cells #[.int .i64 t] 3)) w1 := ((((Below.refl _ _).alloc (by simp) _).alloc (by simp) _)).trans (hb1.mono (by simp))
        rw [hS.cell (p := ⟨W.heap.size + 1, 0, none⟩) (Nat.lt_succ_self _)]
        have h0 := heap_alloc_new (W.alloc (.cells #[.int .i64 a] 3)) (.cells #[.int .i64 t] 3)
        rw [show (W.alloc (.cells #[.int .i64 a] 3)).heap.size = W.heap.size + 1 by first | rfl | simp] at h0
        rw [cell_of_row ((W.alloc (.cells #[.int .i64 a] 3)).alloc (.cells #[.int .i64 t] 3)) (W.heap.size + 1) 0 #[.int .i64 t] 3 (0, 0) h0]
        rfl
      have xl : W.heap.size + 1 + 1 + 1 < w1.heap.size := by have := hb1.size; simp at this; omega
      have hr' : w1.rowIs (W.heap.size + 1 + 1) 25 3 (outF 0 (.slice none 0 0) (.slice none 0 0)) := by
        have hS : Below (W.heap.size + 1 + 1 + 1) (((W.alloc (.cells #[.int .i64 a] 3)).alloc (.cells #[.int .i64 t] 3)).alloc (.cells #[.int .i64 0, .slice none 0 0, .slice none 0 0] 25)) w1 := (((Below.refl _ _).alloc (by simp) _)).trans (hb1.mono (by simp))
        have := res_cells (w := ((W.alloc (.cells #[.int .i64 a] 3)).alloc (.cells #[.int .i64 t] 3))) hS (by simp)
        rw [show ((W.alloc (.cells #[.int .i64 a] 3)).alloc (.cells #[.int .i64 t] 3)).heap.size = W.heap.size + 1 + 1 by first | rfl | simp] at this
        exact this
      have hz := HB.out.trans (hb1.mono HB.out.size)
      have f0 := hr'.frozen 0
      have f1 := hr'.frozen 1
      have f2 := hr'.frozen 2
      have x0 := hr'.cell (i := 0) (by omega)
      have x1 := hr'.cell (i := 1) (by omega)
      have x2 := hr'.cell (i := 2) (by omega)
      have xl2 := hr'.lt
      have HC := hid (res_set hr' (.int .i64 0) (.slice none 0 0) (.slice none 0 0))
      simp only [outF] at x0 x1 x2
      clear hr' hb1
      go_wp2_with fail
      have o0 := HC.out.c0
      have o1 := HC.out.c1
      have o2 := HC.out.c2
      exact bodyPost_ret (v := .tuple #[.agg #[.int .i64 0, .slice none 0 0, .slice none 0 0], .int .i64 1]) (by simp [results, Try.results88, go_sem, o0, o1, o2]) rfl (gen_err (by rw [R.out]; decide) R.out.symm hz (by omega))
    by_cases ht20 : 20 < t
    · have R : Hid (cuE L a t = 1) := hid (by unfold cuE; rw [if_neg (by omega)])
      clear hLt
      go_enter Try.func88, Try.ntmps88
      go_wp2_with fail
      refine Hl.out.mono ?_; rintro e w1 ⟨rfl, hb1⟩
      have y0 : w1.cell? ⟨W.heap.size + 1, 0, none⟩ = some (.int .i64 t) := by
        have hS : Below (W.heap.size + 1 + 1) ((W.alloc (.cells #[.int .i64 a] 3)).alloc (.cells #[.int .i64 t] 3)) w1 := ((((Below.refl _ _).alloc (by simp) _).alloc (by simp) _)).trans (hb1.mono (by simp))
        rw [hS.cell (p := ⟨W.heap.size + 1, 0, none⟩) (Nat.lt_succ_self _)]
        have h0 := heap_alloc_new (W.alloc (.cells #[.int .i64 a] 3)) (.cells #[.int .i64 t] 3)
        rw [show (W.alloc (.cells #[.int .i64 a] 3)).heap.size = W.heap.size + 1 by first | rfl | simp] at h0
        rw [cell_of_row ((W.alloc (.cells #[.int .i64 a] 3)).alloc (.cells #[.int .i64 t] 3)) (W.heap.size + 1) 0 #[.int .i64 t] 3 (0, 0) h0]
        rfl
      have xl : W.heap.size + 1 + 1 + 1 < w1.heap.size := by have := hb1.size; simp at this; omega
      have hr' : w1.rowIs (W.heap.size + 1 + 1) 25 3 (outF 0 (.slice none 0 0) (.slice none 0 0)) := by
        have hS : Below (W.heap.size + 1 + 1 + 1) (((W.alloc (.cells #[.int .i64 a] 3)).alloc (.cells #[.int .i64 t] 3)).alloc (.cells #[.int .i64 0, .slice none 0 0, .slice none 0 0] 25)) w1 := (((Below.refl _ _).alloc (by simp) _)).trans (hb1.mono (by simp))
        have := res_cells (w := ((W.alloc (.cells #[.int .i64 a] 3)).alloc (.cells #[.int .i64 t] 3))) hS (by simp)
        rw [show ((W.alloc (.cells #[.int .i64 a] 3)).alloc (.cells #[.int .i64 t] 3)).heap.size = W.heap.size + 1 + 1 by first | rfl | simp] at this
        exact this
      have hz := HB.out.trans (hb1.mono HB.out.size)
      have f0 := hr'.frozen 0
      have f1 := hr'.frozen 1
      have f2 := hr'.frozen 2
      have x0 := hr'.cell (i := 0) (by omega)
      have x1 := hr'.cell (i := 1) (by omega)
      have x2 := hr'.cell (i := 2) (by omega)
      have xl2 := hr'.lt
      have HC := hid (res_set hr' (.int .i64 0) (.slice none 0 0) (.slice none 0 0))
      simp only [outF] at x0 x1 x2
      clear hr' hb1
      go_wp2_with fail
      have o0 := HC.out.c0
      have o1 := HC.out.c1
      have o2 := HC.out.c2
      exact bodyPost_ret (v := .tuple #[.agg #[.int .i64 0, .slice none 0 0, .slice none 0 0], .int .i64 1]) (by simp [results, Try.results88, go_sem, o0, o1, o2]) rfl (gen_err (by rw [R.out]; decide) R.out.symm hz (by omega))
    have R : Hid (cuE L a t = 0) := hid (by unfold cuE; rw [if_pos (by omega)])
    obtain ⟨l, rfl⟩ : ∃ l : Nat, L = (l : Int) := ⟨L.toNat, by omega⟩
    simp only [Int.toNat_natCast]
    clear hLt
    go_enter Try.func88, Try.ntmps88
    go_wp2_with fail
    refine Hl.out.mono ?_; rintro e w1 ⟨rfl, hb1⟩
    have x0 : w1.cell? ⟨W.heap.size, 0, none⟩ = some (.int .i64 a) := by
      have hS : Below (W.heap.size + 1) (W.alloc (.cells #[.int .i64 a] 3)) w1 := (((((Below.refl _ _).alloc (by simp) _).alloc (by simp) _).alloc (by simp) _)).trans (hb1.mono (by simp))
      rw [hS.cell (p := ⟨W.heap.size, 0, none⟩) (Nat.lt_succ_self _)]
      have h0 := heap_alloc_new W (.cells #[.int .i64 a] 3)
      rw [show W.heap.size = W.heap.size by first | rfl | simp] at h0
      rw [cell_of_row (W.alloc (.cells #[.int .i64 a] 3)) (W.heap.size) 0 #[.int .i64 a] 3 (0, 0) h0]
      rfl
    have y0 : w1.cell? ⟨W.heap.size + 1, 0, none⟩ = some (.int .i64 t) := by
      have hS : Below (W.heap.size + 1 + 1) ((W.alloc (.cells #[.int .i64 a] 3)).alloc (.cells #[.int .i64 t] 3)) w1 := ((((Below.refl _ _).alloc (by simp) _).alloc (by simp) _)).trans (hb1.mono (by simp))
      rw [hS.cell (p := ⟨W.heap.size + 1, 0, none⟩) (Nat.lt_succ_self _)]
      have h0 := heap_alloc_new (W.alloc (.cells #[.int .i64 a] 3)) (.cells #[.int .i64 t] 3)
      rw [show (W.alloc (.cells #[.int .i64 a] 3)).heap.size = W.heap.size + 1 by first | rfl | simp] at h0
      rw [cell_of_row ((W.alloc (.cells #[.int .i64 a] 3)).alloc (.cells #[.int .i64 t] 3)) (W.heap.size + 1) 0 #[.int .i64 t] 3 (0, 0) h0]
      rfl
    have xl : W.heap.size + 1 + 1 + 1 < w1.heap.size := by have := hb1.size; simp at this; omega
    have xl0 : W.heap.size < w1.heap.size := by omega
    have xl1 : W.heap.size + 1 < w1.heap.size := by omega
    have hr' : w1.rowIs (W.heap.size + 1 + 1) 25 3 (outF 0 (.slice none 0 0) (.slice none 0 0)) := by
      have hS : Below (W.heap.size + 1 + 1 + 1) (((W.alloc (.cells #[.int .i64 a] 3)).alloc (.cells #[.int .i64 t] 3)).alloc (.cells #[.int .i64 0, .slice none 0 0, .slice none 0 0] 25)) w1 := (((Below.refl _ _).alloc (by simp) _)).trans (hb1.mono (by simp))
      have := res_cells (w := ((W.alloc (.cells #[.int .i64 a] 3)).alloc (.cells #[.int .i64 t] 3))) hS (by simp)
      rw [show ((W.alloc (.cells #[.int .i64 a] 3)).alloc (.cells #[.int .i64 t] 3)).heap.size = W.heap.size + 1 + 1 by first | rfl | simp] at this
      exact this
    have HZ := hid (HB.out.trans (hb1.mono HB.out.size))
    have HP := hid ((plain_any l (cuS a t) ac 0 (t + 2) (cuS_auto (by omega) (by omega) (by omega) (by omega)) 115 g #[] #[.pointer (some ⟨W.heap.size, 0, none⟩), .pointer (some ⟨W.heap.size + 1, 0, none⟩)] b2 c2 w1 (hid (run_enter Try.func115 (by kernel_rfl) rfl))
      (hid fun w hw s hs0 hs c hc => cu_step a t s hs0 hs (by omega) c (by omega) W.heap.size (W.heap.size + 1) w ((hw.cell (p := ⟨W.heap.size, 0, none⟩) xl0).trans x0) ((hw.cell (p := ⟨W.heap.size + 1, 0, none⟩) xl1).trans y0)) Hg
      (hid fun w hw s hs0 hs => HAc.out w (HZ.out.trans (hw.mono HZ.out.size)) s hs0 hs)).mono fun e w' h => plainZ (z := (l : Int)) rfl h)
    have Hr := hid hr'
    clear hb1 hr' Hg HAc
    go_wp2_with fail
    refine HP.out.mono ?_
    rintro e wP ⟨F, hF, hbP, ⟨h64, base, an, cn, ab, cb, hbase, rfl, hMA⟩ | ⟨h64, rfl⟩⟩
    · have HF := hid hF
      have HMA := hid hMA
      clear hF hMA
      have hrP := rowIs_below Hr.out hbP Hr.out.lt
      have hzP := HZ.out.trans (hbP.mono HZ.out.size)
      have f0 := hrP.frozen 0
      have f1 := hrP.frozen 1
      have f2 := hrP.frozen 2
      have x0 := hrP.cell (i := 0) (by omega)
      have x1 := hrP.cell (i := 1) (by omega)
      have x2 := hrP.cell (i := 2) (by omega)
      have xl2 := hrP.lt
      have HC := hid (res_set hrP (.int .i64 l) (.slice an F.length cn) (.slice ab F.length cb))
      simp only [outF] at x0 x1 x2
      clear hrP hbP
      go_wp2_with fail
      have o0 := HC.out.c0
      have o1 := HC.out.c1
      have o2 := HC.out.c2
      exact bodyPost_ret (v := .tuple #[.agg #[.int .i64 l, .slice an F.length cn, .slice ab F.length cb], .int .i64 0]) (by simp [results, Try.results88, go_sem, o0, o1, o2]) rfl (gen_ok R.out rfl HF.out hzP (by omega) (by omega) h64 HMA.out)
    · have HF := hid hF
      clear hF
      have hrP := rowIs_below Hr.out hbP Hr.out.lt
      have hzP := HZ.out.trans (hbP.mono HZ.out.size)
      have f0 := hrP.frozen 0
      have f1 := hrP.frozen 1
      have f2 := hrP.frozen 2
      have x0 := hrP.cell (i := 0) (by omega)
      have x1 := hrP.cell (i := 1) (by omega)
      have x2 := hrP.cell (i := 2) (by omega)
      have xl2 := hrP.lt
      have HC := hid (res_set hrP (.int .i64 0) (.slice none 0 0) (.slice none 0 0))
      simp only [outF] at x0 x1 x2
      clear hrP hbP
      go_wp2_with fail
      have o0 := HC.out.c0
      have o1 := HC.out.c1
      have o2 := HC.out.c2
      exact bodyPost_ret (v := .tuple #[.agg #[.int .i64 0, .slice none 0 0, .slice none 0 0], .int .i64 4]) (by simp [results, Try.results88, go_sem, o0, o1, o2]) rfl (gen_large R.out HF.out hzP (by omega) h64)

set_option maxRecDepth 100000 in
set_option maxHeartbeats 2000000 in
theorem Least_any (L a t : Int) (W : World) : Calls Try.prog 46 #[.int .i64 L, .int .i64 a, .int .i64 t] W (GenPost W (cuE L a t) L.toNat (laA L.toNat (cuS a t) (leA t) 0)) := by
  have hb0 : Below W.heap.size W ((W.alloc (.cells #[.int .i64 t] 3)).alloc (.cells #[.int .i64 0, .slice none 0 0, .slice none 0 0] 25)) := (below_alloc W _).alloc (by simp) _
  have ht0 : ((W.alloc (.cells #[.int .i64 t] 3)).alloc (.cells #[.int .i64 0, .slice none 0 0, .slice none 0 0] 25)).cell? ⟨W.heap.size, 0, none⟩ = some (.int .i64 t) := by simp
  have HV := hid (counting_any L a t 89 #[] #[.pointer (some ⟨W.heap.size, 0, none⟩)] (leA t) ((W.alloc (.cells #[.int .i64 t] 3)).alloc (.cells #[.int .i64 0, .slice none 0 0, .slice none 0 0] 25)) (hid (run_enter Try.func89 (by kernel_rfl) rfl))
    (hid fun w hw s hs0 hs => ac89 t s W.heap.size w ((hw.cell (p := ⟨W.heap.size, 0, none⟩) (by simp; omega)).trans ht0)))
  have HB := hid hb0
  have Hzi := hid (show cuE L a t = 0 → L = (L.toNat : Nat) from fun h => by
    unfold cuE at h
    split at h
    · omega
    · cases h)
  have Hr : Hid (((W.alloc (.cells #[.int .i64 t] 3)).alloc (.cells #[.int .i64 0, .slice none 0 0, .slice none 0 0] 25)).rowIs (W.heap.size + 1) 25 3 (outF 0 (.slice none 0 0) (.slice none 0 0))) := hid (by simpa using res_cells (w := (W.alloc (.cells #[.int .i64 t] 3))) (Below.refl _ _) rfl)
  have hs : ((W.alloc (.cells #[.int .i64 t] 3)).alloc (.cells #[.int .i64 0, .slice none 0 0, .slice none 0 0] 25)).heap.size = W.heap.size + 1 + 1 := by simp
  have Hs := hid hs
  clear hb0 ht0 hs
  go_enter Try.func46, Try.ntmps46
  go_wp2_with fail
  have hs := Hs.out
  refine (HV.out).mono ?_
  intro e wP hG
  obtain ⟨hbP, ⟨h0, F, hF, ⟨h64, base, an, cn, ab, cb, hbase, rfl, hMA⟩ | ⟨h64, rfl⟩⟩ | ⟨h0, rfl⟩⟩ := gen_cases hG Hzi.out
  · clear hG
    have H0 := hid h0
    have HF := hid hF
    have HMA := hid hMA
    clear hF hMA h0
    have hrP := rowIs_below Hr.out hbP Hr.out.lt
    have hzP := HB.out.trans (hbP.mono HB.out.size)
    have f0 := hrP.frozen 0
    have f1 := hrP.frozen 1
    have f2 := hrP.frozen 2
    have x0 := hrP.cell (i := 0) (by omega)
    have x1 := hrP.cell (i := 1) (by omega)
    have x2 := hrP.cell (i := 2) (by omega)
    have xl2 := hrP.lt
    have HC := hid (res_set hrP (.int .i64 L) (.slice an F.length cn) (.slice ab F.length cb))
    simp only [outF] at x0 x1 x2
    clear hrP hbP
    go_wp2_with fail
    have o0 := HC.out.c0
    have o1 := HC.out.c1
    have o2 := HC.out.c2
    exact bodyPost_ret (v := .tuple #[.agg #[.int .i64 L, .slice an F.length cn, .slice ab F.length cb], .int .i64 0]) (by simp [results, Try.results46, go_sem, o0, o1, o2]) rfl (gen_ok H0.out (Hzi.out H0.out) HF.out hzP (by omega) (by omega) h64 HMA.out)
  · clear hG
    have H0 := hid h0
    have HF := hid hF
    clear hF h0
    have hrP := rowIs_below Hr.out hbP Hr.out.lt
    have hzP := HB.out.trans (hbP.mono HB.out.size)
    have f0 := hrP.frozen 0
    have f1 := hrP.frozen 1
    have f2 := hrP.frozen 2
    have x0 := hrP.cell (i := 0) (by omega)
    have x1 := hrP.cell (i := 1) (by omega)
    have x2 := hrP.cell (i := 2) (by omega)
    have xl2 := hrP.lt
    have HC := hid (res_set hrP (.int .i64 0) (.slice none 0 0) (.slice none 0 0))
    simp only [outF] at x0 x1 x2
    clear hrP hbP
    go_wp2_with fail
    have o0 := HC.out.c0
    have o1 := HC.out.c1
    have o2 := HC.out.c2
    exact bodyPost_ret (v := .tuple #[.agg #[.int .i64 0, .slice none 0 0, .slice none 0 0], .int .i64 4]) (by simp [results, Try.results46, go_sem, o0, o1, o2]) rfl (gen_large H0.out HF.out hzP (by omega) h64)
  · clear hG
    have H0 := hid h0
    clear h0
    have hrP := rowIs_below Hr.out hbP Hr.out.lt
    have hzP := HB.out.trans (hbP.mono HB.out.size)
    have f0 := hrP.frozen 0
    have f1 := hrP.frozen 1
    have f2 := hrP.frozen 2
    have x0 := hrP.cell (i := 0) (by omega)
    have x1 := hrP.cell (i := 1) (by omega)
    have x2 := hrP.cell (i := 2) (by omega)
    have xl2 := hrP.lt
    have HC := hid (res_set hrP (.int .i64 0) (.slice none 0 0) (.slice none 0 0))
    simp only [outF] at x0 x1 x2
    clear hrP hbP
    go_wp2_with fail
    have o0 := HC.out.c0
    have o1 := HC.out.c1
    have o2 := HC.out.c2
    exact bodyPost_ret (v := .tuple #[.agg #[.int .i64 0, .slice none 0 0, .slice none 0 0], .int .i64 (cuE L a t)]) (by simp [results, Try.results46, go_sem, o0, o1, o2]) rfl (gen_err H0.out rfl hzP (by omega))

set_option maxRecDepth 100000 in
set_option maxHeartbeats 2000000 in
theorem Most_any (L a t : Int) (W : World) : Calls Try.prog 48 #[.int .i64 L, .int .i64 a, .int .i64 t] W (GenPost W (cuE L a t) L.toNat (laA L.toNat (cuS a t) (moA t) 0)) := by
  have hb0 : Below W.heap.size W ((W.alloc (.cells #[.int .i64 t] 3)).alloc (.cells #[.int .i64 0, .slice none 0 0, .slice none 0 0] 25)) := (below_alloc W _).alloc (by simp) _
  have ht0 : ((W.alloc (.cells #[.int .i64 t] 3)).alloc (.cells #[.int .i64 0, .slice none 0 0, .slice none 0 0] 25)).cell? ⟨W.heap.size, 0, none⟩ = some (.int .i64 t) := by simp
  have HV := hid (counting_any L a t 91 #[] #[.pointer (some ⟨W.heap.size, 0, none⟩)] (moA t) ((W.alloc (.cells #[.int .i64 t] 3)).alloc (.cells #[.int .i64 0, .slice none 0 0, .slice none 0 0] 25)) (hid (run_enter Try.func91 (by kernel_rfl) rfl))
    (hid fun w hw s hs0 hs => ac91 t s W.heap.size w ((hw.cell (p := ⟨W.heap.size, 0, none⟩) (by simp; omega)).trans ht0)))
  have HB := hid hb0
  have Hzi := hid (show cuE L a t = 0 → L = (L.toNat : Nat) from fun h => by
    unfold cuE at h
    split at h
    · omega
    · cases h)
  have Hr : Hid (((W.alloc (.cells #[.int .i64 t] 3)).alloc (.cells #[.int .i64 0, .slice none 0 0, .slice none 0 0] 25)).rowIs (W.heap.size + 1) 25 3 (outF 0 (.slice none 0 0) (.slice none 0 0))) := hid (by simpa using res_cells (w := (W.alloc (.cells #[.int .i64 t] 3))) (Below.refl _ _) rfl)
  have hs : ((W.alloc (.cells #[.int .i64 t] 3)).alloc (.cells #[.int .i64 0, .slice none 0 0, .slice none 0 0] 25)).heap.size = W.heap.size + 1 + 1 := by simp
  have Hs := hid hs
  clear hb0 ht0 hs
  go_enter Try.func48, Try.ntmps48
  go_wp2_with fail
  have hs := Hs.out
  refine (HV.out).mono ?_
  intro e wP hG
  obtain ⟨hbP, ⟨h0, F, hF, ⟨h64, base, an, cn, ab, cb, hbase, rfl, hMA⟩ | ⟨h64, rfl⟩⟩ | ⟨h0, rfl⟩⟩ := gen_cases hG Hzi.out
  · clear hG
    have H0 := hid h0
    have HF := hid hF
    have HMA := hid hMA
    clear hF hMA h0
    have hrP := rowIs_below Hr.out hbP Hr.out.lt
    have hzP := HB.out.trans (hbP.mono HB.out.size)
    have f0 := hrP.frozen 0
    have f1 := hrP.frozen 1
    have f2 := hrP.frozen 2
    have x0 := hrP.cell (i := 0) (by omega)
    have x1 := hrP.cell (i := 1) (by omega)
    have x2 := hrP.cell (i := 2) (by omega)
    have xl2 := hrP.lt
    have HC := hid (res_set hrP (.int .i64 L) (.slice an F.length cn) (.slice ab F.length cb))
    simp only [outF] at x0 x1 x2
    clear hrP hbP
    go_wp2_with fail
    have o0 := HC.out.c0
    have o1 := HC.out.c1
    have o2 := HC.out.c2
    exact bodyPost_ret (v := .tuple #[.agg #[.int .i64 L, .slice an F.length cn, .slice ab F.length cb], .int .i64 0]) (by simp [results, Try.results48, go_sem, o0, o1, o2]) rfl (gen_ok H0.out (Hzi.out H0.out) HF.out hzP (by omega) (by omega) h64 HMA.out)
  · clear hG
    have H0 := hid h0
    have HF := hid hF
    clear hF h0
    have hrP := rowIs_below Hr.out hbP Hr.out.lt
    have hzP := HB.out.trans (hbP.mono HB.out.size)
    have f0 := hrP.frozen 0
    have f1 := hrP.frozen 1
    have f2 := hrP.frozen 2
    have x0 := hrP.cell (i := 0) (by omega)
    have x1 := hrP.cell (i := 1) (by omega)
    have x2 := hrP.cell (i := 2) (by omega)
    have xl2 := hrP.lt
    have HC := hid (res_set hrP (.int .i64 0) (.slice none 0 0) (.slice none 0 0))
    simp only [outF] at x0 x1 x2
    clear hrP hbP
    go_wp2_with fail
    have o0 := HC.out.c0
    have o1 := HC.out.c1
    have o2 := HC.out.c2
    exact bodyPost_ret (v := .tuple #[.agg #[.int .i64 0, .slice none 0 0, .slice none 0 0], .int .i64 4]) (by simp [results, Try.results48, go_sem, o0, o1, o2]) rfl (gen_large H0.out HF.out hzP (by omega) h64)
  · clear hG
    have H0 := hid h0
    clear h0
    have hrP := rowIs_below Hr.out hbP Hr.out.lt
    have hzP := HB.out.trans (hbP.mono HB.out.size)
    have f0 := hrP.frozen 0
    have f1 := hrP.frozen 1
    have f2 := hrP.frozen 2
    have x0 := hrP.cell (i := 0) (by omega)
    have x1 := hrP.cell (i := 1) (by omega)
    have x2 := hrP.cell (i := 2) (by omega)
    have xl2 := hrP.lt
    have HC := hid (res_set hrP (.int .i64 0) (.slice none 0 0) (.slice none 0 0))
    simp only [outF] at x0 x1 x2
    clear hrP hbP
    go_wp2_with fail
    have o0 := HC.out.c0
    have o1 := HC.out.c1
    have o2 := HC.out.c2
    exact bodyPost_ret (v := .tuple #[.agg #[.int .i64 0, .slice none 0 0, .slice none 0 0], .int .i64 (cuE L a t)]) (by simp [results, Try.results48, go_sem, o0, o1, o2]) rfl (gen_err H0.out rfl hzP (by omega))

/-! ### never after -/
def nvS (p q : Int) (s : Int) (c : Nat) : Int := if s = 2 ∨ (s = 1 ∧ (c : Int) = q) then 2 else if (c : Int) = p then 1 else 0
def nvA (s : Int) : Bool := decide (s < 2)
noncomputable def nvE (L p q : Int) : Int := if (1 ≤ L ∧ L ≤ 6) ∧ (0 ≤ p ∧ p < L) ∧ 0 ≤ q ∧ q < L then 0 else 1
theorem nvS_auto {L : Nat} (h1 : 1 ≤ L) (h6 : L ≤ 6) (p q : Int) : AutoOK L (nvS p q) 0 3 := by
  refine ⟨h1, h6, by omega, by omega, by omega, by omega, fun s hs0 hs c hc => ?_⟩
  unfold nvS
  split
  · omega
  · split <;> omega
set_option maxRecDepth 100000 in
theorem nv_step (p q : Int) (s : Int) (h0 : 0 ≤ s) (h1 : s < 3) (c : Nat) (hc : c < 6) (HQ HP : Nat) (w : World) (hq : w.cell? ⟨HQ, 0, none⟩ = some (.int .i64 q)) (hp : w.cell? ⟨HP, 0, none⟩ = some (.int .i64 p)) :
    Calls Try.prog 86 #[.int .i64 s, .int .i64 c, .pointer (some ⟨HQ, 0, none⟩), .pointer (some ⟨HP, 0, none⟩)] w fun e w' => e = .returned (.int .i64 (nvS p q s c)) ∧ Below w.heap.size w w' := by
  by_cases h2 : s = 2
  · subst h2
    have h_p : True := trivial
    have R : Hid (nvS p q 2 c = 2) := hid (by unfold nvS; rw [if_pos (.inl rfl)])
    clear h_p
    go_enter Try.func86, Try.ntmps86
    go_wp2_with fail
    go_ret
    exact ⟨by rw [R.out]; rfl, Below.refl _ _⟩
  have b2 : (s == 2) = false := beq_eq_false_iff_ne.2 h2
  by_cases hs1 : s = 1
  · subst hs1
    by_cases hq2 : (c : Int) = q
    · have b3 : ((c : Int) == q) = true := beq_iff_eq.2 hq2
      have h_p : True := trivial
      have R : Hid (nvS p q 1 c = 2) := hid (by unfold nvS; rw [if_pos (.inr ⟨rfl, hq2⟩)])
      clear h_p hq2
      go_enter Try.func86, Try.ntmps86
      go_wp2_with fail
      go_ret
      exact ⟨by rw [R.out]; rfl, Below.refl _ _⟩
    · have b3 : ((c : Int) == q) = false := beq_eq_false_iff_ne.2 hq2
      by_cases h_p : (c : Int) = p
      · have b4 : ((c : Int) == p) = true := beq_iff_eq.2 h_p
        have R : Hid (nvS p q 1 c = 1) := hid (by unfold nvS; rw [if_neg (by omega), if_pos h_p])
        clear h_p hq2
        go_enter Try.func86, Try.ntmps86
        go_wp2_with fail
        go_ret
        exact ⟨by rw [R.out]; rfl, Below.refl _ _⟩
      · have b4 : ((c : Int) == p) = false := beq_eq_false_iff_ne.2 h_p
        have R : Hid (nvS p q 1 c = 0) := hid (by unfold nvS; rw [if_neg (by omega), if_neg h_p])
        clear h_p hq2
        go_enter Try.func86, Try.ntmps86
        go_wp2_with fail
        go_ret
        exact ⟨by rw [R.out]; rfl, Below.refl _ _⟩
  · have b1 : (s == 1) = false := beq_eq_false_iff_ne.2 hs1
    by_cases h_p : (c : Int) = p
    · have b4 : ((c : Int) == p) = true := beq_iff_eq.2 h_p
      have R : Hid (nvS p q s c = 1) := hid (by unfold nvS; rw [if_neg (by omega), if_pos h_p])
      clear h_p
      go_enter Try.func86, Try.ntmps86
      go_wp2_with fail
      go_ret
      exact ⟨by rw [R.out]; rfl, Below.refl _ _⟩
    · have b4 : ((c : Int) == p) = false := beq_eq_false_iff_ne.2 h_p
      have R : Hid (nvS p q s c = 0) := hid (by unfold nvS; rw [if_neg (by omega), if_neg h_p])
      clear h_p
      go_enter Try.func86, Try.ntmps86
      go_wp2_with fail
      go_ret
      exact ⟨by rw [R.out]; rfl, Below.refl _ _⟩
theorem nv_acc (s : Int) (w : World) : Calls Try.prog 87 #[.int .i64 s] w fun e w' => e = .returned (.bool (nvA s)) ∧ Below w.heap.size w w' := by
  go_enter Try.func87, Try.ntmps87
  go_wp2_with fail
  go_ret
  exact ⟨rfl, Below.refl _ _⟩

set_option maxRecDepth 100000 in
set_option maxHeartbeats 2000000 in
theorem Never_any (L p q : Int) (W : World) : Calls Try.prog 44 #[.int .i64 L, .int .i64 p, .int .i64 q] W (GenPost W (nvE L p q) L.toNat (laA L.toNat (nvS p q) nvA 0)) := by
  have hb0 : Below W.heap.size W ((((W.alloc (.cells #[.int .i64 p] 3)).alloc (.cells #[.int .i64 q] 3)).alloc (.cells #[.int .i64 0, .slice none 0 0, .slice none 0 0] 25)).alloc (.cells #[.int .i64 p, .int .i64 q] 3)) := (((below_alloc W _).alloc (by simp) _).alloc (by simp <;> omega) _).alloc (by simp <;> omega) _
  have HB := hid hb0
  have hI : IntsAt ((((W.alloc (.cells #[.int .i64 p] 3)).alloc (.cells #[.int .i64 q] 3)).alloc (.cells #[.int .i64 0, .slice none 0 0, .slice none 0 0] 25)).alloc (.cells #[.int .i64 p, .int .i64 q] 3)) (some ⟨W.heap.size + 1 + 1 + 1, 0, none⟩) [p, q] := by
    have := intsAt_alloc (((W.alloc (.cells #[.int .i64 p] 3)).alloc (.cells #[.int .i64 q] 3)).alloc (.cells #[.int .i64 0, .slice none 0 0, .slice none 0 0] 25)) [p, q] 3
    rw [show (((W.alloc (.cells #[.int .i64 p] 3)).alloc (.cells #[.int .i64 q] 3)).alloc (.cells #[.int .i64 0, .slice none 0 0, .slice none 0 0] 25)).heap.size = W.heap.size + 1 + 1 + 1 by simp] at this
    exact this
  have hl0 := letter_any L [p, q] (some ⟨W.heap.size + 1 + 1 + 1, 0, none⟩) 2 ((((W.alloc (.cells #[.int .i64 p] 3)).alloc (.cells #[.int .i64 q] 3)).alloc (.cells #[.int .i64 0, .slice none 0 0, .slice none 0 0] 25)).alloc (.cells #[.int .i64 p, .int .i64 q] 3)) hI (by unfold maxLen; simp)
  clear hI hb0
  have hLt := ltr_iff (L := L) (xs := [p, q])
  have hone : (∀ i, i < [p, q].length → 0 ≤ nth [p, q] i ∧ nth [p, q] i < L) ↔ (0 ≤ p ∧ p < L) ∧ 0 ≤ q ∧ q < L := by
    constructor
    · intro h
      exact ⟨h 0 (by simp), h 1 (by simp)⟩
    · intro h i hi
      have : i = 0 ∨ i = 1 := by simp at hi; omega
      rcases this with rfl | rfl
      · exact h.1
      · exact h.2
  rw [hone] at hLt
  clear hone
  cases hB : ltrB L [p, q]
  · have R : Hid (nvE L p q = 1) := hid (by unfold nvE; rw [if_neg fun h => by rw [hLt.2 h] at hB; cases hB])
    rw [hB] at hl0
    have Hl := hid hl0
    clear hl0 hB
    clear hLt
    go_enter Try.func44, Try.ntmps44
    go_wp2_with fail
    refine Hl.out.mono ?_; rintro e w1 ⟨rfl, hb1⟩
    have xl : W.heap.size + 1 + 1 + 1 < w1.heap.size := by have := hb1.size; simp at this; omega
    have hr' : w1.rowIs (W.heap.size + 1 + 1) 25 3 (outF 0 (.slice none 0 0) (.slice none 0 0)) := by
      have hS : Below (W.heap.size + 1 + 1 + 1) (((W.alloc (.cells #[.int .i64 p] 3)).alloc (.cells #[.int .i64 q] 3)).alloc (.cells #[.int .i64 0, .slice none 0 0, .slice none 0 0] 25)) w1 := (((Below.refl _ _).alloc (by simp) _)).trans (hb1.mono (by simp))
      have := res_cells (w := ((W.alloc (.cells #[.int .i64 p] 3)).alloc (.cells #[.int .i64 q] 3))) hS (by simp)
      rw [show ((W.alloc (.cells #[.int .i64 p] 3)).alloc (.cells #[.int .i64 q] 3)).heap.size = W.heap.size + 1 + 1 by first | rfl | simp] at this
      exact this
    have hz := HB.out.trans (hb1.mono HB.out.size)
    have f0 := hr'.frozen 0
    have f1 := hr'.frozen 1
    have f2 := hr'.frozen 2
    have x0 := hr'.cell (i := 0) (by omega)
    have x1 := hr'.cell (i := 1) (by omega)
    have x2 := hr'.cell (i := 2) (by omega)
    have xl2 := hr'.lt
    have HC := hid (res_set hr' (.int .i64 0) (.slice none 0 0) (.slice none 0 0))
    simp only [outF] at x0 x1 x2
    clear hr' hb1
    go_wp2_with fail
    have o0 := HC.out.c0
    have o1 := HC.out.c1
    have o2 := HC.out.c2
    exact bodyPost_ret (v := .tuple #[.agg #[.int .i64 0, .slice none 0 0, .slice none 0 0], .int .i64 1]) (by simp [results, Try.results44, go_sem, o0, o1, o2]) rfl (gen_err (by rw [R.out]; decide) R.out.symm hz (by omega))
  · have hLa := hLt.1 hB
    rw [hB] at hl0
    have Hl := hid hl0
    clear hl0 hB
    have R : Hid (nvE L p q = 0) := hid (by unfold nvE; rw [if_pos hLa])
    obtain ⟨l, rfl⟩ : ∃ l : Nat, L = (l : Int) := ⟨L.toNat, by omega⟩
    simp only [Int.toNat_natCast]
    clear hLt
    go_enter Try.func44, Try.ntmps44
    go_wp2_with fail
    refine Hl.out.mono ?_; rintro e w1 ⟨rfl, hb1⟩
    have x0 : w1.cell? ⟨W.heap.size, 0, none⟩ = some (.int .i64 p) := by
      have hS : Below (W.heap.size + 1) (W.alloc (.cells #[.int .i64 p] 3)) w1 := (((((Below.refl _ _).alloc (by simp) _).alloc (by simp) _).alloc (by simp) _)).trans (hb1.mono (by simp))
      rw [hS.cell (p := ⟨W.heap.size, 0, none⟩) (Nat.lt_succ_self _)]
      have h0 := heap_alloc_new W (.cells #[.int .i64 p] 3)
      rw [show W.heap.size = W.heap.size by first | rfl | simp] at h0
      rw [cell_of_row (W.alloc (.cells #[.int .i64 p] 3)) (W.heap.size) 0 #[.int .i64 p] 3 (0, 0) h0]
      rfl
    have y0 : w1.cell? ⟨W.heap.size + 1, 0, none⟩ = some (.int .i64 q) := by
      have hS : Below (W.heap.size + 1 + 1) ((W.alloc (.cells #[.int .i64 p] 3)).alloc (.cells #[.int .i64 q] 3)) w1 := ((((Below.refl _ _).alloc (by simp) _).alloc (by simp) _)).trans (hb1.mono (by simp))
      rw [hS.cell (p := ⟨W.heap.size + 1, 0, none⟩) (Nat.lt_succ_self _)]
      have h0 := heap_alloc_new (W.alloc (.cells #[.int .i64 p] 3)) (.cells #[.int .i64 q] 3)
      rw [show (W.alloc (.cells #[.int .i64 p] 3)).heap.size = W.heap.size + 1 by first | rfl | simp] at h0
      rw [cell_of_row ((W.alloc (.cells #[.int .i64 p] 3)).alloc (.cells #[.int .i64 q] 3)) (W.heap.size + 1) 0 #[.int .i64 q] 3 (0, 0) h0]
      rfl
    have xl : W.heap.size + 1 + 1 + 1 < w1.heap.size := by have := hb1.size; simp at this; omega
    have xl0 : W.heap.size < w1.heap.size := by omega
    have xl1 : W.heap.size + 1 < w1.heap.size := by omega
    have hr' : w1.rowIs (W.heap.size + 1 + 1) 25 3 (outF 0 (.slice none 0 0) (.slice none 0 0)) := by
      have hS : Below (W.heap.size + 1 + 1 + 1) (((W.alloc (.cells #[.int .i64 p] 3)).alloc (.cells #[.int .i64 q] 3)).alloc (.cells #[.int .i64 0, .slice none 0 0, .slice none 0 0] 25)) w1 := (((Below.refl _ _).alloc (by simp) _)).trans (hb1.mono (by simp))
      have := res_cells (w := ((W.alloc (.cells #[.int .i64 p] 3)).alloc (.cells #[.int .i64 q] 3))) hS (by simp)
      rw [show ((W.alloc (.cells #[.int .i64 p] 3)).alloc (.cells #[.int .i64 q] 3)).heap.size = W.heap.size + 1 + 1 by first | rfl | simp] at this
      exact this
    have HZ := hid (HB.out.trans (hb1.mono HB.out.size))
    have HP := hid ((plain_any l (nvS p q) nvA 0 3 (nvS_auto (by omega) (by omega) p q) 86 87 #[] #[.pointer (some ⟨W.heap.size + 1, 0, none⟩), .pointer (some ⟨W.heap.size, 0, none⟩)] #[] #[] w1 (hid (run_enter Try.func86 (by kernel_rfl) rfl))
      (hid fun w hw s hs0 hs c hc => nv_step p q s hs0 hs c (by omega) (W.heap.size + 1) W.heap.size w ((hw.cell (p := ⟨W.heap.size + 1, 0, none⟩) xl1).trans y0) ((hw.cell (p := ⟨W.heap.size, 0, none⟩) xl0).trans x0)) (hid (run_enter Try.func87 (by kernel_rfl) rfl))
      (hid fun w hw s hs0 hs => nv_acc s w)).mono fun e w' h => plainZ (z := (l : Int)) rfl h)
    have Hr := hid hr'
    clear hb1 hr'
    go_wp2_with fail
    refine HP.out.mono ?_
    rintro e wP ⟨F, hF, hbP, ⟨h64, base, an, cn, ab, cb, hbase, rfl, hMA⟩ | ⟨h64, rfl⟩⟩
    · have HF := hid hF
      have HMA := hid hMA
      clear hF hMA
      have hrP := rowIs_below Hr.out hbP Hr.out.lt
      have hzP := HZ.out.trans (hbP.mono HZ.out.size)
      have f0 := hrP.frozen 0
      have f1 := hrP.frozen 1
      have f2 := hrP.frozen 2
      have x0 := hrP.cell (i := 0) (by omega)
      have x1 := hrP.cell (i := 1) (by omega)
      have x2 := hrP.cell (i := 2) (by omega)
      have xl2 := hrP.lt
      have HC := hid (res_set hrP (.int .i64 l) (.slice an F.length cn) (.slice ab F.length cb))
      simp only [outF] at x0 x1 x2
      clear hrP hbP
      go_wp2_with fail
      have o0 := HC.out.c0
      have o1 := HC.out.c1
      have o2 := HC.out.c2
      exact bodyPost_ret (v := .tuple #[.agg #[.int .i64 l, .slice an F.length cn, .slice ab F.length cb], .int .i64 0]) (by simp [results, Try.results44, go_sem, o0, o1, o2]) rfl (gen_ok R.out rfl HF.out hzP (by omega) (by omega) h64 HMA.out)
    · have HF := hid hF
      clear hF
      have hrP := rowIs_below Hr.out hbP Hr.out.lt
      have hzP := HZ.out.trans (hbP.mono HZ.out.size)
      have f0 := hrP.frozen 0
      have f1 := hrP.frozen 1
      have f2 := hrP.frozen 2
      have x0 := hrP.cell (i := 0) (by omega)
      have x1 := hrP.cell (i := 1) (by omega)
      have x2 := hrP.cell (i := 2) (by omega)
      have xl2 := hrP.lt
      have HC := hid (res_set hrP (.int .i64 0) (.slice none 0 0) (.slice none 0 0))
      simp only [outF] at x0 x1 x2
      clear hrP hbP
      go_wp2_with fail
      have o0 := HC.out.c0
      have o1 := HC.out.c1
      have o2 := HC.out.c2
      exact bodyPost_ret (v := .tuple #[.agg #[.int .i64 0, .slice none 0 0, .slice none 0 0], .int .i64 4]) (by simp [results, Try.results44, go_sem, o0, o1, o2]) rfl (gen_large R.out HF.out hzP (by omega) h64)
end Go.Proofs.Ytmllbemjcfkmjaa
