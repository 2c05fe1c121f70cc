/- What is wrong with a table. -/
import Derived.Test.YtphcgggohfbmfaaDoorVal
namespace Go.Proofs.YtphcgggohfbmfaaDoor
open Go.RowKit Go.Maps
set_option linter.unusedSimpArgs false
set_option linter.unusedVariables false

def valE (xs : List Int) (D : Int) : Int := if D < 0 ∨ 8 < D then 1 else if 8 < xs.length then 4 else if anyB (badR D.toNat) xs = true then 1 else 0
theorem val_ok {xs : List Int} {D : Int} (h : valE xs D = 0) : (0 ≤ D ∧ D ≤ 8) ∧ TblOK xs D.toNat := by
  unfold valE at h
  by_cases h1 : D < 0 ∨ 8 < D
  · rw [if_pos h1] at h; omega
  · rw [if_neg h1] at h
    by_cases h2 : 8 < xs.length
    · rw [if_pos h2] at h; omega
    · rw [if_neg h2] at h
      by_cases h3 : anyB (badR D.toNat) xs = true
      · rw [if_pos h3] at h; omega
      · refine ⟨by omega, by omega, by omega, fun i hi => ?_⟩
        have hb : ¬ badR D.toNat (nth xs i) = true := fun x => h3 ((any_iff _ _).2 ⟨i, hi, x⟩)
        unfold badR at hb
        rw [Bool.or_eq_true, decide_eq_true_iff, decide_eq_true_iff] at hb
        omega
set_option maxRecDepth 100000 in
theorem val_any (xs : List Int) (D : Int) (a : Option Addr) (cap : Nat) (W : World) (hI : IntsAt W a xs) :
    Calls Tryd.prog 8 #[.slice a xs.length cap, .int .i64 D] W fun e w' => e = .returned (.int .i64 (valE xs D)) ∧ Below W.heap.size W w' := by
  have HB := hid (below_alloc W (.cells #[.int .i64 D] 3))
  by_cases h1 : D < 0
  · have R : Hid (valE xs D = 1) := hid (by unfold valE; rw [if_pos (.inl h1)])
    clear hI
    go_enter Tryd.func8, Tryd.ntmps8
    go_wp2_with fail
    go_ret
    exact ⟨by rw [R.out]; rfl, HB.out⟩
  · by_cases h2 : 8 < D
    · have R : Hid (valE xs D = 1) := hid (by unfold valE; rw [if_pos (.inr h2)])
      clear hI
      go_enter Tryd.func8, Tryd.ntmps8
      go_wp2_with fail
      go_ret
      exact ⟨by rw [R.out]; rfl, HB.out⟩
    · by_cases h3 : 8 < xs.length
      · have R : Hid (valE xs D = 4) := hid (by unfold valE; rw [if_neg (by omega), if_pos h3])
        have i3 : (8 : Int) < (xs.length : Int) := by omega
        clear hI
        go_enter Tryd.func8, Tryd.ntmps8
        go_wp2_with fail
        go_ret
        exact ⟨by rw [R.out]; rfl, HB.out⟩
      · obtain ⟨d, rfl⟩ : ∃ d : Nat, D = d := ⟨D.toNat, by omega⟩
        have hc0 : (W.alloc (.cells #[.int .i64 (d : Nat)] 3)).cell? ⟨W.heap.size, 0, none⟩ = some (.int .i64 (d : Nat)) := by simp
        have hl0 : W.heap.size < (W.alloc (.cells #[.int .i64 (d : Nat)] 3)).heap.size := by simp
        have H := hid (has_any (badR d) xs a cap (W.alloc (.cells #[.int .i64 (d : Nat)] 3)) (hI.below HB.out) 16 #[] #[.pointer (some ⟨W.heap.size, 0, none⟩)] (hid (run_enter Tryd.func16 (by kernel_rfl) rfl))
          (hid (fun w hb i hi => bad_any d (by omega) (nth xs i) W.heap.size w ((hb.cell (p := ⟨W.heap.size, 0, none⟩) hl0).trans hc0) (by have := hb.size; omega))) (by omega))
        have R : Hid (valE xs (d : Int) = if anyB (badR d) xs = true then 1 else 0) := hid (by unfold valE; rw [if_neg (by omega), if_neg h3, Int.toNat_natCast])
        have i3 : ¬ (8 : Int) < (xs.length : Int) := by omega
        clear hI hc0 hl0 h3
        generalize anyB (badR d) xs = q at *
        go_enter Tryd.func8, Tryd.ntmps8
        go_wp2_with fail
        refine H.out.mono ?_
        rintro e w1 ⟨rfl, hb⟩
        have HZ := hid (HB.out.trans (hb.mono HB.out.size))
        clear hb H
        cases q
        · go_wp2_with fail
          go_ret
          exact ⟨by rw [R.out]; rfl, HZ.out⟩
        · go_wp2_with fail
          go_ret
          exact ⟨by rw [R.out]; rfl, HZ.out⟩
end Go.Proofs.YtphcgggohfbmfaaDoor
