/- 'GuessSmooths' returns true: the walk. -/
import Derived.Test.YtedgndangamkaaaKnown
import Derived.Test.YtedgndangamkaaaSmoothr
namespace Go.Proofs.Ytedgndangamkaaa
open Go.RowKit

def mn (xs : List Int) : Nat → Int
  | 0 => nth xs 0
  | k + 1 => min (mn xs k) (nth xs k)
def mx (xs : List Int) : Nat → Int
  | 0 => nth xs 0
  | k + 1 => max (mx xs k) (nth xs k)
theorem mn_le (xs : List Int) (k : Nat) : ∀ i, i < k → mn xs k ≤ nth xs i := by
  induction k with
  | zero => intro i hi; omega
  | succ k ih =>
    intro i hi
    simp only [mn]
    by_cases e : i = k
    · subst e; omega
    · have := ih i (by omega); omega
theorem le_mx (xs : List Int) (k : Nat) : ∀ i, i < k → nth xs i ≤ mx xs k := by
  induction k with
  | zero => intro i hi; omega
  | succ k ih =>
    intro i hi
    simp only [mx]
    by_cases e : i = k
    · subst e; omega
    · have := ih i (by omega); omega
theorem mn_bd (xs : List Int) (h1 : 1 ≤ xs.length) (h : ∀ i, i < xs.length → 0 ≤ nth xs i ∧ nth xs i ≤ 1000000) (k : Nat) (hk : k ≤ xs.length) : (0 ≤ mn xs k ∧ mn xs k ≤ 1000000) ∧ (0 ≤ mx xs k ∧ mx xs k ≤ 1000000) := by
  induction k with
  | zero => have := h 0 (by omega); simp only [mn, mx]; omega
  | succ k ih => have := h k (by omega); have := ih (by omega); simp only [mn, mx]; omega
theorem smooth_between {xs : List Int} {n d : Int} (h : SmoothIn xs n d) (h8 : xs.length ≤ 8) :
    mn xs xs.length * smD xs n d ≤ smN xs n d ∧ smN xs n d ≤ mx xs xs.length * smD xs n d ∧ (0 ≤ smD xs n d ∧ smD xs n d ≤ 10000000) ∧ 0 ≤ smN xs n d := by
  have h1 := h.one
  have tb := top_le h (xs.length - 1) (by omega) (by omega)
  have bb := bot_le h.d1 h.d2 (xs.length - 1) (by omega)
  have bp := bot_pos h.d1 (xs.length - 1)
  have key := top_bd h (mn xs xs.length) (mx xs xs.length) (xs.length - 1) (by omega) fun i hi => ⟨mn_le xs _ i (by omega), le_mx xs _ i (by omega)⟩
  unfold smN smD
  generalize mn xs xs.length = lo at *
  generalize mx xs xs.length = hi at *
  obtain ⟨T, hT⟩ := Int.eq_ofNat_of_zero_le tb.1
  obtain ⟨B, hB⟩ := Int.eq_ofNat_of_zero_le (show 0 ≤ bot d (xs.length - 1) by omega)
  rw [hT] at tb key
  rw [hB] at bb bp key
  rw [hT, hB]
  simp only [Int.toNat_natCast]
  have hp := gc_pos T B (by omega)
  have e1 : T / gc T B * gc T B = T := Nat.div_mul_cancel (Nat.gcd_dvd_left T B)
  have e2 : B / gc T B * gc T B = B := Nat.div_mul_cancel (Nat.gcd_dvd_right T B)
  have l2 : B / gc T B ≤ B := Nat.div_le_self _ _
  rw [← Int.natCast_ediv, ← Int.natCast_ediv]
  generalize T / gc T B = t at *
  generalize B / gc T B = b at *
  generalize gc T B = g at *
  subst e1
  subst e2
  have hg : (0 : Int) < g := by omega
  have k1 : lo * b * g ≤ t * g := by have := key.1; push_cast at this; rw [Int.mul_assoc]; exact this
  have k2 : (t : Int) * g ≤ hi * b * g := by have := key.2; push_cast at this; rw [Int.mul_assoc]; exact this
  exact ⟨Int.le_of_mul_le_mul_right k1 hg, Int.le_of_mul_le_mul_right k2 hg, ⟨by omega, by omega⟩, by omega⟩

theorem mn_step (xs : List Int) (k : Nat) : (if nth xs k < mn xs k then nth xs k else mn xs k) = mn xs (k + 1) := by
  simp only [mn]; split <;> omega
theorem mx_step (xs : List Int) (k : Nat) : (if mx xs k < nth xs k then nth xs k else mx xs k) = mx xs (k + 1) := by
  simp only [mx]; split <;> omega
theorem smooth_facts {xs : List Int} {n d : Int} (he : smE xs n d = 0) :
    mn xs xs.length * smDR xs n d ≤ smNR xs n d ∧ smNR xs n d ≤ mx xs xs.length * smDR xs n d ∧ 0 ≤ mn xs xs.length * smDR xs n d ∧ mn xs xs.length * smDR xs n d ≤ 10000000000000 ∧ 0 ≤ mx xs xs.length * smDR xs n d ∧ mx xs xs.length * smDR xs n d ≤ 10000000000000 := by
  have hs : SmoothIn xs n d ∧ xs.length ≤ 8 := by
    unfold smE at he
    split at he
    · rename_i h
      split at he
      · rename_i h8; exact ⟨h, h8⟩
      · cases he
    · cases he
  have e1 : smNR xs n d = smN xs n d := by rw [smNR, if_pos he]
  have e2 : smDR xs n d = smD xs n d := by rw [smDR, if_pos he]
  rw [e1, e2]
  obtain ⟨k1, k2, k3, k4⟩ := smooth_between hs.1 hs.2
  have b := mn_bd xs hs.1.one hs.1.el xs.length (Nat.le_refl _)
  have m1 := mul_bd b.1.1 b.1.2 k3.1 k3.2
  have m2 := mul_bd b.2.1 b.2.2 k3.1 k3.2
  omega
set_option maxHeartbeats 1000000 in
theorem lawSmooths (W : World) (a : Option Addr) (xs : List Int) (cap : Nat) (hI : IntsAt W a xs) (hcap : xs.length ≤ cap) (hcm : cap ≤ maxLen) (_hw : ∀ i, i < xs.length → (Lit.int .i64 (nth xs i)).wf = true) (n : Int) (_wn : (Lit.int .i64 n).wf = true) (d : Int) (_wd : (Lit.int .i64 d).wf = true) :
    Calls Try.prog 9 #[.slice a xs.length cap, .int .i64 n, .int .i64 d] W fun e w' => e = .returned (.bool true) ∧ Below W.heap.size W w' := by
  have hm : xs.length ≤ 9223372036854775807 := by unfold maxLen at hcm; omega
  clear _hw _wn _wd
  by_cases hl : xs.length ≤ 100
  · by_cases he : smE xs n d = 0
    · have hne : xs.length ≠ 0 := by
        intro e
        have : ¬ SmoothIn xs n d := fun k => by have := k.one; omega
        simp [smE, this] at he
      go_enter Try.func9, Try.ntmps9
      go_wp2_with fail
      refine (Smooth_any xs _ _ n d _ hI hcap hcm).mono ?_; rintro e w1 ⟨rfl, hb1⟩
      go_wp2_with fail
      have hI1 := (hI.below hb1).below (below_alloc w1 (.cells #[.int .i64 (smNR xs n d), .int .i64 (smDR xs n d)] 36))
      refine (rSmooth_any xs _ _ n d _ hI1 hcap hcm).mono ?_; rintro e w2 ⟨rfl, hb2⟩
      have hI2 := (hI1.below hb2).below (below_alloc w2 (.cells #[.int .i64 (smNR xs n d), .int .i64 (smDR xs n d)] 36))
      obtain ⟨c0, c1, sz, bl⟩ := keep2_new hb2
      have bW : Below W.heap.size W w2 := hb1.trans (bl.mono hb1.size)
      clear hI1 hb2 hI hb1 bl
      obtain ⟨b, off, rfl, hlt, hc0⟩ := hI2 0 (by omega)
      have hc0' : (w2.alloc (.cells #[.int .i64 (smNR xs n d), .int .i64 (smDR xs n d)] 36)).cell? ⟨b, off, none⟩ = some (.int .i64 (nth xs 0)) := hc0
      clear hc0
      go_wp2
      go_quiet (fail)
      go_wp2
      go_loopw [11, 12, 13] (fun v11 v12 v13 wr => ∃ k m : Nat, k ≤ xs.length ∧ v11 = .int .i64 (mn xs k) ∧ v12 = .int .i64 (mx xs k) ∧ v13 = .int .i64 k ∧ wr = (w2.alloc (.cells #[.int .i64 (smNR xs n d), .int .i64 (smDR xs n d)] 36)).drewN m) (fun _ _ v13 _ => xs.length - (intOf v13).toNat)
      case atStart => exact ⟨0, nq, by omega, rfl, rfl, rfl, rfl⟩
      case round =>
        obtain ⟨k, m, hk, rfl, rfl, rfl, rfl⟩ := hrel
        by_cases hlt2 : k < xs.length
        · have hcell := hI2.cells k hlt2
          go_wp2
          go_quiet (fail)
          go_wp2
          go_roundw
          case rel => exact ⟨k + 1, m + nq, by omega, by rw [mn_step], by rw [mx_step], by go_num, rfl⟩
          case measure => simp [intOf]; omega
        · obtain rfl : k = xs.length := by omega
          obtain ⟨f1, f2, f3, f4, f5, f6⟩ := smooth_facts he
          go_wp2_with fail
          refine (known_true _).mono ?_; rintro e w3 ⟨rfl, hb3⟩
          have hbz : Below W.heap.size W w3 := (below_drewN (bW.alloc bW.size _) m).trans (hb3.mono (by simp; have := bW.size; omega))
          clear hb3
          go_wp2
          go_ret
          exact ⟨rfl, hbz⟩
    · have he' : (smE xs n d == 0) = false := beq_eq_false_iff_ne.2 he
      clear he
      go_enter Try.func9, Try.ntmps9
      go_wp2_with fail
      refine (Smooth_any xs _ _ n d _ hI hcap hcm).mono ?_; rintro e w1 ⟨rfl, hb1⟩
      go_wp2_with fail
      have hI1 := (hI.below hb1).below (below_alloc w1 (.cells #[.int .i64 (smNR xs n d), .int .i64 (smDR xs n d)] 36))
      refine (rSmooth_any xs _ _ n d _ hI1 hcap hcm).mono ?_; rintro e w2 ⟨rfl, hb2⟩
      obtain ⟨c0, c1, sz, bl⟩ := keep2_new hb2
      have bW : Below W.heap.size W w2 := hb1.trans (bl.mono hb1.size)
      clear hI1 hb2 hI hb1 bl
      go_wp2_with fail
      refine (known_true _).mono ?_; rintro e w3 ⟨rfl, hb3⟩
      have hbz : Below W.heap.size W w3 := (bW.alloc bW.size _).trans (hb3.mono (by simp; have := bW.size; omega))
      clear hb3
      go_wp2
      go_ret
      exact ⟨rfl, hbz⟩
  · go_enter Try.func9, Try.ntmps9
    go_wp2_with fail
    refine (known_true _).mono ?_; rintro e w1 ⟨rfl, hb1⟩
    go_wp2
    go_ret
    exact ⟨rfl, hb1⟩
end Go.Proofs.Ytedgndangamkaaa
