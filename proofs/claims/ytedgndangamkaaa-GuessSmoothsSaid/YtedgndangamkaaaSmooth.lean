/- 'Smooth' and the document's beside it: what they return. -/
import Derived.Test.YtedgndangamkaaaSmoothLaw
import Derived.Test.YtedgndangamkaaaBound
namespace Go.Proofs.Ytedgndangamkaaa
open Go.RowKit

theorem IntsAt.cells {w : World} {b off : Nat} {xs : List Int} (h : IntsAt w (some ⟨b, off, none⟩) xs) (i : Nat) (hi : i < xs.length) : w.cell? ⟨b, off + i, none⟩ = some (.int .i64 (nth xs i)) := by
  obtain ⟨b', off', e, _, hc⟩ := h i hi
  cases e
  exact hc
/-- What 'Smooth' comes to, if nothing is refused. -/
def smN (xs : List Int) (n d : Int) : Int := top xs n d (xs.length - 1) / (gc (top xs n d (xs.length - 1)).toNat (bot d (xs.length - 1)).toNat : Nat)
def smD (xs : List Int) (n d : Int) : Int := bot d (xs.length - 1) / (gc (top xs n d (xs.length - 1)).toNat (bot d (xs.length - 1)).toNat : Nat)
set_option maxHeartbeats 1000000 in
theorem smooth_in (xs : List Int) (a : Option Addr) (cap : Nat) (n d : Int) (w : World) (hI : IntsAt w a xs) (hs : SmoothIn xs n d) (h8 : xs.length ≤ 8) (hcap : xs.length ≤ cap) (hcm : cap ≤ maxLen) :
    Calls Try.prog 32 #[.slice a xs.length cap, .int .i64 n, .int .i64 d] w fun e w' => e = .returned (.tuple #[.agg #[.int .i64 (smN xs n d), .int .i64 (smD xs n d)], .int .i64 0]) ∧ Below w.heap.size w w' := by
  unfold maxLen at hcm
  unfold smN smD
  have h1 := hs.one
  have hd1 := hs.d1
  have hd2 := hs.d2
  have hn0 := hs.n0
  have hn1 := hs.n1
  obtain ⟨b, off, rfl, hlt, hc0⟩ := hI 0 (by omega)
  have hne : ((xs.length : Int) == 0) = false := beq_eq_false_iff_ne.2 (by omega)
  have hc0' : w.cell? ⟨b, off, none⟩ = some (.int .i64 (nth xs 0)) := hc0
  clear hc0
  have tb := top_le hs (xs.length - 1) (by omega) (by omega)
  have bb := bot_le hs.d1 hs.d2 (xs.length - 1) (by omega)
  have bp := bot_pos hs.d1 (xs.length - 1)
  obtain ⟨T, hT⟩ := Int.eq_ofNat_of_zero_le tb.1
  obtain ⟨B, hB⟩ := Int.eq_ofNat_of_zero_le (show 0 ≤ bot d (xs.length - 1) by omega)
  rw [hT, hB]
  rw [hT] at tb
  rw [hB] at bb bp
  have HT := hid hT
  have HB := hid hB
  clear hT hB
  simp only [Int.toNat_natCast]
  have hp := gc_pos T B (by omega)
  have hl := gc_le T B (by omega)
  have hz : ((gc T B : Int) == 0) = false := beq_eq_false_iff_ne.2 (by omega)
  have d1 := div_bd T (gc T B) (by omega)
  have d2 := div_bd B (gc T B) (by omega)
  go_enter Try.func32, Try.ntmps32
  go_wp2_with (go_at_call 53; refine (within_yes _ _ _ _ (by omega) (by omega)).mono ?_; rintro e w' ⟨rfl, rfl⟩)
  go_loop [32] (fun v32 => ∃ k : Nat, k ≤ xs.length ∧ v32 = .int .i64 k) (fun v32 => xs.length - (intOf v32).toNat)
  case atStart => exact ⟨0, by omega, rfl⟩
  case round =>
    obtain ⟨k, hk, rfl⟩ := hrel
    by_cases hlt : k < xs.length
    · have hcell := hI.cells k hlt
      have he := hs.el k hlt
      go_wp2_with (go_at_call 53; refine (within_yes _ _ _ _ (by omega) (by omega)).mono ?_; rintro e w' ⟨rfl, rfl⟩)
      go_round
      case rel => exact ⟨k + 1, by omega, by go_num⟩
      case measure => simp [intOf]; omega
    · obtain rfl : k = xs.length := by omega
      have hlc : 1 ≤ cap := by omega
      go_wp2
      all_goals
        go_loop [10, 11, 51] (fun v10 v11 v51 => ∃ k : Nat, k ≤ xs.length - 1 ∧ v10 = .int .i64 (top xs n d k) ∧ v11 = .int .i64 (bot d k) ∧ v51 = .int .i64 k) (fun _ _ v51 => xs.length - (intOf v51).toNat)
        case atStart => exact ⟨0, by omega, rfl, rfl, rfl⟩
        case round =>
          obtain ⟨k, hk, rfl, rfl, rfl⟩ := hrel
          by_cases hlt2 : k < xs.length - 1
          · have hcell : w.cell? ⟨b, off + 1 + k, none⟩ = some (.int .i64 (nth xs (k + 1))) := by
              rw [show off + 1 + k = off + (k + 1) by omega]; exact hI.cells (k + 1) (by omega)
            have hst := smooth_step hs k (by omega) (by omega)
            have S1 := hid hst.1
            have S2 := hid hst.2
            clear hst
            first
            | (exfalso; omega)
            | (go_wp2
               go_round
               case rel => exact ⟨k + 1, by omega, by rw [S1.out], by rw [S2.out], by go_num⟩
               case measure => simp [intOf]; omega)
          · obtain rfl : k = xs.length - 1 := by omega
            go_wp2_with fail
            rw [HT.out, HB.out]
            refine (divisor_in _ _ _ (by omega) (by omega)).mono ?_; rintro e w' ⟨rfl, nq, rfl⟩
            go_wp2
            go_region
            go_wp2
            go_returns
            exact ⟨rfl, by repeat (first | exact below_alloc _ _ | exact below_drewN (below_alloc _ _) _ | refine Below.setCell ?_ (by simp) _ | refine Below.drew ?_)⟩
theorem smooth_long (xs : List Int) (a : Option Addr) (cap : Nat) (n d : Int) (w : World) (hI : IntsAt w a xs) (hs : SmoothIn xs n d) (h8 : 8 < xs.length) (hm : xs.length ≤ maxLen) :
    Calls Try.prog 32 #[.slice a xs.length cap, .int .i64 n, .int .i64 d] w fun e w' => e = .returned (.tuple #[.agg #[.int .i64 0, .int .i64 0], .int .i64 4]) ∧ Below w.heap.size w w' := by
  unfold maxLen at hm
  have hd1 := hs.d1
  have hd2 := hs.d2
  have hn0 := hs.n0
  have hn1 := hs.n1
  have hne : ((xs.length : Int) == 0) = false := beq_eq_false_iff_ne.2 (by omega)
  go_enter Try.func32, Try.ntmps32
  go_wp2_with (go_at_call 53; refine (within_yes _ _ _ _ (by omega) (by omega)).mono ?_; rintro e w' ⟨rfl, rfl⟩)
  go_loop [32] (fun v32 => ∃ k : Nat, k ≤ xs.length ∧ v32 = .int .i64 k) (fun v32 => xs.length - (intOf v32).toNat)
  case atStart => exact ⟨0, by omega, rfl⟩
  case round =>
    obtain ⟨k, hk, rfl⟩ := hrel
    by_cases hlt : k < xs.length
    · obtain ⟨b, off, rfl, hlb, hcell⟩ := hI k hlt
      have he := hs.el k hlt
      go_wp2_with (go_at_call 53; refine (within_yes _ _ _ _ (by omega) (by omega)).mono ?_; rintro e w' ⟨rfl, rfl⟩)
      go_round
      case rel => exact ⟨k + 1, by omega, by go_num⟩
      case measure => simp [intOf]; omega
    · obtain rfl : k = xs.length := by omega
      go_wp2
      go_returns
      exact ⟨rfl, by repeat (first | exact below_alloc _ _ | exact below_drewN (below_alloc _ _) _ | refine Below.setCell ?_ (by simp) _ | refine Below.drew ?_)⟩
theorem smooth_no (xs : List Int) (a : Option Addr) (cap : Nat) (n d : Int) (w : World) (hI : IntsAt w a xs) (hs : ¬ SmoothIn xs n d) (hm : xs.length ≤ maxLen) :
    Calls Try.prog 32 #[.slice a xs.length cap, .int .i64 n, .int .i64 d] w fun e w' => e = .returned (.tuple #[.agg #[.int .i64 0, .int .i64 0], .int .i64 1]) ∧ Below w.heap.size w w' := by
  unfold maxLen at hm
  by_cases hne0 : xs.length = 0
  · have hne : ((xs.length : Int) == 0) = true := beq_iff_eq.2 (by omega)
    go_enter Try.func32, Try.ntmps32
    go_wp2
    go_returns
    exact ⟨rfl, by repeat (first | exact below_alloc _ _ | exact below_drewN (below_alloc _ _) _ | refine Below.setCell ?_ (by simp) _ | refine Below.drew ?_)⟩
  · have hne : ((xs.length : Int) == 0) = false := beq_eq_false_iff_ne.2 (by omega)
    by_cases hd : 1 ≤ d ∧ d ≤ 10
    · by_cases hn : 0 ≤ n ∧ n ≤ d
      · obtain ⟨d1, d2⟩ := hd
        obtain ⟨n0, n1⟩ := hn
        clear hne0
        go_enter Try.func32, Try.ntmps32
        go_wp2_with (go_at_call 53; refine (within_yes _ _ _ _ (by omega) (by omega)).mono ?_; rintro e w' ⟨rfl, rfl⟩)
        go_loop [32] (fun v32 => ∃ k : Nat, k ≤ xs.length ∧ v32 = .int .i64 k ∧ ∀ i, i < k → 0 ≤ nth xs i ∧ nth xs i ≤ 1000000) (fun v32 => xs.length - (intOf v32).toNat)
        case atStart => exact ⟨0, by omega, rfl, fun i hi => by omega⟩
        case round =>
          obtain ⟨k, hk, rfl, hall⟩ := hrel
          have Hall := hid hall
          clear hall
          by_cases hlt : k < xs.length
          · obtain ⟨b, off, rfl, hlb, hcell⟩ := hI k hlt
            by_cases he : 0 ≤ nth xs k ∧ nth xs k ≤ 1000000
            · obtain ⟨e0, e1⟩ := he
              go_wp2_with (go_at_call 53; refine (within_yes _ _ _ _ (by omega) (by omega)).mono ?_; rintro e w' ⟨rfl, rfl⟩)
              go_round
              case rel => exact ⟨k + 1, by omega, by go_num, fun i hi => by
                by_cases e : i = k
                · subst e; exact ⟨e0, e1⟩
                · exact Hall.out i (by omega)⟩
              case measure => simp [intOf]; omega
            · go_wp2_with (go_at_call 53; refine (within_no _ _ _ _ (by omega)).mono ?_; rintro e w' ⟨rfl, rfl⟩)
              go_returns
              exact ⟨rfl, by repeat (first | exact below_alloc _ _ | exact below_drewN (below_alloc _ _) _ | refine Below.setCell ?_ (by simp) _ | refine Below.drew ?_)⟩
          · obtain rfl : k = xs.length := by omega
            have hone : xs.length ≠ 0 := fun e => by rw [e] at hne; cases hne
            exact absurd ⟨by omega, d1, d2, n0, n1, Hall.out⟩ hs
      · go_enter Try.func32, Try.ntmps32
        go_wp2_with fail
        refine (within_yes _ _ _ _ (by omega) (by omega)).mono ?_; rintro e w' ⟨rfl, rfl⟩
        go_wp2_with fail
        refine (within_no _ _ _ _ (by omega)).mono ?_; rintro e w' ⟨rfl, rfl⟩
        go_wp2
        go_returns
        exact ⟨rfl, by repeat (first | exact below_alloc _ _ | exact below_drewN (below_alloc _ _) _ | refine Below.setCell ?_ (by simp) _ | refine Below.drew ?_)⟩
    · go_enter Try.func32, Try.ntmps32
      go_wp2_with fail
      refine (within_no _ _ _ _ (by omega)).mono ?_; rintro e w' ⟨rfl, rfl⟩
      go_wp2
      go_returns
      exact ⟨rfl, by repeat (first | exact below_alloc _ _ | exact below_drewN (below_alloc _ _) _ | refine Below.setCell ?_ (by simp) _ | refine Below.drew ?_)⟩
end Go.Proofs.Ytedgndangamkaaa
