/- The document's 'Smooth': what it returns; both, for every input. -/
import Derived.Test.YtedgndangamkaaaSmooth
namespace Go.Proofs.Ytedgndangamkaaa
open Go.RowKit

set_option maxHeartbeats 1000000 in
theorem rsmooth_in (xs : List Int) (a : Option Addr) (cap : Nat) (n d : Int) (w : World) (hI : IntsAt w a xs) (hs : SmoothIn xs n d) (h8 : xs.length ≤ 8) :
    Calls Try.prog 33 #[.slice a xs.length cap, .int .i64 n, .int .i64 d] w fun e w' => e = .returned (.tuple #[.agg #[.int .i64 (smN xs n d), .int .i64 (smD xs n d)], .int .i64 0]) ∧ Below w.heap.size w w' := by
  unfold smN smD
  have h1 := hs.one
  have hd1 := hs.d1
  have hd2 := hs.d2
  have hn0 := hs.n0
  have hn1 := hs.n1
  obtain ⟨b, off, rfl, hlt, hc0⟩ := hI 0 (by omega)
  have hne : ((xs.length : Int) == 0) = false := beq_eq_false_iff_ne.2 (by omega)
  have hc0' : w.cell? ⟨b, off, none⟩ = some (.int .i64 (nth xs 0)) := hc0
  clear hc0
  have tb := top_le hs (xs.length - 1) (by omega) (by omega)
  have bb := bot_le hs.d1 hs.d2 (xs.length - 1) (by omega)
  have bp := bot_pos hs.d1 (xs.length - 1)
  obtain ⟨T, hT⟩ := Int.eq_ofNat_of_zero_le tb.1
  obtain ⟨B, hB⟩ := Int.eq_ofNat_of_zero_le (show 0 ≤ bot d (xs.length - 1) by omega)
  rw [hT, hB]
  rw [hT] at tb
  rw [hB] at bb bp
  have HT := hid hT
  have HB := hid hB
  clear hT hB
  simp only [Int.toNat_natCast]
  have bel := below_alloc w (.cells #[.int .i64 0, .int .i64 0] 36)
  go_enter Try.func33, Try.ntmps33
  go_wp2
  go_loop [8] (fun v8 => ∃ k : Nat, k ≤ xs.length ∧ v8 = .int .i64 k) (fun v8 => xs.length - (intOf v8).toNat)
  case atStart => exact ⟨0, by omega, rfl⟩
  case round =>
    obtain ⟨k, hk, rfl⟩ := hrel
    by_cases hlt : k < xs.length
    · have hcell := hI.cells k hlt
      have he := hs.el k hlt
      go_wp2
      go_round
      case rel => exact ⟨k + 1, by omega, by go_num⟩
      case measure => simp [intOf]; omega
    · obtain rfl : k = xs.length := by omega
      go_wp2
      go_loop [9, 10, 11] (fun v10 v11 v51 => ∃ k : Nat, k ≤ xs.length - 1 ∧ v10 = .int .i64 (top xs n d k) ∧ v11 = .int .i64 (bot d k) ∧ v51 = .int .i64 ((k + 1 : Nat) : Int)) (fun _ _ v51 => xs.length - (intOf v51).toNat)
      case atStart => exact ⟨0, by omega, rfl, rfl, rfl⟩
      case round =>
        obtain ⟨k, hk, rfl, rfl, rfl⟩ := hrel
        by_cases hlt2 : k < xs.length - 1
        · have hcell : w.cell? ⟨b, off + (k + 1), none⟩ = some (.int .i64 (nth xs (k + 1))) := hI.cells (k + 1) (by omega)
          have hst := smooth_step hs k (by omega) (by omega)
          have S1 := hid hst.1
          have S2 := hid hst.2
          clear hst
          go_wp2
          go_round
          case rel => exact ⟨k + 1, by omega, by rw [S1.out], by rw [S2.out], by go_num⟩
          case measure => simp [intOf]; omega
        · obtain rfl : k = xs.length - 1 := by omega
          go_wp2_with fail
          rw [HT.out, HB.out]
          refine (fraction_in _ _ _ (by omega) (by omega) (by omega)).mono ?_; rintro e w1 ⟨rfl, hb1⟩
          have f0 : w1.frozen? ⟨w.heap.size, 0, none⟩ = false := by rw [hb1.frozen (p := ⟨w.heap.size, 0, none⟩) (by simp)]; simp
          have f1 : w1.frozen? ⟨w.heap.size, 1, none⟩ = false := by rw [hb1.frozen (p := ⟨w.heap.size, 1, none⟩) (by simp)]; simp
          obtain ⟨c0, c1, sz, bl⟩ := keep2_new hb1
          clear hb1
          go_wp2
          refine bodyPost_ret (v := .tuple #[.agg #[.int .i64 ((T : Int) / (gc T B : Nat)), .int .i64 ((B : Int) / (gc T B : Nat))], .int .i64 0]) (by simp [results, Try.results33, go_sem, c0, c1]) rfl ⟨rfl, ?_⟩
          exact (bl.setCell (by simp) _).setCell (by simp) _
theorem rsmooth_long (xs : List Int) (a : Option Addr) (cap : Nat) (n d : Int) (w : World) (hI : IntsAt w a xs) (hs : SmoothIn xs n d) (h8 : 8 < xs.length) (hm : xs.length ≤ maxLen) :
    Calls Try.prog 33 #[.slice a xs.length cap, .int .i64 n, .int .i64 d] w fun e w' => e = .returned (.tuple #[.agg #[.int .i64 0, .int .i64 0], .int .i64 4]) ∧ Below w.heap.size w w' := by
  unfold maxLen at hm
  have hd1 := hs.d1
  have hd2 := hs.d2
  have hn0 := hs.n0
  have hn1 := hs.n1
  have hne : ((xs.length : Int) == 0) = false := beq_eq_false_iff_ne.2 (by omega)
  go_enter Try.func33, Try.ntmps33
  go_wp2
  go_loop [8] (fun v32 => ∃ k : Nat, k ≤ xs.length ∧ v32 = .int .i64 k) (fun v32 => xs.length - (intOf v32).toNat)
  case atStart => exact ⟨0, by omega, rfl⟩
  case round =>
    obtain ⟨k, hk, rfl⟩ := hrel
    by_cases hlt : k < xs.length
    · obtain ⟨b, off, rfl, hlb, hcell⟩ := hI k hlt
      have he := hs.el k hlt
      go_wp2
      go_round
      case rel => exact ⟨k + 1, by omega, by go_num⟩
      case measure => simp [intOf]; omega
    · obtain rfl : k = xs.length := by omega
      go_wp2
      go_returns
      exact ⟨rfl, by repeat (first | exact below_alloc _ _ | exact below_drewN (below_alloc _ _) _ | refine Below.setCell ?_ (by simp) _ | refine Below.drew ?_)⟩
set_option maxHeartbeats 1000000 in
theorem rsmooth_no (xs : List Int) (a : Option Addr) (cap : Nat) (n d : Int) (w : World) (hI : IntsAt w a xs) (hs : ¬ SmoothIn xs n d) (hm : xs.length ≤ maxLen) :
    Calls Try.prog 33 #[.slice a xs.length cap, .int .i64 n, .int .i64 d] w fun e w' => e = .returned (.tuple #[.agg #[.int .i64 0, .int .i64 0], .int .i64 1]) ∧ Below w.heap.size w w' := by
  unfold maxLen at hm
  by_cases hne0 : xs.length = 0
  · have hne : ((xs.length : Int) == 0) = true := beq_iff_eq.2 (by omega)
    go_enter Try.func33, Try.ntmps33
    go_wp2
    go_returns
    exact ⟨rfl, by repeat (first | exact below_alloc _ _ | exact below_drewN (below_alloc _ _) _ | refine Below.setCell ?_ (by simp) _ | refine Below.drew ?_)⟩
  · have hne : ((xs.length : Int) == 0) = false := beq_eq_false_iff_ne.2 (by omega)
    by_cases hd : 1 ≤ d ∧ d ≤ 10
    · by_cases hn : 0 ≤ n ∧ n ≤ d
      · obtain ⟨d1, d2⟩ := hd
        obtain ⟨n0, n1⟩ := hn
        clear hne0
        go_enter Try.func33, Try.ntmps33
        go_wp2
        go_loop [8] (fun v32 => ∃ k : Nat, k ≤ xs.length ∧ v32 = .int .i64 k ∧ ∀ i, i < k → 0 ≤ nth xs i ∧ nth xs i ≤ 1000000) (fun v32 => xs.length - (intOf v32).toNat)
        case atStart => exact ⟨0, by omega, rfl, fun i hi => by omega⟩
        case round =>
          obtain ⟨k, hk, rfl, hall⟩ := hrel
          have Hall := hid hall
          clear hall
          by_cases hlt : k < xs.length
          · obtain ⟨b, off, rfl, hlb, hcell⟩ := hI k hlt
            by_cases he : 0 ≤ nth xs k ∧ nth xs k ≤ 1000000
            · obtain ⟨e0, e1⟩ := he
              go_wp2
              go_round
              case rel => exact ⟨k + 1, by omega, by go_num, fun i hi => by
                by_cases e : i = k
                · subst e; exact ⟨e0, e1⟩
                · exact Hall.out i (by omega)⟩
              case measure => simp [intOf]; omega
            · by_cases hneg : nth xs k < 0
              all_goals
                go_wp2
                go_returns
                exact ⟨rfl, by repeat (first | exact below_alloc _ _ | exact below_drewN (below_alloc _ _) _ | refine Below.setCell ?_ (by simp) _ | refine Below.drew ?_)⟩
          · obtain rfl : k = xs.length := by omega
            have hone : xs.length ≠ 0 := fun e => by rw [e] at hne; cases hne
            exact absurd ⟨by omega, d1, d2, n0, n1, Hall.out⟩ hs
      · by_cases hn0 : n < 0
        all_goals
          go_enter Try.func33, Try.ntmps33
          go_wp2
          go_returns
          exact ⟨rfl, by repeat (first | exact below_alloc _ _ | exact below_drewN (below_alloc _ _) _ | refine Below.setCell ?_ (by simp) _ | refine Below.drew ?_)⟩
    · by_cases hd0 : d < 1
      all_goals
        go_enter Try.func33, Try.ntmps33
        go_wp2
        go_returns
        exact ⟨rfl, by repeat (first | exact below_alloc _ _ | exact below_drewN (below_alloc _ _) _ | refine Below.setCell ?_ (by simp) _ | refine Below.drew ?_)⟩

open Classical in
noncomputable def smE (xs : List Int) (n d : Int) : Int := if SmoothIn xs n d then (if xs.length ≤ 8 then 0 else 4) else 1
noncomputable def smNR (xs : List Int) (n d : Int) : Int := if smE xs n d = 0 then smN xs n d else 0
noncomputable def smDR (xs : List Int) (n d : Int) : Int := if smE xs n d = 0 then smD xs n d else 0
theorem Smooth_any (xs : List Int) (a : Option Addr) (cap : Nat) (n d : Int) (w : World) (hI : IntsAt w a xs) (hcap : xs.length ≤ cap) (hcm : cap ≤ maxLen) :
    Calls Try.prog 32 #[.slice a xs.length cap, .int .i64 n, .int .i64 d] w fun e w' => e = .returned (.tuple #[.agg #[.int .i64 (smNR xs n d), .int .i64 (smDR xs n d)], .int .i64 (smE xs n d)]) ∧ Below w.heap.size w w' := by
  by_cases h1 : SmoothIn xs n d
  · by_cases h2 : xs.length ≤ 8
    · have e : smE xs n d = 0 := by simp [smE, h1, h2]
      rw [smNR, smDR, e, if_pos rfl, if_pos rfl]
      exact smooth_in xs a cap n d w hI h1 h2 hcap hcm
    · have e : smE xs n d = 4 := by simp [smE, h1, h2]
      rw [smNR, smDR, e, if_neg (by decide), if_neg (by decide)]
      exact smooth_long xs a cap n d w hI h1 (by omega) (by omega)
  · have e : smE xs n d = 1 := by simp [smE, h1]
    rw [smNR, smDR, e, if_neg (by decide), if_neg (by decide)]
    exact smooth_no xs a cap n d w hI h1 (by omega)
theorem rSmooth_any (xs : List Int) (a : Option Addr) (cap : Nat) (n d : Int) (w : World) (hI : IntsAt w a xs) (hcap : xs.length ≤ cap) (hcm : cap ≤ maxLen) :
    Calls Try.prog 33 #[.slice a xs.length cap, .int .i64 n, .int .i64 d] w fun e w' => e = .returned (.tuple #[.agg #[.int .i64 (smNR xs n d), .int .i64 (smDR xs n d)], .int .i64 (smE xs n d)]) ∧ Below w.heap.size w w' := by
  by_cases h1 : SmoothIn xs n d
  · by_cases h2 : xs.length ≤ 8
    · have e : smE xs n d = 0 := by simp [smE, h1, h2]
      rw [smNR, smDR, e, if_pos rfl, if_pos rfl]
      exact rsmooth_in xs a cap n d w hI h1 h2
    · have e : smE xs n d = 4 := by simp [smE, h1, h2]
      rw [smNR, smDR, e, if_neg (by decide), if_neg (by decide)]
      exact rsmooth_long xs a cap n d w hI h1 (by omega) (by omega)
  · have e : smE xs n d = 1 := by simp [smE, h1]
    rw [smNR, smDR, e, if_neg (by decide), if_neg (by decide)]
    exact rsmooth_no xs a cap n d w hI h1 (by omega)
end Go.Proofs.Ytedgndangamkaaa
