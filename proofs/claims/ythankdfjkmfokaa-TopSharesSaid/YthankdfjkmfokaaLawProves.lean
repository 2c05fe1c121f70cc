/- 'ShareProves' returns true: the walk. -/
import Derived.Test.YthankdfjkmfokaaKnown
import Derived.Test.YthankdfjkmfokaaPDiv
namespace Go.Proofs.Ythankdfjkmfokaa
open Go.RowKit
set_option linter.unusedSimpArgs false
set_option linter.unusedVariables false
def noB (ms : List Int) : Nat → Bool
  | 0 => false
  | k + 1 => noB ms k || (nth ms k == 0)
theorem noB_iff (ms : List Int) (k : Nat) : noB ms k = true ↔ ∃ i, i < k ∧ nth ms i = 0 := by
  induction k with
  | zero => simp [noB]
  | succ k ih =>
    simp only [noB, Bool.or_eq_true, ih, beq_iff_eq]
    constructor
    · rintro (⟨i, hi, h⟩ | h)
      · exact ⟨i, by omega, h⟩
      · exact ⟨k, by omega, h⟩
    · rintro ⟨i, hi, h⟩
      by_cases e : i = k
      · subst e; exact .inr h
      · exact .inl ⟨i, by omega, h⟩
theorem prove_no {xs ms : List Int} {kd : Int} (h : HavOK xs ms kd) (hf : faiB xs ms kd = false) : dvrB xs ms kd = false := by
  refine (dvr_no fun x => ?_).1
  rw [faiB_yes h (top_fair h.1.1 h.2 x.2).1] at hf
  cases hf
theorem prove_yes {xs ms : List Int} {kd : Int} (h : HavOK xs ms kd) (hf : faiB xs ms kd = true) (hk : kd ≠ 2 ∨ noB ms ms.length = false) : dvrB xs ms kd = true := by
  have hfo : FairOK kd xs ms := by
    refine Classical.byContradiction fun x => ?_
    rw [faiB_not x] at hf
    cases hf
  refine (dvr_yes h (fair_top h.1.1 h.2 hfo ((all_none h.2 h.1.2).2 ?_))).1
  rcases hk with hk | hk
  · exact .inl hk
  · refine .inr fun ⟨i, hi, h0⟩ => ?_
    have := (noB_iff ms ms.length).2 ⟨i, by rw [h.2.len]; exact hi, h0⟩
    rw [hk] at this
    cases this
theorem prove_none {xs ms : List Int} {kd : Int} (h : HavOK xs ms kd) (hk : kd = 2) (hn : noB ms ms.length = true) : dvrB xs ms kd = false := by
  refine (dvr_no fun x => ?_).1
  obtain ⟨i, hi, h0⟩ := (noB_iff ms ms.length).1 hn
  have := (all_none h.2 h.1.2).1 (top_fair h.1.1 h.2 x.2).2
  rcases this with this | this
  · exact this hk
  · exact this ⟨i, by rw [← h.2.len]; exact hi, h0⟩

set_option maxRecDepth 100000 in
set_option maxHeartbeats 4000000 in
theorem lawProves (W : World) (a : Option Addr) (xs : List Int) (cap : Nat) (hI : IntsAt W a xs) (hm : xs.length ≤ maxLen) (_hw : ∀ i, i < xs.length → (Lit.int .i64 (nth xs i)).wf = true)
    (a2 : Option Addr) (ms : List Int) (cap2 : Nat) (h2 : IntsAt W a2 ms) (hm2 : ms.length ≤ maxLen) (_hw2 : ∀ i, i < ms.length → (Lit.int .i64 (nth ms i)).wf = true) (kd : Int) (_wk : (Lit.int .i64 kd).wf = true) :
    Calls Try.prog 14 #[.slice a xs.length cap, .slice a2 ms.length cap2, .int .i64 kd] W fun e w' => e = .returned (.bool true) ∧ Below W.heap.size W w' := by
  clear _hw _hw2 _wk
  have HL := hid (fun W => Long_any xs a cap W hm)
  have HL2 := hid (fun W => Long_any ms a2 cap2 W hm2)
  by_cases h60 : 60 < xs.length
  · rw [decide_eq_true h60] at HL
    go_enter Try.func14, Try.ntmps14
    go_wp2_with fail
    refine (HL.out _).mono ?_; rintro e w1 ⟨rfl, rfl⟩
    go_wp2_with fail
    refine (known_true _).mono ?_; rintro e w' ⟨rfl, hb⟩
    go_wp2_with fail
    go_ret
    exact ⟨rfl, hb⟩
  · rw [decide_eq_false h60] at HL
    by_cases h61 : 60 < ms.length
    · rw [decide_eq_true h61] at HL2
      go_enter Try.func14, Try.ntmps14
      go_wp2_with fail
      refine (HL.out _).mono ?_; rintro e w1 ⟨rfl, rfl⟩
      go_wp2_with fail
      refine (HL2.out _).mono ?_; rintro e w1 ⟨rfl, rfl⟩
      go_wp2_with fail
      refine (known_true _).mono ?_; rintro e w' ⟨rfl, hb⟩
      go_wp2_with fail
      go_ret
      exact ⟨rfl, hb⟩
    · rw [decide_eq_false h61] at HL2
      have hx1 : xs.length ≤ 1000 := by omega
      have HD := hid (Divisor_any xs ms a a2 cap cap2 kd W hI h2 hx1 hm2)
      have HF := hid (fun w h h' => IsFair_any xs ms a a2 cap cap2 kd w h h' hx1 hm2)
      have hl60 : ms.length ≤ 60 := by omega
      generalize dvrN xs ms kd = N at *
      generalize dvrD xs ms kd = D at *
      by_cases hT : HavOK xs ms kd
      · have E0 := havE_yes hT
        rw [E0] at HD HF
        clear h60 h61 E0
        by_cases hf : faiB xs ms kd = true
        · rw [hf] at HF
          by_cases hk : kd = 2
          · have hkb : (kd != 2) = false := by simp [hk]
            by_cases hn : noB ms ms.length = true
            · rw [prove_none hT hk hn] at HD
              have HN := hid hn
              clear hk hn hf hT
              go_enter Try.func14, Try.ntmps14
              go_wp2_with fail
              refine (HL.out _).mono ?_; rintro e w1 ⟨rfl, rfl⟩
              go_wp2_with fail
              refine (HL2.out _).mono ?_; rintro e w1 ⟨rfl, rfl⟩
              go_wp2_with fail
              refine HD.out.mono ?_; rintro e w1 ⟨rfl, hb1⟩
              have hbA := hb1.alloc hb1.size (.cells #[.int .i64 N, .int .i64 D] 44)
              go_wp2_with fail
              refine (HF.out _ (hI.below hbA) (h2.below hbA)).mono ?_; rintro e w2 ⟨rfl, hb2⟩
              have hbz := hbA.trans (hb2.mono hbA.size)
              clear hb1 hb2 hbA HL HL2 HD HF
              have g2 := h2.below hbz
              go_wp2_with fail
              go_loopw [12, 13] (fun v12 v13 w' => ∃ i n : Nat, i ≤ ms.length ∧ v13 = .int .i64 i ∧ v12 = .bool (noB ms i) ∧ w' = w2.drewN n) (fun _ v13 _ => ms.length - (intOf v13).toNat)
              case atStart => exact ⟨0, 0, by omega, rfl, rfl, rfl⟩
              case round =>
                obtain ⟨i, n, hi, rfl, rfl, rfl⟩ := hrel
                by_cases hlt : i < ms.length
                · obtain ⟨b2, off2, rfl, hbl2, d1⟩ := g2 i hlt
                  have i1 : (0 : Int) ≤ (i : Int) := by omega
                  have i2 : (i : Int) < (ms.length : Int) := by omega
                  have hs : noB ms (i + 1) = (noB ms i || (nth ms i == 0)) := rfl
                  have HS := hid hs
                  clear hs
                  by_cases hb : noB ms i = true
                  · rw [hb] at HS ⊢
                    go_wp2_with fail
                    go_roundw
                    case rel => exact ⟨i + 1, n, by omega, by go_num, by rw [HS.out]; rfl, rfl⟩
                    case measure => simp [intOf]; omega
                  · have hb' : noB ms i = false := by simpa using hb
                    clear hb
                    rw [hb'] at HS ⊢
                    go_wp2_with fail
                    go_roundw
                    case rel => exact ⟨i + 1, n, by omega, by go_num, by rw [HS.out]; rfl, rfl⟩
                    case measure => simp [intOf]; omega
                · obtain rfl : i = ms.length := by omega
                  rw [HN.out]
                  go_wp2_with fail
                  refine (known_true _).mono ?_; rintro e w' ⟨rfl, hb⟩
                  go_wp2_with fail
                  go_ret
                  exact ⟨rfl, hbz.trans ((undrewN3 hb).mono hbz.size)⟩
            · have hn' : noB ms ms.length = false := by simpa using hn
              rw [prove_yes hT hf (.inr hn')] at HD
              have HN := hid hn'
              clear hk hn hn' hf hT
              go_enter Try.func14, Try.ntmps14
              go_wp2_with fail
              refine (HL.out _).mono ?_; rintro e w1 ⟨rfl, rfl⟩
              go_wp2_with fail
              refine (HL2.out _).mono ?_; rintro e w1 ⟨rfl, rfl⟩
              go_wp2_with fail
              refine HD.out.mono ?_; rintro e w1 ⟨rfl, hb1⟩
              have hbA := hb1.alloc hb1.size (.cells #[.int .i64 N, .int .i64 D] 44)
              go_wp2_with fail
              refine (HF.out _ (hI.below hbA) (h2.below hbA)).mono ?_; rintro e w2 ⟨rfl, hb2⟩
              have hbz := hbA.trans (hb2.mono hbA.size)
              clear hb1 hb2 hbA HL HL2 HD HF
              have g2 := h2.below hbz
              go_wp2_with fail
              go_loopw [12, 13] (fun v12 v13 w' => ∃ i n : Nat, i ≤ ms.length ∧ v13 = .int .i64 i ∧ v12 = .bool (noB ms i) ∧ w' = w2.drewN n) (fun _ v13 _ => ms.length - (intOf v13).toNat)
              case atStart => exact ⟨0, 0, by omega, rfl, rfl, rfl⟩
              case round =>
                obtain ⟨i, n, hi, rfl, rfl, rfl⟩ := hrel
                by_cases hlt : i < ms.length
                · obtain ⟨b2, off2, rfl, hbl2, d1⟩ := g2 i hlt
                  have i1 : (0 : Int) ≤ (i : Int) := by omega
                  have i2 : (i : Int) < (ms.length : Int) := by omega
                  have hs : noB ms (i + 1) = (noB ms i || (nth ms i == 0)) := rfl
                  have HS := hid hs
                  clear hs
                  by_cases hb : noB ms i = true
                  · rw [hb] at HS ⊢
                    go_wp2_with fail
                    go_roundw
                    case rel => exact ⟨i + 1, n, by omega, by go_num, by rw [HS.out]; rfl, rfl⟩
                    case measure => simp [intOf]; omega
                  · have hb' : noB ms i = false := by simpa using hb
                    clear hb
                    rw [hb'] at HS ⊢
                    go_wp2_with fail
                    go_roundw
                    case rel => exact ⟨i + 1, n, by omega, by go_num, by rw [HS.out]; rfl, rfl⟩
                    case measure => simp [intOf]; omega
                · obtain rfl : i = ms.length := by omega
                  rw [HN.out]
                  go_wp2_with fail
                  refine (known_true _).mono ?_; rintro e w' ⟨rfl, hb⟩
                  go_wp2_with fail
                  go_ret
                  exact ⟨rfl, hbz.trans ((undrewN3 hb).mono hbz.size)⟩
          · have hkb : (kd != 2) = true := by simp [hk]
            rw [prove_yes hT hf (.inl hk)] at HD
            clear hk hf hT
            go_enter Try.func14, Try.ntmps14
            go_wp2_with fail
            refine (HL.out _).mono ?_; rintro e w1 ⟨rfl, rfl⟩
            go_wp2_with fail
            refine (HL2.out _).mono ?_; rintro e w1 ⟨rfl, rfl⟩
            go_wp2_with fail
            refine HD.out.mono ?_; rintro e w1 ⟨rfl, hb1⟩
            have hbA := hb1.alloc hb1.size (.cells #[.int .i64 N, .int .i64 D] 44)
            go_wp2_with fail
            refine (HF.out _ (hI.below hbA) (h2.below hbA)).mono ?_; rintro e w2 ⟨rfl, hb2⟩
            have hbz := hbA.trans (hb2.mono hbA.size)
            clear hb1 hb2 hbA HL HL2 HD HF
            have g2 := h2.below hbz
            go_wp2_with fail
            go_loopw [12, 13] (fun v12 v13 w' => ∃ i n : Nat, i ≤ ms.length ∧ v13 = .int .i64 i ∧ v12 = .bool (noB ms i) ∧ w' = w2.drewN n) (fun _ v13 _ => ms.length - (intOf v13).toNat)
            case atStart => exact ⟨0, 0, by omega, rfl, rfl, rfl⟩
            case round =>
              obtain ⟨i, n, hi, rfl, rfl, rfl⟩ := hrel
              by_cases hlt : i < ms.length
              · obtain ⟨b2, off2, rfl, hbl2, d1⟩ := g2 i hlt
                have i1 : (0 : Int) ≤ (i : Int) := by omega
                have i2 : (i : Int) < (ms.length : Int) := by omega
                have hs : noB ms (i + 1) = (noB ms i || (nth ms i == 0)) := rfl
                have HS := hid hs
                clear hs
                by_cases hb : noB ms i = true
                · rw [hb] at HS ⊢
                  go_wp2_with fail
                  go_roundw
                  case rel => exact ⟨i + 1, n, by omega, by go_num, by rw [HS.out]; rfl, rfl⟩
                  case measure => simp [intOf]; omega
                · have hb' : noB ms i = false := by simpa using hb
                  clear hb
                  rw [hb'] at HS ⊢
                  go_wp2_with fail
                  go_roundw
                  case rel => exact ⟨i + 1, n, by omega, by go_num, by rw [HS.out]; rfl, rfl⟩
                  case measure => simp [intOf]; omega
              · obtain rfl : i = ms.length := by omega
                skip
                go_wp2_with fail
                refine (known_true _).mono ?_; rintro e w' ⟨rfl, hb⟩
                go_wp2_with fail
                go_ret
                exact ⟨rfl, hbz.trans ((undrewN3 hb).mono hbz.size)⟩
        · have hf' : faiB xs ms kd = false := by simpa using hf
          rw [hf'] at HF
          rw [prove_no hT hf'] at HD
          clear hf hf' hT
          go_enter Try.func14, Try.ntmps14
          go_wp2_with fail
          refine (HL.out _).mono ?_; rintro e w1 ⟨rfl, rfl⟩
          go_wp2_with fail
          refine (HL2.out _).mono ?_; rintro e w1 ⟨rfl, rfl⟩
          go_wp2_with fail
          refine HD.out.mono ?_; rintro e w1 ⟨rfl, hb1⟩
          have hbA := hb1.alloc hb1.size (.cells #[.int .i64 N, .int .i64 D] 44)
          go_wp2_with fail
          refine (HF.out _ (hI.below hbA) (h2.below hbA)).mono ?_; rintro e w2 ⟨rfl, hb2⟩
          have hbz := hbA.trans (hb2.mono hbA.size)
          clear hb1 hb2 hbA HL HL2 HD HF
          have g2 := h2.below hbz
          go_wp2_with fail
          go_loopw [12, 13] (fun v12 v13 w' => ∃ i n : Nat, i ≤ ms.length ∧ v13 = .int .i64 i ∧ v12 = .bool (noB ms i) ∧ w' = w2.drewN n) (fun _ v13 _ => ms.length - (intOf v13).toNat)
          case atStart => exact ⟨0, 0, by omega, rfl, rfl, rfl⟩
          case round =>
            obtain ⟨i, n, hi, rfl, rfl, rfl⟩ := hrel
            by_cases hlt : i < ms.length
            · obtain ⟨b2, off2, rfl, hbl2, d1⟩ := g2 i hlt
              have i1 : (0 : Int) ≤ (i : Int) := by omega
              have i2 : (i : Int) < (ms.length : Int) := by omega
              have hs : noB ms (i + 1) = (noB ms i || (nth ms i == 0)) := rfl
              have HS := hid hs
              clear hs
              by_cases hb : noB ms i = true
              · rw [hb] at HS ⊢
                go_wp2_with fail
                go_roundw
                case rel => exact ⟨i + 1, n, by omega, by go_num, by rw [HS.out]; rfl, rfl⟩
                case measure => simp [intOf]; omega
              · have hb' : noB ms i = false := by simpa using hb
                clear hb
                rw [hb'] at HS ⊢
                go_wp2_with fail
                go_roundw
                case rel => exact ⟨i + 1, n, by omega, by go_num, by rw [HS.out]; rfl, rfl⟩
                case measure => simp [intOf]; omega
            · obtain rfl : i = ms.length := by omega
              skip
              go_wp2_with fail
              refine (known_true _).mono ?_; rintro e w' ⟨rfl, hb⟩
              go_wp2_with fail
              go_ret
              exact ⟨rfl, hbz.trans ((undrewN3 hb).mono hbz.size)⟩
      · rw [havE_no hT] at HD HF
        clear hT h60 h61
        generalize dvrB xs ms kd = B at *
        generalize faiB xs ms kd = F at *
        go_enter Try.func14, Try.ntmps14
        go_wp2_with fail
        refine (HL.out _).mono ?_; rintro e w1 ⟨rfl, rfl⟩
        go_wp2_with fail
        refine (HL2.out _).mono ?_; rintro e w1 ⟨rfl, rfl⟩
        go_wp2_with fail
        refine HD.out.mono ?_; rintro e w1 ⟨rfl, hb1⟩
        have hbA := hb1.alloc hb1.size (.cells #[.int .i64 N, .int .i64 D] 44)
        go_wp2_with fail
        refine (HF.out _ (hI.below hbA) (h2.below hbA)).mono ?_; rintro e w2 ⟨rfl, hb2⟩
        have hbz := hbA.trans (hb2.mono hbA.size)
        clear hb1 hb2 hbA HL HL2 HD HF
        go_wp2_with fail
        refine (known_true _).mono ?_; rintro e w' ⟨rfl, hb⟩
        go_wp2_with fail
        go_ret
        exact ⟨rfl, hbz.trans (hb.mono hbz.size)⟩
end Go.Proofs.Ythankdfjkmfokaa
