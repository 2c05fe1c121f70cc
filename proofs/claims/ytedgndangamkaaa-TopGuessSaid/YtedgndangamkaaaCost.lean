/- 'cost', 'examine', 'quantity', 'Quantity' and what the document's answer has beside them: what they return. -/
import Derived.Test.YtedgndangamkaaaBase
import Derived.Test.YtedgndangamkaaaBound
namespace Go.Proofs.Ytedgndangamkaaa
open Go.RowKit

def cF (xs : List Int) (o u q : Int) (d : Nat) : Int := if (d : Int) < q then nth xs d * (o * (q - d)) else nth xs d * (u * (d - q))
def costOf (xs : List Int) (o u q : Int) : Int := sumTo (cF xs o u q) xs.length
structure CostIn (xs : List Int) (o u : Int) : Prop where
  len : xs.length ≤ 101
  el : ∀ d, d < xs.length → 0 ≤ nth xs d ∧ nth xs d ≤ 10000
  o0 : 0 ≤ o
  o1 : o ≤ 1000
  u0 : 0 ≤ u
  u1 : u ≤ 1000

theorem cF_bd {xs : List Int} {o u q : Int} (hc : CostIn xs o u) (q0 : 0 ≤ q) (q1 : q ≤ 101) (d : Nat) (hd : d < xs.length) : 0 ≤ cF xs o u q d ∧ cF xs o u q d ≤ 1010000000 := by
  have hl := hc.len
  have he := hc.el d hd
  unfold cF
  split
  · have h1 := mul_bd hc.o0 hc.o1 (show 0 ≤ q - d by omega) (show q - d ≤ 101 by omega)
    have h2 := mul_bd he.1 he.2 h1.1 h1.2
    omega
  · have h1 := mul_bd hc.u0 hc.u1 (show 0 ≤ d - q by omega) (show d - q ≤ 101 by omega)
    have h2 := mul_bd he.1 he.2 h1.1 h1.2
    omega
theorem cost_bd {xs : List Int} {o u q : Int} (hc : CostIn xs o u) (q0 : 0 ≤ q) (q1 : q ≤ 101) (k : Nat) (hk : k ≤ xs.length) : 0 ≤ sumTo (cF xs o u q) k ∧ sumTo (cF xs o u q) k ≤ 102010000000 := by
  have h := sumTo_bd (cF xs o u q) 1010000000 k fun d hd => cF_bd hc q0 q1 d (by omega)
  have hl := hc.len
  omega
theorem cost_lo {xs : List Int} {o u q : Int} (hc : CostIn xs o u) (q0 : 0 ≤ q) (q1 : q ≤ 101) (k : Nat) (hk : k < xs.length) (h : (k : Int) < q) :
    wrap64 (sumTo (cF xs o u q) k + wrap64 (nth xs k * wrap64 (wrap64 (o * (q - k))))) = sumTo (cF xs o u q) (k + 1) := by
  have hs := cost_bd hc q0 q1 k (by omega)
  have hf := cF_bd hc q0 q1 k hk
  have he := hc.el k hk
  have h1 := mul_bd hc.o0 hc.o1 (show 0 ≤ q - k by omega) (show q - k ≤ 101 by omega)
  simp only [sumTo]
  have e : cF xs o u q k = nth xs k * (o * (q - k)) := by simp [cF, h]
  rw [e] at hf ⊢
  generalize o * (q - k) = y at *
  rw [w64 (x := y) (by omega) (by omega), w64 (x := y) (by omega) (by omega), w64 (x := nth xs k * y) (by omega) (by omega)]
  exact w64 (by omega) (by omega)
theorem cost_hi {xs : List Int} {o u q : Int} (hc : CostIn xs o u) (q0 : 0 ≤ q) (q1 : q ≤ 101) (k : Nat) (hk : k < xs.length) (h : ¬ (k : Int) < q) :
    wrap64 (sumTo (cF xs o u q) k + wrap64 (nth xs k * wrap64 (wrap64 (u * if q < k then (k : Int) - q else 0)))) = sumTo (cF xs o u q) (k + 1) := by
  have hl := hc.len
  have hs := cost_bd hc q0 q1 k (by omega)
  have hf := cF_bd hc q0 q1 k hk
  have he := hc.el k hk
  have h1 := mul_bd hc.u0 hc.u1 (show 0 ≤ k - q by omega) (show k - q ≤ 101 by omega)
  simp only [sumTo]
  have e : cF xs o u q k = nth xs k * (u * (k - q)) := by simp [cF, h]
  have e2 : (if q < k then (k : Int) - q else 0) = k - q := by split <;> omega
  rw [e] at hf ⊢
  rw [e2]
  generalize u * (k - q) = y at *
  rw [w64 (x := y) (by omega) (by omega), w64 (x := y) (by omega) (by omega), w64 (x := nth xs k * y) (by omega) (by omega)]
  exact w64 (by omega) (by omega)

theorem cost_in (xs : List Int) (a : Option Addr) (cap : Nat) (o u q : Int) (w : World) (h : IntsAt w a xs) (hc : CostIn xs o u) (q0 : 0 ≤ q) (q1 : q ≤ 101) :
    Calls Try.prog 59 #[.slice a xs.length cap, .int .i64 o, .int .i64 u, .int .i64 q] w fun e w' => e = .returned (.int .i64 (costOf xs o u q)) ∧ w = w' := by
  have hl := hc.len
  go_enter Try.func59, Try.ntmps59
  go_wp2
  go_loop [9, 14] (fun v9 v14 => ∃ k : Nat, k ≤ xs.length ∧ v9 = .int .i64 (sumTo (cF xs o u q) k) ∧ v14 = .int .i64 k) (fun _ v14 => xs.length - (intOf v14).toNat)
  case atStart => exact ⟨0, by omega, rfl, rfl⟩
  case round =>
    obtain ⟨k, hk, rfl, rfl⟩ := hrel
    by_cases hlt : k < xs.length
    · obtain ⟨b, off, rfl, _, hcell⟩ := h k hlt
      by_cases hdq : (k : Int) < q
      · go_wp2
        go_round
        case rel => exact ⟨k + 1, by omega, by rw [cost_lo hc q0 q1 k hlt hdq], by go_num⟩
        case measure => simp [intOf]; omega
      · go_wp2
        go_round
        case rel => exact ⟨k + 1, by omega, by rw [cost_hi hc q0 q1 k hlt hdq], by go_num⟩
        case measure => simp [intOf]; omega
    · obtain rfl : k = xs.length := by omega
      go_wp2
      go_ret
      exact ⟨rfl, rfl⟩

theorem rcost_lo {xs : List Int} {o u q : Int} (hc : CostIn xs o u) (q0 : 0 ≤ q) (q1 : q ≤ 101) (k : Nat) (hk : k < xs.length) (h : (k : Int) < q) :
    wrap64 (sumTo (cF xs o u q) k + wrap64 (wrap64 (nth xs k * o) * (q - k))) = sumTo (cF xs o u q) (k + 1) := by
  have hs := cost_bd hc q0 q1 k (by omega)
  have hf := cF_bd hc q0 q1 k hk
  have he := hc.el k hk
  have h1 := mul_bd he.1 he.2 hc.o0 hc.o1
  simp only [sumTo]
  have e : cF xs o u q k = nth xs k * o * (q - k) := by simp [cF, h, Int.mul_assoc]
  rw [e] at hf ⊢
  rw [w64 (x := nth xs k * o) (by omega) (by omega), w64 (x := nth xs k * o * (q - k)) (by omega) (by omega)]
  exact w64 (by omega) (by omega)
theorem rcost_hi {xs : List Int} {o u q : Int} (hc : CostIn xs o u) (q0 : 0 ≤ q) (q1 : q ≤ 101) (k : Nat) (hk : k < xs.length) (h : ¬ (k : Int) < q) :
    wrap64 (sumTo (cF xs o u q) k + wrap64 (wrap64 (nth xs k * u) * (k - q))) = sumTo (cF xs o u q) (k + 1) := by
  have hs := cost_bd hc q0 q1 k (by omega)
  have hf := cF_bd hc q0 q1 k hk
  have he := hc.el k hk
  have h1 := mul_bd he.1 he.2 hc.u0 hc.u1
  simp only [sumTo]
  have e : cF xs o u q k = nth xs k * u * (k - q) := by simp [cF, h, Int.mul_assoc]
  rw [e] at hf ⊢
  rw [w64 (x := nth xs k * u) (by omega) (by omega), w64 (x := nth xs k * u * (k - q)) (by omega) (by omega)]
  exact w64 (by omega) (by omega)
theorem rcost_in (xs : List Int) (a : Option Addr) (cap : Nat) (o u q : Int) (w : World) (h : IntsAt w a xs) (hc : CostIn xs o u) (q0 : 0 ≤ q) (q1 : q ≤ 101) :
    Calls Try.prog 61 #[.slice a xs.length cap, .int .i64 o, .int .i64 u, .int .i64 q] w fun e w' => e = .returned (.int .i64 (costOf xs o u q)) ∧ w = w' := by
  have hl := hc.len
  go_enter Try.func61, Try.ntmps61
  go_wp2
  go_loop [9, 10] (fun v9 v10 => ∃ k : Nat, k ≤ xs.length ∧ v9 = .int .i64 (sumTo (cF xs o u q) k) ∧ v10 = .int .i64 k) (fun _ v10 => xs.length - (intOf v10).toNat)
  case atStart => exact ⟨0, by omega, rfl, rfl⟩
  case round =>
    obtain ⟨k, hk, rfl, rfl⟩ := hrel
    by_cases hlt : k < xs.length
    · obtain ⟨b, off, rfl, _, hcell⟩ := h k hlt
      by_cases hdq : (k : Int) < q
      · go_wp2
        go_round
        case rel => exact ⟨k + 1, by omega, by rw [rcost_lo hc q0 q1 k hlt hdq], by go_num⟩
        case measure => simp [intOf]; omega
      · go_wp2
        go_round
        case rel => exact ⟨k + 1, by omega, by rw [rcost_hi hc q0 q1 k hlt hdq], by go_num⟩
        case measure => simp [intOf]; omega
    · obtain rfl : k = xs.length := by omega
      go_wp2
      go_ret
      exact ⟨rfl, rfl⟩
end Go.Proofs.Ytedgndangamkaaa
