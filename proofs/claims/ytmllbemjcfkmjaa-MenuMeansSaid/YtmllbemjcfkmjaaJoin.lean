/- What 'joined' hands to the plain form: the steps and answers of two machines side by side. -/
import Derived.Test.YtmllbemjcfkmjaaRankLaw
import Derived.Test.YtmllbemjcfkmjaaPair
import Derived.Test.YtmllbemjcfkmjaaQuietB
namespace Go.Proofs.Ytmllbemjcfkmjaa
open Go.RowKit
set_option linter.unusedSimpArgs false
set_option linter.unusedVariables false

def jnS (m k : Mac) (s : Int) (c : Nat) : Int := stepM m (s / k.nx.length) c * k.nx.length + stepM k (s % k.nx.length) c
def jnA (f : Bool → Bool → Bool) (m k : Mac) (s : Int) : Bool := f (accM m (s / k.nx.length)) (accM k (s % k.nx.length))
theorem jn_parts {m k : Mac} (hm : MacOK m) (hk : MacOK k) {s : Int} (h0 : 0 ≤ s) (h1 : s < m.nx.length * k.nx.length) : (0 ≤ s / k.nx.length ∧ s / k.nx.length < m.nx.length) ∧ 0 ≤ s % k.nx.length ∧ s % k.nx.length < k.nx.length := by
  have hn := hk.n1
  have hp : (0 : Int) < (k.nx.length : Int) := by omega
  exact ⟨⟨Int.ediv_nonneg h0 (by omega), Int.ediv_lt_of_lt_mul hp h1⟩, Int.emod_nonneg _ (by omega), Int.emod_lt_of_pos _ hp⟩
theorem jn_bound {x y N K : Int} (hx0 : 0 ≤ x) (hx : x < N) (hy0 : 0 ≤ y) (hy : y < K) (hN : N ≤ 64) (hK : K ≤ 64) : 0 ≤ x * K + y ∧ x * K + y < N * K ∧ 0 ≤ x * K ∧ x * K ≤ 4096 := by
  have h1 := Int.mul_nonneg hx0 (show 0 ≤ K by omega)
  have h2 : (x + 1) * K ≤ N * K := Int.mul_le_mul_of_nonneg_right (by omega) (by omega)
  have h3 : (x + 1) * K = x * K + K := by rw [Int.add_mul]; omega
  have h4 : x * K ≤ 64 * 64 := Int.le_trans (Int.mul_le_mul_of_nonneg_right (show x ≤ 64 by omega) (by omega)) (Int.mul_le_mul_of_nonneg_left hK (by omega))
  omega
theorem jn_auto {m k : Mac} (hm : MacOK m) (hk : MacOK k) (hL : m.L = k.L) : AutoOK m.L.toNat (jnS m k) 0 (m.nx.length * k.nx.length) := by
  have h1 := hm.l1
  have h6 := hm.l6
  have n1 := hm.n1
  have k1 := hk.n1
  have n64 := hm.n64
  have k64 := hk.n64
  have hp : (m.nx.length : Int) * k.nx.length ≤ 64 * 64 := Int.le_trans (Int.mul_le_mul_of_nonneg_right (show (m.nx.length : Int) ≤ 64 by omega) (by omega)) (Int.mul_le_mul_of_nonneg_left (show (k.nx.length : Int) ≤ 64 by omega) (by omega))
  have hpos : (0 : Int) < m.nx.length * k.nx.length := Int.mul_pos (by omega) (by omega)
  refine ⟨by omega, by omega, by omega, hpos, by omega, by omega, fun s h0 h2 c hc => ?_⟩
  obtain ⟨⟨x0, x1⟩, y0, y1⟩ := jn_parts hm hk h0 h2
  have e1 := step_in hm x0 x1 (a := (c : Int)) (by omega) (by omega)
  have e2 := step_in hk y0 y1 (a := (c : Int)) (by omega) (by omega)
  rw [Int.toNat_natCast] at e1 e2
  have := jn_bound e1.1 e1.2 e2.1 e2.2 (by omega) (by omega)
  exact ⟨this.1, this.2.1⟩
set_option maxRecDepth 100000 in
theorem jn_step (m k : Mac) (a a2 : Option Addr) (cap cap2 : Nat) (b b2 : Option Addr) (dap dap2 : Nat) (w : World) (hM : MacAt w a cap a2 cap2 m) (hK : MacAt w b dap b2 dap2 k) (hm : MacOK m) (hk : MacOK k) (hL : m.L = k.L)
    (HA HN HB : Nat) (x1 : w.cell? ⟨HA, 1, none⟩ = some (.slice a m.nx.length cap)) (xn : w.cell? ⟨HN, 0, none⟩ = some (.int .i64 k.nx.length)) (y1 : w.cell? ⟨HB, 1, none⟩ = some (.slice b k.nx.length dap))
    (s : Int) (h0 : 0 ≤ s) (h1 : s < m.nx.length * k.nx.length) (c : Nat) (hc : c < m.L.toNat) :
    Calls Try.prog 109 #[.int .i64 s, .int .i64 c, .pointer (some ⟨HA, 0, none⟩), .pointer (some ⟨HN, 0, none⟩), .pointer (some ⟨HB, 0, none⟩)] w fun e w' => e = .returned (.int .i64 (jnS m k s c)) ∧ Below w.heap.size w w' := by
  obtain ⟨⟨p0, p1⟩, q0, q1⟩ := jn_parts hm hk h0 h1
  have n64 := hm.n64
  have k64 := hk.n64
  have k1 := hk.n1
  have et : s.tdiv (k.nx.length : Int) = s / (k.nx.length : Int) := Int.tdiv_eq_ediv_of_nonneg h0
  have em : s.tmod (k.nx.length : Int) = s % (k.nx.length : Int) := Int.tmod_eq_emod_of_nonneg h0
  have R : Hid (jnS m k s c = stepM m (s / k.nx.length) c * k.nx.length + stepM k (s % k.nx.length) c) := hid rfl
  have e1 := step_in hm p0 p1 (a := (c : Int)) (by omega) (by omega)
  have e2 := step_in hk q0 q1 (a := (c : Int)) (by omega) (by omega)
  rw [Int.toNat_natCast] at e1 e2
  have hbd := jn_bound e1.1 e1.2 e2.1 e2.2 (by omega) (by omega)
  have hsb : s ≤ 4096 := by
    have hp : (m.nx.length : Int) * k.nx.length ≤ 64 * 64 := Int.le_trans (Int.mul_le_mul_of_nonneg_right (show (m.nx.length : Int) ≤ 64 by omega) (by omega)) (Int.mul_le_mul_of_nonneg_left (show (k.nx.length : Int) ≤ 64 by omega) (by omega))
    omega
  obtain ⟨xn', hxn⟩ : ∃ x : Nat, s / (k.nx.length : Int) = (x : Int) := ⟨(s / (k.nx.length : Int)).toNat, by omega⟩
  obtain ⟨yn', hyn⟩ : ∃ y : Nat, s % (k.nx.length : Int) = (y : Int) := ⟨(s % (k.nx.length : Int)).toNat, by omega⟩
  rw [hxn] at p0 p1 e1 hbd R et
  rw [hyn] at q0 q1 e2 hbd R em
  have hxl : xn' < m.nx.length := by omega
  have hyl : yn' < k.nx.length := by omega
  obtain ⟨b1, o1, rfl, hb1, ra, rc, hc1, r1, r2, hIA⟩ := hM.nx xn' hxl
  obtain ⟨d1, u1, rfl, hd1, rb, rd, hc2, r3, r4, hIB⟩ := hK.nx yn' hyl
  have hla := hm.len xn' hxl
  have hlb := hk.len yn' hyl
  obtain ⟨bs, os, rfl, hbs, ca⟩ := hIA c (by omega)
  obtain ⟨ds, us, rfl, hds, cb⟩ := hIB c (by omega)
  have f1 : stepM m (xn' : Int) c = nth (rowOf m xn') c := rfl
  have f2 : stepM k (yn' : Int) c = nth (rowOf k yn') c := rfl
  rw [f1] at e1 hbd R
  rw [f2] at e2 hbd R
  have i1 : (0 : Int) ≤ (c : Int) := by omega
  have i2 : (c : Int) < ((rowOf m xn').length : Int) := by omega
  have i3 : (c : Int) < ((rowOf k yn').length : Int) := by omega
  have i4 : ((k.nx.length : Int) == 0) = false := beq_eq_false_iff_ne.2 (by omega)
  have i5 : (1 : Int) ≤ (k.nx.length : Int) := by omega
  generalize nth (rowOf m xn') c = tv at *
  generalize nth (rowOf k yn') c = uv at *
  have w1 : IntKind.i64.wrap (tv * (k.nx.length : Int)) = tv * (k.nx.length : Int) := IntWalk.i64_in _ (by omega)
  have w2 : IntKind.i64.wrap (tv * (k.nx.length : Int) + uv) = tv * (k.nx.length : Int) + uv := IntWalk.i64_in _ (by omega)
  clear hIA hIB hla hlb f1 f2 hxn hyn hM hK hm hk hL h1 hc
  go_enter Try.func109, Try.ntmps109
  go_wp2_with fail
  go_quiet (fail)
  go_wp2_with fail
  go_ret
  exact ⟨by rw [R.out]; rfl, below_quiet (Below.refl _ _)⟩
/-! ### answers -/
def wAnd (x y : Bool) : Bool := x && y
def wOr (x y : Bool) : Bool := x || y
def wNot (x y : Bool) : Bool := !x
theorem want79 (x y : Bool) (w : World) : Calls Try.prog 79 #[.bool x, .bool y] w fun e w' => e = .returned (.bool (wAnd x y)) ∧ w = w' := by
  cases x
  all_goals
    cases y
    all_goals
      go_enter Try.func79, Try.ntmps79
      go_wp2_with fail
      go_ret
      exact ⟨rfl, rfl⟩
theorem want81 (x y : Bool) (w : World) : Calls Try.prog 81 #[.bool x, .bool y] w fun e w' => e = .returned (.bool (wOr x y)) ∧ w = w' := by
  cases x
  all_goals
    cases y
    all_goals
      go_enter Try.func81, Try.ntmps81
      go_wp2_with fail
      go_ret
      exact ⟨rfl, rfl⟩
theorem want92 (x y : Bool) (w : World) : Calls Try.prog 92 #[.bool x, .bool y] w fun e w' => e = .returned (.bool (wNot x y)) ∧ w = w' := by
  cases x
  all_goals
    cases y
    all_goals
      go_enter Try.func92, Try.ntmps92
      go_wp2_with fail
      go_ret
      exact ⟨rfl, rfl⟩
set_option maxRecDepth 100000 in
theorem jn_acc79 (m k : Mac) (a a2 : Option Addr) (cap cap2 : Nat) (b b2 : Option Addr) (dap dap2 : Nat) (w : World) (hM : MacAt w a cap a2 cap2 m) (hK : MacAt w b dap b2 dap2 k) (hm : MacOK m) (hk : MacOK k)
    (HF HA HN HB : Nat) (x0 : w.cell? ⟨HF, 0, none⟩ = some (.func (.func 79) #[] #[])) (x1 : w.cell? ⟨HA, 2, none⟩ = some (.slice a2 m.ac.length cap2)) (xn : w.cell? ⟨HN, 0, none⟩ = some (.int .i64 k.nx.length)) (y1 : w.cell? ⟨HB, 2, none⟩ = some (.slice b2 k.ac.length dap2))
    (s : Int) (h0 : 0 ≤ s) (h1 : s < m.nx.length * k.nx.length) :
    Calls Try.prog 110 #[.int .i64 s, .pointer (some ⟨HF, 0, none⟩), .pointer (some ⟨HA, 0, none⟩), .pointer (some ⟨HN, 0, none⟩), .pointer (some ⟨HB, 0, none⟩)] w fun e w' => e = .returned (.bool (jnA wAnd m k s)) ∧ Below w.heap.size w w' := by
  obtain ⟨⟨p0, p1⟩, q0, q1⟩ := jn_parts hm hk h0 h1
  have n64 := hm.n64
  have k64 := hk.n64
  have k1 := hk.n1
  have et : s.tdiv (k.nx.length : Int) = s / (k.nx.length : Int) := Int.tdiv_eq_ediv_of_nonneg h0
  have em : s.tmod (k.nx.length : Int) = s % (k.nx.length : Int) := Int.tmod_eq_emod_of_nonneg h0
  have R : Hid (jnA wAnd m k s = wAnd (accM m (s / k.nx.length)) (accM k (s % k.nx.length))) := hid rfl
  have hsb : s ≤ 4096 := by
    have hp : (m.nx.length : Int) * k.nx.length ≤ 64 * 64 := Int.le_trans (Int.mul_le_mul_of_nonneg_right (show (m.nx.length : Int) ≤ 64 by omega) (by omega)) (Int.mul_le_mul_of_nonneg_left (show (k.nx.length : Int) ≤ 64 by omega) (by omega))
    omega
  obtain ⟨xn', hxn⟩ : ∃ x : Nat, s / (k.nx.length : Int) = (x : Int) := ⟨(s / (k.nx.length : Int)).toNat, by omega⟩
  obtain ⟨yn', hyn⟩ : ∃ y : Nat, s % (k.nx.length : Int) = (y : Int) := ⟨(s % (k.nx.length : Int)).toNat, by omega⟩
  rw [hxn] at p0 p1 R et
  rw [hyn] at q0 q1 R em
  have hxl : xn' < m.ac.length := by have := hm.ac; omega
  have hyl : yn' < k.ac.length := by have := hk.ac; omega
  obtain ⟨b1, o1, rfl, hb1, ca⟩ := hM.ac xn' hxl
  obtain ⟨d1, u1, rfl, hd1, cb⟩ := hK.ac yn' hyl
  have f1 : accM m (xn' : Int) = m.ac.getD xn' false := rfl
  have f2 : accM k (yn' : Int) = k.ac.getD yn' false := rfl
  rw [f1, f2] at R
  have i1 : (xn' : Int) < (m.ac.length : Int) := by omega
  have i2 : (yn' : Int) < (k.ac.length : Int) := by omega
  have i4 : ((k.nx.length : Int) == 0) = false := beq_eq_false_iff_ne.2 (by omega)
  have i5 : (1 : Int) ≤ (k.nx.length : Int) := by omega
  generalize m.ac.getD xn' false = tv at *
  generalize k.ac.getD yn' false = uv at *
  clear f1 f2 hxn hyn hM hK hm hk h1
  go_enter Try.func110, Try.ntmps110
  go_wp2_with fail
  go_quiet ((go_at_call 79; exact quiet_eq (want79 _ _ _)))
  go_wp2_with fail
  go_ret
  exact ⟨by rw [R.out]; rfl, below_quiet (Below.refl _ _)⟩
set_option maxRecDepth 100000 in
theorem jn_acc81 (m k : Mac) (a a2 : Option Addr) (cap cap2 : Nat) (b b2 : Option Addr) (dap dap2 : Nat) (w : World) (hM : MacAt w a cap a2 cap2 m) (hK : MacAt w b dap b2 dap2 k) (hm : MacOK m) (hk : MacOK k)
    (HF HA HN HB : Nat) (x0 : w.cell? ⟨HF, 0, none⟩ = some (.func (.func 81) #[] #[])) (x1 : w.cell? ⟨HA, 2, none⟩ = some (.slice a2 m.ac.length cap2)) (xn : w.cell? ⟨HN, 0, none⟩ = some (.int .i64 k.nx.length)) (y1 : w.cell? ⟨HB, 2, none⟩ = some (.slice b2 k.ac.length dap2))
    (s : Int) (h0 : 0 ≤ s) (h1 : s < m.nx.length * k.nx.length) :
    Calls Try.prog 110 #[.int .i64 s, .pointer (some ⟨HF, 0, none⟩), .pointer (some ⟨HA, 0, none⟩), .pointer (some ⟨HN, 0, none⟩), .pointer (some ⟨HB, 0, none⟩)] w fun e w' => e = .returned (.bool (jnA wOr m k s)) ∧ Below w.heap.size w w' := by
  obtain ⟨⟨p0, p1⟩, q0, q1⟩ := jn_parts hm hk h0 h1
  have n64 := hm.n64
  have k64 := hk.n64
  have k1 := hk.n1
  have et : s.tdiv (k.nx.length : Int) = s / (k.nx.length : Int) := Int.tdiv_eq_ediv_of_nonneg h0
  have em : s.tmod (k.nx.length : Int) = s % (k.nx.length : Int) := Int.tmod_eq_emod_of_nonneg h0
  have R : Hid (jnA wOr m k s = wOr (accM m (s / k.nx.length)) (accM k (s % k.nx.length))) := hid rfl
  have hsb : s ≤ 4096 := by
    have hp : (m.nx.length : Int) * k.nx.length ≤ 64 * 64 := Int.le_trans (Int.mul_le_mul_of_nonneg_right (show (m.nx.length : Int) ≤ 64 by omega) (by omega)) (Int.mul_le_mul_of_nonneg_left (show (k.nx.length : Int) ≤ 64 by omega) (by omega))
    omega
  obtain ⟨xn', hxn⟩ : ∃ x : Nat, s / (k.nx.length : Int) = (x : Int) := ⟨(s / (k.nx.length : Int)).toNat, by omega⟩
  obtain ⟨yn', hyn⟩ : ∃ y : Nat, s % (k.nx.length : Int) = (y : Int) := ⟨(s % (k.nx.length : Int)).toNat, by omega⟩
  rw [hxn] at p0 p1 R et
  rw [hyn] at q0 q1 R em
  have hxl : xn' < m.ac.length := by have := hm.ac; omega
  have hyl : yn' < k.ac.length := by have := hk.ac; omega
  obtain ⟨b1, o1, rfl, hb1, ca⟩ := hM.ac xn' hxl
  obtain ⟨d1, u1, rfl, hd1, cb⟩ := hK.ac yn' hyl
  have f1 : accM m (xn' : Int) = m.ac.getD xn' false := rfl
  have f2 : accM k (yn' : Int) = k.ac.getD yn' false := rfl
  rw [f1, f2] at R
  have i1 : (xn' : Int) < (m.ac.length : Int) := by omega
  have i2 : (yn' : Int) < (k.ac.length : Int) := by omega
  have i4 : ((k.nx.length : Int) == 0) = false := beq_eq_false_iff_ne.2 (by omega)
  have i5 : (1 : Int) ≤ (k.nx.length : Int) := by omega
  generalize m.ac.getD xn' false = tv at *
  generalize k.ac.getD yn' false = uv at *
  clear f1 f2 hxn hyn hM hK hm hk h1
  go_enter Try.func110, Try.ntmps110
  go_wp2_with fail
  go_quiet ((go_at_call 81; exact quiet_eq (want81 _ _ _)))
  go_wp2_with fail
  go_ret
  exact ⟨by rw [R.out]; rfl, below_quiet (Below.refl _ _)⟩
set_option maxRecDepth 100000 in
theorem jn_acc92 (m k : Mac) (a a2 : Option Addr) (cap cap2 : Nat) (b b2 : Option Addr) (dap dap2 : Nat) (w : World) (hM : MacAt w a cap a2 cap2 m) (hK : MacAt w b dap b2 dap2 k) (hm : MacOK m) (hk : MacOK k)
    (HF HA HN HB : Nat) (x0 : w.cell? ⟨HF, 0, none⟩ = some (.func (.func 92) #[] #[])) (x1 : w.cell? ⟨HA, 2, none⟩ = some (.slice a2 m.ac.length cap2)) (xn : w.cell? ⟨HN, 0, none⟩ = some (.int .i64 k.nx.length)) (y1 : w.cell? ⟨HB, 2, none⟩ = some (.slice b2 k.ac.length dap2))
    (s : Int) (h0 : 0 ≤ s) (h1 : s < m.nx.length * k.nx.length) :
    Calls Try.prog 110 #[.int .i64 s, .pointer (some ⟨HF, 0, none⟩), .pointer (some ⟨HA, 0, none⟩), .pointer (some ⟨HN, 0, none⟩), .pointer (some ⟨HB, 0, none⟩)] w fun e w' => e = .returned (.bool (jnA wNot m k s)) ∧ Below w.heap.size w w' := by
  obtain ⟨⟨p0, p1⟩, q0, q1⟩ := jn_parts hm hk h0 h1
  have n64 := hm.n64
  have k64 := hk.n64
  have k1 := hk.n1
  have et : s.tdiv (k.nx.length : Int) = s / (k.nx.length : Int) := Int.tdiv_eq_ediv_of_nonneg h0
  have em : s.tmod (k.nx.length : Int) = s % (k.nx.length : Int) := Int.tmod_eq_emod_of_nonneg h0
  have R : Hid (jnA wNot m k s = wNot (accM m (s / k.nx.length)) (accM k (s % k.nx.length))) := hid rfl
  have hsb : s ≤ 4096 := by
    have hp : (m.nx.length : Int) * k.nx.length ≤ 64 * 64 := Int.le_trans (Int.mul_le_mul_of_nonneg_right (show (m.nx.length : Int) ≤ 64 by omega) (by omega)) (Int.mul_le_mul_of_nonneg_left (show (k.nx.length : Int) ≤ 64 by omega) (by omega))
    omega
  obtain ⟨xn', hxn⟩ : ∃ x : Nat, s / (k.nx.length : Int) = (x : Int) := ⟨(s / (k.nx.length : Int)).toNat, by omega⟩
  obtain ⟨yn', hyn⟩ : ∃ y : Nat, s % (k.nx.length : Int) = (y : Int) := ⟨(s % (k.nx.length : Int)).toNat, by omega⟩
  rw [hxn] at p0 p1 R et
  rw [hyn] at q0 q1 R em
  have hxl : xn' < m.ac.length := by have := hm.ac; omega
  have hyl : yn' < k.ac.length := by have := hk.ac; omega
  obtain ⟨b1, o1, rfl, hb1, ca⟩ := hM.ac xn' hxl
  obtain ⟨d1, u1, rfl, hd1, cb⟩ := hK.ac yn' hyl
  have f1 : accM m (xn' : Int) = m.ac.getD xn' false := rfl
  have f2 : accM k (yn' : Int) = k.ac.getD yn' false := rfl
  rw [f1, f2] at R
  have i1 : (xn' : Int) < (m.ac.length : Int) := by omega
  have i2 : (yn' : Int) < (k.ac.length : Int) := by omega
  have i4 : ((k.nx.length : Int) == 0) = false := beq_eq_false_iff_ne.2 (by omega)
  have i5 : (1 : Int) ≤ (k.nx.length : Int) := by omega
  generalize m.ac.getD xn' false = tv at *
  generalize k.ac.getD yn' false = uv at *
  clear f1 f2 hxn hyn hM hK hm hk h1
  go_enter Try.func110, Try.ntmps110
  go_wp2_with fail
  go_quiet ((go_at_call 92; exact quiet_eq (want92 _ _ _)))
  go_wp2_with fail
  go_ret
  exact ⟨by rw [R.out]; rfl, below_quiet (Below.refl _ _)⟩
end Go.Proofs.Ytmllbemjcfkmjaa
