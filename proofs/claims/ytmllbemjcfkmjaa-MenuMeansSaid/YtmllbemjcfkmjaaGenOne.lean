/- Texts of the menu seat in one: Pair, Join, FormLaw, Joined, Both, GenOne. -/
import Derived.Test.YtmllbemjcfkmjaaRank
import Derived.Test.YtmllbemjcfkmjaaPlainOut
import Derived.Test.YtmllbemjcfkmjaaRound
import Derived.Test.YtmllbemjcfkmjaaPlainW
import Derived.Test.YtmllbemjcfkmjaaKnown
/- The error of two machines: what it is. -/
namespace Go.Proofs.Ytmllbemjcfkmjaa
open Go.RowKit
set_option linter.unusedSimpArgs false
set_option linter.unusedVariables false

noncomputable def paiE (m k : Mac) : Int := if valE m = 0 then (if valE k = 0 then (if m.L = k.L then 0 else 1) else valE k) else valE m
theorem pai_1 {m k : Mac} (h : valE m ≠ 0) : paiE m k = valE m := by unfold paiE; rw [if_neg h]
theorem pai_2 {m k : Mac} (h : valE m = 0) (h2 : valE k ≠ 0) : paiE m k = valE k := by unfold paiE; rw [if_pos h, if_neg h2]
theorem pai_3 {m k : Mac} (h : valE m = 0) (h2 : valE k = 0) (h3 : m.L ≠ k.L) : paiE m k = 1 := by unfold paiE; rw [if_pos h, if_pos h2, if_neg h3]
theorem pai_0 {m k : Mac} (h : valE m = 0) (h2 : valE k = 0) (h3 : m.L = k.L) : paiE m k = 0 := by unfold paiE; rw [if_pos h, if_pos h2, if_pos h3]
theorem paiE_zero {m k : Mac} : paiE m k = 0 ↔ MacOK m ∧ MacOK k ∧ m.L = k.L := by
  by_cases h : valE m = 0
  · by_cases h2 : valE k = 0
    · by_cases h3 : m.L = k.L
      · rw [pai_0 h h2 h3]
        exact ⟨fun _ => ⟨valE_zero.1 h, valE_zero.1 h2, h3⟩, fun _ => rfl⟩
      · rw [pai_3 h h2 h3]
        exact ⟨(fun h => by cases h), fun h4 => absurd h4.2.2 h3⟩
    · rw [pai_2 h h2]
      exact ⟨fun h3 => absurd h3 h2, fun h3 => absurd (valE_ok h3.2.1) h2⟩
  · rw [pai_1 h]
    exact ⟨fun h3 => absurd h3 h, fun h3 => absurd (valE_ok h3.1) h⟩
def macB (m : Mac) (a a2 : Option Addr) (cap cap2 : Nat) : Obj := .cells #[.int .i64 m.L, .slice a m.nx.length cap, .slice a2 m.ac.length cap2] 25
/-- Two machines in boxes, one behind the other. -/
theorem box_two {W w : World} {o o' : Obj} {B : Nat} (h : Below B ((W.alloc o).alloc o') w) (hB : B = W.heap.size + 2) : Below (W.heap.size + 1) (W.alloc o) w := by
  subst hB
  have h0 : Below (W.heap.size + 1) (W.alloc o) ((W.alloc o).alloc o') := (Below.refl _ _).alloc (by simp) _
  exact h0.trans (h.mono (by omega))
theorem box_fst {W w : World} {x y z : Value} {t : TypeId} {o' : Obj} {B : Nat} (h : Below B ((W.alloc (.cells #[x, y, z] t)).alloc o') w) (hB : B = W.heap.size + 2) : BoxAt W.heap.size w x y z :=
  box_at (box_two h hB) rfl
theorem box_snd {W w : World} {x y z : Value} {t : TypeId} {o : Obj} {B : Nat} (h : Below B ((W.alloc o).alloc (.cells #[x, y, z] t)) w) (hB : B = W.heap.size + 2) : BoxAt (W.heap.size + 1) w x y z := by
  have hs : (W.alloc o).heap.size = W.heap.size + 1 := by simp
  have := box_at (W := W.alloc o) h (by rw [hB, hs])
  rw [hs] at this
  exact this

set_option maxRecDepth 100000 in
set_option maxHeartbeats 1000000 in
theorem pair_any (m k : Mac) (a a2 : Option Addr) (cap cap2 : Nat) (b b2 : Option Addr) (dap dap2 : Nat) (W : World) (hM : MacAt W a cap a2 cap2 m) (hK : MacAt W b dap b2 dap2 k) :
    Calls Try.prog 95 #[.agg #[.int .i64 m.L, .slice a m.nx.length cap, .slice a2 m.ac.length cap2], .agg #[.int .i64 k.L, .slice b k.nx.length dap, .slice b2 k.ac.length dap2]] W fun e w' => e = .returned (.int .i64 (paiE m k)) ∧ Below W.heap.size W w' := by
  have hb0 : Below W.heap.size W ((W.alloc (.cells #[.int .i64 m.L, .slice a m.nx.length cap, .slice a2 m.ac.length cap2] 25)).alloc (.cells #[.int .i64 k.L, .slice b k.nx.length dap, .slice b2 k.ac.length dap2] 25)) := (below_alloc W _).alloc (by simp) _
  have HM := hid (hM.below hb0)
  have HK := hid (hK.below hb0)
  have HB := hid hb0
  have Hv := hid (Validate_any m a a2 cap cap2 ((W.alloc (.cells #[.int .i64 m.L, .slice a m.nx.length cap, .slice a2 m.ac.length cap2] 25)).alloc (.cells #[.int .i64 k.L, .slice b k.nx.length dap, .slice b2 k.ac.length dap2] 25)) HM.out)
  clear hM hK hb0
  by_cases hv : valE m = 0
  · rw [hv] at Hv
    by_cases hk : valE k = 0
    · by_cases hL : m.L = k.L
      · have R := hid (pai_0 hv hk hL)
        have d1 : (m.L == k.L) = true := beq_iff_eq.2 hL
        have d2 : (m.L != k.L) = false := by rw [bne, d1]; rfl
        have Hk := hid hk
        clear hv hL hk
        go_enter Try.func95, Try.ntmps95
        go_wp2_with fail
        refine Hv.out.mono ?_; rintro e w1 ⟨rfl, hb1⟩
        have hX := box_fst hb1 (by simp)
        have hY := box_snd hb1 (by simp)
        have x0 := hX.c0
        have y0 := hY.c0
        have y1 := hY.c1
        have y2 := hY.c2
        have xl := hX.lt
        have yl := hY.lt
        have HB1 := hid (HB.out.trans (hb1.mono HB.out.size))
        have Hv2 := Validate_any k b b2 dap dap2 w1 (HK.out.below hb1)
        rw [Hk.out] at Hv2
        have Hv2 := hid Hv2
        clear hX hY hb1
        go_wp2_with fail
        refine Hv2.out.mono ?_; rintro e w2 ⟨rfl, hb2⟩
        have u0 := (hb2.cell (p := ⟨W.heap.size, 0, none⟩) xl).trans x0
        have v0 := (hb2.cell (p := ⟨W.heap.size + 1, 0, none⟩) yl).trans y0
        have ul : W.heap.size + 1 < w2.heap.size := by have := hb2.size; omega
        have hz := HB1.out.trans (hb2.mono HB1.out.size)
        clear hb2 x0 y0 y1 y2 xl yl
        go_wp2_with fail
        go_ret
        exact ⟨by rw [R.out]; rfl, hz⟩
      · have R := hid (pai_3 hv hk hL)
        have d1 : (m.L == k.L) = false := beq_eq_false_iff_ne.2 hL
        have d2 : (m.L != k.L) = true := by rw [bne, d1]; rfl
        have Hk := hid hk
        clear hv hL hk
        go_enter Try.func95, Try.ntmps95
        go_wp2_with fail
        refine Hv.out.mono ?_; rintro e w1 ⟨rfl, hb1⟩
        have hX := box_fst hb1 (by simp)
        have hY := box_snd hb1 (by simp)
        have x0 := hX.c0
        have y0 := hY.c0
        have y1 := hY.c1
        have y2 := hY.c2
        have xl := hX.lt
        have yl := hY.lt
        have HB1 := hid (HB.out.trans (hb1.mono HB.out.size))
        have Hv2 := Validate_any k b b2 dap dap2 w1 (HK.out.below hb1)
        rw [Hk.out] at Hv2
        have Hv2 := hid Hv2
        clear hX hY hb1
        go_wp2_with fail
        refine Hv2.out.mono ?_; rintro e w2 ⟨rfl, hb2⟩
        have u0 := (hb2.cell (p := ⟨W.heap.size, 0, none⟩) xl).trans x0
        have v0 := (hb2.cell (p := ⟨W.heap.size + 1, 0, none⟩) yl).trans y0
        have ul : W.heap.size + 1 < w2.heap.size := by have := hb2.size; omega
        have hz := HB1.out.trans (hb2.mono HB1.out.size)
        clear hb2 x0 y0 y1 y2 xl yl
        go_wp2_with fail
        go_ret
        exact ⟨by rw [R.out]; rfl, hz⟩
    · have R := hid (pai_2 hv hk)
      have d1 : (valE k == 0) = false := beq_eq_false_iff_ne.2 hk
      have d2 : (valE k != 0) = true := by rw [bne, d1]; rfl
      clear hv hk
      go_enter Try.func95, Try.ntmps95
      go_wp2_with fail
      refine Hv.out.mono ?_; rintro e w1 ⟨rfl, hb1⟩
      have hY := box_snd hb1 (by simp)
      have y0 := hY.c0
      have y1 := hY.c1
      have y2 := hY.c2
      have yl := hY.lt
      have HB1 := hid (HB.out.trans (hb1.mono HB.out.size))
      have Hv2 := hid (Validate_any k b b2 dap dap2 w1 (HK.out.below hb1))
      clear hY hb1
      go_wp2_with fail
      refine Hv2.out.mono ?_; rintro e w2 ⟨rfl, hb2⟩
      have hz := HB1.out.trans (hb2.mono HB1.out.size)
      clear hb2 y0 y1 y2 yl
      go_wp2_with fail
      go_ret
      exact ⟨by rw [R.out]; rfl, hz⟩
  · have R := hid (pai_1 (k := k) hv)
    have d1 : (valE m == 0) = false := beq_eq_false_iff_ne.2 hv
    have d2 : (valE m != 0) = true := by rw [bne, d1]; rfl
    clear hv
    go_enter Try.func95, Try.ntmps95
    go_wp2_with fail
    refine Hv.out.mono ?_; rintro e w1 ⟨rfl, hb1⟩
    have hz := HB.out.trans (hb1.mono HB.out.size)
    clear hb1
    go_wp2_with fail
    go_ret
    exact ⟨by rw [R.out]; rfl, hz⟩

set_option maxRecDepth 100000 in
set_option maxHeartbeats 1000000 in
theorem rpair_any (m k : Mac) (a a2 : Option Addr) (cap cap2 : Nat) (b b2 : Option Addr) (dap dap2 : Nat) (W : World) (hM : MacAt W a cap a2 cap2 m) (hK : MacAt W b dap b2 dap2 k) :
    Calls Try.prog 97 #[.agg #[.int .i64 m.L, .slice a m.nx.length cap, .slice a2 m.ac.length cap2], .agg #[.int .i64 k.L, .slice b k.nx.length dap, .slice b2 k.ac.length dap2]] W fun e w' => e = .returned (.int .i64 (paiE m k)) ∧ Below W.heap.size W w' := by
  have hb0 : Below W.heap.size W ((W.alloc (.cells #[.int .i64 m.L, .slice a m.nx.length cap, .slice a2 m.ac.length cap2] 25)).alloc (.cells #[.int .i64 k.L, .slice b k.nx.length dap, .slice b2 k.ac.length dap2] 25)) := (below_alloc W _).alloc (by simp) _
  have HM := hid (hM.below hb0)
  have HK := hid (hK.below hb0)
  have HB := hid hb0
  have Hv := hid (rValidate_any m a a2 cap cap2 ((W.alloc (.cells #[.int .i64 m.L, .slice a m.nx.length cap, .slice a2 m.ac.length cap2] 25)).alloc (.cells #[.int .i64 k.L, .slice b k.nx.length dap, .slice b2 k.ac.length dap2] 25)) HM.out)
  clear hM hK hb0
  by_cases hv : valE m = 0
  · rw [hv] at Hv
    by_cases hk : valE k = 0
    · by_cases hL : m.L = k.L
      · have R := hid (pai_0 hv hk hL)
        have d1 : (m.L == k.L) = true := beq_iff_eq.2 hL
        have d2 : (m.L != k.L) = false := by rw [bne, d1]; rfl
        have Hk := hid hk
        clear hv hL hk
        go_enter Try.func97, Try.ntmps97
        go_wp2_with fail
        refine Hv.out.mono ?_; rintro e w1 ⟨rfl, hb1⟩
        have hX := box_fst hb1 (by simp)
        have hY := box_snd hb1 (by simp)
        have x0 := hX.c0
        have y0 := hY.c0
        have y1 := hY.c1
        have y2 := hY.c2
        have xl := hX.lt
        have yl := hY.lt
        have HB1 := hid (HB.out.trans (hb1.mono HB.out.size))
        have Hv2 := rValidate_any k b b2 dap dap2 w1 (HK.out.below hb1)
        rw [Hk.out] at Hv2
        have Hv2 := hid Hv2
        clear hX hY hb1
        go_wp2_with fail
        refine Hv2.out.mono ?_; rintro e w2 ⟨rfl, hb2⟩
        have u0 := (hb2.cell (p := ⟨W.heap.size, 0, none⟩) xl).trans x0
        have v0 := (hb2.cell (p := ⟨W.heap.size + 1, 0, none⟩) yl).trans y0
        have ul : W.heap.size + 1 < w2.heap.size := by have := hb2.size; omega
        have hz := HB1.out.trans (hb2.mono HB1.out.size)
        clear hb2 x0 y0 y1 y2 xl yl
        go_wp2_with fail
        go_ret
        exact ⟨by rw [R.out]; rfl, hz⟩
      · have R := hid (pai_3 hv hk hL)
        have d1 : (m.L == k.L) = false := beq_eq_false_iff_ne.2 hL
        have d2 : (m.L != k.L) = true := by rw [bne, d1]; rfl
        have Hk := hid hk
        clear hv hL hk
        go_enter Try.func97, Try.ntmps97
        go_wp2_with fail
        refine Hv.out.mono ?_; rintro e w1 ⟨rfl, hb1⟩
        have hX := box_fst hb1 (by simp)
        have hY := box_snd hb1 (by simp)
        have x0 := hX.c0
        have y0 := hY.c0
        have y1 := hY.c1
        have y2 := hY.c2
        have xl := hX.lt
        have yl := hY.lt
        have HB1 := hid (HB.out.trans (hb1.mono HB.out.size))
        have Hv2 := rValidate_any k b b2 dap dap2 w1 (HK.out.below hb1)
        rw [Hk.out] at Hv2
        have Hv2 := hid Hv2
        clear hX hY hb1
        go_wp2_with fail
        refine Hv2.out.mono ?_; rintro e w2 ⟨rfl, hb2⟩
        have u0 := (hb2.cell (p := ⟨W.heap.size, 0, none⟩) xl).trans x0
        have v0 := (hb2.cell (p := ⟨W.heap.size + 1, 0, none⟩) yl).trans y0
        have ul : W.heap.size + 1 < w2.heap.size := by have := hb2.size; omega
        have hz := HB1.out.trans (hb2.mono HB1.out.size)
        clear hb2 x0 y0 y1 y2 xl yl
        go_wp2_with fail
        go_ret
        exact ⟨by rw [R.out]; rfl, hz⟩
    · have R := hid (pai_2 hv hk)
      have d1 : (valE k == 0) = false := beq_eq_false_iff_ne.2 hk
      have d2 : (valE k != 0) = true := by rw [bne, d1]; rfl
      clear hv hk
      go_enter Try.func97, Try.ntmps97
      go_wp2_with fail
      refine Hv.out.mono ?_; rintro e w1 ⟨rfl, hb1⟩
      have hY := box_snd hb1 (by simp)
      have y0 := hY.c0
      have y1 := hY.c1
      have y2 := hY.c2
      have yl := hY.lt
      have HB1 := hid (HB.out.trans (hb1.mono HB.out.size))
      have Hv2 := hid (rValidate_any k b b2 dap dap2 w1 (HK.out.below hb1))
      clear hY hb1
      go_wp2_with fail
      refine Hv2.out.mono ?_; rintro e w2 ⟨rfl, hb2⟩
      have hz := HB1.out.trans (hb2.mono HB1.out.size)
      clear hb2 y0 y1 y2 yl
      go_wp2_with fail
      go_ret
      exact ⟨by rw [R.out]; rfl, hz⟩
  · have R := hid (pai_1 (k := k) hv)
    have d1 : (valE m == 0) = false := beq_eq_false_iff_ne.2 hv
    have d2 : (valE m != 0) = true := by rw [bne, d1]; rfl
    clear hv
    go_enter Try.func97, Try.ntmps97
    go_wp2_with fail
    refine Hv.out.mono ?_; rintro e w1 ⟨rfl, hb1⟩
    have hz := HB.out.trans (hb1.mono HB.out.size)
    clear hb1
    go_wp2_with fail
    go_ret
    exact ⟨by rw [R.out]; rfl, hz⟩
end Go.Proofs.Ytmllbemjcfkmjaa
/- What 'joined' hands to the plain form: the steps and answers of two machines side by side. -/
namespace Go.Proofs.Ytmllbemjcfkmjaa
open Go.RowKit
set_option linter.unusedSimpArgs false
set_option linter.unusedVariables false

def jnS (m k : Mac) (s : Int) (c : Nat) : Int := stepM m (s / k.nx.length) c * k.nx.length + stepM k (s % k.nx.length) c
def jnA (f : Bool → Bool → Bool) (m k : Mac) (s : Int) : Bool := f (accM m (s / k.nx.length)) (accM k (s % k.nx.length))
theorem jn_parts {m k : Mac} (hm : MacOK m) (hk : MacOK k) {s : Int} (h0 : 0 ≤ s) (h1 : s < m.nx.length * k.nx.length) : (0 ≤ s / k.nx.length ∧ s / k.nx.length < m.nx.length) ∧ 0 ≤ s % k.nx.length ∧ s % k.nx.length < k.nx.length := by
  have hn := hk.n1
  have hp : (0 : Int) < (k.nx.length : Int) := by omega
  exact ⟨⟨Int.ediv_nonneg h0 (by omega), Int.ediv_lt_of_lt_mul hp h1⟩, Int.emod_nonneg _ (by omega), Int.emod_lt_of_pos _ hp⟩
theorem jn_bound {x y N K : Int} (hx0 : 0 ≤ x) (hx : x < N) (hy0 : 0 ≤ y) (hy : y < K) (hN : N ≤ 64) (hK : K ≤ 64) : 0 ≤ x * K + y ∧ x * K + y < N * K ∧ 0 ≤ x * K ∧ x * K ≤ 4096 := by
  have h1 := Int.mul_nonneg hx0 (show 0 ≤ K by omega)
  have h2 : (x + 1) * K ≤ N * K := Int.mul_le_mul_of_nonneg_right (by omega) (by omega)
  have h3 : (x + 1) * K = x * K + K := by rw [Int.add_mul]; omega
  have h4 : x * K ≤ 64 * 64 := Int.le_trans (Int.mul_le_mul_of_nonneg_right (show x ≤ 64 by omega) (by omega)) (Int.mul_le_mul_of_nonneg_left hK (by omega))
  omega
theorem jn_auto {m k : Mac} (hm : MacOK m) (hk : MacOK k) (hL : m.L = k.L) : AutoOK m.L.toNat (jnS m k) 0 (m.nx.length * k.nx.length) := by
  have h1 := hm.l1
  have h6 := hm.l6
  have n1 := hm.n1
  have k1 := hk.n1
  have n64 := hm.n64
  have k64 := hk.n64
  have hp : (m.nx.length : Int) * k.nx.length ≤ 64 * 64 := Int.le_trans (Int.mul_le_mul_of_nonneg_right (show (m.nx.length : Int) ≤ 64 by omega) (by omega)) (Int.mul_le_mul_of_nonneg_left (show (k.nx.length : Int) ≤ 64 by omega) (by omega))
  have hpos : (0 : Int) < m.nx.length * k.nx.length := Int.mul_pos (by omega) (by omega)
  refine ⟨by omega, by omega, by omega, hpos, by omega, by omega, fun s h0 h2 c hc => ?_⟩
  obtain ⟨⟨x0, x1⟩, y0, y1⟩ := jn_parts hm hk h0 h2
  have e1 := step_in hm x0 x1 (a := (c : Int)) (by omega) (by omega)
  have e2 := step_in hk y0 y1 (a := (c : Int)) (by omega) (by omega)
  rw [Int.toNat_natCast] at e1 e2
  have := jn_bound e1.1 e1.2 e2.1 e2.2 (by omega) (by omega)
  exact ⟨this.1, this.2.1⟩
set_option maxRecDepth 100000 in
theorem jn_step (m k : Mac) (a a2 : Option Addr) (cap cap2 : Nat) (b b2 : Option Addr) (dap dap2 : Nat) (w : World) (hM : MacAt w a cap a2 cap2 m) (hK : MacAt w b dap b2 dap2 k) (hm : MacOK m) (hk : MacOK k) (hL : m.L = k.L)
    (HA HN HB : Nat) (x1 : w.cell? ⟨HA, 1, none⟩ = some (.slice a m.nx.length cap)) (xn : w.cell? ⟨HN, 0, none⟩ = some (.int .i64 k.nx.length)) (y1 : w.cell? ⟨HB, 1, none⟩ = some (.slice b k.nx.length dap))
    (s : Int) (h0 : 0 ≤ s) (h1 : s < m.nx.length * k.nx.length) (c : Nat) (hc : c < m.L.toNat) :
    Calls Try.prog 109 #[.int .i64 s, .int .i64 c, .pointer (some ⟨HA, 0, none⟩), .pointer (some ⟨HN, 0, none⟩), .pointer (some ⟨HB, 0, none⟩)] w fun e w' => e = .returned (.int .i64 (jnS m k s c)) ∧ Below w.heap.size w w' := by
  obtain ⟨⟨p0, p1⟩, q0, q1⟩ := jn_parts hm hk h0 h1
  have n64 := hm.n64
  have k64 := hk.n64
  have k1 := hk.n1
  have et : s.tdiv (k.nx.length : Int) = s / (k.nx.length : Int) := Int.tdiv_eq_ediv_of_nonneg h0
  have em : s.tmod (k.nx.length : Int) = s % (k.nx.length : Int) := Int.tmod_eq_emod_of_nonneg h0
  have R : Hid (jnS m k s c = stepM m (s / k.nx.length) c * k.nx.length + stepM k (s % k.nx.length) c) := hid rfl
  have e1 := step_in hm p0 p1 (a := (c : Int)) (by omega) (by omega)
  have e2 := step_in hk q0 q1 (a := (c : Int)) (by omega) (by omega)
  rw [Int.toNat_natCast] at e1 e2
  have hbd := jn_bound e1.1 e1.2 e2.1 e2.2 (by omega) (by omega)
  have hsb : s ≤ 4096 := by
    have hp : (m.nx.length : Int) * k.nx.length ≤ 64 * 64 := Int.le_trans (Int.mul_le_mul_of_nonneg_right (show (m.nx.length : Int) ≤ 64 by omega) (by omega)) (Int.mul_le_mul_of_nonneg_left (show (k.nx.length : Int) ≤ 64 by omega) (by omega))
    omega
  obtain ⟨xn', hxn⟩ : ∃ x : Nat, s / (k.nx.length : Int) = (x : Int) := ⟨(s / (k.nx.length : Int)).toNat, by omega⟩
  obtain ⟨yn', hyn⟩ : ∃ y : Nat, s % (k.nx.length : Int) = (y : Int) := ⟨(s % (k.nx.length : Int)).toNat, by omega⟩
  rw [hxn] at p0 p1 e1 hbd R et
  rw [hyn] at q0 q1 e2 hbd R em
  have hxl : xn' < m.nx.length := by omega
  have hyl : yn' < k.nx.length := by omega
  obtain ⟨b1, o1, rfl, hb1, ra, rc, hc1, r1, r2, hIA⟩ := hM.nx xn' hxl
  obtain ⟨d1, u1, rfl, hd1, rb, rd, hc2, r3, r4, hIB⟩ := hK.nx yn' hyl
  have hla := hm.len xn' hxl
  have hlb := hk.len yn' hyl
  obtain ⟨bs, os, rfl, hbs, ca⟩ := hIA c (by omega)
  obtain ⟨ds, us, rfl, hds, cb⟩ := hIB c (by omega)
  have f1 : stepM m (xn' : Int) c = nth (rowOf m xn') c := rfl
  have f2 : stepM k (yn' : Int) c = nth (rowOf k yn') c := rfl
  rw [f1] at e1 hbd R
  rw [f2] at e2 hbd R
  have i1 : (0 : Int) ≤ (c : Int) := by omega
  have i2 : (c : Int) < ((rowOf m xn').length : Int) := by omega
  have i3 : (c : Int) < ((rowOf k yn').length : Int) := by omega
  have i4 : ((k.nx.length : Int) == 0) = false := beq_eq_false_iff_ne.2 (by omega)
  have i5 : (1 : Int) ≤ (k.nx.length : Int) := by omega
  generalize nth (rowOf m xn') c = tv at *
  generalize nth (rowOf k yn') c = uv at *
  have w1 : IntKind.i64.wrap (tv * (k.nx.length : Int)) = tv * (k.nx.length : Int) := IntWalk.i64_in _ (by omega)
  have w2 : IntKind.i64.wrap (tv * (k.nx.length : Int) + uv) = tv * (k.nx.length : Int) + uv := IntWalk.i64_in _ (by omega)
  clear hIA hIB hla hlb f1 f2 hxn hyn hM hK hm hk hL h1 hc
  go_enter Try.func109, Try.ntmps109
  go_wp2_with fail
  go_quiet (fail)
  go_wp2_with fail
  go_ret
  exact ⟨by rw [R.out]; rfl, below_quiet (Below.refl _ _)⟩
/-! ### answers -/
def wAnd (x y : Bool) : Bool := x && y
def wOr (x y : Bool) : Bool := x || y
def wNot (x y : Bool) : Bool := !x
theorem want79 (x y : Bool) (w : World) : Calls Try.prog 79 #[.bool x, .bool y] w fun e w' => e = .returned (.bool (wAnd x y)) ∧ w = w' := by
  cases x
  all_goals
    cases y
    all_goals
      go_enter Try.func79, Try.ntmps79
      go_wp2_with fail
      go_ret
      exact ⟨rfl, rfl⟩
theorem want81 (x y : Bool) (w : World) : Calls Try.prog 81 #[.bool x, .bool y] w fun e w' => e = .returned (.bool (wOr x y)) ∧ w = w' := by
  cases x
  all_goals
    cases y
    all_goals
      go_enter Try.func81, Try.ntmps81
      go_wp2_with fail
      go_ret
      exact ⟨rfl, rfl⟩
theorem want92 (x y : Bool) (w : World) : Calls Try.prog 92 #[.bool x, .bool y] w fun e w' => e = .returned (.bool (wNot x y)) ∧ w = w' := by
  cases x
  all_goals
    cases y
    all_goals
      go_enter Try.func92, Try.ntmps92
      go_wp2_with fail
      go_ret
      exact ⟨rfl, rfl⟩
set_option maxRecDepth 100000 in
theorem jn_acc79 (m k : Mac) (a a2 : Option Addr) (cap cap2 : Nat) (b b2 : Option Addr) (dap dap2 : Nat) (w : World) (hM : MacAt w a cap a2 cap2 m) (hK : MacAt w b dap b2 dap2 k) (hm : MacOK m) (hk : MacOK k)
    (HF HA HN HB : Nat) (x0 : w.cell? ⟨HF, 0, none⟩ = some (.func (.func 79) #[] #[])) (x1 : w.cell? ⟨HA, 2, none⟩ = some (.slice a2 m.ac.length cap2)) (xn : w.cell? ⟨HN, 0, none⟩ = some (.int .i64 k.nx.length)) (y1 : w.cell? ⟨HB, 2, none⟩ = some (.slice b2 k.ac.length dap2))
    (s : Int) (h0 : 0 ≤ s) (h1 : s < m.nx.length * k.nx.length) :
    Calls Try.prog 110 #[.int .i64 s, .pointer (some ⟨HF, 0, none⟩), .pointer (some ⟨HA, 0, none⟩), .pointer (some ⟨HN, 0, none⟩), .pointer (some ⟨HB, 0, none⟩)] w fun e w' => e = .returned (.bool (jnA wAnd m k s)) ∧ Below w.heap.size w w' := by
  obtain ⟨⟨p0, p1⟩, q0, q1⟩ := jn_parts hm hk h0 h1
  have n64 := hm.n64
  have k64 := hk.n64
  have k1 := hk.n1
  have et : s.tdiv (k.nx.length : Int) = s / (k.nx.length : Int) := Int.tdiv_eq_ediv_of_nonneg h0
  have em : s.tmod (k.nx.length : Int) = s % (k.nx.length : Int) := Int.tmod_eq_emod_of_nonneg h0
  have R : Hid (jnA wAnd m k s = wAnd (accM m (s / k.nx.length)) (accM k (s % k.nx.length))) := hid rfl
  have hsb : s ≤ 4096 := by
    have hp : (m.nx.length : Int) * k.nx.length ≤ 64 * 64 := Int.le_trans (Int.mul_le_mul_of_nonneg_right (show (m.nx.length : Int) ≤ 64 by omega) (by omega)) (Int.mul_le_mul_of_nonneg_left (show (k.nx.length : Int) ≤ 64 by omega) (by omega))
    omega
  obtain ⟨xn', hxn⟩ : ∃ x : Nat, s / (k.nx.length : Int) = (x : Int) := ⟨(s / (k.nx.length : Int)).toNat, by omega⟩
  obtain ⟨yn', hyn⟩ : ∃ y : Nat, s % (k.nx.length : Int) = (y : Int) := ⟨(s % (k.nx.length : Int)).toNat, by omega⟩
  rw [hxn] at p0 p1 R et
  rw [hyn] at q0 q1 R em
  have hxl : xn' < m.ac.length := by have := hm.ac; omega
  have hyl : yn' < k.ac.length := by have := hk.ac; omega
  obtain ⟨b1, o1, rfl, hb1, ca⟩ := hM.ac xn' hxl
  obtain ⟨d1, u1, rfl, hd1, cb⟩ := hK.ac yn' hyl
  have f1 : accM m (xn' : Int) = m.ac.getD xn' false := rfl
  have f2 : accM k (yn' : Int) = k.ac.getD yn' false := rfl
  rw [f1, f2] at R
  have i1 : (xn' : Int) < (m.ac.length : Int) := by omega
  have i2 : (yn' : Int) < (k.ac.length : Int) := by omega
  have i4 : ((k.nx.length : Int) == 0) = false := beq_eq_false_iff_ne.2 (by omega)
  have i5 : (1 : Int) ≤ (k.nx.length : Int) := by omega
  generalize m.ac.getD xn' false = tv at *
  generalize k.ac.getD yn' false = uv at *
  clear f1 f2 hxn hyn hM hK hm hk h1
  go_enter Try.func110, Try.ntmps110
  go_wp2_with fail
  go_quiet ((go_at_call 79; exact quiet_eq (want79 _ _ _)))
  go_wp2_with fail
  go_ret
  exact ⟨by rw [R.out]; rfl, below_quiet (Below.refl _ _)⟩
set_option maxRecDepth 100000 in
theorem jn_acc81 (m k : Mac) (a a2 : Option Addr) (cap cap2 : Nat) (b b2 : Option Addr) (dap dap2 : Nat) (w : World) (hM : MacAt w a cap a2 cap2 m) (hK : MacAt w b dap b2 dap2 k) (hm : MacOK m) (hk : MacOK k)
    (HF HA HN HB : Nat) (x0 : w.cell? ⟨HF, 0, none⟩ = some (.func (.func 81) #[] #[])) (x1 : w.cell? ⟨HA, 2, none⟩ = some (.slice a2 m.ac.length cap2)) (xn : w.cell? ⟨HN, 0, none⟩ = some (.int .i64 k.nx.length)) (y1 : w.cell? ⟨HB, 2, none⟩ = some (.slice b2 k.ac.length dap2))
    (s : Int) (h0 : 0 ≤ s) (h1 : s < m.nx.length * k.nx.length) :
    Calls Try.prog 110 #[.int .i64 s, .pointer (some ⟨HF, 0, none⟩), .pointer (some ⟨HA, 0, none⟩), .pointer (some ⟨HN, 0, none⟩), .pointer (some ⟨HB, 0, none⟩)] w fun e w' => e = .returned (.bool (jnA wOr m k s)) ∧ Below w.heap.size w w' := by
  obtain ⟨⟨p0, p1⟩, q0, q1⟩ := jn_parts hm hk h0 h1
  have n64 := hm.n64
  have k64 := hk.n64
  have k1 := hk.n1
  have et : s.tdiv (k.nx.length : Int) = s / (k.nx.length : Int) := Int.tdiv_eq_ediv_of_nonneg h0
  have em : s.tmod (k.nx.length : Int) = s % (k.nx.length : Int) := Int.tmod_eq_emod_of_nonneg h0
  have R : Hid (jnA wOr m k s = wOr (accM m (s / k.nx.length)) (accM k (s % k.nx.length))) := hid rfl
  have hsb : s ≤ 4096 := by
    have hp : (m.nx.length : Int) * k.nx.length ≤ 64 * 64 := Int.le_trans (Int.mul_le_mul_of_nonneg_right (show (m.nx.length : Int) ≤ 64 by omega) (by omega)) (Int.mul_le_mul_of_nonneg_left (show (k.nx.length : Int) ≤ 64 by omega) (by omega))
    omega
  obtain ⟨xn', hxn⟩ : ∃ x : Nat, s / (k.nx.length : Int) = (x : Int) := ⟨(s / (k.nx.length : Int)).toNat, by omega⟩
  obtain ⟨yn', hyn⟩ : ∃ y : Nat, s % (k.nx.length : Int) = (y : Int) := ⟨(s % (k.nx.length : Int)).toNat, by omega⟩
  rw [hxn] at p0 p1 R et
  rw [hyn] at q0 q1 R em
  have hxl : xn' < m.ac.length := by have := hm.ac; omega
  have hyl : yn' < k.ac.length := by have := hk.ac; omega
  obtain ⟨b1, o1, rfl, hb1, ca⟩ := hM.ac xn' hxl
  obtain ⟨d1, u1, rfl, hd1, cb⟩ := hK.ac yn' hyl
  have f1 : accM m (xn' : Int) = m.ac.getD xn' false := rfl
  have f2 : accM k (yn' : Int) = k.ac.getD yn' false := rfl
  rw [f1, f2] at R
  have i1 : (xn' : Int) < (m.ac.length : Int) := by omega
  have i2 : (yn' : Int) < (k.ac.length : Int) := by omega
  have i4 : ((k.nx.length : Int) == 0) = false := beq_eq_false_iff_ne.2 (by omega)
  have i5 : (1 : Int) ≤ (k.nx.length : Int) := by omega
  generalize m.ac.getD xn' false = tv at *
  generalize k.ac.getD yn' false = uv at *
  clear f1 f2 hxn hyn hM hK hm hk h1
  go_enter Try.func110, Try.ntmps110
  go_wp2_with fail
  go_quiet ((go_at_call 81; exact quiet_eq (want81 _ _ _)))
  go_wp2_with fail
  go_ret
  exact ⟨by rw [R.out]; rfl, below_quiet (Below.refl _ _)⟩
set_option maxRecDepth 100000 in
theorem jn_acc92 (m k : Mac) (a a2 : Option Addr) (cap cap2 : Nat) (b b2 : Option Addr) (dap dap2 : Nat) (w : World) (hM : MacAt w a cap a2 cap2 m) (hK : MacAt w b dap b2 dap2 k) (hm : MacOK m) (hk : MacOK k)
    (HF HA HN HB : Nat) (x0 : w.cell? ⟨HF, 0, none⟩ = some (.func (.func 92) #[] #[])) (x1 : w.cell? ⟨HA, 2, none⟩ = some (.slice a2 m.ac.length cap2)) (xn : w.cell? ⟨HN, 0, none⟩ = some (.int .i64 k.nx.length)) (y1 : w.cell? ⟨HB, 2, none⟩ = some (.slice b2 k.ac.length dap2))
    (s : Int) (h0 : 0 ≤ s) (h1 : s < m.nx.length * k.nx.length) :
    Calls Try.prog 110 #[.int .i64 s, .pointer (some ⟨HF, 0, none⟩), .pointer (some ⟨HA, 0, none⟩), .pointer (some ⟨HN, 0, none⟩), .pointer (some ⟨HB, 0, none⟩)] w fun e w' => e = .returned (.bool (jnA wNot m k s)) ∧ Below w.heap.size w w' := by
  obtain ⟨⟨p0, p1⟩, q0, q1⟩ := jn_parts hm hk h0 h1
  have n64 := hm.n64
  have k64 := hk.n64
  have k1 := hk.n1
  have et : s.tdiv (k.nx.length : Int) = s / (k.nx.length : Int) := Int.tdiv_eq_ediv_of_nonneg h0
  have em : s.tmod (k.nx.length : Int) = s % (k.nx.length : Int) := Int.tmod_eq_emod_of_nonneg h0
  have R : Hid (jnA wNot m k s = wNot (accM m (s / k.nx.length)) (accM k (s % k.nx.length))) := hid rfl
  have hsb : s ≤ 4096 := by
    have hp : (m.nx.length : Int) * k.nx.length ≤ 64 * 64 := Int.le_trans (Int.mul_le_mul_of_nonneg_right (show (m.nx.length : Int) ≤ 64 by omega) (by omega)) (Int.mul_le_mul_of_nonneg_left (show (k.nx.length : Int) ≤ 64 by omega) (by omega))
    omega
  obtain ⟨xn', hxn⟩ : ∃ x : Nat, s / (k.nx.length : Int) = (x : Int) := ⟨(s / (k.nx.length : Int)).toNat, by omega⟩
  obtain ⟨yn', hyn⟩ : ∃ y : Nat, s % (k.nx.length : Int) = (y : Int) := ⟨(s % (k.nx.length : Int)).toNat, by omega⟩
  rw [hxn] at p0 p1 R et
  rw [hyn] at q0 q1 R em
  have hxl : xn' < m.ac.length := by have := hm.ac; omega
  have hyl : yn' < k.ac.length := by have := hk.ac; omega
  obtain ⟨b1, o1, rfl, hb1, ca⟩ := hM.ac xn' hxl
  obtain ⟨d1, u1, rfl, hd1, cb⟩ := hK.ac yn' hyl
  have f1 : accM m (xn' : Int) = m.ac.getD xn' false := rfl
  have f2 : accM k (yn' : Int) = k.ac.getD yn' false := rfl
  rw [f1, f2] at R
  have i1 : (xn' : Int) < (m.ac.length : Int) := by omega
  have i2 : (yn' : Int) < (k.ac.length : Int) := by omega
  have i4 : ((k.nx.length : Int) == 0) = false := beq_eq_false_iff_ne.2 (by omega)
  have i5 : (1 : Int) ≤ (k.nx.length : Int) := by omega
  generalize m.ac.getD xn' false = tv at *
  generalize k.ac.getD yn' false = uv at *
  clear f1 f2 hxn hyn hM hK hm hk h1
  go_enter Try.func110, Try.ntmps110
  go_wp2_with fail
  go_quiet ((go_at_call 92; exact quiet_eq (want92 _ _ _)))
  go_wp2_with fail
  go_ret
  exact ⟨by rw [R.out]; rfl, below_quiet (Below.refl _ _)⟩
end Go.Proofs.Ytmllbemjcfkmjaa
/- The machine of the languages that are found: it is valid, and its language is the first of them; plainly. -/
namespace Go.Proofs.Ytmllbemjcfkmjaa
open Go.RowKit
set_option linter.unusedSimpArgs false
set_option linter.unusedVariables false

/-- Words with a letter that is none are not accepted. -/
def Good (L : Nat) (l : Lang) : Prop := ∀ w : List Nat, (∃ a, a ∈ w ∧ L ≤ a) → l w = false
theorem good_deriv {L : Nat} {l : Lang} (h : Good L l) (a : Nat) : Good L (deriv l a) := fun w ⟨b, hb, hL⟩ => h (a :: w) ⟨b, by simp [hb], hL⟩
theorem langA_good (L : Nat) (step : Int → Nat → Int) (ac : Int → Bool) (w : List Nat) : ∀ s, (∃ a, a ∈ w ∧ L ≤ a) → langA L step ac w s = false := by
  induction w with
  | nil => rintro s ⟨a, ha, _⟩; cases ha
  | cons x w ih =>
    rintro s ⟨a, ha, hL⟩
    simp only [langA]
    by_cases hx : x < L
    · rcases List.mem_cons.1 ha with rfl | ha
      · omega
      · rw [ih _ ⟨a, ha, hL⟩]; simp
    · simp [hx]
theorem laA_good (L : Nat) (step : Int → Nat → Int) (ac : Int → Bool) (s : Int) : Good L (laA L step ac s) := fun w h => langA_good L step ac w s h
section
variable {L : Nat} {la : Lang} {F : List Lang}
theorem found_pos (hF : Found (succL L) la F) : 1 ≤ F.length ∧ F[0]? = some la := by
  obtain ⟨i, rfl, _⟩ := hF
  have h := bfs_first (succL L) la i
  exact ⟨(List.getElem?_eq_some_iff.1 h).1, h⟩
theorem found_good (hF : Found (succL L) la F) (hg : Good L la) : ∀ l, l ∈ F → Good L l := by
  obtain ⟨i, rfl, _⟩ := hF
  refine bfs_in (succL L) la (Good L) hg (fun s hs y hy => ?_) i
  obtain ⟨a, _, rfl⟩ := List.mem_map.1 hy
  exact good_deriv hs a
theorem found_closed (hF : Found (succL L) la F) {j : Nat} {l : Lang} (hj : F[j]? = some l) {a : Nat} (ha : a < L) : deriv l a ∈ F := by
  obtain ⟨i, rfl, hi⟩ := hF
  have hjl := (List.getElem?_eq_some_iff.1 hj).1
  exact bfs_closed (succL L) la i j (by omega) l hj _ (List.mem_map.2 ⟨a, List.mem_range.2 ha, rfl⟩)
theorem row_mac (j : Nat) {l : Lang} (hj : F[j]? = some l) : rowOf (macOf L F) j = canRow L F l := by
  show (canNext L F).getD j [] = _
  simp [canNext, List.getD, hj]
theorem form_ok (hF : Found (succL L) la F) (h1 : 1 ≤ L) (h6 : L ≤ 6) (h64 : F.length ≤ 64) : MacOK (macOf L F) := by
  have hl : (macOf L F).nx.length = F.length := by show (canNext L F).length = _; simp [canNext]
  have ha : (macOf L F).ac.length = F.length := by show (canAcc F).length = _; simp [canAcc]
  have hp := (found_pos hF).1
  refine ⟨by show (1 : Int) ≤ (L : Int); omega, by show (L : Int) ≤ 6; omega, by omega, by omega, by omega, fun j hj => ?_, fun j hj a ha' => ?_⟩
  · have hj' : j < F.length := by omega
    rw [row_mac j (List.getElem?_eq_getElem hj')]
    show ((canRow L F _).length : Int) = (L : Int)
    simp [canRow]
  · have hj' : j < F.length := by omega
    have e := row_mac (L := L) j (List.getElem?_eq_getElem hj')
    rw [e] at ha' ⊢
    have haL : a < L := by simpa [canRow] using ha'
    have hm := idx_lt (found_closed hF (List.getElem?_eq_getElem hj') haL)
    have en : nth (canRow L F F[j]) a = ((idx F (deriv F[j] a) : Nat) : Int) := by simp [nth, List.getD, canRow, haL]
    rw [en, hl]
    omega
theorem form_lang (hF : Found (succL L) la F) (hg : Good L la) (w : List Nat) : ∀ j l, F[j]? = some l → langA L (stepM (macOf L F)) (accM (macOf L F)) w (j : Nat) = l w := by
  induction w with
  | nil =>
    intro j l hj
    show (macOf L F).ac.getD ((j : Int)).toNat false = l []
    rw [Int.toNat_natCast]
    show (canAcc F).getD j false = _
    simp [canAcc, List.getD, hj]
  | cons a w ih =>
    intro j l hj
    simp only [langA]
    by_cases ha : a < L
    · have hm := found_closed hF hj ha
      have es : stepM (macOf L F) (j : Nat) a = ((idx F (deriv l a) : Nat) : Int) := by
        show nth (rowOf (macOf L F) ((j : Int)).toNat) a = _
        rw [Int.toNat_natCast, row_mac j hj]
        simp [nth, List.getD, canRow, ha]
      rw [es, ih _ _ (get_idx hm)]
      simp [ha, deriv]
    · have hl := found_good hF hg l (List.mem_of_getElem? hj)
      rw [hl (a :: w) ⟨a, by simp, by omega⟩]
      simp [ha]
/-- The plain form's language is the language. -/
theorem form_langM (hF : Found (succL L) la F) (hg : Good L la) : langM (macOf L F) = la := by
  funext w
  have h := form_lang hF hg w 0 la (found_pos hF).2
  have e : macL (macOf L F) = L := by show ((L : Int)).toNat = L; simp
  show langA (macL (macOf L F)) _ _ w 0 = _
  rw [e]
  exact h
end
/-! ### counting words of a language -/
def cL (L : Nat) : Nat → Lang → Int
  | 0, l => if l [] then 1 else 0
  | k + 1, l => sumTo (fun a => cL L k (deriv l a)) L
theorem cnt_cL (m : Mac) (k : Nat) : ∀ s, cnt m k s = cL (macL m) k (laA (macL m) (stepM m) (accM m) s) := by
  induction k with
  | zero => intro s; rfl
  | succ k ih =>
    intro s
    simp only [cnt, cL]
    refine sumTo_congr _ _ _ fun a ha => ?_
    rw [ih]
    congr 1
    funext w
    show langA (macL m) _ _ w _ = langA (macL m) _ _ (a :: w) s
    have : a < macL m := ha
    simp [langA, this]
theorem cnt_langM (m : Mac) (k : Nat) : cnt m k 0 = cL (macL m) k (langM m) := cnt_cL m k 0
theorem sumTo_add (f g : Nat → Int) (n : Nat) : sumTo (fun a => f a + g a) n = sumTo f n + sumTo g n := by
  induction n with
  | zero => rfl
  | succ n ih => simp only [sumTo]; rw [ih]; omega
theorem cL_both (L k : Nat) : ∀ l1 l2 : Lang, cL L k (fun w => l1 w && l2 w) + cL L k (fun w => l1 w || l2 w) = cL L k l1 + cL L k l2 := by
  induction k with
  | zero => intro l1 l2; simp only [cL]; by_cases h1 : l1 [] = true <;> by_cases h2 : l2 [] = true <;> simp [h1, h2]
  | succ k ih =>
    intro l1 l2
    simp only [cL]
    rw [← sumTo_add, ← sumTo_add]
    exact sumTo_congr _ _ _ fun a ha => ih (deriv l1 a) (deriv l2 a)
/-! ### two machines side by side -/
theorem jn_lang {m k : Mac} (hm : MacOK m) (hk : MacOK k) (hL : m.L = k.L) (f : Bool → Bool → Bool) (w : List Nat) : ∀ s : Int, 0 ≤ s → s < m.nx.length * k.nx.length → (∀ a, a ∈ w → a < macL m) →
    langA (macL m) (jnS m k) (jnA f m k) w s = f (langA (macL m) (stepM m) (accM m) w (s / k.nx.length)) (langA (macL k) (stepM k) (accM k) w (s % k.nx.length)) := by
  induction w with
  | nil => intro s _ _ _; rfl
  | cons a w ih =>
    intro s h0 h1 hw
    have ha : a < macL m := hw a (by simp)
    have hLL : macL k = macL m := by unfold macL; rw [hL]
    have hak : a < macL k := by rw [hLL]; exact ha
    have hau := jn_auto hm hk hL
    have hs := hau.cl s h0 h1 a ha
    obtain ⟨⟨x0, x1⟩, y0, y1⟩ := jn_parts hm hk h0 h1
    have hkL : (a : Int) < k.L := by unfold macL at hak; omega
    have e2 := step_in hk y0 y1 (a := (a : Int)) (by omega) hkL
    rw [Int.toNat_natCast] at e2
    have hn := hk.n1
    have q1 : jnS m k s a / k.nx.length = stepM m (s / k.nx.length) a := by
      unfold jnS
      rw [Int.add_comm, Int.add_mul_ediv_right _ _ (by omega), Int.ediv_eq_zero_of_lt e2.1 e2.2]
      omega
    have q2 : jnS m k s a % k.nx.length = stepM k (s % k.nx.length) a := by
      unfold jnS
      rw [Int.add_comm, Int.add_mul_emod_self_right, Int.emod_eq_of_lt e2.1 e2.2]
    simp only [langA, ha, hak, decide_true, Bool.true_and]
    rw [ih _ hs.1 hs.2 fun b hb => hw b (by simp [hb]), q1, q2]
end Go.Proofs.Ytmllbemjcfkmjaa
/- 'joined', 'Both', 'Either', 'Not': what they return. -/
namespace Go.Proofs.Ytmllbemjcfkmjaa
open Go.RowKit Go.Maps
set_option linter.unusedSimpArgs false
set_option linter.unusedVariables false

def jnL (f : Bool → Bool → Bool) (m k : Mac) : Lang := laA m.L.toNat (jnS m k) (jnA f m k) 0

set_option maxRecDepth 100000 in
set_option maxHeartbeats 4000000 in
theorem joined79 (m k : Mac) (a a2 : Option Addr) (cap cap2 : Nat) (b b2 : Option Addr) (dap dap2 : Nat) (W : World) (hM : MacAt W a cap a2 cap2 m) (hK : MacAt W b dap b2 dap2 k) :
    Calls Try.prog 78 #[.agg #[.int .i64 m.L, .slice a m.nx.length cap, .slice a2 m.ac.length cap2], .agg #[.int .i64 k.L, .slice b k.nx.length dap, .slice b2 k.ac.length dap2], .func (.func 79) #[] #[]] W (GenPost W (paiE m k) m.L.toNat (jnL wAnd m k)) := by
  have hb0 : Below W.heap.size W ((((W.alloc (.cells #[.int .i64 m.L, .slice a m.nx.length cap, .slice a2 m.ac.length cap2] 25)).alloc (.cells #[.int .i64 k.L, .slice b k.nx.length dap, .slice b2 k.ac.length dap2] 25)).alloc (.cells #[.func (.func 79) #[] #[]] 86)).alloc (.cells #[.int .i64 0, .slice none 0 0, .slice none 0 0] 25)) := (((below_alloc W _).alloc (by simp) _).alloc (by simp; omega) _).alloc (by simp; omega) _
  have HM := hid (hM.below hb0)
  have HK := hid (hK.below hb0)
  have HB := hid hb0
  have Hv := hid (pair_any m k a a2 cap cap2 b b2 dap dap2 ((((W.alloc (.cells #[.int .i64 m.L, .slice a m.nx.length cap, .slice a2 m.ac.length cap2] 25)).alloc (.cells #[.int .i64 k.L, .slice b k.nx.length dap, .slice b2 k.ac.length dap2] 25)).alloc (.cells #[.func (.func 79) #[] #[]] 86)).alloc (.cells #[.int .i64 0, .slice none 0 0, .slice none 0 0] 25)) HM.out HK.out)
  clear hM hK hb0
  by_cases hv : paiE m k = 0
  · have RE := hid hv
    obtain ⟨hm, hk, hL⟩ := paiE_zero.1 hv
    rw [hv] at Hv
    have Hm := hid hm
    have Hk := hid hk
    have HL := hid hL
    have Hz := hid (show m.L = (m.L.toNat : Nat) by have := hm.l1; omega)
    clear hm hk hL hv
    go_enter Try.func78, Try.ntmps78
    go_wp2_with fail
    refine Hv.out.mono ?_; rintro e w1 ⟨rfl, hb1⟩
    have hS3 : Below (W.heap.size + 1 + 1 + 1) (((W.alloc (.cells #[.int .i64 m.L, .slice a m.nx.length cap, .slice a2 m.ac.length cap2] 25)).alloc (.cells #[.int .i64 k.L, .slice b k.nx.length dap, .slice b2 k.ac.length dap2] 25)).alloc (.cells #[.func (.func 79) #[] #[]] 86)) w1 := ((Below.refl _ _).alloc (by simp) _).trans (hb1.mono (by simp))
    have hS2 : Below (W.heap.size + 1 + 1) ((W.alloc (.cells #[.int .i64 m.L, .slice a m.nx.length cap, .slice a2 m.ac.length cap2] 25)).alloc (.cells #[.int .i64 k.L, .slice b k.nx.length dap, .slice b2 k.ac.length dap2] 25)) w1 := ((Below.refl _ _).alloc (by simp) _).trans (hS3.mono (by omega))
    have hX := box_two hS2 rfl
    have hX1 := box_at hX rfl
    have hY1 := box_snd hS2 rfl
    have x0 := hX1.c0
    have x1 := hX1.c1
    have x2 := hX1.c2
    have y0 := hY1.c0
    have y1 := hY1.c1
    have y2 := hY1.c2
    have z0 : w1.cell? ⟨W.heap.size + 1 + 1, 0, none⟩ = some (.func (.func 79) #[] #[]) := by
      rw [hS3.cell (p := ⟨W.heap.size + 1 + 1, 0, none⟩) (Nat.lt_succ_self _)]
      have := cell_of_row (((W.alloc (.cells #[.int .i64 m.L, .slice a m.nx.length cap, .slice a2 m.ac.length cap2] 25)).alloc (.cells #[.int .i64 k.L, .slice b k.nx.length dap, .slice b2 k.ac.length dap2] 25)).alloc (.cells #[.func (.func 79) #[] #[]] 86)) (W.heap.size + 1 + 1) 0 #[.func (.func 79) #[] #[]] 86 (0, 0) (by have := heap_alloc_new ((W.alloc (.cells #[.int .i64 m.L, .slice a m.nx.length cap, .slice a2 m.ac.length cap2] 25)).alloc (.cells #[.int .i64 k.L, .slice b k.nx.length dap, .slice b2 k.ac.length dap2] 25)) (.cells #[.func (.func 79) #[] #[]] 86); rw [show ((W.alloc (.cells #[.int .i64 m.L, .slice a m.nx.length cap, .slice a2 m.ac.length cap2] 25)).alloc (.cells #[.int .i64 k.L, .slice b k.nx.length dap, .slice b2 k.ac.length dap2] 25)).heap.size = W.heap.size + 1 + 1 by simp] at this; exact this)
      rw [this]
      rfl
    clear hS2 hS3 hX hX1 hY1
    have xl : W.heap.size + 1 + 1 + 1 < w1.heap.size := by have := hb1.size; simp at this; omega
    have xa : W.heap.size < w1.heap.size := by omega
    have xb : W.heap.size + 1 < w1.heap.size := by omega
    have hr' : w1.rowIs (W.heap.size + 1 + 1 + 1) 25 3 (outF 0 (.slice none 0 0) (.slice none 0 0)) := by simpa using res_cells hb1 (by simp)
    have HB1 := hid (HB.out.trans (hb1.mono HB.out.size))
    have HM1 := hid (HM.out.below hb1)
    have HK1 := hid (HK.out.below hb1)
    have hb2 := below_alloc w1 (.cells #[.int .i64 k.nx.length] 3)
    have HP0 := plain_any m.L.toNat (jnS m k) (jnA wAnd m k) 0 (m.nx.length * k.nx.length) (jn_auto Hm.out Hk.out HL.out) 109 110 #[] #[.pointer (some ⟨W.heap.size, 0, none⟩), .pointer (some ⟨w1.heap.size, 0, none⟩), .pointer (some ⟨W.heap.size + 1, 0, none⟩)] #[] #[.pointer (some ⟨W.heap.size + 1 + 1, 0, none⟩), .pointer (some ⟨W.heap.size, 0, none⟩), .pointer (some ⟨w1.heap.size, 0, none⟩), .pointer (some ⟨W.heap.size + 1, 0, none⟩)] (w1.alloc (.cells #[.int .i64 k.nx.length] 3)) (hid (run_enter Try.func109 (by kernel_rfl) rfl))
      (hid fun w hw s hs0 hs c hc => by
        have hx := (below_alloc w1 (.cells #[.int .i64 k.nx.length] 3)).trans (hw.mono (by simp))
        exact jn_step m k a a2 cap cap2 b b2 dap dap2 w (HM1.out.below hx) (HK1.out.below hx) Hm.out Hk.out HL.out W.heap.size w1.heap.size (W.heap.size + 1) ((hx.cell (p := ⟨W.heap.size, 1, none⟩) (by show W.heap.size < _; omega)).trans x1) ((hw.cell (p := ⟨w1.heap.size, 0, none⟩) (by simp)).trans (by simp)) ((hx.cell (p := ⟨W.heap.size + 1, 1, none⟩) (by show W.heap.size + 1 < _; omega)).trans y1) s hs0 hs c hc)
      (hid (run_enter Try.func110 (by kernel_rfl) rfl))
      (hid fun w hw s hs0 hs => by
        have hx := (below_alloc w1 (.cells #[.int .i64 k.nx.length] 3)).trans (hw.mono (by simp))
        exact jn_acc79 m k a a2 cap cap2 b b2 dap dap2 w (HM1.out.below hx) (HK1.out.below hx) Hm.out Hk.out (W.heap.size + 1 + 1) W.heap.size w1.heap.size (W.heap.size + 1) ((hx.cell (p := ⟨W.heap.size + 1 + 1, 0, none⟩) (by show W.heap.size + 1 + 1 < _; omega)).trans z0) ((hx.cell (p := ⟨W.heap.size, 2, none⟩) (by show W.heap.size < _; omega)).trans x2) ((hw.cell (p := ⟨w1.heap.size, 0, none⟩) (by simp)).trans (by simp)) ((hx.cell (p := ⟨W.heap.size + 1, 2, none⟩) (by show W.heap.size + 1 < _; omega)).trans y2) s hs0 hs)
    have HP := hid (HP0.mono fun e w' h => plainZ Hz.out h)
    rw [← Hz.out] at HP
    have Hr := hid (hr'.alloc (.cells #[.int .i64 k.nx.length] 3))
    have HZ2 := hid (HB1.out.trans (hb2.mono HB1.out.size))
    have xw : W.heap.size + 1 + 1 + 1 < (w1.alloc (.cells #[.int .i64 k.nx.length] 3)).heap.size := by simp; omega
    have Hxw := hid xw
    clear hb1 hr' hb2 HP0 x2 y0 y2 z0 xw
    go_wp2_with fail
    have xw := Hxw.out
    refine HP.out.mono ?_
    rintro e wP ⟨F, hF, hbP, ⟨h64, base, an, cn, ab, cb, hbase, rfl, hMA⟩ | ⟨h64, rfl⟩⟩
    · have HF := hid hF
      have HMA := hid hMA
      clear hF hMA
      have hrP := rowIs_below Hr.out hbP Hr.out.lt
      have hzP := HZ2.out.trans (hbP.mono HZ2.out.size)
      have f0 := hrP.frozen 0
      have f1 := hrP.frozen 1
      have f2 := hrP.frozen 2
      have x0 := hrP.cell (i := 0) (by omega)
      have x1 := hrP.cell (i := 1) (by omega)
      have x2 := hrP.cell (i := 2) (by omega)
      have xl2 := hrP.lt
      have HC := hid (res_set hrP (.int .i64 m.L) (.slice an F.length cn) (.slice ab F.length cb))
      simp only [outF] at x0 x1 x2
      clear hrP hbP
      go_wp2_with fail
      have o0 := HC.out.c0
      have o1 := HC.out.c1
      have o2 := HC.out.c2
      exact bodyPost_ret (v := .tuple #[.agg #[.int .i64 m.L, .slice an F.length cn, .slice ab F.length cb], .int .i64 0]) (by simp [results, Try.results78, go_sem, o0, o1, o2]) rfl (gen_ok RE.out Hz.out HF.out hzP (by omega) (by omega) h64 HMA.out)
    · have HF := hid hF
      clear hF
      have hrP := rowIs_below Hr.out hbP Hr.out.lt
      have hzP := HZ2.out.trans (hbP.mono HZ2.out.size)
      have f0 := hrP.frozen 0
      have f1 := hrP.frozen 1
      have f2 := hrP.frozen 2
      have x0 := hrP.cell (i := 0) (by omega)
      have x1 := hrP.cell (i := 1) (by omega)
      have x2 := hrP.cell (i := 2) (by omega)
      have xl2 := hrP.lt
      have HC := hid (res_set hrP (.int .i64 0) (.slice none 0 0) (.slice none 0 0))
      simp only [outF] at x0 x1 x2
      clear hrP hbP
      go_wp2_with fail
      have o0 := HC.out.c0
      have o1 := HC.out.c1
      have o2 := HC.out.c2
      exact bodyPost_ret (v := .tuple #[.agg #[.int .i64 0, .slice none 0 0, .slice none 0 0], .int .i64 4]) (by simp [results, Try.results78, go_sem, o0, o1, o2]) rfl (gen_large RE.out HF.out hzP (by omega) h64)
  · have RN := hid hv
    have d1 : (paiE m k == 0) = false := beq_eq_false_iff_ne.2 hv
    have d2 : (paiE m k != 0) = true := by rw [bne, d1]; rfl
    clear hv
    go_enter Try.func78, Try.ntmps78
    go_wp2_with fail
    refine Hv.out.mono ?_; rintro e w1 ⟨rfl, hb1⟩
    have hr' : w1.rowIs (W.heap.size + 1 + 1 + 1) 25 3 (outF 0 (.slice none 0 0) (.slice none 0 0)) := by simpa using res_cells hb1 (by simp)
    have hz := HB.out.trans (hb1.mono HB.out.size)
    have f0 := hr'.frozen 0
    have f1 := hr'.frozen 1
    have f2 := hr'.frozen 2
    have x0 := hr'.cell (i := 0) (by omega)
    have x1 := hr'.cell (i := 1) (by omega)
    have x2 := hr'.cell (i := 2) (by omega)
    have xl2 := hr'.lt
    have HC := hid (res_set hr' (.int .i64 0) (.slice none 0 0) (.slice none 0 0))
    simp only [outF] at x0 x1 x2
    clear hr' hb1
    go_wp2_with fail
    have o0 := HC.out.c0
    have o1 := HC.out.c1
    have o2 := HC.out.c2
    exact bodyPost_ret (v := .tuple #[.agg #[.int .i64 0, .slice none 0 0, .slice none 0 0], .int .i64 (paiE m k)]) (by simp [results, Try.results78, go_sem, o0, o1, o2]) rfl (gen_err RN.out rfl hz (by omega))

set_option maxRecDepth 100000 in
set_option maxHeartbeats 4000000 in
theorem joined81 (m k : Mac) (a a2 : Option Addr) (cap cap2 : Nat) (b b2 : Option Addr) (dap dap2 : Nat) (W : World) (hM : MacAt W a cap a2 cap2 m) (hK : MacAt W b dap b2 dap2 k) :
    Calls Try.prog 78 #[.agg #[.int .i64 m.L, .slice a m.nx.length cap, .slice a2 m.ac.length cap2], .agg #[.int .i64 k.L, .slice b k.nx.length dap, .slice b2 k.ac.length dap2], .func (.func 81) #[] #[]] W (GenPost W (paiE m k) m.L.toNat (jnL wOr m k)) := by
  have hb0 : Below W.heap.size W ((((W.alloc (.cells #[.int .i64 m.L, .slice a m.nx.length cap, .slice a2 m.ac.length cap2] 25)).alloc (.cells #[.int .i64 k.L, .slice b k.nx.length dap, .slice b2 k.ac.length dap2] 25)).alloc (.cells #[.func (.func 81) #[] #[]] 86)).alloc (.cells #[.int .i64 0, .slice none 0 0, .slice none 0 0] 25)) := (((below_alloc W _).alloc (by simp) _).alloc (by simp; omega) _).alloc (by simp; omega) _
  have HM := hid (hM.below hb0)
  have HK := hid (hK.below hb0)
  have HB := hid hb0
  have Hv := hid (pair_any m k a a2 cap cap2 b b2 dap dap2 ((((W.alloc (.cells #[.int .i64 m.L, .slice a m.nx.length cap, .slice a2 m.ac.length cap2] 25)).alloc (.cells #[.int .i64 k.L, .slice b k.nx.length dap, .slice b2 k.ac.length dap2] 25)).alloc (.cells #[.func (.func 81) #[] #[]] 86)).alloc (.cells #[.int .i64 0, .slice none 0 0, .slice none 0 0] 25)) HM.out HK.out)
  clear hM hK hb0
  by_cases hv : paiE m k = 0
  · have RE := hid hv
    obtain ⟨hm, hk, hL⟩ := paiE_zero.1 hv
    rw [hv] at Hv
    have Hm := hid hm
    have Hk := hid hk
    have HL := hid hL
    have Hz := hid (show m.L = (m.L.toNat : Nat) by have := hm.l1; omega)
    clear hm hk hL hv
    go_enter Try.func78, Try.ntmps78
    go_wp2_with fail
    refine Hv.out.mono ?_; rintro e w1 ⟨rfl, hb1⟩
    have hS3 : Below (W.heap.size + 1 + 1 + 1) (((W.alloc (.cells #[.int .i64 m.L, .slice a m.nx.length cap, .slice a2 m.ac.length cap2] 25)).alloc (.cells #[.int .i64 k.L, .slice b k.nx.length dap, .slice b2 k.ac.length dap2] 25)).alloc (.cells #[.func (.func 81) #[] #[]] 86)) w1 := ((Below.refl _ _).alloc (by simp) _).trans (hb1.mono (by simp))
    have hS2 : Below (W.heap.size + 1 + 1) ((W.alloc (.cells #[.int .i64 m.L, .slice a m.nx.length cap, .slice a2 m.ac.length cap2] 25)).alloc (.cells #[.int .i64 k.L, .slice b k.nx.length dap, .slice b2 k.ac.length dap2] 25)) w1 := ((Below.refl _ _).alloc (by simp) _).trans (hS3.mono (by omega))
    have hX := box_two hS2 rfl
    have hX1 := box_at hX rfl
    have hY1 := box_snd hS2 rfl
    have x0 := hX1.c0
    have x1 := hX1.c1
    have x2 := hX1.c2
    have y0 := hY1.c0
    have y1 := hY1.c1
    have y2 := hY1.c2
    have z0 : w1.cell? ⟨W.heap.size + 1 + 1, 0, none⟩ = some (.func (.func 81) #[] #[]) := by
      rw [hS3.cell (p := ⟨W.heap.size + 1 + 1, 0, none⟩) (Nat.lt_succ_self _)]
      have := cell_of_row (((W.alloc (.cells #[.int .i64 m.L, .slice a m.nx.length cap, .slice a2 m.ac.length cap2] 25)).alloc (.cells #[.int .i64 k.L, .slice b k.nx.length dap, .slice b2 k.ac.length dap2] 25)).alloc (.cells #[.func (.func 81) #[] #[]] 86)) (W.heap.size + 1 + 1) 0 #[.func (.func 81) #[] #[]] 86 (0, 0) (by have := heap_alloc_new ((W.alloc (.cells #[.int .i64 m.L, .slice a m.nx.length cap, .slice a2 m.ac.length cap2] 25)).alloc (.cells #[.int .i64 k.L, .slice b k.nx.length dap, .slice b2 k.ac.length dap2] 25)) (.cells #[.func (.func 81) #[] #[]] 86); rw [show ((W.alloc (.cells #[.int .i64 m.L, .slice a m.nx.length cap, .slice a2 m.ac.length cap2] 25)).alloc (.cells #[.int .i64 k.L, .slice b k.nx.length dap, .slice b2 k.ac.length dap2] 25)).heap.size = W.heap.size + 1 + 1 by simp] at this; exact this)
      rw [this]
      rfl
    clear hS2 hS3 hX hX1 hY1
    have xl : W.heap.size + 1 + 1 + 1 < w1.heap.size := by have := hb1.size; simp at this; omega
    have xa : W.heap.size < w1.heap.size := by omega
    have xb : W.heap.size + 1 < w1.heap.size := by omega
    have hr' : w1.rowIs (W.heap.size + 1 + 1 + 1) 25 3 (outF 0 (.slice none 0 0) (.slice none 0 0)) := by simpa using res_cells hb1 (by simp)
    have HB1 := hid (HB.out.trans (hb1.mono HB.out.size))
    have HM1 := hid (HM.out.below hb1)
    have HK1 := hid (HK.out.below hb1)
    have hb2 := below_alloc w1 (.cells #[.int .i64 k.nx.length] 3)
    have HP0 := plain_any m.L.toNat (jnS m k) (jnA wOr m k) 0 (m.nx.length * k.nx.length) (jn_auto Hm.out Hk.out HL.out) 109 110 #[] #[.pointer (some ⟨W.heap.size, 0, none⟩), .pointer (some ⟨w1.heap.size, 0, none⟩), .pointer (some ⟨W.heap.size + 1, 0, none⟩)] #[] #[.pointer (some ⟨W.heap.size + 1 + 1, 0, none⟩), .pointer (some ⟨W.heap.size, 0, none⟩), .pointer (some ⟨w1.heap.size, 0, none⟩), .pointer (some ⟨W.heap.size + 1, 0, none⟩)] (w1.alloc (.cells #[.int .i64 k.nx.length] 3)) (hid (run_enter Try.func109 (by kernel_rfl) rfl))
      (hid fun w hw s hs0 hs c hc => by
        have hx := (below_alloc w1 (.cells #[.int .i64 k.nx.length] 3)).trans (hw.mono (by simp))
        exact jn_step m k a a2 cap cap2 b b2 dap dap2 w (HM1.out.below hx) (HK1.out.below hx) Hm.out Hk.out HL.out W.heap.size w1.heap.size (W.heap.size + 1) ((hx.cell (p := ⟨W.heap.size, 1, none⟩) (by show W.heap.size < _; omega)).trans x1) ((hw.cell (p := ⟨w1.heap.size, 0, none⟩) (by simp)).trans (by simp)) ((hx.cell (p := ⟨W.heap.size + 1, 1, none⟩) (by show W.heap.size + 1 < _; omega)).trans y1) s hs0 hs c hc)
      (hid (run_enter Try.func110 (by kernel_rfl) rfl))
      (hid fun w hw s hs0 hs => by
        have hx := (below_alloc w1 (.cells #[.int .i64 k.nx.length] 3)).trans (hw.mono (by simp))
        exact jn_acc81 m k a a2 cap cap2 b b2 dap dap2 w (HM1.out.below hx) (HK1.out.below hx) Hm.out Hk.out (W.heap.size + 1 + 1) W.heap.size w1.heap.size (W.heap.size + 1) ((hx.cell (p := ⟨W.heap.size + 1 + 1, 0, none⟩) (by show W.heap.size + 1 + 1 < _; omega)).trans z0) ((hx.cell (p := ⟨W.heap.size, 2, none⟩) (by show W.heap.size < _; omega)).trans x2) ((hw.cell (p := ⟨w1.heap.size, 0, none⟩) (by simp)).trans (by simp)) ((hx.cell (p := ⟨W.heap.size + 1, 2, none⟩) (by show W.heap.size + 1 < _; omega)).trans y2) s hs0 hs)
    have HP := hid (HP0.mono fun e w' h => plainZ Hz.out h)
    rw [← Hz.out] at HP
    have Hr := hid (hr'.alloc (.cells #[.int .i64 k.nx.length] 3))
    have HZ2 := hid (HB1.out.trans (hb2.mono HB1.out.size))
    have xw : W.heap.size + 1 + 1 + 1 < (w1.alloc (.cells #[.int .i64 k.nx.length] 3)).heap.size := by simp; omega
    have Hxw := hid xw
    clear hb1 hr' hb2 HP0 x2 y0 y2 z0 xw
    go_wp2_with fail
    have xw := Hxw.out
    refine HP.out.mono ?_
    rintro e wP ⟨F, hF, hbP, ⟨h64, base, an, cn, ab, cb, hbase, rfl, hMA⟩ | ⟨h64, rfl⟩⟩
    · have HF := hid hF
      have HMA := hid hMA
      clear hF hMA
      have hrP := rowIs_below Hr.out hbP Hr.out.lt
      have hzP := HZ2.out.trans (hbP.mono HZ2.out.size)
      have f0 := hrP.frozen 0
      have f1 := hrP.frozen 1
      have f2 := hrP.frozen 2
      have x0 := hrP.cell (i := 0) (by omega)
      have x1 := hrP.cell (i := 1) (by omega)
      have x2 := hrP.cell (i := 2) (by omega)
      have xl2 := hrP.lt
      have HC := hid (res_set hrP (.int .i64 m.L) (.slice an F.length cn) (.slice ab F.length cb))
      simp only [outF] at x0 x1 x2
      clear hrP hbP
      go_wp2_with fail
      have o0 := HC.out.c0
      have o1 := HC.out.c1
      have o2 := HC.out.c2
      exact bodyPost_ret (v := .tuple #[.agg #[.int .i64 m.L, .slice an F.length cn, .slice ab F.length cb], .int .i64 0]) (by simp [results, Try.results78, go_sem, o0, o1, o2]) rfl (gen_ok RE.out Hz.out HF.out hzP (by omega) (by omega) h64 HMA.out)
    · have HF := hid hF
      clear hF
      have hrP := rowIs_below Hr.out hbP Hr.out.lt
      have hzP := HZ2.out.trans (hbP.mono HZ2.out.size)
      have f0 := hrP.frozen 0
      have f1 := hrP.frozen 1
      have f2 := hrP.frozen 2
      have x0 := hrP.cell (i := 0) (by omega)
      have x1 := hrP.cell (i := 1) (by omega)
      have x2 := hrP.cell (i := 2) (by omega)
      have xl2 := hrP.lt
      have HC := hid (res_set hrP (.int .i64 0) (.slice none 0 0) (.slice none 0 0))
      simp only [outF] at x0 x1 x2
      clear hrP hbP
      go_wp2_with fail
      have o0 := HC.out.c0
      have o1 := HC.out.c1
      have o2 := HC.out.c2
      exact bodyPost_ret (v := .tuple #[.agg #[.int .i64 0, .slice none 0 0, .slice none 0 0], .int .i64 4]) (by simp [results, Try.results78, go_sem, o0, o1, o2]) rfl (gen_large RE.out HF.out hzP (by omega) h64)
  · have RN := hid hv
    have d1 : (paiE m k == 0) = false := beq_eq_false_iff_ne.2 hv
    have d2 : (paiE m k != 0) = true := by rw [bne, d1]; rfl
    clear hv
    go_enter Try.func78, Try.ntmps78
    go_wp2_with fail
    refine Hv.out.mono ?_; rintro e w1 ⟨rfl, hb1⟩
    have hr' : w1.rowIs (W.heap.size + 1 + 1 + 1) 25 3 (outF 0 (.slice none 0 0) (.slice none 0 0)) := by simpa using res_cells hb1 (by simp)
    have hz := HB.out.trans (hb1.mono HB.out.size)
    have f0 := hr'.frozen 0
    have f1 := hr'.frozen 1
    have f2 := hr'.frozen 2
    have x0 := hr'.cell (i := 0) (by omega)
    have x1 := hr'.cell (i := 1) (by omega)
    have x2 := hr'.cell (i := 2) (by omega)
    have xl2 := hr'.lt
    have HC := hid (res_set hr' (.int .i64 0) (.slice none 0 0) (.slice none 0 0))
    simp only [outF] at x0 x1 x2
    clear hr' hb1
    go_wp2_with fail
    have o0 := HC.out.c0
    have o1 := HC.out.c1
    have o2 := HC.out.c2
    exact bodyPost_ret (v := .tuple #[.agg #[.int .i64 0, .slice none 0 0, .slice none 0 0], .int .i64 (paiE m k)]) (by simp [results, Try.results78, go_sem, o0, o1, o2]) rfl (gen_err RN.out rfl hz (by omega))

set_option maxRecDepth 100000 in
set_option maxHeartbeats 4000000 in
theorem joined92 (m k : Mac) (a a2 : Option Addr) (cap cap2 : Nat) (b b2 : Option Addr) (dap dap2 : Nat) (W : World) (hM : MacAt W a cap a2 cap2 m) (hK : MacAt W b dap b2 dap2 k) :
    Calls Try.prog 78 #[.agg #[.int .i64 m.L, .slice a m.nx.length cap, .slice a2 m.ac.length cap2], .agg #[.int .i64 k.L, .slice b k.nx.length dap, .slice b2 k.ac.length dap2], .func (.func 92) #[] #[]] W (GenPost W (paiE m k) m.L.toNat (jnL wNot m k)) := by
  have hb0 : Below W.heap.size W ((((W.alloc (.cells #[.int .i64 m.L, .slice a m.nx.length cap, .slice a2 m.ac.length cap2] 25)).alloc (.cells #[.int .i64 k.L, .slice b k.nx.length dap, .slice b2 k.ac.length dap2] 25)).alloc (.cells #[.func (.func 92) #[] #[]] 86)).alloc (.cells #[.int .i64 0, .slice none 0 0, .slice none 0 0] 25)) := (((below_alloc W _).alloc (by simp) _).alloc (by simp; omega) _).alloc (by simp; omega) _
  have HM := hid (hM.below hb0)
  have HK := hid (hK.below hb0)
  have HB := hid hb0
  have Hv := hid (pair_any m k a a2 cap cap2 b b2 dap dap2 ((((W.alloc (.cells #[.int .i64 m.L, .slice a m.nx.length cap, .slice a2 m.ac.length cap2] 25)).alloc (.cells #[.int .i64 k.L, .slice b k.nx.length dap, .slice b2 k.ac.length dap2] 25)).alloc (.cells #[.func (.func 92) #[] #[]] 86)).alloc (.cells #[.int .i64 0, .slice none 0 0, .slice none 0 0] 25)) HM.out HK.out)
  clear hM hK hb0
  by_cases hv : paiE m k = 0
  · have RE := hid hv
    obtain ⟨hm, hk, hL⟩ := paiE_zero.1 hv
    rw [hv] at Hv
    have Hm := hid hm
    have Hk := hid hk
    have HL := hid hL
    have Hz := hid (show m.L = (m.L.toNat : Nat) by have := hm.l1; omega)
    clear hm hk hL hv
    go_enter Try.func78, Try.ntmps78
    go_wp2_with fail
    refine Hv.out.mono ?_; rintro e w1 ⟨rfl, hb1⟩
    have hS3 : Below (W.heap.size + 1 + 1 + 1) (((W.alloc (.cells #[.int .i64 m.L, .slice a m.nx.length cap, .slice a2 m.ac.length cap2] 25)).alloc (.cells #[.int .i64 k.L, .slice b k.nx.length dap, .slice b2 k.ac.length dap2] 25)).alloc (.cells #[.func (.func 92) #[] #[]] 86)) w1 := ((Below.refl _ _).alloc (by simp) _).trans (hb1.mono (by simp))
    have hS2 : Below (W.heap.size + 1 + 1) ((W.alloc (.cells #[.int .i64 m.L, .slice a m.nx.length cap, .slice a2 m.ac.length cap2] 25)).alloc (.cells #[.int .i64 k.L, .slice b k.nx.length dap, .slice b2 k.ac.length dap2] 25)) w1 := ((Below.refl _ _).alloc (by simp) _).trans (hS3.mono (by omega))
    have hX := box_two hS2 rfl
    have hX1 := box_at hX rfl
    have hY1 := box_snd hS2 rfl
    have x0 := hX1.c0
    have x1 := hX1.c1
    have x2 := hX1.c2
    have y0 := hY1.c0
    have y1 := hY1.c1
    have y2 := hY1.c2
    have z0 : w1.cell? ⟨W.heap.size + 1 + 1, 0, none⟩ = some (.func (.func 92) #[] #[]) := by
      rw [hS3.cell (p := ⟨W.heap.size + 1 + 1, 0, none⟩) (Nat.lt_succ_self _)]
      have := cell_of_row (((W.alloc (.cells #[.int .i64 m.L, .slice a m.nx.length cap, .slice a2 m.ac.length cap2] 25)).alloc (.cells #[.int .i64 k.L, .slice b k.nx.length dap, .slice b2 k.ac.length dap2] 25)).alloc (.cells #[.func (.func 92) #[] #[]] 86)) (W.heap.size + 1 + 1) 0 #[.func (.func 92) #[] #[]] 86 (0, 0) (by have := heap_alloc_new ((W.alloc (.cells #[.int .i64 m.L, .slice a m.nx.length cap, .slice a2 m.ac.length cap2] 25)).alloc (.cells #[.int .i64 k.L, .slice b k.nx.length dap, .slice b2 k.ac.length dap2] 25)) (.cells #[.func (.func 92) #[] #[]] 86); rw [show ((W.alloc (.cells #[.int .i64 m.L, .slice a m.nx.length cap, .slice a2 m.ac.length cap2] 25)).alloc (.cells #[.int .i64 k.L, .slice b k.nx.length dap, .slice b2 k.ac.length dap2] 25)).heap.size = W.heap.size + 1 + 1 by simp] at this; exact this)
      rw [this]
      rfl
    clear hS2 hS3 hX hX1 hY1
    have xl : W.heap.size + 1 + 1 + 1 < w1.heap.size := by have := hb1.size; simp at this; omega
    have xa : W.heap.size < w1.heap.size := by omega
    have xb : W.heap.size + 1 < w1.heap.size := by omega
    have hr' : w1.rowIs (W.heap.size + 1 + 1 + 1) 25 3 (outF 0 (.slice none 0 0) (.slice none 0 0)) := by simpa using res_cells hb1 (by simp)
    have HB1 := hid (HB.out.trans (hb1.mono HB.out.size))
    have HM1 := hid (HM.out.below hb1)
    have HK1 := hid (HK.out.below hb1)
    have hb2 := below_alloc w1 (.cells #[.int .i64 k.nx.length] 3)
    have HP0 := plain_any m.L.toNat (jnS m k) (jnA wNot m k) 0 (m.nx.length * k.nx.length) (jn_auto Hm.out Hk.out HL.out) 109 110 #[] #[.pointer (some ⟨W.heap.size, 0, none⟩), .pointer (some ⟨w1.heap.size, 0, none⟩), .pointer (some ⟨W.heap.size + 1, 0, none⟩)] #[] #[.pointer (some ⟨W.heap.size + 1 + 1, 0, none⟩), .pointer (some ⟨W.heap.size, 0, none⟩), .pointer (some ⟨w1.heap.size, 0, none⟩), .pointer (some ⟨W.heap.size + 1, 0, none⟩)] (w1.alloc (.cells #[.int .i64 k.nx.length] 3)) (hid (run_enter Try.func109 (by kernel_rfl) rfl))
      (hid fun w hw s hs0 hs c hc => by
        have hx := (below_alloc w1 (.cells #[.int .i64 k.nx.length] 3)).trans (hw.mono (by simp))
        exact jn_step m k a a2 cap cap2 b b2 dap dap2 w (HM1.out.below hx) (HK1.out.below hx) Hm.out Hk.out HL.out W.heap.size w1.heap.size (W.heap.size + 1) ((hx.cell (p := ⟨W.heap.size, 1, none⟩) (by show W.heap.size < _; omega)).trans x1) ((hw.cell (p := ⟨w1.heap.size, 0, none⟩) (by simp)).trans (by simp)) ((hx.cell (p := ⟨W.heap.size + 1, 1, none⟩) (by show W.heap.size + 1 < _; omega)).trans y1) s hs0 hs c hc)
      (hid (run_enter Try.func110 (by kernel_rfl) rfl))
      (hid fun w hw s hs0 hs => by
        have hx := (below_alloc w1 (.cells #[.int .i64 k.nx.length] 3)).trans (hw.mono (by simp))
        exact jn_acc92 m k a a2 cap cap2 b b2 dap dap2 w (HM1.out.below hx) (HK1.out.below hx) Hm.out Hk.out (W.heap.size + 1 + 1) W.heap.size w1.heap.size (W.heap.size + 1) ((hx.cell (p := ⟨W.heap.size + 1 + 1, 0, none⟩) (by show W.heap.size + 1 + 1 < _; omega)).trans z0) ((hx.cell (p := ⟨W.heap.size, 2, none⟩) (by show W.heap.size < _; omega)).trans x2) ((hw.cell (p := ⟨w1.heap.size, 0, none⟩) (by simp)).trans (by simp)) ((hx.cell (p := ⟨W.heap.size + 1, 2, none⟩) (by show W.heap.size + 1 < _; omega)).trans y2) s hs0 hs)
    have HP := hid (HP0.mono fun e w' h => plainZ Hz.out h)
    rw [← Hz.out] at HP
    have Hr := hid (hr'.alloc (.cells #[.int .i64 k.nx.length] 3))
    have HZ2 := hid (HB1.out.trans (hb2.mono HB1.out.size))
    have xw : W.heap.size + 1 + 1 + 1 < (w1.alloc (.cells #[.int .i64 k.nx.length] 3)).heap.size := by simp; omega
    have Hxw := hid xw
    clear hb1 hr' hb2 HP0 x2 y0 y2 z0 xw
    go_wp2_with fail
    have xw := Hxw.out
    refine HP.out.mono ?_
    rintro e wP ⟨F, hF, hbP, ⟨h64, base, an, cn, ab, cb, hbase, rfl, hMA⟩ | ⟨h64, rfl⟩⟩
    · have HF := hid hF
      have HMA := hid hMA
      clear hF hMA
      have hrP := rowIs_below Hr.out hbP Hr.out.lt
      have hzP := HZ2.out.trans (hbP.mono HZ2.out.size)
      have f0 := hrP.frozen 0
      have f1 := hrP.frozen 1
      have f2 := hrP.frozen 2
      have x0 := hrP.cell (i := 0) (by omega)
      have x1 := hrP.cell (i := 1) (by omega)
      have x2 := hrP.cell (i := 2) (by omega)
      have xl2 := hrP.lt
      have HC := hid (res_set hrP (.int .i64 m.L) (.slice an F.length cn) (.slice ab F.length cb))
      simp only [outF] at x0 x1 x2
      clear hrP hbP
      go_wp2_with fail
      have o0 := HC.out.c0
      have o1 := HC.out.c1
      have o2 := HC.out.c2
      exact bodyPost_ret (v := .tuple #[.agg #[.int .i64 m.L, .slice an F.length cn, .slice ab F.length cb], .int .i64 0]) (by simp [results, Try.results78, go_sem, o0, o1, o2]) rfl (gen_ok RE.out Hz.out HF.out hzP (by omega) (by omega) h64 HMA.out)
    · have HF := hid hF
      clear hF
      have hrP := rowIs_below Hr.out hbP Hr.out.lt
      have hzP := HZ2.out.trans (hbP.mono HZ2.out.size)
      have f0 := hrP.frozen 0
      have f1 := hrP.frozen 1
      have f2 := hrP.frozen 2
      have x0 := hrP.cell (i := 0) (by omega)
      have x1 := hrP.cell (i := 1) (by omega)
      have x2 := hrP.cell (i := 2) (by omega)
      have xl2 := hrP.lt
      have HC := hid (res_set hrP (.int .i64 0) (.slice none 0 0) (.slice none 0 0))
      simp only [outF] at x0 x1 x2
      clear hrP hbP
      go_wp2_with fail
      have o0 := HC.out.c0
      have o1 := HC.out.c1
      have o2 := HC.out.c2
      exact bodyPost_ret (v := .tuple #[.agg #[.int .i64 0, .slice none 0 0, .slice none 0 0], .int .i64 4]) (by simp [results, Try.results78, go_sem, o0, o1, o2]) rfl (gen_large RE.out HF.out hzP (by omega) h64)
  · have RN := hid hv
    have d1 : (paiE m k == 0) = false := beq_eq_false_iff_ne.2 hv
    have d2 : (paiE m k != 0) = true := by rw [bne, d1]; rfl
    clear hv
    go_enter Try.func78, Try.ntmps78
    go_wp2_with fail
    refine Hv.out.mono ?_; rintro e w1 ⟨rfl, hb1⟩
    have hr' : w1.rowIs (W.heap.size + 1 + 1 + 1) 25 3 (outF 0 (.slice none 0 0) (.slice none 0 0)) := by simpa using res_cells hb1 (by simp)
    have hz := HB.out.trans (hb1.mono HB.out.size)
    have f0 := hr'.frozen 0
    have f1 := hr'.frozen 1
    have f2 := hr'.frozen 2
    have x0 := hr'.cell (i := 0) (by omega)
    have x1 := hr'.cell (i := 1) (by omega)
    have x2 := hr'.cell (i := 2) (by omega)
    have xl2 := hr'.lt
    have HC := hid (res_set hr' (.int .i64 0) (.slice none 0 0) (.slice none 0 0))
    simp only [outF] at x0 x1 x2
    clear hr' hb1
    go_wp2_with fail
    have o0 := HC.out.c0
    have o1 := HC.out.c1
    have o2 := HC.out.c2
    exact bodyPost_ret (v := .tuple #[.agg #[.int .i64 0, .slice none 0 0, .slice none 0 0], .int .i64 (paiE m k)]) (by simp [results, Try.results78, go_sem, o0, o1, o2]) rfl (gen_err RN.out rfl hz (by omega))
end Go.Proofs.Ytmllbemjcfkmjaa
/- 'Both', 'Either', 'Not', 'Plain': what they return. -/
namespace Go.Proofs.Ytmllbemjcfkmjaa
open Go.RowKit Go.Maps
set_option linter.unusedSimpArgs false
set_option linter.unusedVariables false

set_option maxRecDepth 100000 in
set_option maxHeartbeats 2000000 in
theorem Both_any (m k : Mac) (a a2 : Option Addr) (cap cap2 : Nat) (b b2 : Option Addr) (dap dap2 : Nat) (W : World) (hM : MacAt W a cap a2 cap2 m) (hK : MacAt W b dap b2 dap2 k) :
    Calls Try.prog 36 #[.agg #[.int .i64 m.L, .slice a m.nx.length cap, .slice a2 m.ac.length cap2], .agg #[.int .i64 k.L, .slice b k.nx.length dap, .slice b2 k.ac.length dap2]] W (GenPost W (paiE m k) m.L.toNat (jnL wAnd m k)) := by
  have hb0 : Below W.heap.size W (((W.alloc (.cells #[.int .i64 m.L, .slice a m.nx.length cap, .slice a2 m.ac.length cap2] 25)).alloc (.cells #[.int .i64 k.L, .slice b k.nx.length dap, .slice b2 k.ac.length dap2] 25)).alloc (.cells #[.int .i64 0, .slice none 0 0, .slice none 0 0] 25)) := ((below_alloc W _).alloc (by simp) _).alloc (by simp; omega) _
  have Hv := hid (joined79 m k a a2 cap cap2 b b2 dap dap2 (((W.alloc (.cells #[.int .i64 m.L, .slice a m.nx.length cap, .slice a2 m.ac.length cap2] 25)).alloc (.cells #[.int .i64 k.L, .slice b k.nx.length dap, .slice b2 k.ac.length dap2] 25)).alloc (.cells #[.int .i64 0, .slice none 0 0, .slice none 0 0] 25)) (hM.below hb0) (hK.below hb0))
  have HB := hid hb0
  have Hzi := hid (show paiE m k = 0 → m.L = (m.L.toNat : Nat) from fun h => by have := (paiE_zero.1 h).1.l1; omega)
  have Hr : Hid ((((W.alloc (.cells #[.int .i64 m.L, .slice a m.nx.length cap, .slice a2 m.ac.length cap2] 25)).alloc (.cells #[.int .i64 k.L, .slice b k.nx.length dap, .slice b2 k.ac.length dap2] 25)).alloc (.cells #[.int .i64 0, .slice none 0 0, .slice none 0 0] 25)).rowIs (W.heap.size + 1 + 1) 25 3 (outF 0 (.slice none 0 0) (.slice none 0 0))) := hid (by simpa using res_cells (w := (W.alloc (.cells #[.int .i64 m.L, .slice a m.nx.length cap, .slice a2 m.ac.length cap2] 25)).alloc (.cells #[.int .i64 k.L, .slice b k.nx.length dap, .slice b2 k.ac.length dap2] 25)) (Below.refl _ _) rfl)
  have hs : (((W.alloc (.cells #[.int .i64 m.L, .slice a m.nx.length cap, .slice a2 m.ac.length cap2] 25)).alloc (.cells #[.int .i64 k.L, .slice b k.nx.length dap, .slice b2 k.ac.length dap2] 25)).alloc (.cells #[.int .i64 0, .slice none 0 0, .slice none 0 0] 25)).heap.size = W.heap.size + 1 + 1 + 1 := by simp
  have Hs := hid hs
  clear hM hK hb0 hs
  go_enter Try.func36, Try.ntmps36
  go_wp2_with fail
  have hs := Hs.out
  refine (Hv.out).mono ?_
  intro e wP hG
  obtain ⟨hbP, ⟨h0, F, hF, ⟨h64, base, an, cn, ab, cb, hbase, rfl, hMA⟩ | ⟨h64, rfl⟩⟩ | ⟨h0, rfl⟩⟩ := gen_cases hG Hzi.out
  · clear hG
    have H0 := hid h0
    have HF := hid hF
    have HMA := hid hMA
    clear hF hMA h0
    have hrP := rowIs_below Hr.out hbP Hr.out.lt
    have hzP := HB.out.trans (hbP.mono HB.out.size)
    have f0 := hrP.frozen 0
    have f1 := hrP.frozen 1
    have f2 := hrP.frozen 2
    have x0 := hrP.cell (i := 0) (by omega)
    have x1 := hrP.cell (i := 1) (by omega)
    have x2 := hrP.cell (i := 2) (by omega)
    have xl2 := hrP.lt
    have HC := hid (res_set hrP (.int .i64 m.L) (.slice an F.length cn) (.slice ab F.length cb))
    simp only [outF] at x0 x1 x2
    clear hrP hbP
    go_wp2_with fail
    have o0 := HC.out.c0
    have o1 := HC.out.c1
    have o2 := HC.out.c2
    exact bodyPost_ret (v := .tuple #[.agg #[.int .i64 m.L, .slice an F.length cn, .slice ab F.length cb], .int .i64 0]) (by simp [results, Try.results36, go_sem, o0, o1, o2]) rfl (gen_ok H0.out (Hzi.out H0.out) HF.out hzP (by omega) (by omega) h64 HMA.out)
  · clear hG
    have H0 := hid h0
    have HF := hid hF
    clear hF h0
    have hrP := rowIs_below Hr.out hbP Hr.out.lt
    have hzP := HB.out.trans (hbP.mono HB.out.size)
    have f0 := hrP.frozen 0
    have f1 := hrP.frozen 1
    have f2 := hrP.frozen 2
    have x0 := hrP.cell (i := 0) (by omega)
    have x1 := hrP.cell (i := 1) (by omega)
    have x2 := hrP.cell (i := 2) (by omega)
    have xl2 := hrP.lt
    have HC := hid (res_set hrP (.int .i64 0) (.slice none 0 0) (.slice none 0 0))
    simp only [outF] at x0 x1 x2
    clear hrP hbP
    go_wp2_with fail
    have o0 := HC.out.c0
    have o1 := HC.out.c1
    have o2 := HC.out.c2
    exact bodyPost_ret (v := .tuple #[.agg #[.int .i64 0, .slice none 0 0, .slice none 0 0], .int .i64 4]) (by simp [results, Try.results36, go_sem, o0, o1, o2]) rfl (gen_large H0.out HF.out hzP (by omega) h64)
  · clear hG
    have H0 := hid h0
    clear h0
    have hrP := rowIs_below Hr.out hbP Hr.out.lt
    have hzP := HB.out.trans (hbP.mono HB.out.size)
    have f0 := hrP.frozen 0
    have f1 := hrP.frozen 1
    have f2 := hrP.frozen 2
    have x0 := hrP.cell (i := 0) (by omega)
    have x1 := hrP.cell (i := 1) (by omega)
    have x2 := hrP.cell (i := 2) (by omega)
    have xl2 := hrP.lt
    have HC := hid (res_set hrP (.int .i64 0) (.slice none 0 0) (.slice none 0 0))
    simp only [outF] at x0 x1 x2
    clear hrP hbP
    go_wp2_with fail
    have o0 := HC.out.c0
    have o1 := HC.out.c1
    have o2 := HC.out.c2
    exact bodyPost_ret (v := .tuple #[.agg #[.int .i64 0, .slice none 0 0, .slice none 0 0], .int .i64 (paiE m k)]) (by simp [results, Try.results36, go_sem, o0, o1, o2]) rfl (gen_err H0.out rfl hzP (by omega))

set_option maxRecDepth 100000 in
set_option maxHeartbeats 2000000 in
theorem Either_any (m k : Mac) (a a2 : Option Addr) (cap cap2 : Nat) (b b2 : Option Addr) (dap dap2 : Nat) (W : World) (hM : MacAt W a cap a2 cap2 m) (hK : MacAt W b dap b2 dap2 k) :
    Calls Try.prog 38 #[.agg #[.int .i64 m.L, .slice a m.nx.length cap, .slice a2 m.ac.length cap2], .agg #[.int .i64 k.L, .slice b k.nx.length dap, .slice b2 k.ac.length dap2]] W (GenPost W (paiE m k) m.L.toNat (jnL wOr m k)) := by
  have hb0 : Below W.heap.size W (((W.alloc (.cells #[.int .i64 m.L, .slice a m.nx.length cap, .slice a2 m.ac.length cap2] 25)).alloc (.cells #[.int .i64 k.L, .slice b k.nx.length dap, .slice b2 k.ac.length dap2] 25)).alloc (.cells #[.int .i64 0, .slice none 0 0, .slice none 0 0] 25)) := ((below_alloc W _).alloc (by simp) _).alloc (by simp; omega) _
  have Hv := hid (joined81 m k a a2 cap cap2 b b2 dap dap2 (((W.alloc (.cells #[.int .i64 m.L, .slice a m.nx.length cap, .slice a2 m.ac.length cap2] 25)).alloc (.cells #[.int .i64 k.L, .slice b k.nx.length dap, .slice b2 k.ac.length dap2] 25)).alloc (.cells #[.int .i64 0, .slice none 0 0, .slice none 0 0] 25)) (hM.below hb0) (hK.below hb0))
  have HB := hid hb0
  have Hzi := hid (show paiE m k = 0 → m.L = (m.L.toNat : Nat) from fun h => by have := (paiE_zero.1 h).1.l1; omega)
  have Hr : Hid ((((W.alloc (.cells #[.int .i64 m.L, .slice a m.nx.length cap, .slice a2 m.ac.length cap2] 25)).alloc (.cells #[.int .i64 k.L, .slice b k.nx.length dap, .slice b2 k.ac.length dap2] 25)).alloc (.cells #[.int .i64 0, .slice none 0 0, .slice none 0 0] 25)).rowIs (W.heap.size + 1 + 1) 25 3 (outF 0 (.slice none 0 0) (.slice none 0 0))) := hid (by simpa using res_cells (w := (W.alloc (.cells #[.int .i64 m.L, .slice a m.nx.length cap, .slice a2 m.ac.length cap2] 25)).alloc (.cells #[.int .i64 k.L, .slice b k.nx.length dap, .slice b2 k.ac.length dap2] 25)) (Below.refl _ _) rfl)
  have hs : (((W.alloc (.cells #[.int .i64 m.L, .slice a m.nx.length cap, .slice a2 m.ac.length cap2] 25)).alloc (.cells #[.int .i64 k.L, .slice b k.nx.length dap, .slice b2 k.ac.length dap2] 25)).alloc (.cells #[.int .i64 0, .slice none 0 0, .slice none 0 0] 25)).heap.size = W.heap.size + 1 + 1 + 1 := by simp
  have Hs := hid hs
  clear hM hK hb0 hs
  go_enter Try.func38, Try.ntmps38
  go_wp2_with fail
  have hs := Hs.out
  refine (Hv.out).mono ?_
  intro e wP hG
  obtain ⟨hbP, ⟨h0, F, hF, ⟨h64, base, an, cn, ab, cb, hbase, rfl, hMA⟩ | ⟨h64, rfl⟩⟩ | ⟨h0, rfl⟩⟩ := gen_cases hG Hzi.out
  · clear hG
    have H0 := hid h0
    have HF := hid hF
    have HMA := hid hMA
    clear hF hMA h0
    have hrP := rowIs_below Hr.out hbP Hr.out.lt
    have hzP := HB.out.trans (hbP.mono HB.out.size)
    have f0 := hrP.frozen 0
    have f1 := hrP.frozen 1
    have f2 := hrP.frozen 2
    have x0 := hrP.cell (i := 0) (by omega)
    have x1 := hrP.cell (i := 1) (by omega)
    have x2 := hrP.cell (i := 2) (by omega)
    have xl2 := hrP.lt
    have HC := hid (res_set hrP (.int .i64 m.L) (.slice an F.length cn) (.slice ab F.length cb))
    simp only [outF] at x0 x1 x2
    clear hrP hbP
    go_wp2_with fail
    have o0 := HC.out.c0
    have o1 := HC.out.c1
    have o2 := HC.out.c2
    exact bodyPost_ret (v := .tuple #[.agg #[.int .i64 m.L, .slice an F.length cn, .slice ab F.length cb], .int .i64 0]) (by simp [results, Try.results38, go_sem, o0, o1, o2]) rfl (gen_ok H0.out (Hzi.out H0.out) HF.out hzP (by omega) (by omega) h64 HMA.out)
  · clear hG
    have H0 := hid h0
    have HF := hid hF
    clear hF h0
    have hrP := rowIs_below Hr.out hbP Hr.out.lt
    have hzP := HB.out.trans (hbP.mono HB.out.size)
    have f0 := hrP.frozen 0
    have f1 := hrP.frozen 1
    have f2 := hrP.frozen 2
    have x0 := hrP.cell (i := 0) (by omega)
    have x1 := hrP.cell (i := 1) (by omega)
    have x2 := hrP.cell (i := 2) (by omega)
    have xl2 := hrP.lt
    have HC := hid (res_set hrP (.int .i64 0) (.slice none 0 0) (.slice none 0 0))
    simp only [outF] at x0 x1 x2
    clear hrP hbP
    go_wp2_with fail
    have o0 := HC.out.c0
    have o1 := HC.out.c1
    have o2 := HC.out.c2
    exact bodyPost_ret (v := .tuple #[.agg #[.int .i64 0, .slice none 0 0, .slice none 0 0], .int .i64 4]) (by simp [results, Try.results38, go_sem, o0, o1, o2]) rfl (gen_large H0.out HF.out hzP (by omega) h64)
  · clear hG
    have H0 := hid h0
    clear h0
    have hrP := rowIs_below Hr.out hbP Hr.out.lt
    have hzP := HB.out.trans (hbP.mono HB.out.size)
    have f0 := hrP.frozen 0
    have f1 := hrP.frozen 1
    have f2 := hrP.frozen 2
    have x0 := hrP.cell (i := 0) (by omega)
    have x1 := hrP.cell (i := 1) (by omega)
    have x2 := hrP.cell (i := 2) (by omega)
    have xl2 := hrP.lt
    have HC := hid (res_set hrP (.int .i64 0) (.slice none 0 0) (.slice none 0 0))
    simp only [outF] at x0 x1 x2
    clear hrP hbP
    go_wp2_with fail
    have o0 := HC.out.c0
    have o1 := HC.out.c1
    have o2 := HC.out.c2
    exact bodyPost_ret (v := .tuple #[.agg #[.int .i64 0, .slice none 0 0, .slice none 0 0], .int .i64 (paiE m k)]) (by simp [results, Try.results38, go_sem, o0, o1, o2]) rfl (gen_err H0.out rfl hzP (by omega))

set_option maxRecDepth 100000 in
set_option maxHeartbeats 2000000 in
theorem Not_any (m : Mac) (a a2 : Option Addr) (cap cap2 : Nat) (W : World) (hM : MacAt W a cap a2 cap2 m) :
    Calls Try.prog 50 #[.agg #[.int .i64 m.L, .slice a m.nx.length cap, .slice a2 m.ac.length cap2]] W (GenPost W (paiE m m) m.L.toNat (jnL wNot m m)) := by
  have hb0 : Below W.heap.size W ((W.alloc (.cells #[.int .i64 m.L, .slice a m.nx.length cap, .slice a2 m.ac.length cap2] 25)).alloc (.cells #[.int .i64 0, .slice none 0 0, .slice none 0 0] 25)) := (below_alloc W _).alloc (by simp) _
  have Hv := hid (joined92 m m a a2 cap cap2 a a2 cap cap2 ((W.alloc (.cells #[.int .i64 m.L, .slice a m.nx.length cap, .slice a2 m.ac.length cap2] 25)).alloc (.cells #[.int .i64 0, .slice none 0 0, .slice none 0 0] 25)) (hM.below hb0) (hM.below hb0))
  have HB := hid hb0
  have Hzi := hid (show paiE m m = 0 → m.L = (m.L.toNat : Nat) from fun h => by have := (paiE_zero.1 h).1.l1; omega)
  have Hr : Hid (((W.alloc (.cells #[.int .i64 m.L, .slice a m.nx.length cap, .slice a2 m.ac.length cap2] 25)).alloc (.cells #[.int .i64 0, .slice none 0 0, .slice none 0 0] 25)).rowIs (W.heap.size + 1) 25 3 (outF 0 (.slice none 0 0) (.slice none 0 0))) := hid (by simpa using res_cells (w := W.alloc (.cells #[.int .i64 m.L, .slice a m.nx.length cap, .slice a2 m.ac.length cap2] 25)) (Below.refl _ _) rfl)
  have hs : ((W.alloc (.cells #[.int .i64 m.L, .slice a m.nx.length cap, .slice a2 m.ac.length cap2] 25)).alloc (.cells #[.int .i64 0, .slice none 0 0, .slice none 0 0] 25)).heap.size = W.heap.size + 1 + 1 := by simp
  have Hs := hid hs
  clear hM hb0 hs
  go_enter Try.func50, Try.ntmps50
  go_wp2_with fail
  have hs := Hs.out
  refine (Hv.out).mono ?_
  intro e wP hG
  obtain ⟨hbP, ⟨h0, F, hF, ⟨h64, base, an, cn, ab, cb, hbase, rfl, hMA⟩ | ⟨h64, rfl⟩⟩ | ⟨h0, rfl⟩⟩ := gen_cases hG Hzi.out
  · clear hG
    have H0 := hid h0
    have HF := hid hF
    have HMA := hid hMA
    clear hF hMA h0
    have hrP := rowIs_below Hr.out hbP Hr.out.lt
    have hzP := HB.out.trans (hbP.mono HB.out.size)
    have f0 := hrP.frozen 0
    have f1 := hrP.frozen 1
    have f2 := hrP.frozen 2
    have x0 := hrP.cell (i := 0) (by omega)
    have x1 := hrP.cell (i := 1) (by omega)
    have x2 := hrP.cell (i := 2) (by omega)
    have xl2 := hrP.lt
    have HC := hid (res_set hrP (.int .i64 m.L) (.slice an F.length cn) (.slice ab F.length cb))
    simp only [outF] at x0 x1 x2
    clear hrP hbP
    go_wp2_with fail
    have o0 := HC.out.c0
    have o1 := HC.out.c1
    have o2 := HC.out.c2
    exact bodyPost_ret (v := .tuple #[.agg #[.int .i64 m.L, .slice an F.length cn, .slice ab F.length cb], .int .i64 0]) (by simp [results, Try.results50, go_sem, o0, o1, o2]) rfl (gen_ok H0.out (Hzi.out H0.out) HF.out hzP (by omega) (by omega) h64 HMA.out)
  · clear hG
    have H0 := hid h0
    have HF := hid hF
    clear hF h0
    have hrP := rowIs_below Hr.out hbP Hr.out.lt
    have hzP := HB.out.trans (hbP.mono HB.out.size)
    have f0 := hrP.frozen 0
    have f1 := hrP.frozen 1
    have f2 := hrP.frozen 2
    have x0 := hrP.cell (i := 0) (by omega)
    have x1 := hrP.cell (i := 1) (by omega)
    have x2 := hrP.cell (i := 2) (by omega)
    have xl2 := hrP.lt
    have HC := hid (res_set hrP (.int .i64 0) (.slice none 0 0) (.slice none 0 0))
    simp only [outF] at x0 x1 x2
    clear hrP hbP
    go_wp2_with fail
    have o0 := HC.out.c0
    have o1 := HC.out.c1
    have o2 := HC.out.c2
    exact bodyPost_ret (v := .tuple #[.agg #[.int .i64 0, .slice none 0 0, .slice none 0 0], .int .i64 4]) (by simp [results, Try.results50, go_sem, o0, o1, o2]) rfl (gen_large H0.out HF.out hzP (by omega) h64)
  · clear hG
    have H0 := hid h0
    clear h0
    have hrP := rowIs_below Hr.out hbP Hr.out.lt
    have hzP := HB.out.trans (hbP.mono HB.out.size)
    have f0 := hrP.frozen 0
    have f1 := hrP.frozen 1
    have f2 := hrP.frozen 2
    have x0 := hrP.cell (i := 0) (by omega)
    have x1 := hrP.cell (i := 1) (by omega)
    have x2 := hrP.cell (i := 2) (by omega)
    have xl2 := hrP.lt
    have HC := hid (res_set hrP (.int .i64 0) (.slice none 0 0) (.slice none 0 0))
    simp only [outF] at x0 x1 x2
    clear hrP hbP
    go_wp2_with fail
    have o0 := HC.out.c0
    have o1 := HC.out.c1
    have o2 := HC.out.c2
    exact bodyPost_ret (v := .tuple #[.agg #[.int .i64 0, .slice none 0 0, .slice none 0 0], .int .i64 (paiE m m)]) (by simp [results, Try.results50, go_sem, o0, o1, o2]) rfl (gen_err H0.out rfl hzP (by omega))
end Go.Proofs.Ytmllbemjcfkmjaa
/- What a call that gives a machine or an error leaves, in one form; counting the words of two machines side by side; boxes. -/
namespace Go.Proofs.Ytmllbemjcfkmjaa
open Go.RowKit
set_option linter.unusedSimpArgs false
set_option linter.unusedVariables false

theorem BoxAt.below {H : Nat} {w w' : World} {x y z : Value} (h : BoxAt H w x y z) (hb : Below w.heap.size w w') : BoxAt H w' x y z :=
  ⟨(hb.cell (p := ⟨H, 0, none⟩) h.lt).trans h.c0, (hb.cell (p := ⟨H, 1, none⟩) h.lt).trans h.c1, (hb.cell (p := ⟨H, 2, none⟩) h.lt).trans h.c2, Nat.lt_of_lt_of_le h.lt hb.size⟩
theorem box_new (w : World) (x y z : Value) (t : TypeId) : BoxAt w.heap.size (w.alloc (.cells #[x, y, z] t)) x y z := box_at (B := w.heap.size + 1) (Below.refl _ _) rfl
theorem mac_nx (L : Nat) (F : List Lang) : (macOf L F).nx.length = F.length := by show (canNext L F).length = _; simp [canNext]
theorem mac_acl (L : Nat) (F : List Lang) : (macOf L F).ac.length = F.length := by show (canAcc F).length = _; simp [canAcc]
/-- What the call gave: a machine with a number, its rows and answers; no error: it is the plain form. -/
structure GenOne (E : Int) (L : Nat) (la : Lang) (w' : World) (z : Int) (an : Option Addr) (p cn : Nat) (ab : Option Addr) (q cb : Nat) (E' : Int) (F : List Lang) : Prop where
  ok : E = 0
  fnd : Found (succL L) la F
  le : F.length ≤ 64
  z : z = L
  p : p = F.length
  q : q = F.length
  mac : MacAt w' an cn ab cb (macOf L F)
def GenE (W : World) (E : Int) (L : Nat) (la : Lang) (e : Ending) (w' : World) : Prop :=
  ∃ z an p cn ab q cb E', e = .returned (.tuple #[.agg #[.int .i64 z, .slice an p cn, .slice ab q cb], .int .i64 E']) ∧ Below W.heap.size W w' ∧ (E' = 0 → ∃ F, GenOne E L la w' z an p cn ab q cb E' F) ∧
    ((E ≠ 0 ∧ E' = E) ∨ (E = 0 ∧ (E' = 0 ∨ E' = 4)))
theorem gen_one {W : World} {E : Int} {L : Nat} {la : Lang} {e : Ending} {w' : World} (h : GenPost W E L la e w') : GenE W E L la e w' := by
  obtain ⟨hb, ⟨h0, F, hF, ⟨h64, base, an, cn, ab, cb, _, rfl, hM⟩ | ⟨h64, rfl⟩⟩ | ⟨h0, rfl⟩⟩ := gen_cases h (z := (L : Int)) fun _ => rfl
  · obtain ⟨a1, k1, a2, k2, e1, e2, hA⟩ := hM.mac
    cases e1
    cases e2
    exact ⟨L, _, _, _, _, _, _, 0, rfl, hb, fun _ => ⟨F, h0, hF, h64, rfl, rfl, rfl, hA⟩, .inr ⟨h0, .inl rfl⟩⟩
  · exact ⟨0, none, 0, 0, none, 0, 0, 4, rfl, hb, (fun h => by cases h), .inr ⟨h0, .inr rfl⟩⟩
  · exact ⟨0, none, 0, 0, none, 0, 0, E, rfl, hb, (fun h => absurd h h0), .inl ⟨h0, rfl⟩⟩
/-- A contract on the plain form's machine, its numbers spelled as they lie. -/
theorem form_args {L : Nat} {F : List Lang} {z : Int} {p q : Nat} (hz : z = L) (hp : p = F.length) (hq : q = F.length) (an ab : Option Addr) (cn cb : Nat) :
    Value.agg #[.int .i64 z, .slice an p cn, .slice ab q cb] = .agg #[.int .i64 (macOf L F).L, .slice an (macOf L F).nx.length cn, .slice ab (macOf L F).ac.length cb] := by
  rw [mac_nx, mac_acl, hz, hp, hq]
  rfl
theorem good_lt {L : Nat} {l : Lang} (hg : Good L l) (w : List Nat) : (∀ a, a ∈ w → a < L) ∨ l w = false := by
  by_cases h : ∀ a, a ∈ w → a < L
  · exact .inl h
  · refine .inr (hg w ?_)
    simp only [Classical.not_forall] at h
    obtain ⟨a, ha, hl⟩ := h
    exact ⟨a, ha, by omega⟩
theorem jnL_at {m k : Mac} (hp : paiE m k = 0) (f : Bool → Bool → Bool) (w : List Nat) (hw : ∀ a, a ∈ w → a < macL m) : jnL f m k w = f (langM m w) (langM k w) := by
  obtain ⟨hm, hk, hL⟩ := paiE_zero.1 hp
  have n1 := hm.n1
  have k1 := hk.n1
  have h := jn_lang hm hk hL f w 0 (by omega) (Int.mul_pos (by omega) (by omega)) hw
  rw [Int.zero_ediv, Int.zero_emod] at h
  exact h
theorem jnL_good (f : Bool → Bool → Bool) (m k : Mac) : Good m.L.toNat (jnL f m k) := laA_good _ _ _ _
theorem langM_good (m : Mac) : Good (macL m) (langM m) := laA_good _ _ _ _
theorem jnL_mono {m k : Mac} (hp : paiE m k = 0) {f : Bool → Bool → Bool} (h0 : f false false = false) : jnL f m k = fun w => f (langM m w) (langM k w) := by
  funext w
  by_cases h : ∀ a, a ∈ w → a < macL m
  · exact jnL_at hp f w h
  · simp only [Classical.not_forall] at h
    obtain ⟨a, ha, hl⟩ := h
    have hl' : macL m ≤ a := by omega
    have e : macL k = macL m := by unfold macL; rw [(paiE_zero.1 hp).2.2]
    rw [jnL_good f m k w ⟨a, ha, hl'⟩]
    show false = f (langM m w) (langM k w)
    rw [langM_good m w ⟨a, ha, hl'⟩, langM_good k w ⟨a, ha, by omega⟩, h0]
theorem count_pairs {m k : Mac} (hp : paiE m k = 0) {F G : List Lang} (hF : Found (succL m.L.toNat) (jnL wAnd m k) F) (hG : Found (succL m.L.toNat) (jnL wOr m k) G) (n : Nat) :
    cnt (macOf m.L.toNat F) n 0 + cnt (macOf m.L.toNat G) n 0 = cnt m n 0 + cnt k n 0 := by
  have e : macL k = macL m := by unfold macL; rw [(paiE_zero.1 hp).2.2]
  have eL : ∀ F, macL (macOf m.L.toNat F) = macL m := fun F => by show ((m.L.toNat : Int)).toNat = _; rw [Int.toNat_natCast]; rfl
  rw [cnt_langM, cnt_langM, cnt_langM, cnt_langM, eL, eL, e, form_langM hF (jnL_good _ _ _), form_langM hG (jnL_good _ _ _), jnL_mono hp (f := wAnd) rfl, jnL_mono hp (f := wOr) rfl]
  exact cL_both _ _ _ _
end Go.Proofs.Ytmllbemjcfkmjaa
