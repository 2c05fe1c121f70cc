/- The error of two machines: what it is. -/
import Derived.Test.YtmllbemjcfkmjaaErr
namespace Go.Proofs.Ytmllbemjcfkmjaa
open Go.RowKit
set_option linter.unusedSimpArgs false
set_option linter.unusedVariables false

noncomputable def paiE (m k : Mac) : Int := if valE m = 0 then (if valE k = 0 then (if m.L = k.L then 0 else 1) else valE k) else valE m
theorem pai_1 {m k : Mac} (h : valE m ≠ 0) : paiE m k = valE m := by unfold paiE; rw [if_neg h]
theorem pai_2 {m k : Mac} (h : valE m = 0) (h2 : valE k ≠ 0) : paiE m k = valE k := by unfold paiE; rw [if_pos h, if_neg h2]
theorem pai_3 {m k : Mac} (h : valE m = 0) (h2 : valE k = 0) (h3 : m.L ≠ k.L) : paiE m k = 1 := by unfold paiE; rw [if_pos h, if_pos h2, if_neg h3]
theorem pai_0 {m k : Mac} (h : valE m = 0) (h2 : valE k = 0) (h3 : m.L = k.L) : paiE m k = 0 := by unfold paiE; rw [if_pos h, if_pos h2, if_pos h3]
theorem paiE_zero {m k : Mac} : paiE m k = 0 ↔ MacOK m ∧ MacOK k ∧ m.L = k.L := by
  by_cases h : valE m = 0
  · by_cases h2 : valE k = 0
    · by_cases h3 : m.L = k.L
      · rw [pai_0 h h2 h3]
        exact ⟨fun _ => ⟨valE_zero.1 h, valE_zero.1 h2, h3⟩, fun _ => rfl⟩
      · rw [pai_3 h h2 h3]
        exact ⟨(fun h => by cases h), fun h4 => absurd h4.2.2 h3⟩
    · rw [pai_2 h h2]
      exact ⟨fun h3 => absurd h3 h2, fun h3 => absurd (valE_ok h3.2.1) h2⟩
  · rw [pai_1 h]
    exact ⟨fun h3 => absurd h3 h, fun h3 => absurd (valE_ok h3.1) h⟩
def macB (m : Mac) (a a2 : Option Addr) (cap cap2 : Nat) : Obj := .cells #[.int .i64 m.L, .slice a m.nx.length cap, .slice a2 m.ac.length cap2] 25
/-- Two machines in boxes, one behind the other. -/
theorem box_two {W w : World} {o o' : Obj} {B : Nat} (h : Below B ((W.alloc o).alloc o') w) (hB : B = W.heap.size + 2) : Below (W.heap.size + 1) (W.alloc o) w := by
  subst hB
  have h0 : Below (W.heap.size + 1) (W.alloc o) ((W.alloc o).alloc o') := (Below.refl _ _).alloc (by simp) _
  exact h0.trans (h.mono (by omega))
theorem box_fst {W w : World} {x y z : Value} {t : TypeId} {o' : Obj} {B : Nat} (h : Below B ((W.alloc (.cells #[x, y, z] t)).alloc o') w) (hB : B = W.heap.size + 2) : BoxAt W.heap.size w x y z :=
  box_at (box_two h hB) rfl
theorem box_snd {W w : World} {x y z : Value} {t : TypeId} {o : Obj} {B : Nat} (h : Below B ((W.alloc o).alloc (.cells #[x, y, z] t)) w) (hB : B = W.heap.size + 2) : BoxAt (W.heap.size + 1) w x y z := by
  have hs : (W.alloc o).heap.size = W.heap.size + 1 := by simp
  have := box_at (W := W.alloc o) h (by rw [hB, hs])
  rw [hs] at this
  exact this

set_option maxRecDepth 100000 in
set_option maxHeartbeats 1000000 in
theorem pair_any (m k : Mac) (a a2 : Option Addr) (cap cap2 : Nat) (b b2 : Option Addr) (dap dap2 : Nat) (W : World) (hM : MacAt W a cap a2 cap2 m) (hK : MacAt W b dap b2 dap2 k) :
    Calls Try.prog 95 #[.agg #[.int .i64 m.L, .slice a m.nx.length cap, .slice a2 m.ac.length cap2], .agg #[.int .i64 k.L, .slice b k.nx.length dap, .slice b2 k.ac.length dap2]] W fun e w' => e = .returned (.int .i64 (paiE m k)) ∧ Below W.heap.size W w' := by
  have hb0 : Below W.heap.size W ((W.alloc (.cells #[.int .i64 m.L, .slice a m.nx.length cap, .slice a2 m.ac.length cap2] 25)).alloc (.cells #[.int .i64 k.L, .slice b k.nx.length dap, .slice b2 k.ac.length dap2] 25)) := (below_alloc W _).alloc (by simp) _
  have HM := hid (hM.below hb0)
  have HK := hid (hK.below hb0)
  have HB := hid hb0
  have Hv := hid (Validate_any m a a2 cap cap2 ((W.alloc (.cells #[.int .i64 m.L, .slice a m.nx.length cap, .slice a2 m.ac.length cap2] 25)).alloc (.cells #[.int .i64 k.L, .slice b k.nx.length dap, .slice b2 k.ac.length dap2] 25)) HM.out)
  clear hM hK hb0
  by_cases hv : valE m = 0
  · rw [hv] at Hv
    by_cases hk : valE k = 0
    · by_cases hL : m.L = k.L
      · have R := hid (pai_0 hv hk hL)
        have d1 : (m.L == k.L) = true := beq_iff_eq.2 hL
        have d2 : (m.L != k.L) = false := by rw [bne, d1]; rfl
        have Hk := hid hk
        clear hv hL hk
        go_enter Try.func95, Try.ntmps95
        go_wp2_with fail
        refine Hv.out.mono ?_; rintro e w1 ⟨rfl, hb1⟩
        have hX := box_fst hb1 (by simp)
        have hY := box_snd hb1 (by simp)
        have x0 := hX.c0
        have y0 := hY.c0
        have y1 := hY.c1
        have y2 := hY.c2
        have xl := hX.lt
        have yl := hY.lt
        have HB1 := hid (HB.out.trans (hb1.mono HB.out.size))
        have Hv2 := Validate_any k b b2 dap dap2 w1 (HK.out.below hb1)
        rw [Hk.out] at Hv2
        have Hv2 := hid Hv2
        clear hX hY hb1
        go_wp2_with fail
        refine Hv2.out.mono ?_; rintro e w2 ⟨rfl, hb2⟩
        have u0 := (hb2.cell (p := ⟨W.heap.size, 0, none⟩) xl).trans x0
        have v0 := (hb2.cell (p := ⟨W.heap.size + 1, 0, none⟩) yl).trans y0
        have ul : W.heap.size + 1 < w2.heap.size := by have := hb2.size; omega
        have hz := HB1.out.trans (hb2.mono HB1.out.size)
        clear hb2 x0 y0 y1 y2 xl yl
        go_wp2_with fail
        go_ret
        exact ⟨by rw [R.out]; rfl, hz⟩
      · have R := hid (pai_3 hv hk hL)
        have d1 : (m.L == k.L) = false := beq_eq_false_iff_ne.2 hL
        have d2 : (m.L != k.L) = true := by rw [bne, d1]; rfl
        have Hk := hid hk
        clear hv hL hk
        go_enter Try.func95, Try.ntmps95
        go_wp2_with fail
        refine Hv.out.mono ?_; rintro e w1 ⟨rfl, hb1⟩
        have hX := box_fst hb1 (by simp)
        have hY := box_snd hb1 (by simp)
        have x0 := hX.c0
        have y0 := hY.c0
        have y1 := hY.c1
        have y2 := hY.c2
        have xl := hX.lt
        have yl := hY.lt
        have HB1 := hid (HB.out.trans (hb1.mono HB.out.size))
        have Hv2 := Validate_any k b b2 dap dap2 w1 (HK.out.below hb1)
        rw [Hk.out] at Hv2
        have Hv2 := hid Hv2
        clear hX hY hb1
        go_wp2_with fail
        refine Hv2.out.mono ?_; rintro e w2 ⟨rfl, hb2⟩
        have u0 := (hb2.cell (p := ⟨W.heap.size, 0, none⟩) xl).trans x0
        have v0 := (hb2.cell (p := ⟨W.heap.size + 1, 0, none⟩) yl).trans y0
        have ul : W.heap.size + 1 < w2.heap.size := by have := hb2.size; omega
        have hz := HB1.out.trans (hb2.mono HB1.out.size)
        clear hb2 x0 y0 y1 y2 xl yl
        go_wp2_with fail
        go_ret
        exact ⟨by rw [R.out]; rfl, hz⟩
    · have R := hid (pai_2 hv hk)
      have d1 : (valE k == 0) = false := beq_eq_false_iff_ne.2 hk
      have d2 : (valE k != 0) = true := by rw [bne, d1]; rfl
      clear hv hk
      go_enter Try.func95, Try.ntmps95
      go_wp2_with fail
      refine Hv.out.mono ?_; rintro e w1 ⟨rfl, hb1⟩
      have hY := box_snd hb1 (by simp)
      have y0 := hY.c0
      have y1 := hY.c1
      have y2 := hY.c2
      have yl := hY.lt
      have HB1 := hid (HB.out.trans (hb1.mono HB.out.size))
      have Hv2 := hid (Validate_any k b b2 dap dap2 w1 (HK.out.below hb1))
      clear hY hb1
      go_wp2_with fail
      refine Hv2.out.mono ?_; rintro e w2 ⟨rfl, hb2⟩
      have hz := HB1.out.trans (hb2.mono HB1.out.size)
      clear hb2 y0 y1 y2 yl
      go_wp2_with fail
      go_ret
      exact ⟨by rw [R.out]; rfl, hz⟩
  · have R := hid (pai_1 (k := k) hv)
    have d1 : (valE m == 0) = false := beq_eq_false_iff_ne.2 hv
    have d2 : (valE m != 0) = true := by rw [bne, d1]; rfl
    clear hv
    go_enter Try.func95, Try.ntmps95
    go_wp2_with fail
    refine Hv.out.mono ?_; rintro e w1 ⟨rfl, hb1⟩
    have hz := HB.out.trans (hb1.mono HB.out.size)
    clear hb1
    go_wp2_with fail
    go_ret
    exact ⟨by rw [R.out]; rfl, hz⟩

set_option maxRecDepth 100000 in
set_option maxHeartbeats 1000000 in
theorem rpair_any (m k : Mac) (a a2 : Option Addr) (cap cap2 : Nat) (b b2 : Option Addr) (dap dap2 : Nat) (W : World) (hM : MacAt W a cap a2 cap2 m) (hK : MacAt W b dap b2 dap2 k) :
    Calls Try.prog 97 #[.agg #[.int .i64 m.L, .slice a m.nx.length cap, .slice a2 m.ac.length cap2], .agg #[.int .i64 k.L, .slice b k.nx.length dap, .slice b2 k.ac.length dap2]] W fun e w' => e = .returned (.int .i64 (paiE m k)) ∧ Below W.heap.size W w' := by
  have hb0 : Below W.heap.size W ((W.alloc (.cells #[.int .i64 m.L, .slice a m.nx.length cap, .slice a2 m.ac.length cap2] 25)).alloc (.cells #[.int .i64 k.L, .slice b k.nx.length dap, .slice b2 k.ac.length dap2] 25)) := (below_alloc W _).alloc (by simp) _
  have HM := hid (hM.below hb0)
  have HK := hid (hK.below hb0)
  have HB := hid hb0
  have Hv := hid (rValidate_any m a a2 cap cap2 ((W.alloc (.cells #[.int .i64 m.L, .slice a m.nx.length cap, .slice a2 m.ac.length cap2] 25)).alloc (.cells #[.int .i64 k.L, .slice b k.nx.length dap, .slice b2 k.ac.length dap2] 25)) HM.out)
  clear hM hK hb0
  by_cases hv : valE m = 0
  · rw [hv] at Hv
    by_cases hk : valE k = 0
    · by_cases hL : m.L = k.L
      · have R := hid (pai_0 hv hk hL)
        have d1 : (m.L == k.L) = true := beq_iff_eq.2 hL
        have d2 : (m.L != k.L) = false := by rw [bne, d1]; rfl
        have Hk := hid hk
        clear hv hL hk
        go_enter Try.func97, Try.ntmps97
        go_wp2_with fail
        refine Hv.out.mono ?_; rintro e w1 ⟨rfl, hb1⟩
        have hX := box_fst hb1 (by simp)
        have hY := box_snd hb1 (by simp)
        have x0 := hX.c0
        have y0 := hY.c0
        have y1 := hY.c1
        have y2 := hY.c2
        have xl := hX.lt
        have yl := hY.lt
        have HB1 := hid (HB.out.trans (hb1.mono HB.out.size))
        have Hv2 := rValidate_any k b b2 dap dap2 w1 (HK.out.below hb1)
        rw [Hk.out] at Hv2
        have Hv2 := hid Hv2
        clear hX hY hb1
        go_wp2_with fail
        refine Hv2.out.mono ?_; rintro e w2 ⟨rfl, hb2⟩
        have u0 := (hb2.cell (p := ⟨W.heap.size, 0, none⟩) xl).trans x0
        have v0 := (hb2.cell (p := ⟨W.heap.size + 1, 0, none⟩) yl).trans y0
        have ul : W.heap.size + 1 < w2.heap.size := by have := hb2.size; omega
        have hz := HB1.out.trans (hb2.mono HB1.out.size)
        clear hb2 x0 y0 y1 y2 xl yl
        go_wp2_with fail
        go_ret
        exact ⟨by rw [R.out]; rfl, hz⟩
      · have R := hid (pai_3 hv hk hL)
        have d1 : (m.L == k.L) = false := beq_eq_false_iff_ne.2 hL
        have d2 : (m.L != k.L) = true := by rw [bne, d1]; rfl
        have Hk := hid hk
        clear hv hL hk
        go_enter Try.func97, Try.ntmps97
        go_wp2_with fail
        refine Hv.out.mono ?_; rintro e w1 ⟨rfl, hb1⟩
        have hX := box_fst hb1 (by simp)
        have hY := box_snd hb1 (by simp)
        have x0 := hX.c0
        have y0 := hY.c0
        have y1 := hY.c1
        have y2 := hY.c2
        have xl := hX.lt
        have yl := hY.lt
        have HB1 := hid (HB.out.trans (hb1.mono HB.out.size))
        have Hv2 := rValidate_any k b b2 dap dap2 w1 (HK.out.below hb1)
        rw [Hk.out] at Hv2
        have Hv2 := hid Hv2
        clear hX hY hb1
        go_wp2_with fail
        refine Hv2.out.mono ?_; rintro e w2 ⟨rfl, hb2⟩
        have u0 := (hb2.cell (p := ⟨W.heap.size, 0, none⟩) xl).trans x0
        have v0 := (hb2.cell (p := ⟨W.heap.size + 1, 0, none⟩) yl).trans y0
        have ul : W.heap.size + 1 < w2.heap.size := by have := hb2.size; omega
        have hz := HB1.out.trans (hb2.mono HB1.out.size)
        clear hb2 x0 y0 y1 y2 xl yl
        go_wp2_with fail
        go_ret
        exact ⟨by rw [R.out]; rfl, hz⟩
    · have R := hid (pai_2 hv hk)
      have d1 : (valE k == 0) = false := beq_eq_false_iff_ne.2 hk
      have d2 : (valE k != 0) = true := by rw [bne, d1]; rfl
      clear hv hk
      go_enter Try.func97, Try.ntmps97
      go_wp2_with fail
      refine Hv.out.mono ?_; rintro e w1 ⟨rfl, hb1⟩
      have hY := box_snd hb1 (by simp)
      have y0 := hY.c0
      have y1 := hY.c1
      have y2 := hY.c2
      have yl := hY.lt
      have HB1 := hid (HB.out.trans (hb1.mono HB.out.size))
      have Hv2 := hid (rValidate_any k b b2 dap dap2 w1 (HK.out.below hb1))
      clear hY hb1
      go_wp2_with fail
      refine Hv2.out.mono ?_; rintro e w2 ⟨rfl, hb2⟩
      have hz := HB1.out.trans (hb2.mono HB1.out.size)
      clear hb2 y0 y1 y2 yl
      go_wp2_with fail
      go_ret
      exact ⟨by rw [R.out]; rfl, hz⟩
  · have R := hid (pai_1 (k := k) hv)
    have d1 : (valE m == 0) = false := beq_eq_false_iff_ne.2 hv
    have d2 : (valE m != 0) = true := by rw [bne, d1]; rfl
    clear hv
    go_enter Try.func97, Try.ntmps97
    go_wp2_with fail
    refine Hv.out.mono ?_; rintro e w1 ⟨rfl, hb1⟩
    have hz := HB.out.trans (hb1.mono HB.out.size)
    clear hb1
    go_wp2_with fail
    go_ret
    exact ⟨by rw [R.out]; rfl, hz⟩
end Go.Proofs.Ytmllbemjcfkmjaa
