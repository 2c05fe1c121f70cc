/- 'joined', 'Both', 'Either', 'Not': what they return. -/
import Derived.Test.YtmllbemjcfkmjaaPlainW
import Derived.Test.YtmllbemjcfkmjaaJoin
import Derived.Test.YtmllbemjcfkmjaaZed
namespace Go.Proofs.Ytmllbemjcfkmjaa
open Go.RowKit Go.Maps
set_option linter.unusedSimpArgs false
set_option linter.unusedVariables false

def jnL (f : Bool → Bool → Bool) (m k : Mac) : Lang := laA m.L.toNat (jnS m k) (jnA f m k) 0

set_option maxRecDepth 100000 in
set_option maxHeartbeats 4000000 in
theorem joined79 (m k : Mac) (a a2 : Option Addr) (cap cap2 : Nat) (b b2 : Option Addr) (dap dap2 : Nat) (W : World) (hM : MacAt W a cap a2 cap2 m) (hK : MacAt W b dap b2 dap2 k) :
    Calls Try.prog 78 #[.agg #[.int .i64 m.L, .slice a m.nx.length cap, .slice a2 m.ac.length cap2], .agg #[.int .i64 k.L, .slice b k.nx.length dap, .slice b2 k.ac.length dap2], .func (.func 79) #[] #[]] W (GenPost W (paiE m k) m.L.toNat (jnL wAnd m k)) := by
  have hb0 : Below W.heap.size W ((((W.alloc (.cells #[.int .i64 m.L, .slice a m.nx.length cap, .slice a2 m.ac.length cap2] 25)).alloc (.cells #[.int .i64 k.L, .slice b k.nx.length dap, .slice b2 k.ac.length dap2] 25)).alloc (.cells #[.func (.func 79) #[] #[]] 86)).alloc (.cells #[.int .i64 0, .slice none 0 0, .slice none 0 0] 25)) := (((below_alloc W _).alloc (by simp) _).alloc (by simp; omega) _).alloc (by simp; omega) _
  have HM := hid (hM.below hb0)
  have HK := hid (hK.below hb0)
  have HB := hid hb0
  have Hv := hid (pair_any m k a a2 cap cap2 b b2 dap dap2 ((((W.alloc (.cells #[.int .i64 m.L, .slice a m.nx.length cap, .slice a2 m.ac.length cap2] 25)).alloc (.cells #[.int .i64 k.L, .slice b k.nx.length dap, .slice b2 k.ac.length dap2] 25)).alloc (.cells #[.func (.func 79) #[] #[]] 86)).alloc (.cells #[.int .i64 0, .slice none 0 0, .slice none 0 0] 25)) HM.out HK.out)
  clear hM hK hb0
  by_cases hv : paiE m k = 0
  · have RE := hid hv
    obtain ⟨hm, hk, hL⟩ := paiE_zero.1 hv
    rw [hv] at Hv
    have Hm := hid hm
    have Hk := hid hk
    have HL := hid hL
    have Hz := hid (show m.L = (m.L.toNat : Nat) by have := hm.l1; omega)
    clear hm hk hL hv
    go_enter Try.func78, Try.ntmps78
    go_wp2_with fail
    refine Hv.out.mono ?_; rintro e w1 ⟨rfl, hb1⟩
    have hS3 : Below (W.heap.size + 1 + 1 + 1) (((W.alloc (.cells #[.int .i64 m.L, .slice a m.nx.length cap, .slice a2 m.ac.length cap2] 25)).alloc (.cells #[.int .i64 k.L, .slice b k.nx.length dap, .slice b2 k.ac.length dap2] 25)).alloc (.cells #[.func (.func 79) #[] #[]] 86)) w1 := ((Below.refl _ _).alloc (by simp) _).trans (hb1.mono (by simp))
    have hS2 : Below (W.heap.size + 1 + 1) ((W.alloc (.cells #[.int .i64 m.L, .slice a m.nx.length cap, .slice a2 m.ac.length cap2] 25)).alloc (.cells #[.int .i64 k.L, .slice b k.nx.length dap, .slice b2 k.ac.length dap2] 25)) w1 := ((Below.refl _ _).alloc (by simp) _).trans (hS3.mono (by omega))
    have hX := box_two hS2 rfl
    have hX1 := box_at hX rfl
    have hY1 := box_snd hS2 rfl
    have x0 := hX1.c0
    have x1 := hX1.c1
    have x2 := hX1.c2
    have y0 := hY1.c0
    have y1 := hY1.c1
    have y2 := hY1.c2
    have z0 : w1.cell? ⟨W.heap.size + 1 + 1, 0, none⟩ = some (.func (.func 79) #[] #[]) := by
      rw [hS3.cell (p := ⟨W.heap.size + 1 + 1, 0, none⟩) (Nat.lt_succ_self _)]
      have := cell_of_row (((W.alloc (.cells #[.int .i64 m.L, .slice a m.nx.length cap, .slice a2 m.ac.length cap2] 25)).alloc (.cells #[.int .i64 k.L, .slice b k.nx.length dap, .slice b2 k.ac.length dap2] 25)).alloc (.cells #[.func (.func 79) #[] #[]] 86)) (W.heap.size + 1 + 1) 0 #[.func (.func 79) #[] #[]] 86 (0, 0) (by have := heap_alloc_new ((W.alloc (.cells #[.int .i64 m.L, .slice a m.nx.length cap, .slice a2 m.ac.length cap2] 25)).alloc (.cells #[.int .i64 k.L, .slice b k.nx.length dap, .slice b2 k.ac.length dap2] 25)) (.cells #[.func (.func 79) #[] #[]] 86); rw [show ((W.alloc (.cells #[.int .i64 m.L, .slice a m.nx.length cap, .slice a2 m.ac.length cap2] 25)).alloc (.cells #[.int .i64 k.L, .slice b k.nx.length dap, .slice b2 k.ac.length dap2] 25)).heap.size = W.heap.size + 1 + 1 by simp] at this; exact this)
      rw [this]
      rfl
    clear hS2 hS3 hX hX1 hY1
    have xl : W.heap.size + 1 + 1 + 1 < w1.heap.size := by have := hb1.size; simp at this; omega
    have xa : W.heap.size < w1.heap.size := by omega
    have xb : W.heap.size + 1 < w1.heap.size := by omega
    have hr' : w1.rowIs (W.heap.size + 1 + 1 + 1) 25 3 (outF 0 (.slice none 0 0) (.slice none 0 0)) := by simpa using res_cells hb1 (by simp)
    have HB1 := hid (HB.out.trans (hb1.mono HB.out.size))
    have HM1 := hid (HM.out.below hb1)
    have HK1 := hid (HK.out.below hb1)
    have hb2 := below_alloc w1 (.cells #[.int .i64 k.nx.length] 3)
    have HP0 := plain_any m.L.toNat (jnS m k) (jnA wAnd m k) 0 (m.nx.length * k.nx.length) (jn_auto Hm.out Hk.out HL.out) 109 110 #[] #[.pointer (some ⟨W.heap.size, 0, none⟩), .pointer (some ⟨w1.heap.size, 0, none⟩), .pointer (some ⟨W.heap.size + 1, 0, none⟩)] #[] #[.pointer (some ⟨W.heap.size + 1 + 1, 0, none⟩), .pointer (some ⟨W.heap.size, 0, none⟩), .pointer (some ⟨w1.heap.size, 0, none⟩), .pointer (some ⟨W.heap.size + 1, 0, none⟩)] (w1.alloc (.cells #[.int .i64 k.nx.length] 3)) (hid (run_enter Try.func109 (by kernel_rfl) rfl))
      (hid fun w hw s hs0 hs c hc => by
        have hx := (below_alloc w1 (.cells #[.int .i64 k.nx.length] 3)).trans (hw.mono (by simp))
        exact jn_step m k a a2 cap cap2 b b2 dap dap2 w (HM1.out.below hx) (HK1.out.below hx) Hm.out Hk.out HL.out W.heap.size w1.heap.size (W.heap.size + 1) ((hx.cell (p := ⟨W.heap.size, 1, none⟩) (by show W.heap.size < _; omega)).trans x1) ((hw.cell (p := ⟨w1.heap.size, 0, none⟩) (by simp)).trans (by simp)) ((hx.cell (p := ⟨W.heap.size + 1, 1, none⟩) (by show W.heap.size + 1 < _; omega)).trans y1) s hs0 hs c hc)
      (hid (run_enter Try.func110 (by kernel_rfl) rfl))
      (hid fun w hw s hs0 hs => by
        have hx := (below_alloc w1 (.cells #[.int .i64 k.nx.length] 3)).trans (hw.mono (by simp))
        exact jn_acc79 m k a a2 cap cap2 b b2 dap dap2 w (HM1.out.below hx) (HK1.out.below hx) Hm.out Hk.out (W.heap.size + 1 + 1) W.heap.size w1.heap.size (W.heap.size + 1) ((hx.cell (p := ⟨W.heap.size + 1 + 1, 0, none⟩) (by show W.heap.size + 1 + 1 < _; omega)).trans z0) ((hx.cell (p := ⟨W.heap.size, 2, none⟩) (by show W.heap.size < _; omega)).trans x2) ((hw.cell (p := ⟨w1.heap.size, 0, none⟩) (by simp)).trans (by simp)) ((hx.cell (p := ⟨W.heap.size + 1, 2, none⟩) (by show W.heap.size + 1 < _; omega)).trans y2) s hs0 hs)
    have HP := hid (HP0.mono fun e w' h => plainZ Hz.out h)
    rw [← Hz.out] at HP
    have Hr := hid (hr'.alloc (.cells #[.int .i64 k.nx.length] 3))
    have HZ2 := hid (HB1.out.trans (hb2.mono HB1.out.size))
    have xw : W.heap.size + 1 + 1 + 1 < (w1.alloc (.cells #[.int .i64 k.nx.length] 3)).heap.size := by simp; omega
    have Hxw := hid xw
    clear hb1 hr' hb2 HP0 x2 y0 y2 z0 xw
    go_wp2_with fail
    have xw := Hxw.out
    refine HP.out.mono ?_
    rintro e wP ⟨F, hF, hbP, ⟨h64, base, an, cn, ab, cb, hbase, rfl, hMA⟩ | ⟨h64, rfl⟩⟩
    · have HF := hid hF
      have HMA := hid hMA
      clear hF hMA
      have hrP := rowIs_below Hr.out hbP Hr.out.lt
      have hzP := HZ2.out.trans (hbP.mono HZ2.out.size)
      have f0 := hrP.frozen 0
      have f1 := hrP.frozen 1
      have f2 := hrP.frozen 2
      have x0 := hrP.cell (i := 0) (by omega)
      have x1 := hrP.cell (i := 1) (by omega)
      have x2 := hrP.cell (i := 2) (by omega)
      have xl2 := hrP.lt
      have HC := hid (res_set hrP (.int .i64 m.L) (.slice an F.length cn) (.slice ab F.length cb))
      simp only [outF] at x0 x1 x2
      clear hrP hbP
      go_wp2_with fail
      have o0 := HC.out.c0
      have o1 := HC.out.c1
      have o2 := HC.out.c2
      exact bodyPost_ret (v := .tuple #[.agg #[.int .i64 m.L, .slice an F.length cn, .slice ab F.length cb], .int .i64 0]) (by simp [results, Try.results78, go_sem, o0, o1, o2]) rfl (gen_ok RE.out Hz.out HF.out hzP (by omega) (by omega) h64 HMA.out)
    · have HF := hid hF
      clear hF
      have hrP := rowIs_below Hr.out hbP Hr.out.lt
      have hzP := HZ2.out.trans (hbP.mono HZ2.out.size)
      have f0 := hrP.frozen 0
      have f1 := hrP.frozen 1
      have f2 := hrP.frozen 2
      have x0 := hrP.cell (i := 0) (by omega)
      have x1 := hrP.cell (i := 1) (by omega)
      have x2 := hrP.cell (i := 2) (by omega)
      have xl2 := hrP.lt
      have HC := hid (res_set hrP (.int .i64 0) (.slice none 0 0) (.slice none 0 0))
      simp only [outF] at x0 x1 x2
      clear hrP hbP
      go_wp2_with fail
      have o0 := HC.out.c0
      have o1 := HC.out.c1
      have o2 := HC.out.c2
      exact bodyPost_ret (v := .tuple #[.agg #[.int .i64 0, .slice none 0 0, .slice none 0 0], .int .i64 4]) (by simp [results, Try.results78, go_sem, o0, o1, o2]) rfl (gen_large RE.out HF.out hzP (by omega) h64)
  · have RN := hid hv
    have d1 : (paiE m k == 0) = false := beq_eq_false_iff_ne.2 hv
    have d2 : (paiE m k != 0) = true := by rw [bne, d1]; rfl
    clear hv
    go_enter Try.func78, Try.ntmps78
    go_wp2_with fail
    refine Hv.out.mono ?_; rintro e w1 ⟨rfl, hb1⟩
    have hr' : w1.rowIs (W.heap.size + 1 + 1 + 1) 25 3 (outF 0 (.slice none 0 0) (.slice none 0 0)) := by simpa using res_cells hb1 (by simp)
    have hz := HB.out.trans (hb1.mono HB.out.size)
    have f0 := hr'.frozen 0
    have f1 := hr'.frozen 1
    have f2 := hr'.frozen 2
    have x0 := hr'.cell (i := 0) (by omega)
    have x1 := hr'.cell (i := 1) (by omega)
    have x2 := hr'.cell (i := 2) (by omega)
    have xl2 := hr'.lt
    have HC := hid (res_set hr' (.int .i64 0) (.slice none 0 0) (.slice none 0 0))
    simp only [outF] at x0 x1 x2
    clear hr' hb1
    go_wp2_with fail
    have o0 := HC.out.c0
    have o1 := HC.out.c1
    have o2 := HC.out.c2
    exact bodyPost_ret (v := .tuple #[.agg #[.int .i64 0, .slice none 0 0, .slice none 0 0], .int .i64 (paiE m k)]) (by simp [results, Try.results78, go_sem, o0, o1, o2]) rfl (gen_err RN.out rfl hz (by omega))

set_option maxRecDepth 100000 in
set_option maxHeartbeats 4000000 in
theorem joined81 (m k : Mac) (a a2 : Option Addr) (cap cap2 : Nat) (b b2 : Option Addr) (dap dap2 : Nat) (W : World) (hM : MacAt W a cap a2 cap2 m) (hK : MacAt W b dap b2 dap2 k) :
    Calls Try.prog 78 #[.agg #[.int .i64 m.L, .slice a m.nx.length cap, .slice a2 m.ac.length cap2], .agg #[.int .i64 k.L, .slice b k.nx.length dap, .slice b2 k.ac.length dap2], .func (.func 81) #[] #[]] W (GenPost W (paiE m k) m.L.toNat (jnL wOr m k)) := by
  have hb0 : Below W.heap.size W ((((W.alloc (.cells #[.int .i64 m.L, .slice a m.nx.length cap, .slice a2 m.ac.length cap2] 25)).alloc (.cells #[.int .i64 k.L, .slice b k.nx.length dap, .slice b2 k.ac.length dap2] 25)).alloc (.cells #[.func (.func 81) #[] #[]] 86)).alloc (.cells #[.int .i64 0, .slice none 0 0, .slice none 0 0] 25)) := (((below_alloc W _).alloc (by simp) _).alloc (by simp; omega) _).alloc (by simp; omega) _
  have HM := hid (hM.below hb0)
  have HK := hid (hK.below hb0)
  have HB := hid hb0
  have Hv := hid (pair_any m k a a2 cap cap2 b b2 dap dap2 ((((W.alloc (.cells #[.int .i64 m.L, .slice a m.nx.length cap, .slice a2 m.ac.length cap2] 25)).alloc (.cells #[.int .i64 k.L, .slice b k.nx.length dap, .slice b2 k.ac.length dap2] 25)).alloc (.cells #[.func (.func 81) #[] #[]] 86)).alloc (.cells #[.int .i64 0, .slice none 0 0, .slice none 0 0] 25)) HM.out HK.out)
  clear hM hK hb0
  by_cases hv : paiE m k = 0
  · have RE := hid hv
    obtain ⟨hm, hk, hL⟩ := paiE_zero.1 hv
    rw [hv] at Hv
    have Hm := hid hm
    have Hk := hid hk
    have HL := hid hL
    have Hz := hid (show m.L = (m.L.toNat : Nat) by have := hm.l1; omega)
    clear hm hk hL hv
    go_enter Try.func78, Try.ntmps78
    go_wp2_with fail
    refine Hv.out.mono ?_; rintro e w1 ⟨rfl, hb1⟩
    have hS3 : Below (W.heap.size + 1 + 1 + 1) (((W.alloc (.cells #[.int .i64 m.L, .slice a m.nx.length cap, .slice a2 m.ac.length cap2] 25)).alloc (.cells #[.int .i64 k.L, .slice b k.nx.length dap, .slice b2 k.ac.length dap2] 25)).alloc (.cells #[.func (.func 81) #[] #[]] 86)) w1 := ((Below.refl _ _).alloc (by simp) _).trans (hb1.mono (by simp))
    have hS2 : Below (W.heap.size + 1 + 1) ((W.alloc (.cells #[.int .i64 m.L, .slice a m.nx.length cap, .slice a2 m.ac.length cap2] 25)).alloc (.cells #[.int .i64 k.L, .slice b k.nx.length dap, .slice b2 k.ac.length dap2] 25)) w1 := ((Below.refl _ _).alloc (by simp) _).trans (hS3.mono (by omega))
    have hX := box_two hS2 rfl
    have hX1 := box_at hX rfl
    have hY1 := box_snd hS2 rfl
    have x0 := hX1.c0
    have x1 := hX1.c1
    have x2 := hX1.c2
    have y0 := hY1.c0
    have y1 := hY1.c1
    have y2 := hY1.c2
    have z0 : w1.cell? ⟨W.heap.size + 1 + 1, 0, none⟩ = some (.func (.func 81) #[] #[]) := by
      rw [hS3.cell (p := ⟨W.heap.size + 1 + 1, 0, none⟩) (Nat.lt_succ_self _)]
      have := cell_of_row (((W.alloc (.cells #[.int .i64 m.L, .slice a m.nx.length cap, .slice a2 m.ac.length cap2] 25)).alloc (.cells #[.int .i64 k.L, .slice b k.nx.length dap, .slice b2 k.ac.length dap2] 25)).alloc (.cells #[.func (.func 81) #[] #[]] 86)) (W.heap.size + 1 + 1) 0 #[.func (.func 81) #[] #[]] 86 (0, 0) (by have := heap_alloc_new ((W.alloc (.cells #[.int .i64 m.L, .slice a m.nx.length cap, .slice a2 m.ac.length cap2] 25)).alloc (.cells #[.int .i64 k.L, .slice b k.nx.length dap, .slice b2 k.ac.length dap2] 25)) (.cells #[.func (.func 81) #[] #[]] 86); rw [show ((W.alloc (.cells #[.int .i64 m.L, .slice a m.nx.length cap, .slice a2 m.ac.length cap2] 25)).alloc (.cells #[.int .i64 k.L, .slice b k.nx.length dap, .slice b2 k.ac.length dap2] 25)).heap.size = W.heap.size + 1 + 1 by simp] at this; exact this)
      rw [this]
      rfl
    clear hS2 hS3 hX hX1 hY1
    have xl : W.heap.size + 1 + 1 + 1 < w1.heap.size := by have := hb1.size; simp at this; omega
    have xa : W.heap.size < w1.heap.size := by omega
    have xb : W.heap.size + 1 < w1.heap.size := by omega
    have hr' : w1.rowIs (W.heap.size + 1 + 1 + 1) 25 3 (outF 0 (.slice none 0 0) (.slice none 0 0)) := by simpa using res_cells hb1 (by simp)
    have HB1 := hid (HB.out.trans (hb1.mono HB.out.size))
    have HM1 := hid (HM.out.below hb1)
    have HK1 := hid (HK.out.below hb1)
    have hb2 := below_alloc w1 (.cells #[.int .i64 k.nx.length] 3)
    have HP0 := plain_any m.L.toNat (jnS m k) (jnA wOr m k) 0 (m.nx.length * k.nx.length) (jn_auto Hm.out Hk.out HL.out) 109 110 #[] #[.pointer (some ⟨W.heap.size, 0, none⟩), .pointer (some ⟨w1.heap.size, 0, none⟩), .pointer (some ⟨W.heap.size + 1, 0, none⟩)] #[] #[.pointer (some ⟨W.heap.size + 1 + 1, 0, none⟩), .pointer (some ⟨W.heap.size, 0, none⟩), .pointer (some ⟨w1.heap.size, 0, none⟩), .pointer (some ⟨W.heap.size + 1, 0, none⟩)] (w1.alloc (.cells #[.int .i64 k.nx.length] 3)) (hid (run_enter Try.func109 (by kernel_rfl) rfl))
      (hid fun w hw s hs0 hs c hc => by
        have hx := (below_alloc w1 (.cells #[.int .i64 k.nx.length] 3)).trans (hw.mono (by simp))
        exact jn_step m k a a2 cap cap2 b b2 dap dap2 w (HM1.out.below hx) (HK1.out.below hx) Hm.out Hk.out HL.out W.heap.size w1.heap.size (W.heap.size + 1) ((hx.cell (p := ⟨W.heap.size, 1, none⟩) (by show W.heap.size < _; omega)).trans x1) ((hw.cell (p := ⟨w1.heap.size, 0, none⟩) (by simp)).trans (by simp)) ((hx.cell (p := ⟨W.heap.size + 1, 1, none⟩) (by show W.heap.size + 1 < _; omega)).trans y1) s hs0 hs c hc)
      (hid (run_enter Try.func110 (by kernel_rfl) rfl))
      (hid fun w hw s hs0 hs => by
        have hx := (below_alloc w1 (.cells #[.int .i64 k.nx.length] 3)).trans (hw.mono (by simp))
        exact jn_acc81 m k a a2 cap cap2 b b2 dap dap2 w (HM1.out.below hx) (HK1.out.below hx) Hm.out Hk.out (W.heap.size + 1 + 1) W.heap.size w1.heap.size (W.heap.size + 1) ((hx.cell (p := ⟨W.heap.size + 1 + 1, 0, none⟩) (by show W.heap.size + 1 + 1 < _; omega)).trans z0) ((hx.cell (p := ⟨W.heap.size, 2, none⟩) (by show W.heap.size < _; omega)).trans x2) ((hw.cell (p := ⟨w1.heap.size, 0, none⟩) (by simp)).trans (by simp)) ((hx.cell (p := ⟨W.heap.size + 1, 2, none⟩) (by show W.heap.size + 1 < _; omega)).trans y2) s hs0 hs)
    have HP := hid (HP0.mono fun e w' h => plainZ Hz.out h)
    rw [← Hz.out] at HP
    have Hr := hid (hr'.alloc (.cells #[.int .i64 k.nx.length] 3))
    have HZ2 := hid (HB1.out.trans (hb2.mono HB1.out.size))
    have xw : W.heap.size + 1 + 1 + 1 < (w1.alloc (.cells #[.int .i64 k.nx.length] 3)).heap.size := by simp; omega
    have Hxw := hid xw
    clear hb1 hr' hb2 HP0 x2 y0 y2 z0 xw
    go_wp2_with fail
    have xw := Hxw.out
    refine HP.out.mono ?_
    rintro e wP ⟨F, hF, hbP, ⟨h64, base, an, cn, ab, cb, hbase, rfl, hMA⟩ | ⟨h64, rfl⟩⟩
    · have HF := hid hF
      have HMA := hid hMA
      clear hF hMA
      have hrP := rowIs_below Hr.out hbP Hr.out.lt
      have hzP := HZ2.out.trans (hbP.mono HZ2.out.size)
      have f0 := hrP.frozen 0
      have f1 := hrP.frozen 1
      have f2 := hrP.frozen 2
      have x0 := hrP.cell (i := 0) (by omega)
      have x1 := hrP.cell (i := 1) (by omega)
      have x2 := hrP.cell (i := 2) (by omega)
      have xl2 := hrP.lt
      have HC := hid (res_set hrP (.int .i64 m.L) (.slice an F.length cn) (.slice ab F.length cb))
      simp only [outF] at x0 x1 x2
      clear hrP hbP
      go_wp2_with fail
      have o0 := HC.out.c0
      have o1 := HC.out.c1
      have o2 := HC.out.c2
      exact bodyPost_ret (v := .tuple #[.agg #[.int .i64 m.L, .slice an F.length cn, .slice ab F.length cb], .int .i64 0]) (by simp [results, Try.results78, go_sem, o0, o1, o2]) rfl (gen_ok RE.out Hz.out HF.out hzP (by omega) (by omega) h64 HMA.out)
    · have HF := hid hF
      clear hF
      have hrP := rowIs_below Hr.out hbP Hr.out.lt
      have hzP := HZ2.out.trans (hbP.mono HZ2.out.size)
      have f0 := hrP.frozen 0
      have f1 := hrP.frozen 1
      have f2 := hrP.frozen 2
      have x0 := hrP.cell (i := 0) (by omega)
      have x1 := hrP.cell (i := 1) (by omega)
      have x2 := hrP.cell (i := 2) (by omega)
      have xl2 := hrP.lt
      have HC := hid (res_set hrP (.int .i64 0) (.slice none 0 0) (.slice none 0 0))
      simp only [outF] at x0 x1 x2
      clear hrP hbP
      go_wp2_with fail
      have o0 := HC.out.c0
      have o1 := HC.out.c1
      have o2 := HC.out.c2
      exact bodyPost_ret (v := .tuple #[.agg #[.int .i64 0, .slice none 0 0, .slice none 0 0], .int .i64 4]) (by simp [results, Try.results78, go_sem, o0, o1, o2]) rfl (gen_large RE.out HF.out hzP (by omega) h64)
  · have RN := hid hv
    have d1 : (paiE m k == 0) = false := beq_eq_false_iff_ne.2 hv
    have d2 : (paiE m k != 0) = true := by rw [bne, d1]; rfl
    clear hv
    go_enter Try.func78, Try.ntmps78
    go_wp2_with fail
    refine Hv.out.mono ?_; rintro e w1 ⟨rfl, hb1⟩
    have hr' : w1.rowIs (W.heap.size + 1 + 1 + 1) 25 3 (outF 0 (.slice none 0 0) (.slice none 0 0)) := by simpa using res_cells hb1 (by simp)
    have hz := HB.out.trans (hb1.mono HB.out.size)
    have f0 := hr'.frozen 0
    have f1 := hr'.frozen 1
    have f2 := hr'.frozen 2
    have x0 := hr'.cell (i := 0) (by omega)
    have x1 := hr'.cell (i := 1) (by omega)
    have x2 := hr'.cell (i := 2) (by omega)
    have xl2 := hr'.lt
    have HC := hid (res_set hr' (.int .i64 0) (.slice none 0 0) (.slice none 0 0))
    simp only [outF] at x0 x1 x2
    clear hr' hb1
    go_wp2_with fail
    have o0 := HC.out.c0
    have o1 := HC.out.c1
    have o2 := HC.out.c2
    exact bodyPost_ret (v := .tuple #[.agg #[.int .i64 0, .slice none 0 0, .slice none 0 0], .int .i64 (paiE m k)]) (by simp [results, Try.results78, go_sem, o0, o1, o2]) rfl (gen_err RN.out rfl hz (by omega))

set_option maxRecDepth 100000 in
set_option maxHeartbeats 4000000 in
theorem joined92 (m k : Mac) (a a2 : Option Addr) (cap cap2 : Nat) (b b2 : Option Addr) (dap dap2 : Nat) (W : World) (hM : MacAt W a cap a2 cap2 m) (hK : MacAt W b dap b2 dap2 k) :
    Calls Try.prog 78 #[.agg #[.int .i64 m.L, .slice a m.nx.length cap, .slice a2 m.ac.length cap2], .agg #[.int .i64 k.L, .slice b k.nx.length dap, .slice b2 k.ac.length dap2], .func (.func 92) #[] #[]] W (GenPost W (paiE m k) m.L.toNat (jnL wNot m k)) := by
  have hb0 : Below W.heap.size W ((((W.alloc (.cells #[.int .i64 m.L, .slice a m.nx.length cap, .slice a2 m.ac.length cap2] 25)).alloc (.cells #[.int .i64 k.L, .slice b k.nx.length dap, .slice b2 k.ac.length dap2] 25)).alloc (.cells #[.func (.func 92) #[] #[]] 86)).alloc (.cells #[.int .i64 0, .slice none 0 0, .slice none 0 0] 25)) := (((below_alloc W _).alloc (by simp) _).alloc (by simp; omega) _).alloc (by simp; omega) _
  have HM := hid (hM.below hb0)
  have HK := hid (hK.below hb0)
  have HB := hid hb0
  have Hv := hid (pair_any m k a a2 cap cap2 b b2 dap dap2 ((((W.alloc (.cells #[.int .i64 m.L, .slice a m.nx.length cap, .slice a2 m.ac.length cap2] 25)).alloc (.cells #[.int .i64 k.L, .slice b k.nx.length dap, .slice b2 k.ac.length dap2] 25)).alloc (.cells #[.func (.func 92) #[] #[]] 86)).alloc (.cells #[.int .i64 0, .slice none 0 0, .slice none 0 0] 25)) HM.out HK.out)
  clear hM hK hb0
  by_cases hv : paiE m k = 0
  · have RE := hid hv
    obtain ⟨hm, hk, hL⟩ := paiE_zero.1 hv
    rw [hv] at Hv
    have Hm := hid hm
    have Hk := hid hk
    have HL := hid hL
    have Hz := hid (show m.L = (m.L.toNat : Nat) by have := hm.l1; omega)
    clear hm hk hL hv
    go_enter Try.func78, Try.ntmps78
    go_wp2_with fail
    refine Hv.out.mono ?_; rintro e w1 ⟨rfl, hb1⟩
    have hS3 : Below (W.heap.size + 1 + 1 + 1) (((W.alloc (.cells #[.int .i64 m.L, .slice a m.nx.length cap, .slice a2 m.ac.length cap2] 25)).alloc (.cells #[.int .i64 k.L, .slice b k.nx.length dap, .slice b2 k.ac.length dap2] 25)).alloc (.cells #[.func (.func 92) #[] #[]] 86)) w1 := ((Below.refl _ _).alloc (by simp) _).trans (hb1.mono (by simp))
    have hS2 : Below (W.heap.size + 1 + 1) ((W.alloc (.cells #[.int .i64 m.L, .slice a m.nx.length cap, .slice a2 m.ac.length cap2] 25)).alloc (.cells #[.int .i64 k.L, .slice b k.nx.length dap, .slice b2 k.ac.length dap2] 25)) w1 := ((Below.refl _ _).alloc (by simp) _).trans (hS3.mono (by omega))
    have hX := box_two hS2 rfl
    have hX1 := box_at hX rfl
    have hY1 := box_snd hS2 rfl
    have x0 := hX1.c0
    have x1 := hX1.c1
    have x2 := hX1.c2
    have y0 := hY1.c0
    have y1 := hY1.c1
    have y2 := hY1.c2
    have z0 : w1.cell? ⟨W.heap.size + 1 + 1, 0, none⟩ = some (.func (.func 92) #[] #[]) := by
      rw [hS3.cell (p := ⟨W.heap.size + 1 + 1, 0, none⟩) (Nat.lt_succ_self _)]
      have := cell_of_row (((W.alloc (.cells #[.int .i64 m.L, .slice a m.nx.length cap, .slice a2 m.ac.length cap2] 25)).alloc (.cells #[.int .i64 k.L, .slice b k.nx.length dap, .slice b2 k.ac.length dap2] 25)).alloc (.cells #[.func (.func 92) #[] #[]] 86)) (W.heap.size + 1 + 1) 0 #[.func (.func 92) #[] #[]] 86 (0, 0) (by have := heap_alloc_new ((W.alloc (.cells #[.int .i64 m.L, .slice a m.nx.length cap, .slice a2 m.ac.length cap2] 25)).alloc (.cells #[.int .i64 k.L, .slice b k.nx.length dap, .slice b2 k.ac.length dap2] 25)) (.cells #[.func (.func 92) #[] #[]] 86); rw [show ((W.alloc (.cells #[.int .i64 m.L, .slice a m.nx.length cap, .slice a2 m.ac.length cap2] 25)).alloc (.cells #[.int .i64 k.L, .slice b k.nx.length dap, .slice b2 k.ac.length dap2] 25)).heap.size = W.heap.size + 1 + 1 by simp] at this; exact this)
      rw [this]
      rfl
    clear hS2 hS3 hX hX1 hY1
    have xl : W.heap.size + 1 + 1 + 1 < w1.heap.size := by have := hb1.size; simp at this; omega
    have xa : W.heap.size < w1.heap.size := by omega
    have xb : W.heap.size + 1 < w1.heap.size := by omega
    have hr' : w1.rowIs (W.heap.size + 1 + 1 + 1) 25 3 (outF 0 (.slice none 0 0) (.slice none 0 0)) := by simpa using res_cells hb1 (by simp)
    have HB1 := hid (HB.out.trans (hb1.mono HB.out.size))
    have HM1 := hid (HM.out.below hb1)
    have HK1 := hid (HK.out.below hb1)
    have hb2 := below_alloc w1 (.cells #[.int .i64 k.nx.length] 3)
    have HP0 := plain_any m.L.toNat (jnS m k) (jnA wNot m k) 0 (m.nx.length * k.nx.length) (jn_auto Hm.out Hk.out HL.out) 109 110 #[] #[.pointer (some ⟨W.heap.size, 0, none⟩), .pointer (some ⟨w1.heap.size, 0, none⟩), .pointer (some ⟨W.heap.size + 1, 0, none⟩)] #[] #[.pointer (some ⟨W.heap.size + 1 + 1, 0, none⟩), .pointer (some ⟨W.heap.size, 0, none⟩), .pointer (some ⟨w1.heap.size, 0, none⟩), .pointer (some ⟨W.heap.size + 1, 0, none⟩)] (w1.alloc (.cells #[.int .i64 k.nx.length] 3)) (hid (run_enter Try.func109 (by kernel_rfl) rfl))
      (hid fun w hw s hs0 hs c hc => by
        have hx := (below_alloc w1 (.cells #[.int .i64 k.nx.length] 3)).trans (hw.mono (by simp))
        exact jn_step m k a a2 cap cap2 b b2 dap dap2 w (HM1.out.below hx) (HK1.out.below hx) Hm.out Hk.out HL.out W.heap.size w1.heap.size (W.heap.size + 1) ((hx.cell (p := ⟨W.heap.size, 1, none⟩) (by show W.heap.size < _; omega)).trans x1) ((hw.cell (p := ⟨w1.heap.size, 0, none⟩) (by simp)).trans (by simp)) ((hx.cell (p := ⟨W.heap.size + 1, 1, none⟩) (by show W.heap.size + 1 < _; omega)).trans y1) s hs0 hs c hc)
      (hid (run_enter Try.func110 (by kernel_rfl) rfl))
      (hid fun w hw s hs0 hs => by
        have hx := (below_alloc w1 (.cells #[.int .i64 k.nx.length] 3)).trans (hw.mono (by simp))
        exact jn_acc92 m k a a2 cap cap2 b b2 dap dap2 w (HM1.out.below hx) (HK1.out.below hx) Hm.out Hk.out (W.heap.size + 1 + 1) W.heap.size w1.heap.size (W.heap.size + 1) ((hx.cell (p := ⟨W.heap.size + 1 + 1, 0, none⟩) (by show W.heap.size + 1 + 1 < _; omega)).trans z0) ((hx.cell (p := ⟨W.heap.size, 2, none⟩) (by show W.heap.size < _; omega)).trans x2) ((hw.cell (p := ⟨w1.heap.size, 0, none⟩) (by simp)).trans (by simp)) ((hx.cell (p := ⟨W.heap.size + 1, 2, none⟩) (by show W.heap.size + 1 < _; omega)).trans y2) s hs0 hs)
    have HP := hid (HP0.mono fun e w' h => plainZ Hz.out h)
    rw [← Hz.out] at HP
    have Hr := hid (hr'.alloc (.cells #[.int .i64 k.nx.length] 3))
    have HZ2 := hid (HB1.out.trans (hb2.mono HB1.out.size))
    have xw : W.heap.size + 1 + 1 + 1 < (w1.alloc (.cells #[.int .i64 k.nx.length] 3)).heap.size := by simp; omega
    have Hxw := hid xw
    clear hb1 hr' hb2 HP0 x2 y0 y2 z0 xw
    go_wp2_with fail
    have xw := Hxw.out
    refine HP.out.mono ?_
    rintro e wP ⟨F, hF, hbP, ⟨h64, base, an, cn, ab, cb, hbase, rfl, hMA⟩ | ⟨h64, rfl⟩⟩
    · have HF := hid hF
      have HMA := hid hMA
      clear hF hMA
      have hrP := rowIs_below Hr.out hbP Hr.out.lt
      have hzP := HZ2.out.trans (hbP.mono HZ2.out.size)
      have f0 := hrP.frozen 0
      have f1 := hrP.frozen 1
      have f2 := hrP.frozen 2
      have x0 := hrP.cell (i := 0) (by omega)
      have x1 := hrP.cell (i := 1) (by omega)
      have x2 := hrP.cell (i := 2) (by omega)
      have xl2 := hrP.lt
      have HC := hid (res_set hrP (.int .i64 m.L) (.slice an F.length cn) (.slice ab F.length cb))
      simp only [outF] at x0 x1 x2
      clear hrP hbP
      go_wp2_with fail
      have o0 := HC.out.c0
      have o1 := HC.out.c1
      have o2 := HC.out.c2
      exact bodyPost_ret (v := .tuple #[.agg #[.int .i64 m.L, .slice an F.length cn, .slice ab F.length cb], .int .i64 0]) (by simp [results, Try.results78, go_sem, o0, o1, o2]) rfl (gen_ok RE.out Hz.out HF.out hzP (by omega) (by omega) h64 HMA.out)
    · have HF := hid hF
      clear hF
      have hrP := rowIs_below Hr.out hbP Hr.out.lt
      have hzP := HZ2.out.trans (hbP.mono HZ2.out.size)
      have f0 := hrP.frozen 0
      have f1 := hrP.frozen 1
      have f2 := hrP.frozen 2
      have x0 := hrP.cell (i := 0) (by omega)
      have x1 := hrP.cell (i := 1) (by omega)
      have x2 := hrP.cell (i := 2) (by omega)
      have xl2 := hrP.lt
      have HC := hid (res_set hrP (.int .i64 0) (.slice none 0 0) (.slice none 0 0))
      simp only [outF] at x0 x1 x2
      clear hrP hbP
      go_wp2_with fail
      have o0 := HC.out.c0
      have o1 := HC.out.c1
      have o2 := HC.out.c2
      exact bodyPost_ret (v := .tuple #[.agg #[.int .i64 0, .slice none 0 0, .slice none 0 0], .int .i64 4]) (by simp [results, Try.results78, go_sem, o0, o1, o2]) rfl (gen_large RE.out HF.out hzP (by omega) h64)
  · have RN := hid hv
    have d1 : (paiE m k == 0) = false := beq_eq_false_iff_ne.2 hv
    have d2 : (paiE m k != 0) = true := by rw [bne, d1]; rfl
    clear hv
    go_enter Try.func78, Try.ntmps78
    go_wp2_with fail
    refine Hv.out.mono ?_; rintro e w1 ⟨rfl, hb1⟩
    have hr' : w1.rowIs (W.heap.size + 1 + 1 + 1) 25 3 (outF 0 (.slice none 0 0) (.slice none 0 0)) := by simpa using res_cells hb1 (by simp)
    have hz := HB.out.trans (hb1.mono HB.out.size)
    have f0 := hr'.frozen 0
    have f1 := hr'.frozen 1
    have f2 := hr'.frozen 2
    have x0 := hr'.cell (i := 0) (by omega)
    have x1 := hr'.cell (i := 1) (by omega)
    have x2 := hr'.cell (i := 2) (by omega)
    have xl2 := hr'.lt
    have HC := hid (res_set hr' (.int .i64 0) (.slice none 0 0) (.slice none 0 0))
    simp only [outF] at x0 x1 x2
    clear hr' hb1
    go_wp2_with fail
    have o0 := HC.out.c0
    have o1 := HC.out.c1
    have o2 := HC.out.c2
    exact bodyPost_ret (v := .tuple #[.agg #[.int .i64 0, .slice none 0 0, .slice none 0 0], .int .i64 (paiE m k)]) (by simp [results, Try.results78, go_sem, o0, o1, o2]) rfl (gen_err RN.out rfl hz (by omega))
end Go.Proofs.Ytmllbemjcfkmjaa
