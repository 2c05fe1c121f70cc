/- 'Both', 'Either', 'Not' of the document: what they return. -/
import Derived.Test.YtmllbemjcfkmjaaProd
namespace Go.Proofs.Ytmllbemjcfkmjaa
open Go.RowKit Go.Maps
set_option linter.unusedSimpArgs false
set_option linter.unusedVariables false

def wNor (x y : Bool) : Bool := !x && !y
theorem nor_not {m : Mac} (hp : paiE m m = 0) : jnL wNor m m = jnL wNot m m := by
  funext w
  by_cases hw : ∀ a, a ∈ w → a < macL m
  · rw [jnL_at hp wNor w hw, jnL_at hp wNot w hw]
    cases langM m w <;> rfl
  · simp only [Classical.not_forall] at hw
    obtain ⟨a, ha, hn⟩ := hw
    rw [jnL_good wNor m m w ⟨a, ha, by show macL m ≤ a; omega⟩, jnL_good wNot m m w ⟨a, ha, by show macL m ≤ a; omega⟩]
theorem gen_la {W : World} {E : Int} {L : Nat} {la la' : Lang} {e : Ending} {w' : World} (hl : E = 0 → la = la') (h : GenPost W E L la e w') : GenPost W E L la' e w' := by
  rcases h with ⟨h0, hP⟩ | h
  · exact .inl ⟨h0, hl h0 ▸ hP⟩
  · exact .inr h

set_option maxRecDepth 100000 in
set_option maxHeartbeats 2000000 in
theorem rBoth_any (m k : Mac) (a a2 : Option Addr) (cap cap2 : Nat) (b b2 : Option Addr) (dap dap2 : Nat) (W : World) (hM : MacAt W a cap a2 cap2 m) (hK : MacAt W b dap b2 dap2 k) :
    Calls Try.prog 37 #[.agg #[.int .i64 m.L, .slice a m.nx.length cap, .slice a2 m.ac.length cap2], .agg #[.int .i64 k.L, .slice b k.nx.length dap, .slice b2 k.ac.length dap2]] W (GenPost W (paiE m k) m.L.toNat (jnL wAnd m k)) := by
  have hb0 : Below W.heap.size W (((W.alloc (.cells #[.int .i64 m.L, .slice a m.nx.length cap, .slice a2 m.ac.length cap2] 25)).alloc (.cells #[.int .i64 k.L, .slice b k.nx.length dap, .slice b2 k.ac.length dap2] 25)).alloc (.cells #[.int .i64 0, .slice none 0 0, .slice none 0 0] 25)) := ((below_alloc W _).alloc (by simp) _).alloc (by simp; omega) _
  have hv : Calls Try.prog 80 #[.agg #[.int .i64 m.L, .slice a m.nx.length cap, .slice a2 m.ac.length cap2], .agg #[.int .i64 k.L, .slice b k.nx.length dap, .slice b2 k.ac.length dap2], .agg #[.bool false, .bool false, .bool false, .bool true]] (((W.alloc (.cells #[.int .i64 m.L, .slice a m.nx.length cap, .slice a2 m.ac.length cap2] 25)).alloc (.cells #[.int .i64 k.L, .slice b k.nx.length dap, .slice b2 k.ac.length dap2] 25)).alloc (.cells #[.int .i64 0, .slice none 0 0, .slice none 0 0] 25)) (GenPost (((W.alloc (.cells #[.int .i64 m.L, .slice a m.nx.length cap, .slice a2 m.ac.length cap2] 25)).alloc (.cells #[.int .i64 k.L, .slice b k.nx.length dap, .slice b2 k.ac.length dap2] 25)).alloc (.cells #[.int .i64 0, .slice none 0 0, .slice none 0 0] 25)) (paiE m k) m.L.toNat (jnL wAnd m k)) := product_any wAnd m k a a2 cap cap2 b b2 dap dap2 (((W.alloc (.cells #[.int .i64 m.L, .slice a m.nx.length cap, .slice a2 m.ac.length cap2] 25)).alloc (.cells #[.int .i64 k.L, .slice b k.nx.length dap, .slice b2 k.ac.length dap2] 25)).alloc (.cells #[.int .i64 0, .slice none 0 0, .slice none 0 0] 25)) (hM.below hb0) (hK.below hb0)
  have Hv := hid hv
  have HB := hid hb0
  have Hzi := hid (show paiE m k = 0 → m.L = (m.L.toNat : Nat) from fun h => by have := (paiE_zero.1 h).1.l1; omega)
  have Hr : Hid ((((W.alloc (.cells #[.int .i64 m.L, .slice a m.nx.length cap, .slice a2 m.ac.length cap2] 25)).alloc (.cells #[.int .i64 k.L, .slice b k.nx.length dap, .slice b2 k.ac.length dap2] 25)).alloc (.cells #[.int .i64 0, .slice none 0 0, .slice none 0 0] 25)).rowIs (W.heap.size + 1 + 1) 25 3 (outF 0 (.slice none 0 0) (.slice none 0 0))) := hid (by simpa using res_cells (w := (W.alloc (.cells #[.int .i64 m.L, .slice a m.nx.length cap, .slice a2 m.ac.length cap2] 25)).alloc (.cells #[.int .i64 k.L, .slice b k.nx.length dap, .slice b2 k.ac.length dap2] 25)) (Below.refl _ _) rfl)
  have hs : (((W.alloc (.cells #[.int .i64 m.L, .slice a m.nx.length cap, .slice a2 m.ac.length cap2] 25)).alloc (.cells #[.int .i64 k.L, .slice b k.nx.length dap, .slice b2 k.ac.length dap2] 25)).alloc (.cells #[.int .i64 0, .slice none 0 0, .slice none 0 0] 25)).heap.size = W.heap.size + 1 + 1 + 1 := by simp
  have Hs := hid hs
  clear hM hK hb0 hs hv
  go_enter Try.func37, Try.ntmps37
  go_wp2_with fail
  have hs := Hs.out
  refine (Hv.out).mono ?_
  intro e wP hG
  obtain ⟨hbP, ⟨h0, F, hF, ⟨h64, base, an, cn, ab, cb, hbase, rfl, hMA⟩ | ⟨h64, rfl⟩⟩ | ⟨h0, rfl⟩⟩ := gen_cases hG Hzi.out
  · clear hG
    have H0 := hid h0
    have HF := hid hF
    have HMA := hid hMA
    clear hF hMA h0
    have hrP := rowIs_below Hr.out hbP Hr.out.lt
    have hzP := HB.out.trans (hbP.mono HB.out.size)
    have f0 := hrP.frozen 0
    have f1 := hrP.frozen 1
    have f2 := hrP.frozen 2
    have x0 := hrP.cell (i := 0) (by omega)
    have x1 := hrP.cell (i := 1) (by omega)
    have x2 := hrP.cell (i := 2) (by omega)
    have xl2 := hrP.lt
    have HC := hid (res_set hrP (.int .i64 m.L) (.slice an F.length cn) (.slice ab F.length cb))
    simp only [outF] at x0 x1 x2
    clear hrP hbP
    go_wp2_with fail
    have o0 := HC.out.c0
    have o1 := HC.out.c1
    have o2 := HC.out.c2
    exact bodyPost_ret (v := .tuple #[.agg #[.int .i64 m.L, .slice an F.length cn, .slice ab F.length cb], .int .i64 0]) (by simp [results, Try.results37, go_sem, o0, o1, o2]) rfl (gen_ok H0.out (Hzi.out H0.out) HF.out hzP (by omega) (by omega) h64 HMA.out)
  · clear hG
    have H0 := hid h0
    have HF := hid hF
    clear hF h0
    have hrP := rowIs_below Hr.out hbP Hr.out.lt
    have hzP := HB.out.trans (hbP.mono HB.out.size)
    have f0 := hrP.frozen 0
    have f1 := hrP.frozen 1
    have f2 := hrP.frozen 2
    have x0 := hrP.cell (i := 0) (by omega)
    have x1 := hrP.cell (i := 1) (by omega)
    have x2 := hrP.cell (i := 2) (by omega)
    have xl2 := hrP.lt
    have HC := hid (res_set hrP (.int .i64 0) (.slice none 0 0) (.slice none 0 0))
    simp only [outF] at x0 x1 x2
    clear hrP hbP
    go_wp2_with fail
    have o0 := HC.out.c0
    have o1 := HC.out.c1
    have o2 := HC.out.c2
    exact bodyPost_ret (v := .tuple #[.agg #[.int .i64 0, .slice none 0 0, .slice none 0 0], .int .i64 4]) (by simp [results, Try.results37, go_sem, o0, o1, o2]) rfl (gen_large H0.out HF.out hzP (by omega) h64)
  · clear hG
    have H0 := hid h0
    clear h0
    have hrP := rowIs_below Hr.out hbP Hr.out.lt
    have hzP := HB.out.trans (hbP.mono HB.out.size)
    have f0 := hrP.frozen 0
    have f1 := hrP.frozen 1
    have f2 := hrP.frozen 2
    have x0 := hrP.cell (i := 0) (by omega)
    have x1 := hrP.cell (i := 1) (by omega)
    have x2 := hrP.cell (i := 2) (by omega)
    have xl2 := hrP.lt
    have HC := hid (res_set hrP (.int .i64 0) (.slice none 0 0) (.slice none 0 0))
    simp only [outF] at x0 x1 x2
    clear hrP hbP
    go_wp2_with fail
    have o0 := HC.out.c0
    have o1 := HC.out.c1
    have o2 := HC.out.c2
    exact bodyPost_ret (v := .tuple #[.agg #[.int .i64 0, .slice none 0 0, .slice none 0 0], .int .i64 (paiE m k)]) (by simp [results, Try.results37, go_sem, o0, o1, o2]) rfl (gen_err H0.out rfl hzP (by omega))

set_option maxRecDepth 100000 in
set_option maxHeartbeats 2000000 in
theorem rEither_any (m k : Mac) (a a2 : Option Addr) (cap cap2 : Nat) (b b2 : Option Addr) (dap dap2 : Nat) (W : World) (hM : MacAt W a cap a2 cap2 m) (hK : MacAt W b dap b2 dap2 k) :
    Calls Try.prog 39 #[.agg #[.int .i64 m.L, .slice a m.nx.length cap, .slice a2 m.ac.length cap2], .agg #[.int .i64 k.L, .slice b k.nx.length dap, .slice b2 k.ac.length dap2]] W (GenPost W (paiE m k) m.L.toNat (jnL wOr m k)) := by
  have hb0 : Below W.heap.size W (((W.alloc (.cells #[.int .i64 m.L, .slice a m.nx.length cap, .slice a2 m.ac.length cap2] 25)).alloc (.cells #[.int .i64 k.L, .slice b k.nx.length dap, .slice b2 k.ac.length dap2] 25)).alloc (.cells #[.int .i64 0, .slice none 0 0, .slice none 0 0] 25)) := ((below_alloc W _).alloc (by simp) _).alloc (by simp; omega) _
  have hv : Calls Try.prog 80 #[.agg #[.int .i64 m.L, .slice a m.nx.length cap, .slice a2 m.ac.length cap2], .agg #[.int .i64 k.L, .slice b k.nx.length dap, .slice b2 k.ac.length dap2], .agg #[.bool false, .bool true, .bool true, .bool true]] (((W.alloc (.cells #[.int .i64 m.L, .slice a m.nx.length cap, .slice a2 m.ac.length cap2] 25)).alloc (.cells #[.int .i64 k.L, .slice b k.nx.length dap, .slice b2 k.ac.length dap2] 25)).alloc (.cells #[.int .i64 0, .slice none 0 0, .slice none 0 0] 25)) (GenPost (((W.alloc (.cells #[.int .i64 m.L, .slice a m.nx.length cap, .slice a2 m.ac.length cap2] 25)).alloc (.cells #[.int .i64 k.L, .slice b k.nx.length dap, .slice b2 k.ac.length dap2] 25)).alloc (.cells #[.int .i64 0, .slice none 0 0, .slice none 0 0] 25)) (paiE m k) m.L.toNat (jnL wOr m k)) := product_any wOr m k a a2 cap cap2 b b2 dap dap2 (((W.alloc (.cells #[.int .i64 m.L, .slice a m.nx.length cap, .slice a2 m.ac.length cap2] 25)).alloc (.cells #[.int .i64 k.L, .slice b k.nx.length dap, .slice b2 k.ac.length dap2] 25)).alloc (.cells #[.int .i64 0, .slice none 0 0, .slice none 0 0] 25)) (hM.below hb0) (hK.below hb0)
  have Hv := hid hv
  have HB := hid hb0
  have Hzi := hid (show paiE m k = 0 → m.L = (m.L.toNat : Nat) from fun h => by have := (paiE_zero.1 h).1.l1; omega)
  have Hr : Hid ((((W.alloc (.cells #[.int .i64 m.L, .slice a m.nx.length cap, .slice a2 m.ac.length cap2] 25)).alloc (.cells #[.int .i64 k.L, .slice b k.nx.length dap, .slice b2 k.ac.length dap2] 25)).alloc (.cells #[.int .i64 0, .slice none 0 0, .slice none 0 0] 25)).rowIs (W.heap.size + 1 + 1) 25 3 (outF 0 (.slice none 0 0) (.slice none 0 0))) := hid (by simpa using res_cells (w := (W.alloc (.cells #[.int .i64 m.L, .slice a m.nx.length cap, .slice a2 m.ac.length cap2] 25)).alloc (.cells #[.int .i64 k.L, .slice b k.nx.length dap, .slice b2 k.ac.length dap2] 25)) (Below.refl _ _) rfl)
  have hs : (((W.alloc (.cells #[.int .i64 m.L, .slice a m.nx.length cap, .slice a2 m.ac.length cap2] 25)).alloc (.cells #[.int .i64 k.L, .slice b k.nx.length dap, .slice b2 k.ac.length dap2] 25)).alloc (.cells #[.int .i64 0, .slice none 0 0, .slice none 0 0] 25)).heap.size = W.heap.size + 1 + 1 + 1 := by simp
  have Hs := hid hs
  clear hM hK hb0 hs hv
  go_enter Try.func39, Try.ntmps39
  go_wp2_with fail
  have hs := Hs.out
  refine (Hv.out).mono ?_
  intro e wP hG
  obtain ⟨hbP, ⟨h0, F, hF, ⟨h64, base, an, cn, ab, cb, hbase, rfl, hMA⟩ | ⟨h64, rfl⟩⟩ | ⟨h0, rfl⟩⟩ := gen_cases hG Hzi.out
  · clear hG
    have H0 := hid h0
    have HF := hid hF
    have HMA := hid hMA
    clear hF hMA h0
    have hrP := rowIs_below Hr.out hbP Hr.out.lt
    have hzP := HB.out.trans (hbP.mono HB.out.size)
    have f0 := hrP.frozen 0
    have f1 := hrP.frozen 1
    have f2 := hrP.frozen 2
    have x0 := hrP.cell (i := 0) (by omega)
    have x1 := hrP.cell (i := 1) (by omega)
    have x2 := hrP.cell (i := 2) (by omega)
    have xl2 := hrP.lt
    have HC := hid (res_set hrP (.int .i64 m.L) (.slice an F.length cn) (.slice ab F.length cb))
    simp only [outF] at x0 x1 x2
    clear hrP hbP
    go_wp2_with fail
    have o0 := HC.out.c0
    have o1 := HC.out.c1
    have o2 := HC.out.c2
    exact bodyPost_ret (v := .tuple #[.agg #[.int .i64 m.L, .slice an F.length cn, .slice ab F.length cb], .int .i64 0]) (by simp [results, Try.results39, go_sem, o0, o1, o2]) rfl (gen_ok H0.out (Hzi.out H0.out) HF.out hzP (by omega) (by omega) h64 HMA.out)
  · clear hG
    have H0 := hid h0
    have HF := hid hF
    clear hF h0
    have hrP := rowIs_below Hr.out hbP Hr.out.lt
    have hzP := HB.out.trans (hbP.mono HB.out.size)
    have f0 := hrP.frozen 0
    have f1 := hrP.frozen 1
    have f2 := hrP.frozen 2
    have x0 := hrP.cell (i := 0) (by omega)
    have x1 := hrP.cell (i := 1) (by omega)
    have x2 := hrP.cell (i := 2) (by omega)
    have xl2 := hrP.lt
    have HC := hid (res_set hrP (.int .i64 0) (.slice none 0 0) (.slice none 0 0))
    simp only [outF] at x0 x1 x2
    clear hrP hbP
    go_wp2_with fail
    have o0 := HC.out.c0
    have o1 := HC.out.c1
    have o2 := HC.out.c2
    exact bodyPost_ret (v := .tuple #[.agg #[.int .i64 0, .slice none 0 0, .slice none 0 0], .int .i64 4]) (by simp [results, Try.results39, go_sem, o0, o1, o2]) rfl (gen_large H0.out HF.out hzP (by omega) h64)
  · clear hG
    have H0 := hid h0
    clear h0
    have hrP := rowIs_below Hr.out hbP Hr.out.lt
    have hzP := HB.out.trans (hbP.mono HB.out.size)
    have f0 := hrP.frozen 0
    have f1 := hrP.frozen 1
    have f2 := hrP.frozen 2
    have x0 := hrP.cell (i := 0) (by omega)
    have x1 := hrP.cell (i := 1) (by omega)
    have x2 := hrP.cell (i := 2) (by omega)
    have xl2 := hrP.lt
    have HC := hid (res_set hrP (.int .i64 0) (.slice none 0 0) (.slice none 0 0))
    simp only [outF] at x0 x1 x2
    clear hrP hbP
    go_wp2_with fail
    have o0 := HC.out.c0
    have o1 := HC.out.c1
    have o2 := HC.out.c2
    exact bodyPost_ret (v := .tuple #[.agg #[.int .i64 0, .slice none 0 0, .slice none 0 0], .int .i64 (paiE m k)]) (by simp [results, Try.results39, go_sem, o0, o1, o2]) rfl (gen_err H0.out rfl hzP (by omega))

set_option maxRecDepth 100000 in
set_option maxHeartbeats 2000000 in
theorem rNot_any (m : Mac) (a a2 : Option Addr) (cap cap2 : Nat) (W : World) (hM : MacAt W a cap a2 cap2 m) :
    Calls Try.prog 51 #[.agg #[.int .i64 m.L, .slice a m.nx.length cap, .slice a2 m.ac.length cap2]] W (GenPost W (paiE m m) m.L.toNat (jnL wNot m m)) := by
  have hb0 : Below W.heap.size W ((W.alloc (.cells #[.int .i64 m.L, .slice a m.nx.length cap, .slice a2 m.ac.length cap2] 25)).alloc (.cells #[.int .i64 0, .slice none 0 0, .slice none 0 0] 25)) := (below_alloc W _).alloc (by simp) _
  have hv : Calls Try.prog 80 #[.agg #[.int .i64 m.L, .slice a m.nx.length cap, .slice a2 m.ac.length cap2], .agg #[.int .i64 m.L, .slice a m.nx.length cap, .slice a2 m.ac.length cap2], .agg #[.bool true, .bool false, .bool false, .bool false]] ((W.alloc (.cells #[.int .i64 m.L, .slice a m.nx.length cap, .slice a2 m.ac.length cap2] 25)).alloc (.cells #[.int .i64 0, .slice none 0 0, .slice none 0 0] 25)) (GenPost ((W.alloc (.cells #[.int .i64 m.L, .slice a m.nx.length cap, .slice a2 m.ac.length cap2] 25)).alloc (.cells #[.int .i64 0, .slice none 0 0, .slice none 0 0] 25)) (paiE m m) m.L.toNat (jnL wNor m m)) := product_any wNor m m a a2 cap cap2 a a2 cap cap2 ((W.alloc (.cells #[.int .i64 m.L, .slice a m.nx.length cap, .slice a2 m.ac.length cap2] 25)).alloc (.cells #[.int .i64 0, .slice none 0 0, .slice none 0 0] 25)) (hM.below hb0) (hM.below hb0)
  replace hv := hv.mono fun e w h => gen_la nor_not h
  have Hv := hid hv
  have HB := hid hb0
  have Hzi := hid (show paiE m m = 0 → m.L = (m.L.toNat : Nat) from fun h => by have := (paiE_zero.1 h).1.l1; omega)
  have Hr : Hid (((W.alloc (.cells #[.int .i64 m.L, .slice a m.nx.length cap, .slice a2 m.ac.length cap2] 25)).alloc (.cells #[.int .i64 0, .slice none 0 0, .slice none 0 0] 25)).rowIs (W.heap.size + 1) 25 3 (outF 0 (.slice none 0 0) (.slice none 0 0))) := hid (by simpa using res_cells (w := W.alloc (.cells #[.int .i64 m.L, .slice a m.nx.length cap, .slice a2 m.ac.length cap2] 25)) (Below.refl _ _) rfl)
  have hs : ((W.alloc (.cells #[.int .i64 m.L, .slice a m.nx.length cap, .slice a2 m.ac.length cap2] 25)).alloc (.cells #[.int .i64 0, .slice none 0 0, .slice none 0 0] 25)).heap.size = W.heap.size + 1 + 1 := by simp
  have Hs := hid hs
  clear hM hb0 hs hv
  go_enter Try.func51, Try.ntmps51
  go_wp2_with fail
  have hs := Hs.out
  refine (Hv.out).mono ?_
  intro e wP hG
  obtain ⟨hbP, ⟨h0, F, hF, ⟨h64, base, an, cn, ab, cb, hbase, rfl, hMA⟩ | ⟨h64, rfl⟩⟩ | ⟨h0, rfl⟩⟩ := gen_cases hG Hzi.out
  · clear hG
    have H0 := hid h0
    have HF := hid hF
    have HMA := hid hMA
    clear hF hMA h0
    have hrP := rowIs_below Hr.out hbP Hr.out.lt
    have hzP := HB.out.trans (hbP.mono HB.out.size)
    have f0 := hrP.frozen 0
    have f1 := hrP.frozen 1
    have f2 := hrP.frozen 2
    have x0 := hrP.cell (i := 0) (by omega)
    have x1 := hrP.cell (i := 1) (by omega)
    have x2 := hrP.cell (i := 2) (by omega)
    have xl2 := hrP.lt
    have HC := hid (res_set hrP (.int .i64 m.L) (.slice an F.length cn) (.slice ab F.length cb))
    simp only [outF] at x0 x1 x2
    clear hrP hbP
    go_wp2_with fail
    have o0 := HC.out.c0
    have o1 := HC.out.c1
    have o2 := HC.out.c2
    exact bodyPost_ret (v := .tuple #[.agg #[.int .i64 m.L, .slice an F.length cn, .slice ab F.length cb], .int .i64 0]) (by simp [results, Try.results51, go_sem, o0, o1, o2]) rfl (gen_ok H0.out (Hzi.out H0.out) HF.out hzP (by omega) (by omega) h64 HMA.out)
  · clear hG
    have H0 := hid h0
    have HF := hid hF
    clear hF h0
    have hrP := rowIs_below Hr.out hbP Hr.out.lt
    have hzP := HB.out.trans (hbP.mono HB.out.size)
    have f0 := hrP.frozen 0
    have f1 := hrP.frozen 1
    have f2 := hrP.frozen 2
    have x0 := hrP.cell (i := 0) (by omega)
    have x1 := hrP.cell (i := 1) (by omega)
    have x2 := hrP.cell (i := 2) (by omega)
    have xl2 := hrP.lt
    have HC := hid (res_set hrP (.int .i64 0) (.slice none 0 0) (.slice none 0 0))
    simp only [outF] at x0 x1 x2
    clear hrP hbP
    go_wp2_with fail
    have o0 := HC.out.c0
    have o1 := HC.out.c1
    have o2 := HC.out.c2
    exact bodyPost_ret (v := .tuple #[.agg #[.int .i64 0, .slice none 0 0, .slice none 0 0], .int .i64 4]) (by simp [results, Try.results51, go_sem, o0, o1, o2]) rfl (gen_large H0.out HF.out hzP (by omega) h64)
  · clear hG
    have H0 := hid h0
    clear h0
    have hrP := rowIs_below Hr.out hbP Hr.out.lt
    have hzP := HB.out.trans (hbP.mono HB.out.size)
    have f0 := hrP.frozen 0
    have f1 := hrP.frozen 1
    have f2 := hrP.frozen 2
    have x0 := hrP.cell (i := 0) (by omega)
    have x1 := hrP.cell (i := 1) (by omega)
    have x2 := hrP.cell (i := 2) (by omega)
    have xl2 := hrP.lt
    have HC := hid (res_set hrP (.int .i64 0) (.slice none 0 0) (.slice none 0 0))
    simp only [outF] at x0 x1 x2
    clear hrP hbP
    go_wp2_with fail
    have o0 := HC.out.c0
    have o1 := HC.out.c1
    have o2 := HC.out.c2
    exact bodyPost_ret (v := .tuple #[.agg #[.int .i64 0, .slice none 0 0, .slice none 0 0], .int .i64 (paiE m m)]) (by simp [results, Try.results51, go_sem, o0, o1, o2]) rfl (gen_err H0.out rfl hzP (by omega))
end Go.Proofs.Ytmllbemjcfkmjaa
