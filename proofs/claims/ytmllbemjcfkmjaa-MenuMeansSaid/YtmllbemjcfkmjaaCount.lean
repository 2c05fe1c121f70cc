/- 'Count' and the document's: what they return. -/
import Derived.Test.YtmllbemjcfkmjaaTable
import Derived.Test.YtmllbemjcfkmjaaErr
namespace Go.Proofs.Ytmllbemjcfkmjaa
open Go.RowKit Go.Maps
set_option linter.unusedSimpArgs false
set_option linter.unusedVariables false

open Classical in
noncomputable def cntN (m : Mac) (n : Int) : Int := if sizE m n = 0 then cnt m n.toNat 0 else 0
theorem cntN_ok {m : Mac} {n : Int} (h : sizE m n = 0) : cntN m n = cnt m n.toNat 0 := by unfold cntN; rw [if_pos h]
theorem cntN_bad {m : Mac} {n : Int} (h : sizE m n ≠ 0) : cntN m n = 0 := by unfold cntN; rw [if_neg h]

set_option maxRecDepth 100000 in
set_option maxHeartbeats 1000000 in
theorem Count_any (m : Mac) (a a2 : Option Addr) (cap cap2 : Nat) (n : Int) (W : World) (hM : MacAt W a cap a2 cap2 m) :
    Calls Try.prog 40 #[.agg #[.int .i64 m.L, .slice a m.nx.length cap, .slice a2 m.ac.length cap2], .int .i64 n] W fun e w' => e = .returned (.tuple #[.int .i64 (cntN m n), .int .i64 (sizE m n)]) ∧ Below W.heap.size W w' := by
  have hb0 := below_alloc W (.cells #[.int .i64 m.L, .slice a m.nx.length cap, .slice a2 m.ac.length cap2] 25)
  have HM := hid (hM.below hb0)
  have Hv := hid (sized_any m a a2 cap cap2 n (W.alloc (.cells #[.int .i64 m.L, .slice a m.nx.length cap, .slice a2 m.ac.length cap2] 25)) HM.out)
  have HB := hid hb0
  clear hM hb0
  by_cases hv : sizE m n = 0
  · have R := hid (cntN_ok hv)
    obtain ⟨hOK, h0, h20⟩ := sizE_zero.1 hv
    have RS := hid hv
    rw [hv] at Hv
    clear hv
    obtain ⟨k, rfl⟩ : ∃ k : Nat, n = k := ⟨n.toNat, by omega⟩
    have HN := hid hOK.n1
    have HOK := hid hOK
    clear hOK
    go_enter Try.func40, Try.ntmps40
    go_wp2_with fail
    refine Hv.out.mono ?_; rintro e w1 ⟨rfl, hb1⟩
    have hX := box_at (B := W.heap.size + 1) (by simpa using hb1) rfl
    have x0 := hX.c0
    have x1 := hX.c1
    have x2 := hX.c2
    have xl := hX.lt
    have Ht := hid (counts_any m a a2 cap cap2 k w1 (HM.out.below hb1) HOK.out (by omega))
    have HB1 := hid (HB.out.trans (hb1.mono HB.out.size))
    clear hX hb1
    go_wp2_with fail
    refine Ht.out.mono ?_; rintro e w2 ⟨v, b, cp, rfl, hT, hb2⟩
    have hz := HB1.out.trans (hb2.mono HB1.out.size)
    obtain ⟨gk, t1, hlg, ht⟩ := hT.row k (by omega)
    have t2 := ht 0 HN.out
    have hlb := hT.lt
    have e5 := hT.eq
    subst e5
    unfold cntI at t2
    have hN := HN.out
    have i1 : (0 : Int) ≤ (k : Int) := by omega
    have i2 : (k : Int) < (k : Int) + 1 := by omega
    clear hb2 ht hT x0 x1 x2 xl
    go_wp2_with fail
    go_ret2
    exact ⟨by rw [R.out, RS.out]; rfl, hz⟩
  · have R := hid (cntN_bad hv)
    have d1 : (sizE m n == 0) = false := beq_eq_false_iff_ne.2 hv
    have d2 : (sizE m n != 0) = true := by rw [bne, d1]; rfl
    clear hv
    go_enter Try.func40, Try.ntmps40
    go_wp2_with fail
    refine Hv.out.mono ?_; rintro e w1 ⟨rfl, hb1⟩
    have hz := HB.out.trans (hb1.mono HB.out.size)
    clear hb1
    go_wp2_with fail
    go_ret2
    exact ⟨by rw [R.out]; rfl, hz⟩

set_option maxRecDepth 100000 in
set_option maxHeartbeats 1000000 in
theorem rCount_any (m : Mac) (a a2 : Option Addr) (cap cap2 : Nat) (n : Int) (W : World) (hM : MacAt W a cap a2 cap2 m) :
    Calls Try.prog 41 #[.agg #[.int .i64 m.L, .slice a m.nx.length cap, .slice a2 m.ac.length cap2], .int .i64 n] W fun e w' => e = .returned (.tuple #[.int .i64 (cntN m n), .int .i64 (sizE m n)]) ∧ Below W.heap.size W w' := by
  have hb0 := below_alloc W (.cells #[.int .i64 m.L, .slice a m.nx.length cap, .slice a2 m.ac.length cap2] 25)
  have HM := hid (hM.below hb0)
  have Hv := hid (rsized_any m a a2 cap cap2 n (W.alloc (.cells #[.int .i64 m.L, .slice a m.nx.length cap, .slice a2 m.ac.length cap2] 25)) HM.out)
  have HB := hid hb0
  clear hM hb0
  by_cases hv : sizE m n = 0
  · have R := hid (cntN_ok hv)
    obtain ⟨hOK, h0, h20⟩ := sizE_zero.1 hv
    have RS := hid hv
    rw [hv] at Hv
    clear hv
    obtain ⟨k, rfl⟩ : ∃ k : Nat, n = k := ⟨n.toNat, by omega⟩
    have HN := hid hOK.n1
    have HOK := hid hOK
    clear hOK
    go_enter Try.func41, Try.ntmps41
    go_wp2_with fail
    refine Hv.out.mono ?_; rintro e w1 ⟨rfl, hb1⟩
    have hX := box_at (B := W.heap.size + 1) (by simpa using hb1) rfl
    have x0 := hX.c0
    have x1 := hX.c1
    have x2 := hX.c2
    have xl := hX.lt
    have Ht := hid (table_any m a a2 cap cap2 k w1 (HM.out.below hb1) HOK.out (by omega))
    have HB1 := hid (HB.out.trans (hb1.mono HB.out.size))
    clear hX hb1
    go_wp2_with fail
    refine Ht.out.mono ?_; rintro e w2 ⟨v, b, cp, rfl, hT, hb2⟩
    have hz := HB1.out.trans (hb2.mono HB1.out.size)
    obtain ⟨gk, t1, hlg, ht⟩ := hT.row k (by omega)
    have t2 := ht 0 HN.out
    have hlb := hT.lt
    have e5 := hT.eq
    subst e5
    unfold cntI at t2
    have hN := HN.out
    have i1 : (0 : Int) ≤ (k : Int) := by omega
    have i2 : (k : Int) < (k : Int) + 1 := by omega
    clear hb2 ht hT x0 x1 x2 xl
    go_wp2_with fail
    go_ret2
    exact ⟨by rw [R.out, RS.out]; rfl, hz⟩
  · have R := hid (cntN_bad hv)
    have d1 : (sizE m n == 0) = false := beq_eq_false_iff_ne.2 hv
    have d2 : (sizE m n != 0) = true := by rw [bne, d1]; rfl
    clear hv
    go_enter Try.func41, Try.ntmps41
    go_wp2_with fail
    refine Hv.out.mono ?_; rintro e w1 ⟨rfl, hb1⟩
    have hz := HB.out.trans (hb1.mono HB.out.size)
    clear hb1
    go_wp2_with fail
    go_ret2
    exact ⟨by rw [R.out]; rfl, hz⟩
end Go.Proofs.Ytmllbemjcfkmjaa
