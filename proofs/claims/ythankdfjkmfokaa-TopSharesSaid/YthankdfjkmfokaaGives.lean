/- 'give': what it returns. -/
import Derived.Test.YthankdfjkmfokaaGive
import Derived.Laws.EntriesVeiled
namespace Go.Proofs.Ythankdfjkmfokaa
open Go.RowKit
set_option linter.unusedSimpArgs false
set_option linter.unusedVariables false

set_option maxRecDepth 100000 in
set_option maxHeartbeats 4000000 in
theorem give_any (kd : Int) (hk : KindOK kd) (xs : List Int) (n : Nat) (a : Option Addr) (cap : Nat) (W : World) (h1 : IntsAt W a xs) (ho : OrdOK xs) (hn : n ≤ 1000) :
    Calls Try.prog 54 #[.agg #[.func (.func (kdF kd)) #[] #[], .int .i64 (fac kd)], .slice a xs.length cap, .int .i64 n] W (TwoPost (giv kd xs n) (gord kd xs n) W) := by
  have hl1 := ho.l1
  have hl8 := ho.l8
  obtain ⟨i0, hi0, hz0, hz1, hz2⟩ := info_parts info3
  have hbA : Below W.heap.size W (W.alloc (.cells #[.func (.func (kdF kd)) #[] #[], .int .i64 (fac kd)] 66)) := below_alloc _ _
  go_enter Try.func54, Try.ntmps54
  go_wp2_with (refine wpList_make_int _ rfl _ _ 22 rfl 3 (.int .i64 0) 8 Try.underlying22 info3 rfl .i64 .i64 _ _ xs.length rfl rfl rfl rfl (by omega) (by omega) ?_; intro w1 hr1 hz1' hb1)
  have hM : (W.alloc (.cells #[.func (.func (kdF kd)) #[] #[], .int .i64 (fac kd)] 66)).heap.size = W.heap.size + 1 := by simp
  rw [hM] at hr1
  go_loopw [7, 13] (fun v7 v13 w' => ∃ j : Nat, j ≤ n ∧ v13 = .int .i64 j ∧ w'.rowIs (W.heap.size + 1) 3 xs.length (fun i => .int .i64 (nth (giv kd xs j) i)) ∧ w'.ownsRow (W.heap.size + 2) 3 1 v7 j ((gord kd xs j).map (Value.int .i64)) ∧ Below (W.heap.size + 1) (W.alloc (.cells #[.func (.func (kdF kd)) #[] #[], .int .i64 (fac kd)] 66)) w') (fun _ v13 _ => n - (intOf v13).toNat)
  case atStart =>
    refine ⟨0, by omega, rfl, hr1.congr fun i hi => ?_, World.ownsRow_nil _ _ _ _, hb1.mono (by simp)⟩
    have : nth (giv kd xs 0) i = 0 := by simp [giv, nth, List.getD, hi]
    rw [this]
  case round =>
    clear hr1 hb1 hM
    obtain ⟨j, hj, rfl, hr, hown, hb⟩ := hrel
    have hb' : Below (W.alloc (.cells #[.func (.func (kdF kd)) #[] #[], .int .i64 (fac kd)] 66)).heap.size (W.alloc (.cells #[.func (.func (kdF kd)) #[] #[], .int .i64 (fac kd)] 66)) wr := hb.mono (by simp)
    by_cases hlt : j < n
    · have hgl := got_lt (kd := kd) hl1 j
      have hmo := giv_ok (kd := kd) ho j (by omega)
      have hI : IntsAt wr (some ⟨W.heap.size + 1, 0, none⟩) (giv kd xs j) := ints_row (F := nth (giv kd xs j)) hr (fun i _ => rfl) (by rw [giv_len]; exact Nat.le_refl _)
      have hc := next_any kd hk xs (giv kd xs j) a (some ⟨W.heap.size + 1, 0, none⟩) cap xs.length wr ((h1.below hbA).below hb') hI ho hmo
      rw [giv_len] at hc
      have Hc := hid hc
      have Hok := hid (next_ok (kd := kd) ho hmo)
      have Hmx : Hid (maxI (nextL kd xs (giv kd xs j) xs.length) xs.length = got kd xs j) := maxI_top kd xs (giv kd xs j) xs.length xs.length (Nat.le_refl _)
      have Hat := hid (nextL_at kd xs (giv kd xs j) xs.length)
      clear hc hI hmo
      have k0 : wr.cell? ⟨W.heap.size, 0, none⟩ = some (.func (.func (kdF kd)) #[] #[]) := (hb'.cell (p := ⟨W.heap.size, 0, none⟩) (by simp)).trans (by simp)
      have k1 : wr.cell? ⟨W.heap.size, 1, none⟩ = some (.int .i64 (fac kd)) := (hb'.cell (p := ⟨W.heap.size, 1, none⟩) (by simp)).trans (by simp)
      have hbd := giv_bd (kd := kd) hl1 j _ hgl
      have HS := hid (gord_succ kd xs j)
      have HG := hid (giv_succ kd xs j)
      have hrl := hr.lt
      go_wp2_with fail
      refine Hc.out.mono ?_; rintro e w3 ⟨a3, c3, rfl, h3, hb3⟩
      have hmax := maxFunc_any (nextL kd xs (giv kd xs j) xs.length) a3 c3 w3 h3 Hok.out (by rw [nextL_len]; omega) (by rw [nextL_len]; omega)
      rw [nextL_len, Hmx.out, Hat.out _ hgl] at hmax
      have Hmax : Hid (Calls Try.prog 71 #[.slice a3 xs.length c3, .func (.func 72) #[] #[]] w3 fun e w' => e = .returned (.agg #[.int .i64 (nextC kd xs (giv kd xs j) (got kd xs j)).v, .int .i64 (nextC kd xs (giv kd xs j) (got kd xs j)).a, .int .i64 ((got kd xs j : Nat) : Int)]) ∧ Below w3.heap.size w3 w') := hmax
      rw [nextL_len]
      clear hmax Hok Hmx Hat h3
      generalize hg : got kd xs j = g at *
      have Hg := hid hg
      clear hg
      go_wp2_with fail
      refine Hmax.out.mono ?_; rintro e w4 ⟨rfl, hb4⟩
      have hb34 := hb3.trans (hb4.mono hb3.size)
      have hbw4 : Below (W.heap.size + 1) (W.alloc (.cells #[.func (.func (kdF kd)) #[] #[], .int .i64 (fac kd)] 66)) w4 := hb.trans (hb34.mono (by have := hb'.size; simpa using this))
      have r4 : w4.rowIs (W.heap.size + 1) 3 xs.length (fun i => .int .i64 (nth (giv kd xs j) i)) := hr.of_block (hb34.block _ hr.lt)
      have own4 := own_below hown hb34
      have hsz := hb34.size
      have hsz4 := r4.lt
      generalize hv : nextC kd xs (giv kd xs j) g = C at *
      have Hv := hid hv
      clear hv hb3 hb4 hown hr hb hb' k0 k1 Hc Hmax
      have r5 := (row_bump r4 (giv_len kd xs j) g hgl).alloc (.cells #[.int .i64 C.v, .int .i64 C.a, .int .i64 (g : Int)] 83)
      have own5 := (ownsRow_setCell_below own4 (a := ⟨W.heap.size + 1, g, none⟩) (show W.heap.size + 1 < W.heap.size + 2 by omega) (.int .i64 (nth (giv kd xs j) g + 1))).alloc (.cells #[.int .i64 C.v, .int .i64 C.a, .int .i64 (g : Int)] 83)
      have b5 := (hbw4.setCell (p := ⟨W.heap.size + 1, g, none⟩) (Nat.le_refl _) (.int .i64 (nth (giv kd xs j) g + 1))).alloc (by have := hbw4.size; simp at this ⊢; omega) (.cells #[.int .i64 C.v, .int .i64 C.a, .int .i64 (g : Int)] 83)
      have q5 := r4.alloc (.cells #[.int .i64 C.v, .int .i64 C.a, .int .i64 (g : Int)] 83)
      have q1 := q5.cell hgl
      have q2 := q5.frozen g
      have Hown5 := hid own5
      have Hnews : Hid (∀ t u, ([Value.int .i64 (g : Int)])[t]? = some u → (((w4.setCell ⟨W.heap.size + 1, g, none⟩ (.int .i64 (nth (giv kd xs j) g + 1))).alloc (.cells #[.int .i64 C.v, .int .i64 C.a, .int .i64 (g : Int)] 83)).alloc (.cells #[.int .i64 (g : Int)] 3)).cell? ((⟨w4.heap.size + 1, 0, none⟩ : Addr).add t) = some u) := by
        have := World.news_of_block (cs := #[.int .i64 (g : Int)]) (t := 3) (fr := (0, 0)) (heap_alloc_new ((w4.setCell ⟨W.heap.size + 1, g, none⟩ (.int .i64 (nth (giv kd xs j) g + 1))).alloc (.cells #[.int .i64 C.v, .int .i64 C.a, .int .i64 (g : Int)] 83)) (.cells #[.int .i64 (g : Int)] 3))
        exact hid (by simpa using this)
      clear own5 own4
      go_wp2_with (at_builtin; go_loud (refine wpList_append_own _ rfl _ _ 22 rfl (W.heap.size + 2) 3 i0 (.int .i64 0) 1 8 Try.underlying22 hi0 hz0 hz1 hz2 rfl (by decide) _ _ _ rfl (Hown5.out.alloc _) ⟨w4.heap.size + 1, 0, none⟩ 1 1 [.int .i64 (g : Int)] rfl rfl Hnews.out (by simp [Value.oneCell']) (by unfold maxLen; omega) (by omega) (by simp; omega) ?_); intro v' w6 hown6 hgrow6 _)
      rw [HS.out] at hown6
      have r55 : (((w4.setCell ⟨W.heap.size + 1, g, none⟩ (.int .i64 (nth (giv kd xs j) g + 1))).alloc (.cells #[.int .i64 C.v, .int .i64 C.a, .int .i64 (g : Int)] 83)).alloc (.cells #[.int .i64 (g : Int)] 3)).rowIs (W.heap.size + 1) 3 xs.length (fun i => .int .i64 (nth (giv kd xs (j + 1)) i)) := by
        rw [HG.out]
        exact r5.alloc _
      have r6 : w6.rowIs (W.heap.size + 1) 3 xs.length (fun i => .int .i64 (nth (giv kd xs (j + 1)) i)) := r55.of_block (hgrow6.block _ (by simp; omega) fun e => by have := (Hown5.out.lt _ e.symm).1; omega)
      have b55 := b5.alloc (by simp; omega) (.cells #[.int .i64 (g : Int)] 3)
      have hb6 := b55.grown hgrow6 (by simp; omega) fun t ht => by have := (Hown5.out.lt _ ht).1; omega
      clear hgrow6 r55 b55 b5 r5 q5 r4 Hown5 Hnews q1 q2 hbw4 hb34
      go_wp2_with fail
      go_roundw
      case rel => exact ⟨j + 1, by omega, by go_num, r6, hown6, hb6⟩
      case measure => simp [intOf]; omega
    · obtain rfl : j = n := by omega
      have hown' : wr.ownsRow (W.heap.size + 2) 3 1 u7 (gord kd xs j).length ((gord kd xs j).map (Value.int .i64)) := by rw [gord_len]; exact hown
      obtain ⟨a2, c2, e2, h3, h4, h5⟩ := own_ints hown'
      rw [gord_len] at e2
      subst e2
      have hI : IntsAt wr (some ⟨W.heap.size + 1, 0, none⟩) (giv kd xs j) := ints_row (F := nth (giv kd xs j)) hr (fun i _ => rfl) (by rw [giv_len]; exact Nat.le_refl _)
      go_wp2_with fail
      go_ret2
      exact ⟨some ⟨W.heap.size + 1, 0, none⟩, xs.length, a2, c2, by rw [giv_len, gord_len]; rfl, hI, h3, hbA.trans (hb'.mono (by simp)), by rw [giv_len]; exact Nat.le_refl _, by unfold maxLen; omega, h4, h5⟩
end Go.Proofs.Ythankdfjkmfokaa
