/- Giving meals one after another: plainly, 'give' and the document's 'given'. -/
import Derived.Test.YthankdfjkmfokaaTop
namespace Go.Proofs.Ythankdfjkmfokaa
open Go.RowKit
set_option linter.unusedSimpArgs false
set_option linter.unusedVariables false

/-! ### plain -/
def bump (ms : List Int) (c : Nat) : List Int := ms.set c (nth ms c + 1)
theorem bump_len (ms : List Int) (c : Nat) : (bump ms c).length = ms.length := by simp [bump]
theorem bump_at (ms : List Int) (c i : Nat) (hc : c < ms.length) : nth (bump ms c) i = if i = c then nth ms c + 1 else nth ms i := by
  unfold nth bump
  rw [List.getD, List.getElem?_set]
  by_cases h : i = c
  · subst h; simp [hc, nth]
  · rw [if_neg h, if_neg (Ne.symm h)]; rfl
def giv (kd : Int) (xs : List Int) : Nat → List Int
  | 0 => List.replicate xs.length 0
  | j + 1 => bump (giv kd xs j) (topI kd xs (giv kd xs j) xs.length)
def got (kd : Int) (xs : List Int) (j : Nat) : Nat := topI kd xs (giv kd xs j) xs.length
theorem giv_succ (kd : Int) (xs : List Int) (j : Nat) : giv kd xs (j + 1) = bump (giv kd xs j) (got kd xs j) := rfl
theorem giv_len (kd : Int) (xs : List Int) (j : Nat) : (giv kd xs j).length = xs.length := by
  induction j with
  | zero => simp [giv]
  | succ j ih => rw [giv_succ, bump_len, ih]
theorem got_lt {kd : Int} {xs : List Int} (h : 1 ≤ xs.length) (j : Nat) : got kd xs j < xs.length := by
  have := topI_lt kd xs (giv kd xs j) xs.length
  unfold got; omega
theorem giv_bd {kd : Int} {xs : List Int} (h : 1 ≤ xs.length) (j : Nat) : ∀ i, i < xs.length → 0 ≤ nth (giv kd xs j) i ∧ nth (giv kd xs j) i ≤ j := by
  induction j with
  | zero => intro i hi; simp [giv, nth, List.getD, hi]
  | succ j ih =>
    intro i hi
    have hg := got_lt (kd := kd) h j
    rw [giv_succ, bump_at _ _ _ (by rw [giv_len]; exact hg)]
    have h1 := ih i hi
    have h2 := ih _ hg
    split <;> omega
theorem giv_ok {kd : Int} {xs : List Int} (ho : OrdOK xs) (j : Nat) (hj : j ≤ 1000) : MealsOK xs (giv kd xs j) :=
  ⟨giv_len kd xs j, fun i hi => by have := giv_bd (kd := kd) ho.l1 j i (by rw [giv_len] at hi; exact hi); omega⟩
theorem sumTo_set (f g : Nat → Int) (c n : Nat) (hc : c < n) (h : ∀ i, g i = if i = c then f c + 1 else f i) : sumTo g n = sumTo f n + 1 := by
  induction n with
  | zero => omega
  | succ n ih =>
    simp only [sumTo]
    by_cases e : c = n
    · subst e
      have e1 : sumTo g c = sumTo f c := sumTo_congr g f c fun d hd => by rw [h d, if_neg (by omega)]
      rw [e1, h c, if_pos rfl]; omega
    · rw [ih (by omega), h n, if_neg (by omega)]; omega
theorem giv_tot {kd : Int} {xs : List Int} (h : 1 ≤ xs.length) (j : Nat) : tot (giv kd xs j) = j := by
  induction j with
  | zero =>
    unfold tot
    have e : sumTo (nth (giv kd xs 0)) (giv kd xs 0).length = sumTo (fun _ => 0) (giv kd xs 0).length := sumTo_congr _ _ _ fun d hd => by
      have hd' : d < xs.length := by rw [giv_len] at hd; exact hd
      have := giv_bd (kd := kd) h 0 d hd'
      omega
    rw [e]
    have z : ∀ n, sumTo (fun _ => (0 : Int)) n = 0 := by
      intro n
      induction n with
      | zero => rfl
      | succ n ih => simp only [sumTo, ih]; rfl
    exact z _
  | succ j ih =>
    have hg := got_lt (kd := kd) h j
    unfold tot at ih ⊢
    rw [giv_len] at ih ⊢
    rw [sumTo_set (nth (giv kd xs j)) (nth (giv kd xs (j + 1))) (got kd xs j) xs.length hg (fun i => by rw [giv_succ, bump_at _ _ _ (by rw [giv_len]; exact hg)]), ih]
    omega
def gord (kd : Int) (xs : List Int) (j : Nat) : List Int := (List.range j).map fun t => ((got kd xs t : Nat) : Int)
theorem gord_len (kd : Int) (xs : List Int) (j : Nat) : (gord kd xs j).length = j := by simp [gord]
theorem gord_succ (kd : Int) (xs : List Int) (j : Nat) : (gord kd xs j).map (Value.int .i64) ++ [.int .i64 (got kd xs j : Nat)] = (gord kd xs (j + 1)).map (Value.int .i64) := by simp [gord, List.range_succ]
theorem gord_at (kd : Int) (xs : List Int) (j i : Nat) (h : i < j) : nth (gord kd xs j) i = (got kd xs i : Nat) := by simp [nth, gord, List.getD, h]

/-- Two lists of numbers, in new memory. -/
def TwoPost (ys zs : List Int) (W : World) (e : Ending) (w' : World) : Prop :=
  ∃ a1 c1 a2 c2, e = .returned (.tuple #[.slice a1 ys.length c1, .slice a2 zs.length c2]) ∧ IntsAt w' a1 ys ∧ IntsAt w' a2 zs ∧ Below W.heap.size W w' ∧ ys.length ≤ c1 ∧ c1 ≤ maxLen ∧ zs.length ≤ c2 ∧ c2 ≤ maxLen
theorem row_bump {w : World} {M L : Nat} {ms : List Int} (h : w.rowIs M 3 L (fun i => .int .i64 (nth ms i))) (hl : ms.length = L) (c : Nat) (hc : c < L) :
    (w.setCell ⟨M, c, none⟩ (.int .i64 (nth ms c + 1))).rowIs M 3 L (fun i => .int .i64 (nth (bump ms c) i)) := by
  refine (h.set c _).congr fun i hi => ?_
  rw [bump_at ms c i (by omega)]
  split
  · rename_i e; subst e; rfl
  · rfl
set_option maxRecDepth 100000 in
set_option maxHeartbeats 2000000 in
theorem rgiven_any (kd : Int) (xs : List Int) (n : Nat) (a : Option Addr) (cap : Nat) (W : World) (h1 : IntsAt W a xs) (ho : OrdOK xs) (hn : n ≤ 1000) :
    Calls Try.prog 56 #[.slice a xs.length cap, .int .i64 n, .int .i64 kd] W (TwoPost (gord kd xs n) (giv kd xs n) W) := by
  have hl1 := ho.l1
  have hl8 := ho.l8
  obtain ⟨i0, hi0, hz0, hz1, hz2⟩ := info_parts info3
  go_enter Try.func56, Try.ntmps56
  go_wp2_with (refine wpList_make_int _ rfl _ _ 22 rfl 3 (.int .i64 0) 8 Try.underlying22 info3 rfl .i64 .i64 _ _ xs.length rfl rfl rfl rfl (by omega) (by omega) ?_; intro w1 hr1 hz1' hb1)
  have hM : W.heap.size ≤ W.heap.size := Nat.le_refl _
  go_loopw [9, 10] (fun v9 v10 w' => ∃ j : Nat, j ≤ n ∧ v10 = .int .i64 j ∧ w'.rowIs W.heap.size 3 xs.length (fun i => .int .i64 (nth (giv kd xs j) i)) ∧ w'.ownsRow (W.heap.size + 1) 3 1 v9 j ((gord kd xs j).map (Value.int .i64)) ∧ Below W.heap.size W w') (fun _ v10 _ => n - (intOf v10).toNat)
  case atStart =>
    refine ⟨0, by omega, rfl, hr1.congr fun i hi => ?_, World.ownsRow_nil _ _ _ _, hb1⟩
    have : nth (giv kd xs 0) i = 0 := by simp [giv, nth, List.getD, hi]
    rw [this]
  case round =>
    clear hr1 hb1
    obtain ⟨j, hj, rfl, hr, hown, hb⟩ := hrel
    by_cases hlt : j < n
    · have hgl := got_lt (kd := kd) hl1 j
      have hmo := giv_ok (kd := kd) ho j (by omega)
      have hI : IntsAt wr (some ⟨W.heap.size, 0, none⟩) (giv kd xs j) := ints_row (F := nth (giv kd xs j)) hr (fun i _ => rfl) (by rw [giv_len]; exact Nat.le_refl _)
      have hc := rclaimer_any kd xs (giv kd xs j) a (some ⟨W.heap.size, 0, none⟩) cap xs.length wr (h1.below hb) hI ho hmo
      rw [giv_len] at hc
      have Hc : Hid (Calls Try.prog 73 #[.slice a xs.length cap, .slice (some ⟨W.heap.size, 0, none⟩) xs.length xs.length, .int .i64 kd] wr fun e w' => e = .returned (.int .i64 (got kd xs j : Nat)) ∧ ∃ n, w' = wr.drewN n) := hc
      clear hc hI hmo
      have hbd := giv_bd (kd := kd) hl1 j _ hgl
      have c1 := hr.cell hgl
      have f1 := hr.frozen (got kd xs j)
      have HS := hid (gord_succ kd xs j)
      have HG := hid (giv_succ kd xs j)
      have hrl := hr.lt
      generalize hg : got kd xs j = g at *
      have Hg := hid hg
      clear hg
      go_wp2_with fail
      refine Hc.out.mono ?_; rintro e w3 ⟨rfl, m, rfl⟩
      have hown5 : ((wr.drewN m).setCell ⟨W.heap.size, g, none⟩ (.int .i64 (nth (giv kd xs j) g + 1))).ownsRow (W.heap.size + 1) 3 1 u9 j ((gord kd xs j).map (Value.int .i64)) := ownsRow_setCell_below (own_below hown (below_drewN (Below.refl _ _) m)) (a := ⟨W.heap.size, g, none⟩) (by simp) _
      have Hown5 := hid hown5
      have hsz := hb.size
      have Hnews : Hid (∀ t u, ([Value.int .i64 (g : Int)])[t]? = some u → (((wr.drewN m).setCell ⟨W.heap.size, g, none⟩ (.int .i64 (nth (giv kd xs j) g + 1))).alloc (.cells #[.int .i64 (g : Int)] 3)).cell? ((⟨wr.heap.size, 0, none⟩ : Addr).add t) = some u) := by
        have := World.news_of_block (cs := #[.int .i64 (g : Int)]) (t := 3) (fr := (0, 0)) (heap_alloc_new ((wr.drewN m).setCell ⟨W.heap.size, g, none⟩ (.int .i64 (nth (giv kd xs j) g + 1))) (.cells #[.int .i64 (g : Int)] 3))
        exact hid (by simpa using this)
      clear hown5
      go_wp2_with (at_builtin; refine wpList_append_own _ rfl _ _ 22 rfl (W.heap.size + 1) 3 i0 (.int .i64 0) 1 8 Try.underlying22 hi0 hz0 hz1 hz2 rfl (by decide) _ _ _ rfl (Hown5.out.alloc _) ⟨wr.heap.size, 0, none⟩ 1 1 [.int .i64 (g : Int)] rfl rfl Hnews.out (by simp [Value.oneCell']) (by unfold maxLen; omega) (by omega) (by simp; omega) ?_; intro v' w4 hown4 hgrow4 _)
      rw [HS.out] at hown4
      have r5 : (((wr.drewN m).setCell ⟨W.heap.size, g, none⟩ (.int .i64 (nth (giv kd xs j) g + 1))).alloc (.cells #[.int .i64 (g : Int)] 3)).rowIs W.heap.size 3 xs.length (fun i => .int .i64 (nth (giv kd xs (j + 1)) i)) := by
        rw [HG.out]
        exact (row_bump (rowIs_drewN hr m) (giv_len kd xs j) g hgl).alloc _
      have r4 : w4.rowIs W.heap.size 3 xs.length (fun i => .int .i64 (nth (giv kd xs (j + 1)) i)) := r5.of_block (hgrow4.block _ (by simp; omega) fun e => by have := (Hown5.out.lt _ e.symm).1; omega)
      have b5 : Below W.heap.size W (((wr.drewN m).setCell ⟨W.heap.size, g, none⟩ (.int .i64 (nth (giv kd xs j) g + 1))).alloc (.cells #[.int .i64 (g : Int)] 3)) := ((below_drewN hb m).setCell (p := ⟨W.heap.size, g, none⟩) (Nat.le_refl _) _).alloc (by simp; omega) _
      have hb4 : Below W.heap.size W w4 := b5.grown hgrow4 (by simp; omega) fun t ht => by have := (Hown5.out.lt _ ht).1; omega
      clear hgrow4 r5 b5 hown hr hb Hown5 Hnews c1 f1
      go_wp2_with fail
      go_roundw
      case rel => exact ⟨j + 1, by omega, by go_num, r4, hown4, hb4⟩
      case measure => simp [intOf]; omega
    · obtain rfl : j = n := by omega
      have hown' : wr.ownsRow (W.heap.size + 1) 3 1 u9 (gord kd xs j).length ((gord kd xs j).map (Value.int .i64)) := by rw [gord_len]; exact hown
      obtain ⟨a2, c2, rfl, h3, h4, h5⟩ := own_ints hown'
      have hI : IntsAt wr (some ⟨W.heap.size, 0, none⟩) (giv kd xs j) := ints_row (F := nth (giv kd xs j)) hr (fun i _ => rfl) (by rw [giv_len]; exact Nat.le_refl _)
      go_wp2_with fail
      go_ret2
      exact ⟨a2, c2, some ⟨W.heap.size, 0, none⟩, xs.length, by rw [giv_len]; rfl, h3, hI, hb, h4, h5, by rw [giv_len]; exact Nat.le_refl _, by unfold maxLen; omega⟩
end Go.Proofs.Ythankdfjkmfokaa
