/- The program's 'remainders': what it returns. -/
import Derived.Test.YthankdfjkmfokaaSlMax
namespace Go.Proofs.Ythankdfjkmfokaa
open Go.RowKit
set_option linter.unusedSimpArgs false
set_option linter.unusedVariables false

structure RemNums (xs : List Int) (n : Int) (i : Nat) : Prop where
  p0 : 0 ≤ n * nth xs i
  p1 : n * nth xs i ≤ 1000000000
  f0 : 0 ≤ flo xs n i
  f1 : flo xs n i ≤ 1000
  r0 : 0 ≤ rst xs n i
  r1 : rst xs n i < 8000000
theorem rem_nums {xs : List Int} (ho : OrdOK xs) {n : Int} (hn : NumOK n) (i : Nat) (hi : i < xs.length) : RemNums xs n i := by
  have o := ho.el i hi
  have p := mul_bds hn.1 hn.2 (show 0 ≤ nth xs i by omega) o.2
  have f := flo_bd ho hn i hi
  have r := rst_bd ho n i
  have t := tot_ord ho
  have := hn.2
  exact ⟨p.1, by omega, f.1, by omega, r.1, by omega⟩
def rowN (f : Nat → Int) (i : Nat) : Value := .int .i64 (f i)
def cut (k : Nat) (f : Nat → Int) (i : Nat) : Int := if i < k then f i else 0
theorem flo_sum_bd {xs : List Int} (ho : OrdOK xs) {n : Int} (hn : NumOK n) (k : Nat) (hk : k ≤ xs.length) : 0 ≤ sumTo (flo xs n) k ∧ sumTo (flo xs n) k ≤ 8000 := by
  have h := sumTo_bd (flo xs n) 1000 k fun d hd => by have := flo_bd ho hn d (by omega); have := hn.2; omega
  have := ho.l8
  omega
theorem row_cut {w : World} {b L : Nat} {t : TypeId} {f : Nat → Int} {k : Nat} (h : w.rowIs b t L (rowN (cut k f))) : (w.setCell ⟨b, k, none⟩ (.int .i64 (f k))).rowIs b t L (rowN (cut (k + 1) f)) := by
  refine (h.set k _).congr fun i hi => ?_
  unfold rowN cut
  by_cases e : i = k
  · subst e; simp
  · rw [if_neg e]
    have : (i < k + 1) = (i < k) := propext (by omega)
    simp only [this]
theorem row_bump2 {w : World} {b L : Nat} {t : TypeId} {ms : List Int} (h : w.rowIs b t L (rowN (nth ms))) (hl : ms.length = L) (c : Nat) (hc : c < L) :
    (w.setCell ⟨b, c, none⟩ (.int .i64 (nth ms c + 1))).rowIs b t L (rowN (nth (bump ms c))) := by
  refine (h.set c _).congr fun i hi => ?_
  unfold rowN
  rw [bump_at _ _ _ (by omega)]
  by_cases e : i = c
  · subst e; simp
  · simp [e]
theorem row_strike {w : World} {b L : Nat} {t : TypeId} {ms : List Int} (h : w.rowIs b t L (rowN (nth ms))) (hl : ms.length = L) (c : Nat) (hc : c < L) :
    (w.setCell ⟨b, c, none⟩ (.int .i64 (-1))).rowIs b t L (rowN (nth (strike ms c))) := by
  refine (h.set c _).congr fun i hi => ?_
  unfold rowN
  rw [strike_at _ _ _ (by omega)]
  by_cases e : i = c
  · subst e; simp
  · simp [e]
structure RemStep (xs : List Int) (n : Int) (j : Nat) (c : Nat) : Prop where
  lt : c < xs.length
  o : (remO xs n (j + 1)).1 = bump (remO xs n j).1 c
  r : (remO xs n (j + 1)).2 = strike (remO xs n j).2 c
  is : c = mxI (remO xs n j).2 xs.length
  lo : 0 ≤ nth (remO xs n j).1 c
  hi : nth (remO xs n j).1 c ≤ 1001
theorem rem_step {xs : List Int} (ho : OrdOK xs) {n : Int} (hn : NumOK n) (j : Nat) (hj : (j : Int) ≤ lef xs n) : ∃ c, RemStep xs n j c := by
  have hl := remO_len xs n j
  have h1 := ho.l1
  have hm : mxI (remO xs n j).2 xs.length < xs.length := by have := mxI_lt (remO xs n j).2 xs.length; omega
  obtain ⟨θ, hI⟩ := rem_inv ho n j hj
  have hr := rem_nums ho hn _ hm
  refine ⟨_, hm, rfl, rfl, rfl, ?_, ?_⟩
  · rcases hI.at_ _ hm with ⟨a1, a2, a3⟩ | ⟨a1, a2, a3, a4⟩
    · rw [a1]; exact hr.f0
    · rw [a1]; have := hr.f0; omega
  · rcases hI.at_ _ hm with ⟨a1, a2, a3⟩ | ⟨a1, a2, a3, a4⟩
    · rw [a1]; have := hr.f1; omega
    · rw [a1]; have := hr.f1; omega

set_option maxRecDepth 100000 in
set_option maxHeartbeats 4000000 in
theorem remainders_any (xs : List Int) (a : Option Addr) (cap : Nat) (n : Int) (W : World) (h1 : IntsAt W a xs) (ho : OrdOK xs) (hn : NumOK n) :
    Calls Try.prog 81 #[.slice a xs.length cap, .int .i64 n] W (IntsBack (remL xs n) W) := by
  have hl1 := ho.l1
  have hl8 := ho.l8
  have ht := tot_ord ho
  have hn0 := hn.1
  have hn1 := hn.2
  have hlb := lef_bd ho n
  have HT := hid (fun w h => total61 xs a cap w h ho.small)
  have HR := hid (fun i hi => rem_nums ho hn i hi)
  have HSm := hid (fun k hk => flo_sum_bd ho hn k hk)
  have HSt := hid (fun j hj => rem_step ho hn j hj)
  have Hlef : Hid (lef xs n = n - sumTo (flo xs n) xs.length) := hid rfl
  have Hel := hid ho.el
  clear ho hn
  go_enter Try.func81, Try.ntmps81
  go_wp2_with fail
  refine (HT.out _ h1).mono ?_; rintro e w' ⟨rfl, rfl⟩
  clear HT
  go_wp2_with (first | (refine wpList_make_int (o := ⟨some 16, _, _, _, _, _⟩) _ rfl _ _ 22 rfl 3 (.int .i64 0) 8 Try.underlying22 info3 rfl .i64 .i64 _ _ xs.length rfl rfl rfl rfl (by omega) (by omega) ?_; intro w1 hr1 hz1 hb1) | (refine wpList_make_int (o := ⟨some 19, _, _, _, _, _⟩) _ rfl _ _ 22 rfl 3 (.int .i64 0) 8 Try.underlying22 info3 rfl .i64 .i64 _ _ xs.length rfl rfl rfl rfl (by omega) (by omega) ?_; intro w2 hr2 hz2 hb2))
  have hr12 := hr1.of_block (hb2.block _ hr1.lt)
  have hb12 := hb1.trans (hb2.mono hb1.size)
  rw [hz1] at hr2
  clear hr1 hb1 hb2 hz2
  go_wp2_with fail
  go_loopw [8, 9, 10, 23] (fun v8 v9 v10 v23 w' => ∃ k : Nat, k ≤ xs.length ∧ v23 = .int .i64 k ∧ v8 = .int .i64 (n - sumTo (flo xs n) k) ∧ w'.rowIs W.heap.size 3 xs.length (rowN (cut k (flo xs n))) ∧ w'.rowIs (W.heap.size + 1) 3 xs.length (rowN (cut k (rst xs n))) ∧ Below W.heap.size W w') (fun _ _ _ v23 _ => xs.length - (intOf v23).toNat)
  case atStart => exact ⟨0, by omega, rfl, by simp [sumTo], hr12, hr2, hb12⟩
  case round =>
    clear hr12 hr2 hb12 hz1
    obtain ⟨k, hk, rfl, rfl, q1, q2, hb⟩ := hrel
    by_cases hlt : k < xs.length
    · obtain ⟨b, off, rfl, hbl, c1⟩ := (h1.below hb) k hlt
      have i1 : (0 : Int) ≤ (k : Int) := by omega
      have i2 : (k : Int) < (xs.length : Int) := by omega
      have N := HR.out k hlt
      have p0 := N.p0
      have p1 := N.p1
      have f0 := N.f0
      have f1 := N.f1
      have r0 := N.r0
      have r1 := N.r1
      have s0 := (HSm.out k hk).1
      have s1 := (HSm.out k hk).2
      have HS : Hid (sumTo (flo xs n) (k + 1) = sumTo (flo xs n) k + flo xs n k) := hid rfl
      clear N
      have w1 : IntKind.i64.wrap (n * nth xs k) = n * nth xs k := IntWalk.i64_in _ (by omega)
      have e1 : n * nth xs k / tot xs = flo xs n k := rfl
      have e2 : n * nth xs k % tot xs = rst xs n k := rfl
      have z1 := q1.cell hlt
      have z2 := q2.cell hlt
      have y1 := q1.frozen k
      have y2 := q2.frozen k
      have t1 := row_cut q1
      have t2 := row_cut q2
      have hlt1 := q1.lt
      have hlt2 := q2.lt
      go_wp2_with fail
      go_region
      go_wp2_with fail
      go_roundw
      case rel => exact ⟨k + 1, by omega, by go_num, by rw [HS.out]; exact congrArg (Value.int .i64) (by omega), (t1.setOther (a := ⟨W.heap.size + 1, k, none⟩) (by show W.heap.size ≠ W.heap.size + 1; omega) _).drew, (row_cut (q2.setOther (a := ⟨W.heap.size, k, none⟩) (by show W.heap.size + 1 ≠ W.heap.size; omega) _)).drew, ((hb.setCell (p := ⟨W.heap.size, k, none⟩) (Nat.le_refl _) _).setCell (p := ⟨W.heap.size + 1, k, none⟩) (by show W.heap.size ≤ W.heap.size + 1; omega) _).drew⟩
      case measure => simp [intOf]; omega
    · obtain rfl : k = xs.length := by omega
      rw [← Hlef.out]
      have o1 : wr.rowIs W.heap.size 3 xs.length (rowN (nth (remO xs n 0).1)) := q1.congr fun i hi => by unfold rowN cut; rw [if_pos hi]; congr 1; exact (floL_at xs n _ i hi).symm
      have o2 : wr.rowIs (W.heap.size + 1) 3 xs.length (rowN (nth (remO xs n 0).2)) := q2.congr fun i hi => by unfold rowN cut; rw [if_pos hi]; congr 1; exact (rstL_at xs n _ i hi).symm
      obtain ⟨wo, hwo⟩ : ∃ wo, wo = wr := ⟨_, rfl⟩
      subst hwo
      have HR1 : Hid (remL xs n = (remO xs n (lef xs n).toNat).1) := hid rfl
      clear q1 q2 Hlef
      generalize hL : lef xs n = L at *
      have HL := hid hL
      clear hL
      go_wp2_with fail
      go_loopw [11, 52] (fun v11 v52 w' => ∃ j : Nat, (j : Int) ≤ L ∧ v52 = .int .i64 j ∧ w'.rowIs W.heap.size 3 xs.length (rowN (nth (remO xs n j).1)) ∧ w'.rowIs (W.heap.size + 1) 3 xs.length (rowN (nth (remO xs n j).2)) ∧ Below W.heap.size W w') (fun _ v52 _ => (L - intOf v52).toNat)
      case atStart => exact ⟨0, hlb.1, rfl, o1, o2, hb⟩
      case round =>
        clear o1 o2 hb
        obtain ⟨j, hj, rfl, q1, q2, hb⟩ := hrel
        have hlen := remO_len xs n j
        by_cases hlt : (j : Int) < L
        · obtain ⟨c, S⟩ := HSt.out j (by omega)
          have hI : IntsAt wr (some ⟨W.heap.size + 1, 0, none⟩) (remO xs n j).2 := ints_row (F := nth (remO xs n j).2) q2 (fun i _ => rfl) (by rw [hlen.2]; exact Nat.le_refl _)
          have hM := Max_any (remO xs n j).2 (some ⟨W.heap.size + 1, 0, none⟩) xs.length wr hI (by omega) (by omega)
          have hX := Index_any (remO xs n j).2 (nth (remO xs n j).2 c) c (some ⟨W.heap.size + 1, 0, none⟩) xs.length wr hI (by rw [hlen.2]; exact S.lt) rfl (fun i hi => by
            have h1 := mxI_first (remO xs n j).2 xs.length i
            have h2 := S.is
            rw [← h2] at h1
            have := h1 hi
            omega) (by omega)
          have h2 := S.is
          rw [hlen.2] at hM hX
          rw [← h2] at hM
          have HM := hid hM
          have HX := hid hX
          have t1 := row_bump2 q1 hlen.1 c S.lt
          have t2 := row_strike (q2.setOther (a := ⟨W.heap.size, c, none⟩) (by show W.heap.size + 1 ≠ W.heap.size; omega) (.int .i64 (nth (remO xs n j).1 c + 1))) hlen.2 c S.lt
          have t1' := t1.setOther (a := ⟨W.heap.size + 1, c, none⟩) (by show W.heap.size ≠ W.heap.size + 1; omega) (.int .i64 (-1))
          rw [← S.o] at t1'
          rw [← S.r] at t2
          have z1 := q1.cell S.lt
          have z2 := q2.cell S.lt
          have y1 := q1.frozen c
          have y2 := q2.frozen c
          unfold rowN at z1 z2
          have lo := S.lo
          have hi := S.hi
          have hcl := S.lt
          have i1 : (0 : Int) ≤ (c : Int) := by omega
          have i2 : (c : Int) < (xs.length : Int) := by omega
          have hb2 := (hb.setCell (p := ⟨W.heap.size, c, none⟩) (Nat.le_refl _) (.int .i64 (nth (remO xs n j).1 c + 1))).setCell (p := ⟨W.heap.size + 1, c, none⟩) (by show W.heap.size ≤ W.heap.size + 1; omega) (.int .i64 (-1))
          have Hz := hid (And.intro t1' (And.intro t2 hb2))
          clear hM hX h2 S t1 t2 t1' hb2 hI hlen q1 q2 hb
          generalize nth (remO xs n j).2 c = m at *
          generalize nth (remO xs n j).1 c = o at *
          go_wp2_with fail
          refine HM.out.mono ?_; rintro e w' ⟨rfl, rfl⟩
          go_wp2_with fail
          refine HX.out.mono ?_; rintro e w' ⟨rfl, rfl⟩
          clear HM HX
          go_wp2_with fail
          go_roundw
          case rel => exact ⟨j + 1, by push_cast; omega, by go_num, Hz.out.1, Hz.out.2.1, Hz.out.2.2⟩
          case measure => simp [intOf]; omega
        · have hje : j = L.toNat := by omega
          have hI : IntsAt wr (some ⟨W.heap.size, 0, none⟩) (remO xs n j).1 := ints_row (F := nth (remO xs n j).1) q1 (fun i _ => rfl) (by rw [hlen.1]; exact Nat.le_refl _)
          have hlt' : ¬ (j : Int) < L := hlt
          rw [hje] at hI hlen
          rw [← HR1.out] at hI hlen
          have HIz := hid hI
          have Hlen := hid hlen.1
          clear hI hlen hje
          go_wp2_with fail
          go_ret
          exact ⟨some ⟨W.heap.size, 0, none⟩, xs.length, by rw [Hlen.out]; rfl, HIz.out, hb, by rw [Hlen.out]; exact Nat.le_refl _, by unfold maxLen; omega⟩
end Go.Proofs.Ythankdfjkmfokaa
