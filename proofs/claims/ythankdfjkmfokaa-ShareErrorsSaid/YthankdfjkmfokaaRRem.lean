/- The document's 'remainders': what it returns. -/
import Derived.Test.YthankdfjkmfokaaRem
import Derived.Maps.AppendAt
namespace Go.Proofs.Ythankdfjkmfokaa
open Go.RowKit
set_option linter.unusedSimpArgs false
set_option linter.unusedVariables false

def Apart (v u : Value) : Prop := ∀ g, v.ownBlock = some g → u.ownBlock ≠ some g
theorem Apart.symm {v u : Value} (h : Apart v u) : Apart u v := fun g h1 h2 => h g h2 h1
theorem Apart.ne {v u : Value} (h : Apart v u) : u.ownBlock = none ∨ u.ownBlock ≠ v.ownBlock := by
  cases e : u.ownBlock with
  | none => exact .inl rfl
  | some g => exact .inr fun h' => h g h'.symm e
theorem own_kept {w w' : World} {o : Obj} {B n : Nat} {v u : Value} {zs : List Value} (h : w.ownsRow B 3 1 u n zs) (hg : (w.alloc o).grownBy w' v.ownBlock) (ha : Apart v u) : w'.ownsRow B 3 1 u n zs :=
  (h.alloc o).kept hg ha.ne
theorem apart_new {w : World} {o : Obj} {B n : Nat} {v v' u : Value} {zs : List Value} (h : w.ownsRow B 3 1 u n zs) (ha : Apart v u) (hl : v'.ownBlock = v.ownBlock ∨ v'.ownBlock = some (w.alloc o).heap.size) : Apart v' u := by
  intro g h1 h2
  rcases hl with e | e
  · exact ha g (e ▸ h1) h2
  · rw [e] at h1
    cases h1
    have := (h.lt _ h2).2
    simp at this
    omega
def RowPre (w : World) (g cap L : Nat) (f : Nat → Int) : Prop := ∃ F, w.rowIs g 3 cap F ∧ L ≤ cap ∧ ∀ i, i < L → F i = .int .i64 (f i)
theorem RowPre.cell {w : World} {g cap L : Nat} {f : Nat → Int} (h : RowPre w g cap L f) {i : Nat} (hi : i < L) : w.cell? ⟨g, i, none⟩ = some (.int .i64 (f i)) := by
  obtain ⟨F, hr, hl, hF⟩ := h
  rw [hr.cell (by omega), hF i hi]
theorem RowPre.frozen {w : World} {g cap L : Nat} {f : Nat → Int} (h : RowPre w g cap L f) (i : Nat) : w.frozen? ⟨g, i, none⟩ = false := by
  obtain ⟨F, hr, _⟩ := h
  exact hr.frozen i
theorem RowPre.lt {w : World} {g cap L : Nat} {f : Nat → Int} (h : RowPre w g cap L f) : g < w.heap.size := by
  obtain ⟨F, hr, _⟩ := h
  exact hr.lt
theorem RowPre.set {w : World} {g cap L : Nat} {f f' : Nat → Int} (h : RowPre w g cap L f) (c : Nat) (x : Int) (hf : ∀ i, i < L → f' i = if i = c then x else f i) : RowPre (w.setCell ⟨g, c, none⟩ (.int .i64 x)) g cap L f' := by
  obtain ⟨F, hr, hl, hF⟩ := h
  refine ⟨_, hr.set c _, hl, fun i hi => ?_⟩
  show (if i = c then Value.int .i64 x else F i) = _
  rw [hf i hi]
  by_cases e : i = c
  · simp [e]
  · simp only [if_neg e]; exact hF i hi
theorem RowPre.other {w : World} {g cap L : Nat} {f : Nat → Int} (h : RowPre w g cap L f) {g' : Nat} (hne : g ≠ g') (c : Nat) (x : Value) : RowPre (w.setCell ⟨g', c, none⟩ x) g cap L f := by
  obtain ⟨F, hr, hl, hF⟩ := h
  exact ⟨F, hr.setOther (a := ⟨g', c, none⟩) hne x, hl, hF⟩
theorem RowPre.same {w w' : World} {g cap L : Nat} {f : Nat → Int} (h : RowPre w g cap L f) (e : w'.heap = w.heap) : RowPre w' g cap L f := by
  obtain ⟨F, hr, hl, hF⟩ := h
  exact ⟨F, hr.of_block (by rw [e]), hl, hF⟩
theorem RowPre.ints {w : World} {g cap L : Nat} {f : Nat → Int} {xs : List Int} (h : RowPre w g cap L f) (hl : xs.length = L) (hf : ∀ i, i < L → f i = nth xs i) : IntsAt w (some ⟨g, 0, none⟩) xs := by
  intro i hi
  refine ⟨g, 0, rfl, h.lt, ?_⟩
  rw [Nat.zero_add, h.cell (by omega), hf i (by omega)]
theorem own_pre {w : World} {B L : Nat} {v : Value} {xs : List Int} (h : w.ownsRow B 3 1 v L (xs.map (Value.int .i64))) (h1 : 1 ≤ L) (hl : xs.length = L) :
    ∃ g cap, v = .slice (some ⟨g, 0, none⟩) L cap ∧ v.ownBlock = some g ∧ B ≤ g ∧ cap ≤ maxLen ∧ RowPre w g cap L (nth xs) := by
  obtain ⟨_, h2⟩ := h
  rcases h2 with ⟨_, h0⟩ | ⟨g, cap, cur, rfl, hb, hg, hn, hcm, hcs, htake⟩
  · omega
  · refine ⟨g, cap, rfl, rfl, hb, hcm, fun i => (cur[i]?).getD undef, ⟨cur, hg, by omega, fun i hi => ?_⟩, hn, fun i hi => ?_⟩
    · have : i < cur.size := by omega
      simp [this]
    · have e : (cur.toList.take (L * 1))[i]? = (xs.map (Value.int .i64))[i]? := by rw [htake]
      rw [List.getElem?_take, if_pos (by omega)] at e
      show (cur[i]?).getD undef = _
      rw [← Array.getElem?_toList, e]
      simp [nth, List.getD, show i < xs.length by omega]
theorem floL_snoc (xs : List Int) (n : Int) (k : Nat) : (floL xs n k).map (Value.int .i64) ++ [.int .i64 (flo xs n k)] = (floL xs n (k + 1)).map (Value.int .i64) := by simp [floL, List.range_succ]
theorem rstL_snoc (xs : List Int) (n : Int) (k : Nat) : (rstL xs n k).map (Value.int .i64) ++ [.int .i64 (rst xs n k)] = (rstL xs n (k + 1)).map (Value.int .i64) := by simp [rstL, List.range_succ]
theorem floL_len (xs : List Int) (n : Int) (k : Nat) : (floL xs n k).length = k := by simp [floL]
theorem rstL_len (xs : List Int) (n : Int) (k : Nat) : (rstL xs n k).length = k := by simp [rstL]

set_option maxRecDepth 100000 in
set_option maxHeartbeats 4000000 in
theorem rremainders_any (xs : List Int) (a : Option Addr) (cap : Nat) (n : Int) (W : World) (h1 : IntsAt W a xs) (ho : OrdOK xs) (hn : NumOK n) :
    Calls Try.prog 82 #[.slice a xs.length cap, .int .i64 n] W (IntsBack (remL xs n) W) := by
  have hl1 := ho.l1
  have hl8 := ho.l8
  have ht := tot_ord ho
  have hn0 := hn.1
  have hn1 := hn.2
  have hlb := lef_bd ho n
  have HT := hid (fun w h => sum63 xs a cap w h ho.small)
  have HR := hid (fun i hi => rem_nums ho hn i hi)
  have HSm := hid (fun k hk => flo_sum_bd ho hn k hk)
  have HSt := hid (fun j hj => rem_step ho hn j hj)
  have Hlef : Hid (lef xs n = n - sumTo (flo xs n) xs.length) := hid rfl
  have Hel := hid ho.el
  obtain ⟨i0, hi0, hz0, hz1, hz2⟩ := info_parts info3
  clear ho hn
  go_enter Try.func82, Try.ntmps82
  go_wp2_with fail
  refine (HT.out _ h1).mono ?_; rintro e w' ⟨rfl, rfl⟩
  clear HT
  go_wp2_with fail
  go_loopw [6, 7, 8, 9] (fun v6 v7 v8 v9 w' => ∃ k : Nat, k ≤ xs.length ∧ v9 = .int .i64 k ∧ v6 = .int .i64 (n - sumTo (flo xs n) k) ∧ w'.ownsRow W.heap.size 3 1 v7 k ((floL xs n k).map (Value.int .i64)) ∧ w'.ownsRow W.heap.size 3 1 v8 k ((rstL xs n k).map (Value.int .i64)) ∧ Apart v7 v8 ∧ Below W.heap.size W w') (fun _ _ _ v9 _ => xs.length - (intOf v9).toNat)
  case atStart => exact ⟨0, by omega, rfl, by simp [sumTo], World.ownsRow_nil _ _ _ _, World.ownsRow_nil _ _ _ _, fun g h => by simp [Value.ownBlock] at h, Below.refl _ _⟩
  case round =>
    obtain ⟨k, hk, rfl, rfl, q7, q8, hap, hb⟩ := hrel
    by_cases hlt : k < xs.length
    · obtain ⟨b, off, e1, hbl, c1⟩ := (h1.below hb) k hlt
      subst e1
      have i1 : (0 : Int) ≤ (k : Int) := by omega
      have i2 : (k : Int) < (xs.length : Int) := by omega
      have N := HR.out k hlt
      have p0 := N.p0
      have p1 := N.p1
      have f0 := N.f0
      have f1 := N.f1
      have r0 := N.r0
      have r1 := N.r1
      have s0 := (HSm.out k hk).1
      have s1 := (HSm.out k hk).2
      have HS : Hid (sumTo (flo xs n) (k + 1) = sumTo (flo xs n) k + flo xs n k) := hid rfl
      clear N
      have w1 : IntKind.i64.wrap (n * nth xs k) = n * nth xs k := IntWalk.i64_in _ (by omega)
      have e1 : n * nth xs k / tot xs = flo xs n k := rfl
      have e2 : n * nth xs k % tot xs = rst xs n k := rfl
      have Q7 := hid q7
      have Q8 := hid q8
      have Hap := hid hap
      have Hfs := hid (floL_snoc xs n k)
      have Hrs := hid (rstL_snoc xs n k)
      have hfr := floL_at xs n (k + 1) k (by omega)
      have hfl := floL_len xs n (k + 1)
      have HfL := hid (And.intro hfr hfl)
      have Hnews : Hid (∀ t u, ([Value.int .i64 (flo xs n k)])[t]? = some u → (wr.alloc (.cells #[.int .i64 (flo xs n k)] 3)).cell? ((⟨wr.heap.size, 0, none⟩ : Addr).add t) = some u) := by
        have := World.news_of_block (cs := #[.int .i64 (flo xs n k)]) (t := 3) (fr := (0, 0)) (heap_alloc_new wr (.cells #[.int .i64 (flo xs n k)] 3))
        exact hid (by simpa using this)
      clear q7 q8 hap hfr hfl
      go_wp2_with (at_builtin; first | ((refine wpList_append_own_at (o := ⟨some 31, _, _, _, _, _⟩) _ rfl _ _ 22 rfl W.heap.size 3 i0 (.int .i64 0) 1 8 Try.underlying22 hi0 hz0 hz1 hz2 rfl (by decide) _ _ _ rfl (Q7.out.alloc _) ⟨wr.heap.size, 0, none⟩ 1 1 [.int .i64 (flo xs n k)] rfl rfl Hnews.out (by simp [Value.oneCell']) (by unfold maxLen; omega) (by omega) (by have := hb.size; simp at this ⊢; omega) ?_); intro v7 w3 hown7 hgrow7 _ hloc7; rw [Hfs.out] at hown7; have hb3 := (hb.alloc hb.size (.cells #[.int .i64 (flo xs n k)] 3)).grown hgrow7 (by have := hb.size; simp at this ⊢; omega) fun t ht => (Q7.out.lt _ ht).1; have H8 := own_kept Q8.out hgrow7 Hap.out; have A1 := apart_new Q8.out Hap.out hloc7; have hown7' : w3.ownsRow W.heap.size 3 1 v7 (floL xs n (k + 1)).length ((floL xs n (k + 1)).map (Value.int .i64)) := (by rw [HfL.out.2]; exact hown7); obtain ⟨a7, c7, e7, h7, _, _⟩ := own_ints hown7'; obtain ⟨b3, off3, e3, hbl3, c3⟩ := (h1.below hb3) k hlt; cases e3; rw [HfL.out.2] at e7; subst e7; have H8' := hid H8; have A1' := hid A1; have Hown7 := hid hown7; have Hnews2 : Hid (∀ t u, ([Value.int .i64 (rst xs n k)])[t]? = some u → (w3.alloc (.cells #[.int .i64 (rst xs n k)] 3)).cell? ((⟨w3.heap.size, 0, none⟩ : Addr).add t) = some u) := (by have := World.news_of_block (cs := #[.int .i64 (rst xs n k)]) (t := 3) (fr := (0, 0)) (heap_alloc_new w3 (.cells #[.int .i64 (rst xs n k)] 3)); exact hid (by simpa using this)); have Hloc : Hid (∀ (w4 : World) (v8 : Value), (w3.alloc (.cells #[.int .i64 (rst xs n k)] 3)).grownBy w4 u8.ownBlock → w4.ownsRow W.heap.size 3 1 (.slice a7 (k + 1) c7) (k + 1) ((floL xs n (k + 1)).map (Value.int .i64))) := hid fun w4 v8 hg => own_kept hown7 hg A1.symm; clear hown7 hown7' H8 A1 hgrow7 hloc7 Q7 Q8 Hap Hnews hbl3 h7 hb) | ((refine wpList_append_own_at (o := ⟨some 42, _, _, _, _, _⟩) _ rfl _ _ 22 rfl W.heap.size 3 i0 (.int .i64 0) 1 8 Try.underlying22 hi0 hz0 hz1 hz2 rfl (by decide) _ _ _ rfl (H8'.out.alloc _) ⟨w3.heap.size, 0, none⟩ 1 1 [.int .i64 (rst xs n k)] rfl rfl Hnews2.out (by simp [Value.oneCell']) (by unfold maxLen; omega) (by omega) (by have := hb3.size; simp at this ⊢; omega) ?_); intro v8 w4 hown8 hgrow8 _ hloc8; rw [Hrs.out] at hown8; have hb4 := (hb3.alloc hb3.size (.cells #[.int .i64 (rst xs n k)] 3)).grown hgrow8 (by have := hb3.size; simp at this ⊢; omega) fun t ht => (H8'.out.lt _ ht).1; have H7 := Hloc.out w4 v8 hgrow8; have A2 := (apart_new Hown7.out A1'.out.symm hloc8).symm; have H7' : w4.ownsRow W.heap.size 3 1 (.slice a7 (k + 1) c7) (floL xs n (k + 1)).length ((floL xs n (k + 1)).map (Value.int .i64)) := (by rw [HfL.out.2]; exact H7); obtain ⟨a9, c9, e9, h9, _, _⟩ := own_ints H7'; injection e9 with e9 e9b e9c; rw [← e9] at h9; clear e9 e9b e9c; obtain ⟨b9, off9, e10, hbl9, c9⟩ := h9 k (by rw [HfL.out.2]; omega); rw [HfL.out.1] at c9; subst e10; have i3 : (k : Int) < (k : Int) + 1 := by omega))
      have Hz := hid (And.intro H7 (And.intro hown8 (And.intro A2 hb4)))
      clear H7 H7' hown8 A2 hb4 hgrow8 hloc8 Hown7 A1' H8' Hloc Hnews2 h9 hb3 HfL Hfs Hrs
      go_wp2_with fail
      go_roundw
      case rel => exact ⟨k + 1, by omega, by go_num, by rw [HS.out]; exact congrArg (Value.int .i64) (by omega), Hz.out.1, Hz.out.2.1, Hz.out.2.2.1, Hz.out.2.2.2⟩
      case measure => simp [intOf]; omega
    · obtain rfl : k = xs.length := by omega
      rw [← Hlef.out]
      obtain ⟨g7, c7, e7, ob7, hg7, hm7, p7⟩ := own_pre q7 hl1 (floL_len _ _ _)
      obtain ⟨g8, c8, e8, ob8, hg8, hm8, p8⟩ := own_pre q8 hl1 (rstL_len _ _ _)
      have hne : g7 ≠ g8 := fun e => hap g7 ob7 (by rw [ob8, e])
      subst e7
      subst e8
      obtain ⟨wo, hwo⟩ : ∃ wo, wo = wr := ⟨_, rfl⟩
      subst hwo
      have HR1 : Hid (remL xs n = (remO xs n (lef xs n).toNat).1) := hid rfl
      have Hlen := hid (remO_len xs n)
      clear q7 q8 hap ob7 ob8 Hlef
      generalize hL : lef xs n = L at *
      have HL := hid hL
      clear hL
      have o7 : RowPre wo g7 c7 xs.length (nth (remO xs n 0).1) := p7
      have o8 : RowPre wo g8 c8 xs.length (nth (remO xs n 0).2) := p8
      clear p7 p8
      go_wp2_with fail
      go_loopw [6, 10, 11] (fun v6 v10 v11 w' => ∃ j : Nat, (j : Int) ≤ L ∧ v6 = .int .i64 (L - j) ∧ RowPre w' g7 c7 xs.length (nth (remO xs n j).1) ∧ RowPre w' g8 c8 xs.length (nth (remO xs n j).2) ∧ Below W.heap.size W w') (fun v6 _ _ _ => (intOf v6).toNat)
      case atStart => exact ⟨0, hlb.1, by simp, o7, o8, hb⟩
      case round =>
        clear o7 o8 hb
        obtain ⟨j, hj, rfl, q7, q8, hb⟩ := hrel
        by_cases hlt : (j : Int) < L
        · obtain ⟨c, S⟩ := HSt.out j (by omega)
          have d0 : decide ((0 : Int) < L - (j : Int)) = true := decide_eq_true (by omega)
          have S2 := hid S.is
          obtain ⟨wq, hwq⟩ : ∃ wq, wq = wr := ⟨_, rfl⟩
          subst hwq
          go_wp2_with fail
          go_loopw [10, 11] (fun v10 v11 w' => ∃ k m : Nat, 1 ≤ k ∧ k ≤ xs.length ∧ v10 = .int .i64 (mxI (remO xs n j).2 k : Nat) ∧ v11 = .int .i64 k ∧ w' = wq.drewN m) (fun _ v11 _ => xs.length - (intOf v11).toNat)
          case atStart => exact ⟨1, 0, by omega, hl1, by rw [mxI_one]; rfl, rfl, rfl⟩
          case round =>
            obtain ⟨k, m, hk1, hk, rfl, rfl, rfl⟩ := hrel
            by_cases hlt2 : k < xs.length
            · have hml := mxI_lt (remO xs n j).2 k
              have z1 := q8.cell (i := k) hlt2
              have z2 := q8.cell (i := mxI (remO xs n j).2 k) (by omega)
              have hy := mxI_yes (remO xs n j).2 k
              have hno := mxI_no (remO xs n j).2 k
              have Hy := hid (And.intro hy hno)
              have i1 : (0 : Int) ≤ (k : Int) := by omega
              have i2 : (k : Int) < (xs.length : Int) := by omega
              have i3 : (0 : Int) ≤ ((mxI (remO xs n j).2 k : Nat) : Int) := by omega
              have i4 : ((mxI (remO xs n j).2 k : Nat) : Int) < (xs.length : Int) := by omega
              clear hy hno hml
              by_cases hg : nth (remO xs n j).2 (mxI (remO xs n j).2 k) < nth (remO xs n j).2 k
              · have d1 : decide (nth (remO xs n j).2 (mxI (remO xs n j).2 k) < nth (remO xs n j).2 k) = true := decide_eq_true hg
                have E := hid (Hy.out.1 hg)
                clear hg Hy
                generalize nth (remO xs n j).2 k = x at *
                generalize mxI (remO xs n j).2 k = t at *
                generalize nth (remO xs n j).2 t = y at *
                go_wp2_with fail
                go_quiet (fail)
                go_wp2_with fail
                go_roundw
                case rel => exact ⟨k + 1, _, by omega, by omega, by rw [E.out], by go_num, rfl⟩
                case measure => simp [intOf]; omega
              · have d1 : decide (nth (remO xs n j).2 (mxI (remO xs n j).2 k) < nth (remO xs n j).2 k) = false := decide_eq_false hg
                have E := hid (Hy.out.2 hg)
                clear hg Hy
                generalize nth (remO xs n j).2 k = x at *
                generalize hq : mxI (remO xs n j).2 k = t at *
                have Hq := hid hq
                clear hq
                generalize nth (remO xs n j).2 t = y at *
                go_wp2_with fail
                go_quiet (fail)
                go_wp2_with fail
                go_roundw
                case rel => exact ⟨k + 1, _, by omega, by omega, by rw [E.out], by go_num, rfl⟩
                case measure => simp [intOf]; omega
            · obtain rfl : k = xs.length := by omega
              rw [← S2.out]
              have hlen := Hlen.out j
              have t7 := (q7.same (w' := wq.drewN m) (World.heap_drewN _ _)).set (f' := nth (remO xs n (j + 1)).1) c (nth (remO xs n j).1 c + 1) (fun i hi => by rw [S.o, bump_at _ _ _ (by rw [hlen.1]; exact S.lt)])
              have t8 := ((q8.same (w' := wq.drewN m) (World.heap_drewN _ _)).other hne.symm c (.int .i64 (nth (remO xs n j).1 c + 1))).set (f' := nth (remO xs n (j + 1)).2) c (-1) (fun i hi => by rw [S.r, strike_at _ _ _ (by rw [hlen.2]; exact S.lt)])
              have t7' := t7.other hne c (.int .i64 (-1))
              have z1 := (q7.same (w' := wq.drewN m) (World.heap_drewN _ _)).cell S.lt
              have z2 := (q8.same (w' := wq.drewN m) (World.heap_drewN _ _)).cell S.lt
              have y1 := (q7.same (w' := wq.drewN m) (World.heap_drewN _ _)).frozen c
              have y2 := (q8.same (w' := wq.drewN m) (World.heap_drewN _ _)).frozen c
              have lo := S.lo
              have hi := S.hi
              have hcl := S.lt
              have i1 : (0 : Int) ≤ (c : Int) := by omega
              have i2 : (c : Int) < (xs.length : Int) := by omega
              have hb2 := ((below_drewN hb m).setCell (p := ⟨g7, c, none⟩) hg7 (.int .i64 (nth (remO xs n j).1 c + 1))).setCell (p := ⟨g8, c, none⟩) hg8 (.int .i64 (-1))
              have Hz := hid (And.intro t7' (And.intro t8 hb2))
              clear t7 t7' t8 hb2 S S2 q7 q8 hlen hb
              generalize nth (remO xs n j).2 c = m' at *
              generalize nth (remO xs n j).1 c = o at *
              generalize wq.drewN m = wz at *
              go_wp2_with fail
              go_roundw
              case rel => exact ⟨j + 1, by push_cast; omega, by exact congrArg (Value.int .i64) (by push_cast; omega), Hz.out.1, Hz.out.2.1, Hz.out.2.2⟩
              case measure => simp [intOf]; omega
        · have hje : j = L.toNat := by omega
          have d0 : decide ((0 : Int) < L - (j : Int)) = false := decide_eq_false (by omega)
          have hlen := Hlen.out j
          have hI := q7.ints hlen.1 (fun i _ => rfl)
          rw [hje] at hI hlen
          rw [← HR1.out] at hI hlen
          have HIz := hid hI
          have Hl := hid hlen.1
          obtain ⟨F, _, hcp, _⟩ := q7
          clear hI hlen hje
          go_wp2_with fail
          go_ret
          exact ⟨some ⟨g7, 0, none⟩, c7, by rw [Hl.out]; rfl, HIz.out, hb, by rw [Hl.out]; exact hcp, hm7⟩
end Go.Proofs.Ythankdfjkmfokaa
