/- 'Some' and the document's: what they return. -/
import Derived.Test.YthankdfjkmfokaaSomeLaw
import Derived.Test.YthankdfjkmfokaaPCheck
namespace Go.Proofs.Ythankdfjkmfokaa
open Go.RowKit
set_option linter.unusedSimpArgs false
set_option linter.unusedVariables false

/-- School k of the list is a school and comes behind the one before. -/
structure SchAt (xs ss : List Int) (k : Nat) : Prop where
  lo : 0 ≤ nth ss k
  hi : nth ss k < xs.length
  up : 0 < k → nth ss (k - 1) < nth ss k
theorem schs_of {xs ss : List Int} (h : ∀ j, j < ss.length → SchAt xs ss j) (h1 : 1 ≤ ss.length) : SchsOK xs ss :=
  ⟨h1, fun j hj => ⟨(h j hj).lo, (h j hj).hi⟩, fun j hj => by have := (h (j + 1) hj).up (by omega); simpa using this⟩
theorem schs_at {xs ss : List Int} (h : SchsOK xs ss) (k : Nat) (hk : k < ss.length) : SchAt xs ss k :=
  ⟨(h.el k hk).1, (h.el k hk).2, fun h0 => by have := h.up (k - 1) (by omega); rwa [Nat.sub_add_cancel (by omega)] at this⟩
structure SomOK (xs ss : List Int) (n kd : Int) : Prop where
  ex : ExOK xs kd
  sch : SchsOK xs ss
  num : NumOK n
noncomputable def somE (xs ss : List Int) (n kd : Int) : Int := e01 (SomOK xs ss n kd)
open Classical in
noncomputable def somR (xs ss : List Int) (n kd : Int) : List Int := if SomOK xs ss n kd then divR (sub xs ss) kd n else []
theorem som_yes {xs ss : List Int} {n kd : Int} (h : SomOK xs ss n kd) : somE xs ss n kd = 0 ∧ somR xs ss n kd = divR (sub xs ss) kd n := ⟨e01_yes h, by rw [somR, if_pos h]⟩
theorem som_no {xs ss : List Int} {n kd : Int} (h : ¬ SomOK xs ss n kd) : somE xs ss n kd = 1 ∧ somR xs ss n kd = [] := ⟨e01_no h, by rw [somR, if_neg h]⟩
theorem sub_div {xs ss : List Int} {n kd : Int} (hx : ExOK xs kd) (hs : SchsOK xs ss) : DivOK (sub xs ss) kd n ↔ SomOK xs ss n kd :=
  ⟨fun h => ⟨hx, hs, h.2⟩, fun h => ⟨⟨sub_ord hx.1 hs, hx.2⟩, h.num⟩⟩
theorem som_div {xs ss : List Int} {n kd : Int} (hx : ExOK xs kd) (hs : SchsOK xs ss) : divR (sub xs ss) kd n = somR xs ss n kd ∧ divE (sub xs ss) kd n = somE xs ss n kd := by
  by_cases h : SomOK xs ss n kd
  · rw [(som_yes h).1, (som_yes h).2, divE_yes ((sub_div hx hs).2 h)]
    exact ⟨rfl, rfl⟩
  · rw [(som_no h).1, (som_no h).2, divE_no (fun x => h ((sub_div hx hs).1 x)), divR_no (fun x => h ((sub_div hx hs).1 x))]
    exact ⟨rfl, rfl⟩
theorem sub_take (xs ss : List Int) (k : Nat) (h : k < ss.length) : ((sub xs ss).take k).map (Value.int .i64) ++ [.int .i64 (nth xs (nth ss k).toNat)] = ((sub xs ss).take (k + 1)).map (Value.int .i64) := by
  have h1 : k < (sub xs ss).length := by rw [sub_len]; exact h
  rw [List.take_succ_eq_append_getElem h1, List.map_append]
  have := sub_at xs ss k h
  simp only [nth, List.getD, List.getElem?_eq_getElem h1, Option.getD_some] at this
  rw [this]
  rfl
theorem sch_more {xs ss : List Int} {k : Nat} (h : ∀ j, j < k → SchAt xs ss j) (hk : SchAt xs ss k) : ∀ j, j < k + 1 → SchAt xs ss j := fair_more h hk
def SomPost (xs ss : List Int) (n kd : Int) (W : World) : Ending → World → Prop := IntsE (somR xs ss n kd) (somE xs ss n kd) W

set_option maxRecDepth 100000 in
set_option maxHeartbeats 4000000 in
theorem Some_any (xs ss : List Int) (a a2 : Option Addr) (cap cap2 : Nat) (n kd : Int) (W : World) (h1 : IntsAt W a xs) (h2 : IntsAt W a2 ss) (hm : xs.length ≤ maxLen) (hm2 : ss.length ≤ 1000) :
    Calls Try.prog 29 #[.slice a xs.length cap, .slice a2 ss.length cap2, .int .i64 n, .int .i64 kd] W (SomPost xs ss n kd W) := by
  obtain ⟨i0, hi0, hz0, hz1, hz2⟩ := info_parts info3
  by_cases hx : ExOK xs kd
  · have Hx := hid (examine_yes xs a cap kd W h1 hm hx)
    have HX := hid hx
    have hl8 := hx.1.l8
    clear hx
    go_enter Try.func29, Try.ntmps29
    go_wp2_with fail
    refine Hx.out.mono ?_; rintro e w1 ⟨rfl, hb1⟩
    have hb0 := hb1.alloc hb1.size (.cells #[.func (.func (kdF kd)) #[] #[], .int .i64 (fac kd)] 66)
    go_wp2_with fail
    go_loopw [12, 13, 14, 26] (fun v12 v13 v14 v26 w' => ∃ k : Nat, k ≤ ss.length ∧ v26 = .int .i64 k ∧ w'.ownsRow W.heap.size 3 1 v12 k (((sub xs ss).take k).map (Value.int .i64)) ∧ (∀ j, j < k → SchAt xs ss j) ∧ Below W.heap.size W w') (fun _ _ _ v26 _ => ss.length - (intOf v26).toNat)
    case atStart => exact ⟨0, by omega, rfl, World.ownsRow_nil _ _ _ _, fun j hj => absurd hj (Nat.not_lt_zero j), hb0⟩
    case round =>
      clear hb0
      obtain ⟨k, hk, rfl, hown, hA, hb⟩ := hrel
      have HA := hid hA
      clear hA
      by_cases hlt : k < ss.length
      · obtain ⟨b2, off2, e2, hbl2, c2⟩ := (h2.below hb) k hlt
        subst e2
        have i1 : (0 : Int) ≤ (k : Int) := by omega
        have i2 : (k : Int) < (ss.length : Int) := by omega
        have wl : IntKind.i64.wrap ((xs.length : Int) - 1) = (xs.length : Int) - 1 := IntWalk.i64_in _ (by omega)
        by_cases hin : 0 ≤ nth ss k ∧ nth ss k ≤ (xs.length : Int) - 1
        · have Hw := hid (fun w => within_yes (nth ss k) 0 ((xs.length : Int) - 1) w hin.1 hin.2)
          obtain ⟨j, hj⟩ : ∃ j : Nat, nth ss k = j := ⟨(nth ss k).toNat, by omega⟩
          have hjl : j < xs.length := by omega
          by_cases h0 : 0 < k
          · obtain ⟨k', hk'⟩ : ∃ k' : Nat, k = k' + 1 := ⟨k - 1, by omega⟩
            obtain ⟨b3, off3, e3, hbl3, c3⟩ := (h2.below hb) k' (by omega)
            cases e3
            have hw1 : IntKind.i64.wrap ((k : Int) - 1) = (k' : Int) := by rw [IntWalk.i64_in _ (by omega)]; omega
            have i5 : (0 : Int) ≤ (k' : Int) := by omega
            have i6 : (k' : Int) < (ss.length : Int) := by omega
            have d0 : decide ((0 : Int) < (k : Int)) = true := decide_eq_true (by omega)
            by_cases hup : nth ss k' < nth ss k
            · have hat : SchAt xs ss k := ⟨hin.1, by omega, fun _ => (show k' = k - 1 by omega) ▸ hup⟩
              have d1 : decide ((j : Int) ≤ nth ss k') = false := decide_eq_false (by omega)
              clear hin hup
              rw [hj] at c2 Hw
              obtain ⟨b, off, e1, hbl, c1⟩ := (h1.below hb) j (by omega)
              subst e1
              have HS := hid (sub_take xs ss k hlt)
              have HT := hid (sch_more HA.out hat)
              rw [hj, Int.toNat_natCast] at HS
              have i3 : (0 : Int) ≤ (j : Int) := by omega
              have i4 : (j : Int) < (xs.length : Int) := by omega
              clear hat hj
              generalize nth ss k' = P at *
              have Hk := hid hk'
              clear hk'
              have own0 : wr.ownsRow W.heap.size 3 1 u12 k (((sub xs ss).take k).map (Value.int .i64)) := own_below hown (Below.refl _ _)
              have Hown := hid own0
              have hbw : Below W.heap.size W wr := hb
              have Hnews : Hid (∀ t u, ([Value.int .i64 (nth xs j)])[t]? = some u → (wr.alloc (.cells #[.int .i64 (nth xs j)] 3)).cell? ((⟨wr.heap.size, 0, none⟩ : Addr).add t) = some u) := by
                have := World.news_of_block (cs := #[.int .i64 (nth xs j)]) (t := 3) (fr := (0, 0)) (heap_alloc_new wr (.cells #[.int .i64 (nth xs j)] 3))
                exact hid (by simpa using this)
              clear own0
              go_wp2_with fail
              refine (Hw.out _).mono ?_; rintro e w' ⟨rfl, rfl⟩
              go_wp2_with (at_builtin; go_loud (refine wpList_append_own _ rfl _ _ 22 rfl W.heap.size 3 i0 (.int .i64 0) 1 8 Try.underlying22 hi0 hz0 hz1 hz2 rfl (by decide) _ _ _ rfl (Hown.out.alloc _) ⟨wr.heap.size, 0, none⟩ 1 1 [.int .i64 (nth xs j)] rfl rfl Hnews.out (by simp [Value.oneCell']) (by unfold maxLen; omega) (by omega) (by have := hbw.size; simp at this ⊢; omega) ?_); intro v' w6 hown6 hgrow6 _)
              rw [HS.out] at hown6
              have hb6 := (hbw.alloc hbw.size (.cells #[.int .i64 (nth xs j)] 3)).grown hgrow6 (by have := hbw.size; simp at this ⊢; omega) fun t ht => (Hown.out.lt _ ht).1
              clear hgrow6 Hown Hnews hbw
              go_wp2_with fail
              go_roundw
              case rel => exact ⟨k + 1, by omega, by go_num, hown6, HT.out, hb6⟩
              case measure => simp [intOf]; omega
            · have d1 : decide (nth ss k ≤ nth ss k') = true := decide_eq_true (by omega)
              have R := hid (som_no (n := n) (kd := kd) (xs := xs) (ss := ss) fun h => by have := (schs_at h.sch k hlt).up h0; rw [show k - 1 = k' by omega] at this; exact hup this)
              clear hin hup hj hk'
              go_wp2_with fail
              refine (Hw.out _).mono ?_; rintro e w' ⟨rfl, rfl⟩
              go_wp2_with fail
              go_ret2
              refine ⟨none, 0, by rw [R.out.1, R.out.2]; rfl, by rw [R.out.2]; exact fun i hi => absurd hi (Nat.not_lt_zero i), hb, by rw [R.out.2]; exact Nat.le_refl _, Nat.zero_le _⟩
          · have hat : SchAt xs ss k := ⟨hin.1, by omega, fun h => absurd h h0⟩
            have d0 : decide ((0 : Int) < (k : Int)) = false := decide_eq_false (by omega)
            clear hin
            rw [hj] at c2 Hw
            obtain ⟨b, off, e1, hbl, c1⟩ := (h1.below hb) j (by omega)
            subst e1
            have HS := hid (sub_take xs ss k hlt)
            have HT := hid (sch_more HA.out hat)
            rw [hj, Int.toNat_natCast] at HS
            have i3 : (0 : Int) ≤ (j : Int) := by omega
            have i4 : (j : Int) < (xs.length : Int) := by omega
            clear hat hj
            have own0 : wr.ownsRow W.heap.size 3 1 u12 k (((sub xs ss).take k).map (Value.int .i64)) := own_below hown (Below.refl _ _)
            have Hown := hid own0
            have hbw : Below W.heap.size W wr := hb
            have Hnews : Hid (∀ t u, ([Value.int .i64 (nth xs j)])[t]? = some u → (wr.alloc (.cells #[.int .i64 (nth xs j)] 3)).cell? ((⟨wr.heap.size, 0, none⟩ : Addr).add t) = some u) := by
              have := World.news_of_block (cs := #[.int .i64 (nth xs j)]) (t := 3) (fr := (0, 0)) (heap_alloc_new wr (.cells #[.int .i64 (nth xs j)] 3))
              exact hid (by simpa using this)
            clear own0
            go_wp2_with fail
            refine (Hw.out _).mono ?_; rintro e w' ⟨rfl, rfl⟩
            go_wp2_with (at_builtin; go_loud (refine wpList_append_own _ rfl _ _ 22 rfl W.heap.size 3 i0 (.int .i64 0) 1 8 Try.underlying22 hi0 hz0 hz1 hz2 rfl (by decide) _ _ _ rfl (Hown.out.alloc _) ⟨wr.heap.size, 0, none⟩ 1 1 [.int .i64 (nth xs j)] rfl rfl Hnews.out (by simp [Value.oneCell']) (by unfold maxLen; omega) (by omega) (by have := hbw.size; simp at this ⊢; omega) ?_); intro v' w6 hown6 hgrow6 _)
            rw [HS.out] at hown6
            have hb6 := (hbw.alloc hbw.size (.cells #[.int .i64 (nth xs j)] 3)).grown hgrow6 (by have := hbw.size; simp at this ⊢; omega) fun t ht => (Hown.out.lt _ ht).1
            clear hgrow6 Hown Hnews hbw
            go_wp2_with fail
            go_roundw
            case rel => exact ⟨k + 1, by omega, by go_num, hown6, HT.out, hb6⟩
            case measure => simp [intOf]; omega
        · have Hw := hid (fun w => within_no (nth ss k) 0 ((xs.length : Int) - 1) w (by omega))
          have R := hid (som_no (n := n) (kd := kd) (xs := xs) (ss := ss) fun h => hin ⟨(schs_at h.sch k hlt).lo, by have := (schs_at h.sch k hlt).hi; omega⟩)
          clear hin
          go_wp2_with fail
          refine (Hw.out _).mono ?_; rintro e w' ⟨rfl, rfl⟩
          go_wp2_with fail
          go_ret2
          refine ⟨none, 0, by rw [R.out.1, R.out.2]; rfl, by rw [R.out.2]; exact fun i hi => absurd hi (Nat.not_lt_zero i), hb, by rw [R.out.2]; exact Nat.le_refl _, Nat.zero_le _⟩
      · obtain rfl : k = ss.length := by omega
        by_cases h0 : ss.length = 0
        · have R := hid (som_no (n := n) (kd := kd) (xs := xs) (ss := ss) fun h => by have := h.sch.one; omega)
          rw [h0] at hown
          obtain ⟨_, rfl | hx⟩ : True ∧ (u12 = .slice none 0 0 ∨ ∃ g c, u12 = .slice (some ⟨g, 0, none⟩) 0 c) := ⟨trivial, by rcases hown.2 with ⟨h, _⟩ | ⟨g, c, _, h, _⟩; exact .inl h; exact .inr ⟨g, c, h⟩⟩
          · have h00 := hid h0
            clear h0 hown
            go_wp2_with fail
            go_ret2
            refine ⟨none, 0, by rw [R.out.1, R.out.2]; rfl, by rw [R.out.2]; exact fun i hi => absurd hi (Nat.not_lt_zero i), hb, by rw [R.out.2]; exact Nat.le_refl _, Nat.zero_le _⟩
          · obtain ⟨g, c, rfl⟩ := hx
            clear h0 hown
            go_wp2_with fail
            go_ret2
            refine ⟨none, 0, by rw [R.out.1, R.out.2]; rfl, by rw [R.out.2]; exact fun i hi => absurd hi (Nat.not_lt_zero i), hb, by rw [R.out.2]; exact Nat.le_refl _, Nat.zero_le _⟩
        · have hs := schs_of HA.out (by omega)
          have hd := som_div (n := n) HX.out hs
          have hown2 : wr.ownsRow W.heap.size 3 1 u12 (sub xs ss).length ((sub xs ss).map (Value.int .i64)) := by
            rw [sub_len]
            rw [List.take_of_length_le (by rw [sub_len]; exact Nat.le_refl _)] at hown
            exact hown
          obtain ⟨a3, c3, e3, h3, h4, h5⟩ := own_ints hown2
          rw [sub_len] at e3
          subst e3
          have hne : ((ss.length : Int) == 0) = false := beq_eq_false_iff_ne.2 (by omega)
          have HD := Divide_any (sub xs ss) a3 c3 n kd wr h3 (by rw [sub_len]; unfold maxLen; omega)
          rw [sub_len, hd.1, hd.2] at HD
          have HD2 := hid HD
          clear HD hown hown2 hs hd h3 h0
          go_wp2_with fail
          refine HD2.out.mono ?_; rintro e w7 ⟨a7, c7, rfl, h7, hb7, l7, m7⟩
          go_wp2_with fail
          go_ret2
          exact ⟨a7, c7, rfl, h7, hb.trans (hb7.mono hb.size), l7, m7⟩
  · have Hx := hid (examine_no xs a cap kd W h1 hm hx)
    have R := hid (som_no (n := n) (kd := kd) (xs := xs) (ss := ss) fun h => hx h.ex)
    clear hx
    go_enter Try.func29, Try.ntmps29
    go_wp2_with fail
    refine Hx.out.mono ?_; rintro e w1 ⟨rfl, hb1⟩
    have hb0 := hb1.alloc hb1.size (.cells #[.nilFunc, .int .i64 0] 66)
    go_wp2_with fail
    go_ret2
    refine ⟨none, 0, by rw [R.out.1, R.out.2]; rfl, by rw [R.out.2]; exact fun i hi => absurd hi (Nat.not_lt_zero i), hb0, by rw [R.out.2]; exact Nat.le_refl _, Nat.zero_le _⟩
end Go.Proofs.Ythankdfjkmfokaa
