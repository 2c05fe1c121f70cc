/- 'ShareSome' returns true: the walk. -/
import Derived.Test.YthankdfjkmfokaaKnown
import Derived.Test.YthankdfjkmfokaaRSome
import Derived.Test.YthankdfjkmfokaaLawDivides
import Derived.Test.YthankdfjkmfokaaStillSt
import Derived.Deep.RegionHeld3
namespace Go.Proofs.Ythankdfjkmfokaa
open Go.RowKit
set_option linter.unusedSimpArgs false
set_option linter.unusedVariables false
theorem somR_max (xs ss : List Int) (n kd : Int) : (somR xs ss n kd).length ≤ maxLen := by
  unfold somR
  split
  · exact divR_max _ _ _
  · simp [maxLen]
structure PartFacts (xs ss : List Int) (n kd : Int) (D P : List Int) : Prop where
  dl : D.length = xs.length
  sm : Small P
  r : somR xs ss (tot P) kd = P
  e : somE xs ss (tot P) kd = 0
theorem part_facts {xs ss : List Int} {n kd : Int} (h : SomOK xs ss n kd) : PartFacts xs ss n kd (divR xs kd n) (sub (divR xs kd n) ss) := by
  have hd : DivOK xs kd n := ⟨h.ex, h.num⟩
  have hn := num_nat h.num
  have ho := h.ex.1
  have hl8 := ho.l8
  rw [divR_yes hd]
  obtain ⟨k, hk, ht, he⟩ := some_sub kd ho h.sch n.toNat
  have hok : SomOK xs ss (tot (sub (giv kd xs n.toNat) ss)) kd := ⟨h.ex, h.sch, by rw [ht]; unfold NumOK; omega⟩
  have hb := giv_bd (kd := kd) ho.l1 n.toNat
  have hsl := h.sch.len
  refine ⟨giv_len _ _ _, ⟨by rw [sub_len]; omega, fun i hi => ?_⟩, ?_, (som_yes hok).1⟩
  · rw [sub_len] at hi
    rw [sub_at _ _ _ hi]
    have e := h.sch.el i hi
    have := hb (nth ss i).toNat (by omega)
    omega
  · rw [(som_yes hok).2, divR_yes ((sub_div h.ex h.sch).2 hok), ht, Int.toNat_natCast]
    exact he.symm
theorem two_box {W w1 : World} {x y : Int} (hb : Below (W.alloc (.cells #[.int .i64 x, .int .i64 y] 24)).heap.size (W.alloc (.cells #[.int .i64 x, .int .i64 y] 24)) w1) :
    (w1.cell? ⟨W.heap.size, 0, none⟩ = some (.int .i64 x) ∧ w1.cell? ⟨W.heap.size, 1, none⟩ = some (.int .i64 y)) ∧ W.heap.size < w1.heap.size :=
  ⟨⟨(hb.cell (p := ⟨W.heap.size, 0, none⟩) (by simp)).trans (by simp), (hb.cell (p := ⟨W.heap.size, 1, none⟩) (by simp)).trans (by simp)⟩, by have := hb.size; simp at this; omega⟩

set_option maxRecDepth 100000 in
set_option maxHeartbeats 4000000 in
theorem lawSome (W : World) (a : Option Addr) (xs : List Int) (cap : Nat) (hI : IntsAt W a xs) (hm : xs.length ≤ maxLen) (_hw : ∀ i, i < xs.length → (Lit.int .i64 (nth xs i)).wf = true)
    (a2 : Option Addr) (ss : List Int) (cap2 : Nat) (h2 : IntsAt W a2 ss) (hm2 : ss.length ≤ maxLen) (_hw2 : ∀ i, i < ss.length → (Lit.int .i64 (nth ss i)).wf = true) (n kd : Int) (_wn : (Lit.int .i64 n).wf = true) (_wk : (Lit.int .i64 kd).wf = true) :
    Calls Try.prog 5 #[.slice a xs.length cap, .slice a2 ss.length cap2, .agg #[.int .i64 n, .int .i64 kd]] W fun e w' => e = .returned (.bool true) ∧ Below W.heap.size W w' := by
  clear _hw _hw2 _wn _wk
  have hbB : Below W.heap.size W (W.alloc (.cells #[.int .i64 n, .int .i64 kd] 24)) := below_alloc _ _
  have HL := hid (fun W => Long_any xs a cap W hm)
  have HL2 := hid (fun W => Long_any ss a2 cap2 W hm2)
  by_cases h60 : 60 < xs.length
  · rw [decide_eq_true h60] at HL
    go_enter Try.func5, Try.ntmps5
    go_wp2_with fail
    refine (HL.out _).mono ?_; rintro e w1 ⟨rfl, rfl⟩
    go_wp2_with fail
    refine (known_true _).mono ?_; rintro e w' ⟨rfl, hb⟩
    go_wp2_with fail
    go_ret
    exact ⟨rfl, hbB.trans (hb.mono hbB.size)⟩
  · rw [decide_eq_false h60] at HL
    by_cases h61 : 60 < ss.length
    · rw [decide_eq_true h61] at HL2
      go_enter Try.func5, Try.ntmps5
      go_wp2_with fail
      refine (HL.out _).mono ?_; rintro e w1 ⟨rfl, rfl⟩
      go_wp2_with fail
      refine (HL2.out _).mono ?_; rintro e w1 ⟨rfl, rfl⟩
      go_wp2_with fail
      refine (known_true _).mono ?_; rintro e w' ⟨rfl, hb⟩
      go_wp2_with fail
      go_ret
      exact ⟨rfl, hbB.trans (hb.mono hbB.size)⟩
    · rw [decide_eq_false h61] at HL2
      have hs1 : ss.length ≤ 1000 := by omega
      have HS1 := hid (fun w h h' => Some_any xs ss a a2 cap cap2 n kd w h h' hm hs1)
      have HS2 := hid (fun w h h' => rSome_any xs ss a a2 cap cap2 n kd w h h' hm hs1)
      have Hmx := hid (somR_max xs ss n kd)
      go_enter Try.func5, Try.ntmps5
      go_wp2_with fail
      refine (HL.out _).mono ?_; rintro e w1 ⟨rfl, rfl⟩
      go_wp2_with fail
      refine (HL2.out _).mono ?_; rintro e w1 ⟨rfl, rfl⟩
      go_wp2_with fail
      refine (HS1.out _ (hI.below hbB) (h2.below hbB)).mono ?_; rintro e w1 ⟨a3, c3, rfl, g3, hb1, _, _⟩
      obtain ⟨⟨k0, k1⟩, ks⟩ := two_box hb1
      have hbz1 := hbB.trans (hb1.mono hbB.size)
      go_wp2_with fail
      refine (HS2.out _ (hI.below hbz1) (h2.below hbz1)).mono ?_; rintro e w2 ⟨a4, c4, rfl, g4, hb2, _, _⟩
      have l0 := (hb2.cell (p := ⟨W.heap.size, 0, none⟩) ks).trans k0
      have l1 := (hb2.cell (p := ⟨W.heap.size, 1, none⟩) ks).trans k1
      have ls := Nat.lt_of_lt_of_le ks hb2.size
      have hbz2 := hbz1.trans (hb2.mono hbz1.size)
      have HM := hid (SameInts_any (somR xs ss n kd) a3 a4 c3 c4 w2 (g3.below hb2) g4 Hmx.out)
      clear k0 k1 ks hb1 hb2 g3 g4 HS1 HS2 HL HL2 Hmx
      by_cases hOK : SomOK xs ss n kd
      · have E := (som_yes hOK).1
        have HF := hid (part_facts hOK)
        have hd : DivOK xs kd n := ⟨hOK.ex, hOK.num⟩
        have HD := hid (fun w h => Divide_any xs a cap n kd w h hm)
        rw [divE_yes hd] at HD
        have HC := hid hOK.sch
        have hl8 := hOK.ex.1.l8
        rw [E]
        clear hOK E hd
        generalize somR xs ss n kd = R at *
        go_wp2_with fail
        refine HM.out.mono ?_; rintro e w3 ⟨rfl, hb3⟩
        have m0 := (hb3.cell (p := ⟨W.heap.size, 0, none⟩) ls).trans l0
        have m1 := (hb3.cell (p := ⟨W.heap.size, 1, none⟩) ls).trans l1
        have ms := Nat.lt_of_lt_of_le ls hb3.size
        have hbz3 := hbz2.trans (hb3.mono hbz2.size)
        clear l0 l1 ls hb3 HM hbz2
        go_wp2_with fail
        refine (HD.out _ (hI.below hbz3)).mono ?_; rintro e w4 ⟨a5, c5, rfl, g5, hb4, _, _⟩
        have n0 := (hb4.cell (p := ⟨W.heap.size, 0, none⟩) ms).trans m0
        have n1 := (hb4.cell (p := ⟨W.heap.size, 1, none⟩) ms).trans m1
        have ns := Nat.lt_of_lt_of_le ms hb4.size
        have hbz4 := hbz3.trans (hb4.mono hbz3.size)
        clear m0 m1 ms hb4 hbz3 HD
        have hdl := HF.out.dl
        generalize divR xs kd n = D at *
        obtain ⟨i0, hi0, hz0, hz1, hz2⟩ := info_parts info3
        rw [hdl]
        have Hdl := hid hdl
        clear hdl
        go_wp2_with fail
        go_loopw [13, 14] (fun v13 v14 w' => ∃ k : Nat, k ≤ ss.length ∧ v14 = .int .i64 k ∧ w'.ownsRow w4.heap.size 3 1 v13 k (((sub D ss).take k).map (Value.int .i64)) ∧ Below w4.heap.size w4 w') (fun _ v14 _ => ss.length - (intOf v14).toNat)
        case atStart => exact ⟨0, by omega, rfl, World.ownsRow_nil _ _ _ _, Below.refl _ _⟩
        case round =>
          obtain ⟨k, hk, rfl, hown, hb⟩ := hrel
          have hbw := hbz4.trans (hb.mono hbz4.size)
          by_cases hlt : k < ss.length
          · obtain ⟨b2, off2, e2, hbl2, c2⟩ := (h2.below hbw) k hlt
            subst e2
            have i1 : (0 : Int) ≤ (k : Int) := by omega
            have i2 : (k : Int) < (ss.length : Int) := by omega
            have hel := HC.out.el k hlt
            obtain ⟨j, hj⟩ : ∃ j : Nat, nth ss k = j := ⟨(nth ss k).toNat, by omega⟩
            obtain ⟨b, off, e1, hbl, c1⟩ := (g5.below hb) j (by rw [Hdl.out]; omega)
            subst e1
            have HS := hid (sub_take D ss k hlt)
            rw [hj, Int.toNat_natCast] at HS
            rw [hj] at c2
            have i3 : (0 : Int) ≤ (j : Int) := by omega
            have i4 : (j : Int) < (xs.length : Int) := by omega
            have own0 : wr.ownsRow w4.heap.size 3 1 u13 k (((sub D ss).take k).map (Value.int .i64)) := hown
            have Hown := hid own0
            have Hnews : Hid (∀ t u, ([Value.int .i64 (nth D j)])[t]? = some u → (wr.alloc (.cells #[.int .i64 (nth D j)] 3)).cell? ((⟨wr.heap.size, 0, none⟩ : Addr).add t) = some u) := by
              have := World.news_of_block (cs := #[.int .i64 (nth D j)]) (t := 3) (fr := (0, 0)) (heap_alloc_new wr (.cells #[.int .i64 (nth D j)] 3))
              exact hid (by simpa using this)
            clear own0 hown hj hel
            go_wp2_with (at_builtin; go_loud (refine wpList_append_own _ rfl _ _ 22 rfl w4.heap.size 3 i0 (.int .i64 0) 1 8 Try.underlying22 hi0 hz0 hz1 hz2 rfl (by decide) _ _ _ rfl (Hown.out.alloc _) ⟨wr.heap.size, 0, none⟩ 1 1 [.int .i64 (nth D j)] rfl rfl Hnews.out (by simp [Value.oneCell']) (by unfold maxLen; omega) (by omega) (by have := hb.size; simp at this ⊢; omega) ?_); intro v' w6 hown6 hgrow6 _)
            rw [HS.out] at hown6
            have hb6 := (hb.alloc hb.size (.cells #[.int .i64 (nth D j)] 3)).grown hgrow6 (by have := hb.size; simp at this ⊢; omega) fun t ht => (Hown.out.lt _ ht).1
            clear hgrow6 Hown Hnews hbw
            go_wp2_with fail
            go_roundw
            case rel => exact ⟨k + 1, by omega, by go_num, hown6, hb6⟩
            case measure => simp [intOf]; omega
          · obtain rfl : k = ss.length := by omega
            have hown2 : wr.ownsRow w4.heap.size 3 1 u13 (sub D ss).length ((sub D ss).map (Value.int .i64)) := by
              rw [sub_len]
              rw [List.take_of_length_le (by rw [sub_len]; exact Nat.le_refl _)] at hown
              exact hown
            obtain ⟨a6, c6, e6, g6, _, hmP⟩ := own_ints hown2
            subst e6
            have q0 := (hb.cell (p := ⟨W.heap.size, 0, none⟩) ns).trans n0
            have q1 := (hb.cell (p := ⟨W.heap.size, 1, none⟩) ns).trans n1
            have qs := Nat.lt_of_lt_of_le ns hb.size
            have F := HF.out
            have hPl : (sub D ss).length ≤ maxLen := by rw [sub_len]; exact hm2
            have R1 := F.r
            have R2 := F.e
            have hPs := F.sm
            clear hown hown2 n0 n1 ns g5 F hb hbz4
            have hls := sub_len D ss
            generalize sub D ss = P at *
            have HT := hid (total26 P a6 c6 wr.drew (g6.below (Below.refl _ _).drew) hPs)
            have HE := hid (fun w h h' => Some_any xs ss a a2 cap cap2 (tot P) kd w h h' hm hs1)
            unfold SomPost at HE
            rw [R1, R2] at HE
            clear R1 R2 hPs hls
            go_wp2_with fail
            have hbd := hbw.drew
            go_region_held3 (fun w' => w'.cell? ⟨W.heap.size, 1, none⟩ = some (.int .i64 kd) ∧ W.heap.size < w'.heap.size) (first | exact ⟨q1, qs⟩ | exact keepC (row := none) (but_below (World.grownBy.refl _ none) (undrew hb7)) (fun h => by cases h) (by assumption) | assumption) (first | (go_at_call 26; refine HT.out.mono ?_; rintro e w' ⟨rfl, rfl⟩) | (go_at_call 29; refine (HE.out _ (hI.below hbd) (h2.below hbd)).mono ?_; rintro e w7 ⟨a7, c7, rfl, g7, hb7, _, _⟩))
            have hb7' := undrew hb7
            have hbz7 := hbw.trans (hb7'.mono hbw.size)
            have HQ := hid (SameInts_any P a7 a6 c7 c6 w7 g7 (g6.below hb7') hPl)
            clear q0 q1 hb7 g7
            go_wp2_with fail
            refine HQ.out.mono ?_; rintro e w8 ⟨rfl, hb8⟩
            have hbz8 := hbz7.trans (hb8.mono hbz7.size)
            go_wp2_with fail
            refine (known_true _).mono ?_; rintro e w' ⟨rfl, hb⟩
            go_wp2_with fail
            go_ret
            exact ⟨rfl, hbz8.trans (hb.mono hbz8.size)⟩
      · have E := (som_no hOK).1
        rw [E]
        clear hOK E
        generalize somR xs ss n kd = R at *
        go_wp2_with fail
        refine HM.out.mono ?_; rintro e w3 ⟨rfl, hb3⟩
        have hbz3 := hbz2.trans (hb3.mono hbz2.size)
        clear l0 l1 ls hb3 HM hbz2
        go_wp2_with fail
        refine (known_true _).mono ?_; rintro e w' ⟨rfl, hb⟩
        go_wp2_with fail
        go_ret
        exact ⟨rfl, hbz3.trans (hb.mono hbz3.size)⟩
end Go.Proofs.Ythankdfjkmfokaa
