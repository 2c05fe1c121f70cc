/- 'Wrong', 'Weights', 'Say', 'Said', 'Errors', 'BestAdviser': what they return. -/
import Derived.Test.YtedgndangamkaaaPlay
import Derived.WalkSpells
namespace Go.Proofs.Ytedgndangamkaaa
open Go.RowKit
set_option linter.unusedSimpArgs false
set_option linter.unusedVariables false

/-! ### Clone -/
theorem own_ints {w : World} {B : Nat} {t : TypeId} {v : Value} {xs : List Int} (h : w.ownsRow B t 1 v xs.length (xs.map (Value.int .i64))) : ∃ a cap, v = .slice a xs.length cap ∧ IntsAt w a xs ∧ xs.length ≤ cap ∧ cap ≤ maxLen := by
  obtain ⟨_, h2⟩ := h
  rcases h2 with ⟨rfl, h0⟩ | ⟨gb, cap, cur, rfl, hb, hg, hn, hcm, hcs, htake⟩
  · refine ⟨none, 0, by rw [h0], fun i hi => by omega, by omega, Nat.zero_le _⟩
  · refine ⟨some ⟨gb, 0, none⟩, cap, rfl, fun i hi => ⟨gb, 0, rfl, (Array.getElem?_eq_some_iff.1 hg).1, ?_⟩, hn, hcm⟩
    rw [cell_of_row w gb (0 + i) cur t (0, 0) hg, Nat.zero_add]
    have e : (cur.toList.take (xs.length * 1))[i]? = (xs.map (Value.int .i64))[i]? := by rw [htake]
    rw [List.getElem?_take, if_pos (by omega)] at e
    rw [← Array.getElem?_toList, e]
    simp [nth, List.getD, hi]
theorem add_plain0 (b off i : Nat) : (⟨b, off, none⟩ : Addr).add i = ⟨b, off + i, none⟩ := by unfold Addr.add; split <;> simp_all
theorem IntsAt.cells0 {w : World} {b off : Nat} {xs : List Int} (h : IntsAt w (some ⟨b, off, none⟩) xs) (i : Nat) (hi : i < xs.length) : w.cell? ⟨b, off + i, none⟩ = some (.int .i64 (nth xs i)) := by
  obtain ⟨b', off', e, _, hc⟩ := h i hi
  cases e
  exact hc
theorem ints_news {w : World} {b off : Nat} {xs : List Int} (h : IntsAt w (some ⟨b, off, none⟩) xs) : ∀ j u, (xs.map (Value.int .i64))[j]? = some u → w.cell? ((⟨b, off, none⟩ : Addr).add j) = some u := by
  intro j u hu
  rw [add_plain0]
  have hj : j < xs.length := by
    have := (List.getElem?_eq_some_iff.1 hu).1
    simpa using this
  rw [h.cells0 j hj]
  simp [hj] at hu
  rw [← hu]
  simp [nth, List.getD, hj]
theorem ints_one (xs : List Int) : ∀ u ∈ xs.map (Value.int .i64), u.oneCell' = true := by
  intro u hu
  obtain ⟨z, _, rfl⟩ := List.mem_map.1 hu
  rfl
def IntsBack (xs : List Int) (W : World) (e : Ending) (w' : World) : Prop :=
  ∃ a cap, e = .returned (.slice a xs.length cap) ∧ IntsAt w' a xs ∧ Below W.heap.size W w' ∧ xs.length ≤ cap ∧ cap ≤ maxLen
set_option maxHeartbeats 1000000 in
theorem clone_any (xs : List Int) (b off cap : Nat) (W : World) (hI : IntsAt W (some ⟨b, off, none⟩) xs) (h1 : 1 ≤ xs.length) (hl : xs.length ≤ 100) :
    Calls Try.prog 74 #[.slice (some ⟨b, off, none⟩) xs.length cap] W (IntsBack xs W) := by
  have hn := fun w => Lib.run_eql_slice_nil (P := Try.prog) (w := w)
  obtain ⟨i0, hi0, hz0, hz1, hz2⟩ := info_parts info3
  have hown : (W.alloc (.cells #[] 3)).ownsRow W.heap.size 3 1 (.slice (some ⟨W.heap.size, 0, none⟩) 0 0) 0 [] := World.ownsRow_made W #[] 0 (Nat.le_refl _) (Nat.zero_le _) rfl
  have hnews := ints_news (hI.below (below_alloc W (.cells #[] 3)))
  have Hnews := hid hnews
  clear hnews
  go_enter Try.func74, Try.ntmps74
  go_wp2_with (at_builtin; refine wpList_append_own _ rfl _ _ 27 rfl W.heap.size 3 i0 (.int .i64 0) 1 8 Try.underlying27 hi0 hz0 hz1 hz2 rfl (by decide) _ _ _ rfl hown ⟨b, off, none⟩ xs.length cap (xs.map (.int .i64)) rfl (by simp) Hnews.out (ints_one xs) (by unfold maxLen; omega) (by omega) (by simp) ?_; intro v' w1 hown1 hgrow1 _)
  simp only [Nat.zero_add, List.nil_append] at hown1
  have hb : Below W.heap.size W w1 := (below_alloc W _).grown hgrow1 (by simp) fun k hk => Nat.le_of_eq (Option.some.inj (show some W.heap.size = some k from hk))
  clear hgrow1 hown
  go_wp2
  obtain ⟨a, c, rfl, h3, h4, h5⟩ := own_ints hown1
  go_ret
  exact ⟨a, c, rfl, h3, hb, h4, h5⟩

/-! ### Wrong -/
open Classical in
noncomputable def wrongE (g : List Rd) (x : Int) : Int := if plE g = 0 then (if 0 ≤ x ∧ x < (adv g 0).length then 0 else 5) else plE g
open Classical in
noncomputable def wrongR (g : List Rd) (x : Int) : Int := if wrongE g x = 0 then wrg g x.toNat g.length else 0
theorem pl_wf (g : List Rd) : plE g ≠ 0 → (plE g != 0) = true := by intro h; simp [h]
theorem all_adv {g : List Rd} (hok : GOK g) (j : Nat) (hj : j < (adv g 0).length) : ∀ i, i < g.length → j < (adv g i).length ∧ (adv g i).length ≤ 8 := fun i hi => by
  have := hok.el i hi
  omega
set_option maxHeartbeats 1000000 in
theorem Wrong_any (g : List Rd) (a : Option Addr) (cap : Nat) (x : Int) (W : World) (hG : GameAt W a g) (hm : g.length ≤ maxLen) :
    Calls Try.prog 46 #[.slice a g.length cap, .int .i64 x] W fun e w' => e = .returned (.tuple #[.int .i64 (wrongR g x), .int .i64 (wrongE g x)]) ∧ Below W.heap.size W w' := by
  by_cases hp : plE g = 0
  · obtain ⟨hok, h0⟩ := plE_zero hp
    have hl := hok.len
    have hpl := played_any g a cap W hG hm
    rw [hp] at hpl
    have Hpl := hid hpl
    clear hpl
    by_cases hx : 0 ≤ x ∧ x < (adv g 0).length
    · have e1 : wrongE g x = 0 := by simp [wrongE, hp, hx]
      rw [wrongR, e1, if_pos rfl]
      obtain ⟨hx0, hx1⟩ := hx
      obtain ⟨j, rfl⟩ := Int.eq_ofNat_of_zero_le hx0
      have hall := hid (all_adv hok j (by omega))
      clear e1 hp
      go_enter Try.func46, Try.ntmps46
      go_wp2_with fail
      refine Hpl.out.mono ?_; rintro e w1 ⟨rfl, hb1⟩
      have hG1 := hG.below hb1
      obtain ⟨b, off, aa, c, rfl, hbl, y1, _, y3, _, ycm⟩ := hG1 0 (by omega)
      have z1 : w1.cell? ⟨b, off, none⟩ = some (.slice aa (adv g 0).length c) := by simpa using y1
      have he := (hok.el 0 (by omega)).2
      clear y1 ycm
      go_wp2_with fail
      refine (within_yes _ _ _ _ (by omega) (by omega)).mono ?_; rintro e w' ⟨rfl, rfl⟩
      go_wp2_with fail
      refine (wrong_in g _ _ j _ hG1 hl hall.out).mono ?_; rintro e w2 ⟨rfl, hb2⟩
      go_wp2
      go_ret2
      exact ⟨rfl, hb1.trans (hb2.mono hb1.size)⟩
    · have e1 : wrongE g x = 5 := by simp [wrongE, hp, hx]
      rw [wrongR, e1, if_neg (by decide)]
      clear e1 hp
      go_enter Try.func46, Try.ntmps46
      go_wp2_with fail
      refine Hpl.out.mono ?_; rintro e w1 ⟨rfl, hb1⟩
      have hG1 := hG.below hb1
      obtain ⟨b, off, aa, c, rfl, hbl, y1, _, y3, _, ycm⟩ := hG1 0 (by omega)
      have z1 : w1.cell? ⟨b, off, none⟩ = some (.slice aa (adv g 0).length c) := by simpa using y1
      have he := (hok.el 0 (by omega)).2
      clear y1 ycm
      go_wp2_with fail
      refine (within_no _ _ _ _ (by omega)).mono ?_; rintro e w' ⟨rfl, rfl⟩
      go_wp2
      go_ret2
      exact ⟨rfl, hb1⟩
  · have e1 : wrongE g x = plE g := by simp [wrongE, hp]
    rw [wrongR, e1, if_neg hp]
    have hne := pl_wf g hp
    clear e1 hp
    go_enter Try.func46, Try.ntmps46
    go_wp2_with fail
    refine (played_any g _ _ _ hG hm).mono ?_; rintro e w1 ⟨rfl, hb1⟩
    go_wp2
    go_ret2
    exact ⟨rfl, hb1⟩

/-! ### BestAdviser -/
def wrI (g : List Rd) (a : Nat) : Int := wrg g a g.length
def bestN (g : List Rd) : Nat := least (wrI g) (adv g 0).length
open Classical in
noncomputable def bestA (g : List Rd) : Int := if plE g = 0 then bestN g else 0
open Classical in
noncomputable def bestW (g : List Rd) : Int := if plE g = 0 then wrg g (bestN g) g.length else 0
set_option maxHeartbeats 1000000 in
theorem BestAdviser_any (g : List Rd) (a : Option Addr) (cap : Nat) (W : World) (hG : GameAt W a g) (hm : g.length ≤ maxLen) :
    Calls Try.prog 49 #[.slice a g.length cap] W fun e w' => e = .returned (.tuple #[.int .i64 (bestA g), .int .i64 (bestW g), .int .i64 (plE g)]) ∧ Below W.heap.size W w' := by
  by_cases hp : plE g = 0
  · obtain ⟨hok, h0⟩ := plE_zero hp
    have hl := hok.len
    have hpl := played_any g a cap W hG hm
    rw [hp] at hpl
    have Hpl := hid hpl
    rw [bestA, bestW, hp, if_pos rfl, if_pos rfl]
    clear hpl hp
    have hn0 := (hok.el 0 (by omega)).2
    go_enter Try.func49, Try.ntmps49
    go_wp2_with fail
    refine Hpl.out.mono ?_; rintro e w1 ⟨rfl, hb1⟩
    go_wp2_with fail
    refine (wrong_in g _ _ 0 _ (hG.below hb1) hl (all_adv hok 0 (by omega))).mono ?_; rintro e w2 ⟨rfl, hb2⟩
    have hb12 : Below W.heap.size W w2 := hb1.trans (hb2.mono hb1.size)
    obtain ⟨b, off, aa, c, rfl, hbl, y1, _, y3, _, ycm⟩ := (hG.below hb12) 0 (by omega)
    have z1 : w2.cell? ⟨b, off, none⟩ = some (.slice aa (adv g 0).length c) := by simpa using y1
    clear y1 ycm hb1 hb2
    go_wp2
    go_loopw [6, 7, 22] (fun v6 v7 v22 w' => ∃ k : Nat, k ≤ (adv g 0).length ∧ v6 = .int .i64 (least (wrI g) k) ∧ v7 = .int .i64 (wrI g (least (wrI g) k)) ∧ v22 = .int .i64 k ∧ Below W.heap.size W w') (fun _ _ v22 _ => (adv g 0).length - (intOf v22).toNat)
    case atStart => exact ⟨0, by omega, rfl, rfl, rfl, hb12⟩
    case round =>
      obtain ⟨k, hk, rfl, rfl, rfl, hb⟩ := hrel
      by_cases hlt : k < (adv g 0).length
      · have hall := hid (all_adv hok k hlt)
        have hcw : Calls Try.prog 75 #[.slice (some ⟨b, off, none⟩) g.length cap, .int .i64 k] wr fun e w' => e = .returned (.int .i64 (wrI g k)) ∧ Below wr.heap.size wr w' := wrong_in g _ _ k _ (hG.below hb) hl hall.out
        have Hcw := hid hcw
        clear hcw
        by_cases hf : wrI g k < wrI g (least (wrI g) k)
        · have hs := hid (least_step _ k hf)
          go_wp2_with fail
          refine Hcw.out.mono ?_; rintro e w3 ⟨rfl, hb3⟩
          go_wp2
          go_roundw
          case rel => exact ⟨k + 1, by omega, by rw [hs.out], by rw [hs.out], by go_num, hb.trans (hb3.mono hb.size)⟩
          case measure => simp [intOf]; omega
        · have hs := hid (least_skip _ k hf)
          go_wp2_with fail
          refine Hcw.out.mono ?_; rintro e w3 ⟨rfl, hb3⟩
          go_wp2
          go_roundw
          case rel => exact ⟨k + 1, by omega, by rw [hs.out], by rw [hs.out], by go_num, hb.trans (hb3.mono hb.size)⟩
          case measure => simp [intOf]; omega
      · obtain rfl : k = (adv g 0).length := by omega
        go_wp2
        go_ret3
        exact ⟨rfl, hb⟩
  · rw [bestA, bestW, if_neg hp, if_neg hp]
    have hne := pl_wf g hp
    clear hp
    go_enter Try.func49, Try.ntmps49
    go_wp2_with fail
    refine (played_any g _ _ _ hG hm).mono ?_; rintro e w1 ⟨rfl, hb1⟩
    go_wp2
    go_ret3
    exact ⟨rfl, hb1⟩

/-! ### Weights -/
theorem arr79 : Try.prog.underlying 79 = some (.array (Try.prog.arrayLen 79) (Try.prog.elem 79)) := by kernel_rfl
theorem len79 : Try.prog.arrayLen 79 = 8 := by kernel_rfl
theorem size79 (w : World) : (sizeOf (Try.prog.elem 79)).run Try.prog w = .ok 1 w := by kernel_rfl
theorem slice_tbl (B n : Nat) (hn : n ≤ 8) (w : World) : (Instr.sliceAt 79 (.pointer (some ⟨B, 0, none⟩)) none (some (.int .i64 (n : Int))) none).run Try.prog w = .ok (.slice (some ⟨B, 0, none⟩) n 8) w := by
  rw [run_sliceAt_array_h w 79 ⟨B, 0, none⟩ arr79 .i64 n (by omega) (by rw [len79]; omega), size79]
  simp [Result.andThen, len79, slicedAt, Addr.add]
def wl (g : List Rd) : List Int := (List.range (adv g 0).length).map (wts g g.length)
theorem wl_len (g : List Rd) : (wl g).length = (adv g 0).length := by simp [wl]
theorem wl_at (g : List Rd) (i : Nat) (h : i < (adv g 0).length) : nth (wl g) i = wts g g.length i := by simp [nth, wl, List.getD, h]
/-- A list of numbers and an error, in new memory. -/
def IntsE (xs : List Int) (E : Int) (W : World) (e : Ending) (w' : World) : Prop :=
  ∃ a cap, e = .returned (.tuple #[.slice a xs.length cap, .int .i64 E]) ∧ IntsAt w' a xs ∧ Below W.heap.size W w' ∧ xs.length ≤ cap ∧ cap ≤ maxLen
def BoolsE (bs : List Bool) (E : Int) (W : World) (e : Ending) (w' : World) : Prop :=
  ∃ a cap, e = .returned (.tuple #[.slice a bs.length cap, .int .i64 E]) ∧ BoolsAt w' a bs ∧ Below W.heap.size W w' ∧ bs.length ≤ cap ∧ cap ≤ maxLen
open Classical in
noncomputable def wlR (g : List Rd) : List Int := if plE g = 0 then wl g else []
set_option maxHeartbeats 1000000 in
theorem Weights_any (g : List Rd) (a : Option Addr) (cap : Nat) (W : World) (hG : GameAt W a g) (hm : g.length ≤ maxLen) :
    Calls Try.prog 45 #[.slice a g.length cap] W (IntsE (wlR g) (plE g) W) := by
  by_cases hp : plE g = 0
  · obtain ⟨hok, h0⟩ := plE_zero hp
    have hl := hok.len
    have hpl := played_any g a cap W hG hm
    rw [hp] at hpl
    have Hpl := hid hpl
    rw [wlR, hp, if_pos rfl]
    clear hpl hp
    have hn0 := (hok.el 0 (by omega)).2
    go_enter Try.func45, Try.ntmps45
    go_wp2_with fail
    refine Hpl.out.mono ?_; rintro e w1 ⟨rfl, hb1⟩
    go_wp2_with fail
    refine (play_any g _ _ _ (hG.below hb1) hok).mono ?_; rintro e w2 ⟨v, rfl, hown, hb2⟩
    have hb12 : Below W.heap.size W w2 := hb1.trans (hb2.mono hb1.size)
    have hrow := row_new8 w2 (tbl g g.length) 79
    obtain ⟨b, off, aa, c, rfl, hbl, y1, _, y3, _, ycm⟩ := (hG.below (hb12.alloc hb12.size (.cells #[.int .i64 (tbl g g.length 0), .int .i64 (tbl g g.length 1), .int .i64 (tbl g g.length 2), .int .i64 (tbl g g.length 3), .int .i64 (tbl g g.length 4), .int .i64 (tbl g g.length 5), .int .i64 (tbl g g.length 6), .int .i64 (tbl g g.length 7)] 79))) 0 (by omega)
    have z1 : (w2.alloc (.cells #[.int .i64 (tbl g g.length 0), .int .i64 (tbl g g.length 1), .int .i64 (tbl g g.length 2), .int .i64 (tbl g g.length 3), .int .i64 (tbl g g.length 4), .int .i64 (tbl g g.length 5), .int .i64 (tbl g g.length 6), .int .i64 (tbl g g.length 7)] 79)).cell? ⟨b, off, none⟩ = some (.slice aa (adv g 0).length c) := by simpa using y1
    have hsz := hb12.size
    clear y1 ycm hb1 hb2
    have hsl := slice_tbl w2.heap.size (adv g 0).length hn0.2
    have hI : IntsAt (w2.alloc (.cells #[.int .i64 (tbl g g.length 0), .int .i64 (tbl g g.length 1), .int .i64 (tbl g g.length 2), .int .i64 (tbl g g.length 3), .int .i64 (tbl g g.length 4), .int .i64 (tbl g g.length 5), .int .i64 (tbl g g.length 6), .int .i64 (tbl g g.length 7)] 79)) (some ⟨w2.heap.size, 0, none⟩) (wl g) := by
      intro i hi
      rw [wl_len] at hi
      refine ⟨w2.heap.size, 0, rfl, by simp, ?_⟩
      have := hrow.cell (i := i) (by omega)
      rw [Nat.zero_add, this, wl_at g i hi]
      simp [tbl, wts, hi]
    have hcl := clone_any (wl g) w2.heap.size 0 8 _ hI (by rw [wl_len]; omega) (by rw [wl_len]; omega)
    rw [wl_len] at hcl
    have Hcl := hid hcl
    have Hb := hid (hb12.alloc hb12.size (.cells #[.int .i64 (tbl g g.length 0), .int .i64 (tbl g g.length 1), .int .i64 (tbl g g.length 2), .int .i64 (tbl g g.length 3), .int .i64 (tbl g g.length 4), .int .i64 (tbl g g.length 5), .int .i64 (tbl g g.length 6), .int .i64 (tbl g g.length 7)] 79))
    clear hcl hI hrow hown y3
    go_wp2_with fail
    refine Hcl.out.mono ?_; rintro e w3 ⟨a3, c3, rfl, h3, hb3, h4, h5⟩
    rw [wl_len]
    go_wp2
    go_ret2
    exact ⟨a3, c3, by rw [wl_len]; rfl, h3, Hb.out.trans (hb3.mono Hb.out.size), h4, h5⟩
  · rw [wlR, if_neg hp]
    have hne := pl_wf g hp
    clear hp
    go_enter Try.func45, Try.ntmps45
    go_wp2_with fail
    refine (played_any g _ _ _ hG hm).mono ?_; rintro e w1 ⟨rfl, hb1⟩
    go_wp2
    go_ret2
    exact ⟨none, 0, rfl, fun i hi => absurd hi (Nat.not_lt_zero _), hb1, Nat.le_refl _, Nat.zero_le _⟩

/-! ### Said, Errors -/
open Classical in
noncomputable def sdR (g : List Rd) : List Bool := if vE g = 0 then sd g g.length else []
open Classical in
noncomputable def erR (g : List Rd) : Int := if vE g = 0 then er g g.length else 0
theorem v_ne (g : List Rd) : vE g ≠ 0 → (vE g != 0) = true := by intro h; simp [h]
theorem vE_zero {g : List Rd} (h : vE g = 0) : GOK g := Classical.byContradiction fun c => vE_no c h
theorem sdR_len (g : List Rd) (h : vE g = 0) : (sdR g).length = g.length := by rw [sdR, if_pos h, sd_len]
set_option maxHeartbeats 1000000 in
theorem Said_any (g : List Rd) (a : Option Addr) (cap : Nat) (W : World) (hG : GameAt W a g) (hm : g.length ≤ maxLen) :
    Calls Try.prog 40 #[.slice a g.length cap] W (BoolsE (sdR g) (vE g) W) := by
  by_cases hv : vE g = 0
  · have hok := vE_zero hv
    have hva := validate_any g a cap W hG hm
    rw [hv] at hva
    have Hva := hid hva
    rw [sdR, hv, if_pos rfl]
    clear hva hv
    go_enter Try.func40, Try.ntmps40
    go_wp2_with fail
    refine Hva.out.mono ?_; rintro e w1 ⟨rfl, hb1⟩
    go_wp2_with fail
    refine (play_any g _ _ _ (hG.below hb1) hok).mono ?_; rintro e w2 ⟨v, rfl, hown, hb2⟩
    have hb12 : Below W.heap.size W w2 := hb1.trans (hb2.mono hb1.size)
    have hown' : w2.ownsRow w1.heap.size 4 1 v (sd g g.length).length ((sd g g.length).map Value.bool) := by rw [sd_len]; exact hown
    obtain ⟨a2, c2, rfl, h3, h4, h5⟩ := own_bools hown'
    have h3' := h3.below (below_alloc w2 (.cells #[.int .i64 (tbl g g.length 0), .int .i64 (tbl g g.length 1), .int .i64 (tbl g g.length 2), .int .i64 (tbl g g.length 3), .int .i64 (tbl g g.length 4), .int .i64 (tbl g g.length 5), .int .i64 (tbl g g.length 6), .int .i64 (tbl g g.length 7)] 79))
    have Hb := hid (hb12.alloc hb12.size (.cells #[.int .i64 (tbl g g.length 0), .int .i64 (tbl g g.length 1), .int .i64 (tbl g g.length 2), .int .i64 (tbl g g.length 3), .int .i64 (tbl g g.length 4), .int .i64 (tbl g g.length 5), .int .i64 (tbl g g.length 6), .int .i64 (tbl g g.length 7)] 79))
    clear hown hown' hb1 hb2 hb12 h3
    go_wp2
    go_ret2
    exact ⟨a2, c2, rfl, h3', Hb.out, h4, h5⟩
  · rw [sdR, if_neg hv]
    have hne := v_ne g hv
    clear hv
    go_enter Try.func40, Try.ntmps40
    go_wp2_with fail
    refine (validate_any g _ _ _ hG hm).mono ?_; rintro e w1 ⟨rfl, hb1⟩
    go_wp2
    go_ret2
    exact ⟨none, 0, rfl, fun i hi => absurd hi (Nat.not_lt_zero _), hb1, Nat.le_refl _, Nat.zero_le _⟩
theorem er_step (g : List Rd) (k : Nat) (h : (saidB g k == came g k) = false) : er g (k + 1) = er g k + 1 := by simp only [er, bne, h, Bool.not_false, if_true]
theorem er_skip (g : List Rd) (k : Nat) (h : (saidB g k == came g k) = true) : er g (k + 1) = er g k := by simp only [er, bne, h]; rfl
set_option maxHeartbeats 1000000 in
theorem Errors_any (g : List Rd) (a : Option Addr) (cap : Nat) (W : World) (hG : GameAt W a g) (hm : g.length ≤ maxLen) :
    Calls Try.prog 42 #[.slice a g.length cap] W fun e w' => e = .returned (.tuple #[.int .i64 (erR g), .int .i64 (vE g)]) ∧ Below W.heap.size W w' := by
  have hsa := Said_any g a cap W hG hm
  by_cases hv : vE g = 0
  · have hok := vE_zero hv
    have hl := hok.len
    rw [sdR, hv, if_pos rfl] at hsa
    have Hsa := hid hsa
    rw [erR, hv, if_pos rfl]
    clear hsa hv
    go_enter Try.func42, Try.ntmps42
    go_wp2_with fail
    refine Hsa.out.mono ?_; rintro e w1 ⟨a2, c2, rfl, h3, hb1, h4, h5⟩
    rw [sd_len]
    go_wp2
    go_loop [6, 16] (fun v6 v16 => ∃ k : Nat, k ≤ g.length ∧ v6 = .int .i64 (er g k) ∧ v16 = .int .i64 k) (fun _ v16 => g.length - (intOf v16).toNat)
    case atStart => exact ⟨0, by omega, rfl, rfl⟩
    case round =>
      obtain ⟨k, hk, rfl, rfl⟩ := hrel
      by_cases hlt : k < g.length
      · obtain ⟨b, off, rfl, hbl, k1⟩ := h3 k (by rw [sd_len]; exact hlt)
        rw [sd_at g _ k hlt] at k1
        obtain ⟨b2, off2, aa, c, rfl, hbl2, _, k2, _, _, _⟩ := (hG.below hb1) k hlt
        have he := er_le g k
        have hk0 : (0 : Int) ≤ (k : Int) := by omega
        have hk1 : (k : Int) < (g.length : Int) := by omega
        cases hx : (saidB g k == came g k)
        · have S := hid (er_step g k hx)
          go_wp2
          go_round
          case rel => exact ⟨k + 1, by omega, by rw [S.out]; go_num, by go_num⟩
          case measure => simp [intOf]; omega
        · have S := hid (er_skip g k hx)
          go_wp2
          go_round
          case rel => exact ⟨k + 1, by omega, by rw [S.out], by go_num⟩
          case measure => simp [intOf]; omega
      · obtain rfl : k = g.length := by omega
        go_wp2
        go_ret2
        exact ⟨rfl, hb1⟩
  · rw [sdR, if_neg hv] at hsa
    have Hsa := hid hsa
    rw [erR, if_neg hv]
    clear hsa hv
    go_enter Try.func42, Try.ntmps42
    go_wp2_with fail
    refine Hsa.out.mono ?_; rintro e w1 ⟨a2, c2, rfl, h3, hb1, h4, h5⟩
    go_wp2
    go_rounds 1
    go_ret2
    exact ⟨rfl, hb1⟩

/-! ### Say -/
structure SayOK (g : List Rd) (bs : List Bool) : Prop where
  game : GOK g
  l1 : 1 ≤ bs.length
  l2 : bs.length ≤ 8
  same : 0 < g.length → bs.length = (adv g 0).length
open Classical in
noncomputable def sayE (g : List Rd) (bs : List Bool) : Int := if vE g = 0 then (if SayOK g bs then 0 else 1) else vE g
open Classical in
noncomputable def sayR (g : List Rd) (bs : List Bool) : Bool := if SayOK g bs then sayB g bs else false
theorem tbl_say {g : List Rd} {bs : List Bool} (h : SayOK g bs) : decide (0 < sgn (tbl g g.length) bs bs.length) = sayB g bs := by
  unfold sayB
  rw [sgn_congr (tbl g g.length) (wts g g.length) _ _ fun i hi => ?_]
  unfold tbl wts
  by_cases h0 : 0 < g.length
  · rw [if_pos (by rw [← h.same h0]; exact hi)]
  · have e : g.length = 0 := by omega
    rw [e]
    split <;> rfl
set_option maxHeartbeats 2000000 in
theorem Say_any (g : List Rd) (a : Option Addr) (cap : Nat) (a2 : Option Addr) (bs : List Bool) (cap2 : Nat) (W : World) (hG : GameAt W a g) (hm : g.length ≤ maxLen) (hB : BoolsAt W a2 bs) (hm2 : bs.length ≤ maxLen) :
    Calls Try.prog 38 #[.slice a g.length cap, .slice a2 bs.length cap2] W fun e w' => e = .returned (.tuple #[.bool (sayR g bs), .int .i64 (sayE g bs)]) ∧ Below W.heap.size W w' := by
  by_cases hv : vE g = 0
  · have hok := vE_zero hv
    have hl := hok.len
    have hva := validate_any g a cap W hG hm
    rw [hv] at hva
    have Hva := hid hva
    clear hva
    unfold maxLen at hm hm2
    by_cases hln : 1 ≤ bs.length ∧ bs.length ≤ 8
    · by_cases h0 : 0 < g.length
      · have hz : decide (0 < g.length) = true := decide_eq_true h0
        by_cases hs : bs.length = (adv g 0).length
        · have hok2 : SayOK g bs := ⟨hok, hln.1, hln.2, fun _ => hs⟩
          have e1 : sayE g bs = 0 := by simp [sayE, hv, hok2]
          have e2 : sayR g bs = sayB g bs := by simp [sayR, hok2]
          have Hs := hid (tbl_say hok2)
          have hs' : ((bs.length : Int) != ((adv g 0).length : Int)) = false := by simp [hs]
          rw [e1, e2]
          clear e1 e2 hv hs hok2
          go_enter Try.func38, Try.ntmps38
          go_wp2_with fail
          refine Hva.out.mono ?_; rintro e w1 ⟨rfl, hb1⟩
          obtain ⟨b, off, aa, c, rfl, hbl, y1, _, y3, _, ycm⟩ := (hG.below hb1) 0 (by omega)
          have z1 : w1.cell? ⟨b, off, none⟩ = some (.slice aa (adv g 0).length c) := by simpa using y1
          clear y1 ycm
          go_wp2_with fail
          refine (within_yes _ _ _ _ (by omega) (by omega)).mono ?_; rintro e w' ⟨rfl, rfl⟩
          go_wp2_with fail
          refine (play_any g _ _ _ (hG.below hb1) hok).mono ?_; rintro e w2 ⟨v, rfl, hown, hb2⟩
          have hb12 : Below W.heap.size W w2 := hb1.trans (hb2.mono hb1.size)
          have hrow := row_new8 w2 (tbl g g.length) 79
          have q0 := hrow.cell (i := 0) (by omega)
          have q1 := hrow.cell (i := 1) (by omega)
          have q2 := hrow.cell (i := 2) (by omega)
          have q3 := hrow.cell (i := 3) (by omega)
          have q4 := hrow.cell (i := 4) (by omega)
          have q5 := hrow.cell (i := 5) (by omega)
          have q6 := hrow.cell (i := 6) (by omega)
          have q7 := hrow.cell (i := 7) (by omega)
          have Hb := hid (hb12.alloc hb12.size (.cells #[.int .i64 (tbl g g.length 0), .int .i64 (tbl g g.length 1), .int .i64 (tbl g g.length 2), .int .i64 (tbl g g.length 3), .int .i64 (tbl g g.length 4), .int .i64 (tbl g g.length 5), .int .i64 (tbl g g.length 6), .int .i64 (tbl g g.length 7)] 79))
          have hB2 := hB.below Hb.out
          clear hown hrow hb1 hb2 hb12
          go_wp2_with fail
          have hs := says_any (tbl g g.length) a2 bs cap2 _ hB2 hln.2 fun i _ => tbl_bd g g.length i
          rw [Hs.out] at hs
          refine hs.mono ?_; rintro e w3 ⟨rfl, hb3⟩
          have hbz := Hb.out.trans (hb3.mono Hb.out.size)
          go_wp2
          go_ret2
          exact ⟨rfl, hbz⟩
        · have hok2 : ¬ SayOK g bs := fun h => hs (h.same h0)
          have e1 : sayE g bs = 1 := by simp [sayE, hv, hok2]
          have e2 : sayR g bs = false := by simp [sayR, hok2]
          have hs' : ((bs.length : Int) != ((adv g 0).length : Int)) = true := by simp; omega
          rw [e1, e2]
          clear e1 e2 hv hs hok2
          go_enter Try.func38, Try.ntmps38
          go_wp2_with fail
          refine Hva.out.mono ?_; rintro e w1 ⟨rfl, hb1⟩
          obtain ⟨b, off, aa, c, rfl, hbl, y1, _, y3, _, ycm⟩ := (hG.below hb1) 0 (by omega)
          have z1 : w1.cell? ⟨b, off, none⟩ = some (.slice aa (adv g 0).length c) := by simpa using y1
          clear y1 ycm
          go_wp2_with fail
          refine (within_yes _ _ _ _ (by omega) (by omega)).mono ?_; rintro e w' ⟨rfl, rfl⟩
          go_wp2
          go_ret2
          exact ⟨rfl, hb1⟩
      · have hok2 : SayOK g bs := ⟨hok, hln.1, hln.2, fun h => absurd h h0⟩
        have e1 : sayE g bs = 0 := by simp [sayE, hv, hok2]
        have e2 : sayR g bs = sayB g bs := by simp [sayR, hok2]
        have Hs := hid (tbl_say hok2)
        rw [e1, e2]
        clear e1 e2 hv hok2
        go_enter Try.func38, Try.ntmps38
        go_wp2_with fail
        refine Hva.out.mono ?_; rintro e w1 ⟨rfl, hb1⟩
        go_wp2_with fail
        refine (within_yes _ _ _ _ (by omega) (by omega)).mono ?_; rintro e w' ⟨rfl, rfl⟩
        go_wp2_with fail
        refine (play_any g _ _ _ (hG.below hb1) hok).mono ?_; rintro e w2 ⟨v, rfl, hown, hb2⟩
        have hb12 : Below W.heap.size W w2 := hb1.trans (hb2.mono hb1.size)
        have hrow := row_new8 w2 (tbl g g.length) 79
        have q0 := hrow.cell (i := 0) (by omega)
        have q1 := hrow.cell (i := 1) (by omega)
        have q2 := hrow.cell (i := 2) (by omega)
        have q3 := hrow.cell (i := 3) (by omega)
        have q4 := hrow.cell (i := 4) (by omega)
        have q5 := hrow.cell (i := 5) (by omega)
        have q6 := hrow.cell (i := 6) (by omega)
        have q7 := hrow.cell (i := 7) (by omega)
        have Hb := hid (hb12.alloc hb12.size (.cells #[.int .i64 (tbl g g.length 0), .int .i64 (tbl g g.length 1), .int .i64 (tbl g g.length 2), .int .i64 (tbl g g.length 3), .int .i64 (tbl g g.length 4), .int .i64 (tbl g g.length 5), .int .i64 (tbl g g.length 6), .int .i64 (tbl g g.length 7)] 79))
        have hB2 := hB.below Hb.out
        clear hown hrow hb1 hb2 hb12
        go_wp2_with fail
        have hs := says_any (tbl g g.length) a2 bs cap2 _ hB2 hln.2 fun i _ => tbl_bd g g.length i
        rw [Hs.out] at hs
        refine hs.mono ?_; rintro e w3 ⟨rfl, hb3⟩
        have hbz := Hb.out.trans (hb3.mono Hb.out.size)
        go_wp2
        go_ret2
        exact ⟨rfl, hbz⟩
    · have hok2 : ¬ SayOK g bs := fun h => hln ⟨h.l1, h.l2⟩
      have e1 : sayE g bs = 1 := by simp [sayE, hv, hok2]
      have e2 : sayR g bs = false := by simp [sayR, hok2]
      rw [e1, e2]
      clear e1 e2 hv hok2
      go_enter Try.func38, Try.ntmps38
      go_wp2_with fail
      refine Hva.out.mono ?_; rintro e w1 ⟨rfl, hb1⟩
      go_wp2_with fail
      refine (within_no _ _ _ _ (by omega)).mono ?_; rintro e w' ⟨rfl, rfl⟩
      go_wp2
      go_ret2
      exact ⟨rfl, hb1⟩
  · have hok2 : ¬ SayOK g bs := fun h => hv (vE_ok h.game)
    have e1 : sayE g bs = vE g := by simp [sayE, hv]
    have e2 : sayR g bs = false := by simp [sayR, hok2]
    rw [e1, e2]
    have hne := v_ne g hv
    clear e1 e2 hv hok2
    go_enter Try.func38, Try.ntmps38
    go_wp2_with fail
    refine (validate_any g _ _ _ hG hm).mono ?_; rintro e w1 ⟨rfl, hb1⟩
    go_wp2
    go_ret2
    exact ⟨rfl, hb1⟩
end Go.Proofs.Ytedgndangamkaaa
