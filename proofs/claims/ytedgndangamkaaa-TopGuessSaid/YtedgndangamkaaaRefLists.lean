/- The document's 'Weights', 'Said', 'Errors': what they return. -/
import Derived.Test.YtedgndangamkaaaRefOffice
namespace Go.Proofs.Ytedgndangamkaaa
open Go.RowKit
set_option linter.unusedSimpArgs false
set_option linter.unusedVariables false

def wlk (g : List Rd) (k : Nat) : List Int := (List.range k).map (wts g g.length)
theorem wlk_len (g : List Rd) (k : Nat) : (wlk g k).length = k := by simp [wlk]
theorem wlk_succ (g : List Rd) (k : Nat) : (wlk g k).map (Value.int .i64) ++ [.int .i64 (wts g g.length k)] = (wlk g (k + 1)).map (Value.int .i64) := by simp [wlk, List.range_succ]
theorem rwr2 (g : List Rd) (a : Option Addr) (cap k : Nat) (W : World) (hG : GameAt W a g) (hok : GOK g) (hk : k < (adv g 0).length) :
    Calls Try.prog 70 #[.slice a g.length cap, .int .i64 k] W fun e w' => e = .returned (.int .i64 (wrg g k g.length : Nat)) ∧ Below W.heap.size W w' := rwr g a cap k W hG hok hk
set_option maxHeartbeats 1000000 in
theorem rWeights_any (g : List Rd) (a : Option Addr) (cap : Nat) (W : World) (hG : GameAt W a g) (hm : g.length ≤ maxLen) :
    Calls Try.prog 48 #[.slice a g.length cap] W (IntsE (wlR g) (plE g) W) := by
  by_cases hp : plE g = 0
  · obtain ⟨hok, h0⟩ := plE_zero hp
    have hl := hok.len
    have hpl := rounds_any g a cap W hG hm
    rw [hp] at hpl
    have Hpl := hid hpl
    rw [wlR, hp, if_pos rfl]
    clear hpl hp
    have hn0 := (hok.el 0 (by omega)).2
    obtain ⟨i0, hi0, hz0, hz1, hz2⟩ := info_parts info3
    go_enter Try.func48, Try.ntmps48
    go_wp2_with fail
    refine Hpl.out.mono ?_; rintro e w1 ⟨rfl, rfl⟩
    go_wp2
    go_loopw [5, 6] (fun v5 v6 w' => ∃ k : Nat, k ≤ (adv g 0).length ∧ v6 = .int .i64 k ∧ w'.ownsRow W.heap.size 3 1 v5 k ((wlk g k).map (Value.int .i64)) ∧ Below W.heap.size W w') (fun _ v6 _ => (adv g 0).length - (intOf v6).toNat)
    case atStart => exact ⟨0, by omega, rfl, World.ownsRow_nil _ _ _ _, Below.refl _ _⟩
    case round =>
      obtain ⟨k, hk, rfl, hown, hb⟩ := hrel
      obtain ⟨b, off, aa, c, rfl, hbl, y1, _, y3, _, ycm⟩ := (hG.below hb) 0 (by omega)
      have z1 : wr.cell? ⟨b, off, none⟩ = some (.slice aa (adv g 0).length c) := by simpa using y1
      clear y1 ycm y3
      by_cases hlt : k < (adv g 0).length
      · have Hc1 := hid (rwr2 g (some ⟨b, off, none⟩) cap k wr (hG.below hb) hok hlt)
        have hwl := wr_le g k g.length
        have HS := hid (wlk_succ g k)
        go_wp2_with fail
        refine Hc1.out.mono ?_; rintro e w3 ⟨rfl, hb3⟩
        go_wp2_with fail
        refine (weight_any (wrg g k g.length) _ (by omega)).mono ?_; rintro e w' ⟨rfl, rfl⟩
        have hown3 := own_below hown hb3
        have hbb := hb.trans (hb3.mono hb.size)
        have hsz := hbb.size
        go_wp2_with (at_builtin; refine wpList_append_own _ rfl _ _ 27 rfl W.heap.size 3 i0 (.int .i64 0) 1 8 Try.underlying27 hi0 hz0 hz1 hz2 rfl (by decide) _ _ _ rfl (hown3.alloc _) ⟨w3.heap.size, 0, none⟩ 1 1 [.int .i64 (wts g g.length k)] rfl rfl (World.news_of_block (cs := #[.int .i64 (wts g g.length k)]) (t := 3) (fr := (0, 0)) (heap_alloc_new w3 _)) (by simp [Value.oneCell']) (by unfold maxLen; omega) (by omega) (by simp; omega) ?_; intro v' w4 hown4 hgrow4 _)
        rw [HS.out] at hown4
        have hb4 : Below W.heap.size W w4 := (hbb.alloc hbb.size _).grown hgrow4 (by simp; omega) fun j hj => (hown3.lt j hj).1
        clear hgrow4 hown3 hbb hb3 hb hown
        go_wp2
        go_roundw
        case rel => exact ⟨k + 1, by omega, by go_num, hown4, hb4⟩
        case measure => simp [intOf]; omega
      · have hkk : k = (adv g 0).length := by omega
        subst hkk
        have hown' : wr.ownsRow W.heap.size 3 1 u5 (wl g).length ((wl g).map (Value.int .i64)) := by rw [wl_len]; exact hown
        obtain ⟨a2, c2, rfl, h3, h4, h5⟩ := own_ints hown'
        rw [wl_len]
        go_wp2
        go_ret2
        exact ⟨a2, c2, by rw [wl_len]; rfl, h3, hb, h4, h5⟩
  · rw [wlR, if_neg hp]
    have hne := pl_wf g hp
    clear hp
    go_enter Try.func48, Try.ntmps48
    go_wp2_with fail
    refine (rounds_any g _ _ _ hG hm).mono ?_; rintro e w1 ⟨rfl, rfl⟩
    go_wp2
    go_ret2
    exact ⟨none, 0, rfl, fun i hi => absurd hi (Nat.not_lt_zero _), Below.refl _ _, Nat.le_refl _, Nat.zero_le _⟩

/-! ### Said, Errors -/
theorem keepC {w w1 : World} {row : Option Nat} {b o : Nat} {v : Value} (hg : w.grownBy w1 row) (h2 : row ≠ some b) (h : w.cell? ⟨b, o, none⟩ = some v ∧ b < w.heap.size) : w1.cell? ⟨b, o, none⟩ = some v ∧ b < w1.heap.size :=
  ⟨hg.cell h.1 (fun e => h2 e.symm), Nat.lt_of_lt_of_le h.2 hg.size⟩
theorem rsays_at {g : List Rd} (hok : GOK g) (a : Option Addr) (cap k : Nat) (a2 : Option Addr) (cap2 : Nat) (W : World) (hG : GameAt W a g) (hk : k < g.length) (hB : BoolsAt W a2 (adv g k)) :
    Calls Try.prog 73 #[.slice a k cap, .slice a2 (adv g k).length cap2] W fun e w' => e = .returned (.bool (saidB g k)) ∧ Below W.heap.size W w' := by
  have hl := hok.len
  have h := rsays_any (g.take k) a cap a2 (adv g k) cap2 W (hG.take k) hB ⟨by simp; omega, (hok.el k hk).2.2, fun i hi => by
    have hi' : i < k := by simp at hi; omega
    rw [adv_take g k i hi']
    have := hok.el i (by omega)
    have := hok.el k hk
    omega⟩
  rw [say_take g k hk, List.length_take, Nat.min_eq_left (by omega)] at h
  exact h
set_option maxHeartbeats 2000000 in
theorem rSaid_any (g : List Rd) (a : Option Addr) (cap : Nat) (W : World) (hG : GameAt W a g) (hc : g.length ≤ cap) (hm : g.length ≤ maxLen) (hcm : cap ≤ maxLen) :
    Calls Try.prog 41 #[.slice a g.length cap] W (BoolsE (sdR g) (vE g) W) := by
  by_cases hv : vE g = 0
  · have hok := vE_zero hv
    have hl := hok.len
    have hva := rvalidate_any g a cap W hG hm
    rw [hv] at hva
    have Hva := hid hva
    rw [sdR, hv, if_pos rfl]
    clear hva hv
    unfold maxLen at hm hcm
    obtain ⟨i0, hi0, hz0, hz1, hz2⟩ := info_parts info4
    go_enter Try.func41, Try.ntmps41
    go_wp2_with fail
    refine Hva.out.mono ?_; rintro e w1 ⟨rfl, rfl⟩
    go_wp2
    go_loopw [5, 6] (fun v5 v6 w' => ∃ k : Nat, k ≤ g.length ∧ v6 = .int .i64 k ∧ w'.ownsRow W.heap.size 4 1 v5 k ((sd g k).map Value.bool) ∧ Below W.heap.size W w') (fun _ v6 _ => g.length - (intOf v6).toNat)
    case atStart => exact ⟨0, by omega, rfl, World.ownsRow_nil _ _ _ _, Below.refl _ _⟩
    case round =>
      obtain ⟨k, hk, rfl, hown, hb⟩ := hrel
      by_cases hlt : k < g.length
      · obtain ⟨b, off, aa, c, rfl, hbl, y1, _, y3, _, ycm⟩ := (hG.below hb) k hlt
        have hk0 : (0 : Int) ≤ (k : Int) := by omega
        have hk1 : (k : Int) < (g.length : Int) := by omega
        have hk2 : (k : Int) ≤ (cap : Int) := by omega
        have cs : ∀ w' : World, Below wr.heap.size wr w' → Calls Try.prog 73 #[.slice (some ⟨b, off, none⟩) k cap, .slice aa (adv g k).length c] w' fun e w2 => e = .returned (.bool (saidB g k)) ∧ Below w'.heap.size w' w2 := fun w' hb' =>
          rsays_at hok (some ⟨b, off, none⟩) cap k aa c w' ((hG.below hb).below hb') hlt (y3.below hb')
        have Cs := hid cs
        clear cs ycm y3
        have hne2 : u5.ownBlock ≠ some b := fun e => by
          obtain ⟨b', off', _, _, e', hlt', _⟩ := hG k hlt
          cases e'
          have := (hown.lt _ e).1
          omega
        have Hne2 := hid hne2
        clear hne2
        go_wp2
        go_region_held3 (fun w' => w'.cell? ⟨b, off + k * 2, none⟩ = some (.slice aa (adv g k).length c) ∧ b < w'.heap.size) (first | exact ⟨y1, hbl⟩ | exact keepC hgrow Hne2.out (by assumption) | exact keepC (World.grownBy_alloc _ _ none) (by simp) (by assumption) | exact keepC (but_below (World.grownBy.refl _ none) hb2) (by simp) (by assumption)) (first | (go_at_call 73; refine (Cs.out _ ((Below.refl _ _).drew)).mono ?_; rintro e w2 ⟨rfl, hb2⟩) | (refine step_append_lies _ (by rfl) _ _ _ (by rfl) W.heap.size 4 i0 _ 1 1 Try.underlying47 hi0 hz0 hz1 hz2 rfl (by omega) u5 k ((sd g k).map Value.bool) (by rfl) ((own_below hown (undrew hb2)).alloc _) ⟨w2.heap.size, 0, none⟩ 1 1 [.bool (saidB g k)] (by rfl) (by rfl) (World.news_of_block (cs := #[.bool (saidB g k)]) (t := 4) (fr := (0, 0)) (heap_alloc_new w2 _)) (by simp [Value.oneCell']) (by omega) (by unfold maxLen; omega) (by omega) (by have := hb2.size; have := hb.size; simp at *; omega) (w2.heap.size + 1) (by simp) ?_; intro gg cap2 w3 hown1 hgrow hat hltg))
        have G : wr.grownBy w3 u5.ownBlock := World.grownBy.trans (World.grownBy.trans (but_below (World.grownBy.refl wr _) (undrew hb2)) (World.grownBy_alloc _ _ _)) hgrow
        have hbel3 : Below W.heap.size W w3 := hb.grown G hb.size fun j hj => (hown.lt j hj).1
        rw [show (List.map Value.bool (sd g k) ++ [Value.bool (saidB g k)]) = (sd g (k + 1)).map Value.bool by rw [sd_succ]; simp] at hown1
        clear hgrow G hb2 hown hb y1 Cs
        go_wp2
        go_roundw
        case rel => exact ⟨k + 1, by omega, by go_num, hown1, hbel3⟩
        case measure => simp [intOf]; omega
      · obtain rfl : k = g.length := by omega
        have hown' : wr.ownsRow W.heap.size 4 1 u5 (sd g g.length).length ((sd g g.length).map Value.bool) := by rw [sd_len]; exact hown
        obtain ⟨a2, c2, rfl, h3, h4, h5⟩ := own_bools hown'
        go_wp2
        go_ret2
        exact ⟨a2, c2, rfl, h3, hb, h4, h5⟩
  · rw [sdR, if_neg hv]
    have hne := v_ne g hv
    clear hv
    go_enter Try.func41, Try.ntmps41
    go_wp2_with fail
    refine (rvalidate_any g _ _ _ hG hm).mono ?_; rintro e w1 ⟨rfl, rfl⟩
    go_wp2
    go_ret2
    exact ⟨none, 0, rfl, fun i hi => absurd hi (Nat.not_lt_zero _), Below.refl _ _, Nat.le_refl _, Nat.zero_le _⟩
set_option maxHeartbeats 1000000 in
theorem rErrors_any (g : List Rd) (a : Option Addr) (cap : Nat) (W : World) (hG : GameAt W a g) (hc : g.length ≤ cap) (hm : g.length ≤ maxLen) (hcm : cap ≤ maxLen) :
    Calls Try.prog 43 #[.slice a g.length cap] W fun e w' => e = .returned (.tuple #[.int .i64 (erR g), .int .i64 (vE g)]) ∧ Below W.heap.size W w' := by
  have hsa := rSaid_any g a cap W hG hc hm hcm
  by_cases hv : vE g = 0
  · have hok := vE_zero hv
    have hl := hok.len
    rw [sdR, hv, if_pos rfl] at hsa
    have Hsa := hid hsa
    rw [erR, hv, if_pos rfl]
    clear hsa hv
    go_enter Try.func43, Try.ntmps43
    go_wp2_with fail
    refine Hsa.out.mono ?_; rintro e w1 ⟨a2, c2, rfl, h3, hb1, h4, h5⟩
    rw [sd_len]
    go_wp2
    go_loopw [6, 7] (fun v6 v7 w' => ∃ k n : Nat, k ≤ g.length ∧ v6 = .int .i64 (er g k) ∧ v7 = .int .i64 k ∧ w' = w1.drewN n) (fun _ v7 _ => g.length - (intOf v7).toNat)
    case atStart => exact ⟨0, 0, by omega, rfl, rfl, rfl⟩
    case round =>
      obtain ⟨k, n, hk, rfl, rfl, rfl⟩ := hrel
      by_cases hlt : k < g.length
      · obtain ⟨b, off, rfl, hbl, k1⟩ := h3 k (by rw [sd_len]; exact hlt)
        rw [sd_at g _ k hlt] at k1
        obtain ⟨b2, off2, aa, c, rfl, hbl2, _, k2, _, _, _⟩ := (hG.below hb1) k hlt
        have he := er_le g k
        have hk0 : (0 : Int) ≤ (k : Int) := by omega
        have hk1 : (k : Int) < (g.length : Int) := by omega
        cases hx : (saidB g k == came g k)
        · have S := hid (er_step g k hx)
          go_wp2
          go_quiet (fail)
          go_wp2
          go_roundw
          case rel => exact ⟨k + 1, _, by omega, by rw [S.out]; go_num, by go_num, rfl⟩
          case measure => simp [intOf]; omega
        · have S := hid (er_skip g k hx)
          go_wp2
          go_quiet (fail)
          go_wp2
          go_roundw
          case rel => exact ⟨k + 1, _, by omega, by rw [S.out], by go_num, rfl⟩
          case measure => simp [intOf]; omega
      · obtain rfl : k = g.length := by omega
        go_wp2
        go_ret2
        exact ⟨rfl, below_drewN hb1 _⟩
  · rw [sdR, if_neg hv] at hsa
    have Hsa := hid hsa
    rw [erR, if_neg hv]
    clear hsa hv
    go_enter Try.func43, Try.ntmps43
    go_wp2_with fail
    refine Hsa.out.mono ?_; rintro e w1 ⟨a2, c2, rfl, h3, hb1, h4, h5⟩
    go_wp2
    go_rounds 1
    go_ret2
    exact ⟨rfl, hb1⟩
end Go.Proofs.Ytedgndangamkaaa
