/- The document's 'Wrong', 'BestAdviser', 'Say': what they return. -/
import Derived.Test.YtedgndangamkaaaRefGame
namespace Go.Proofs.Ytedgndangamkaaa
open Go.RowKit
set_option linter.unusedSimpArgs false
set_option linter.unusedVariables false

set_option maxHeartbeats 1000000 in
theorem rWrong_any (g : List Rd) (a : Option Addr) (cap : Nat) (x : Int) (W : World) (hG : GameAt W a g) (hm : g.length ≤ maxLen) :
    Calls Try.prog 47 #[.slice a g.length cap, .int .i64 x] W fun e w' => e = .returned (.tuple #[.int .i64 (wrongR g x), .int .i64 (wrongE g x)]) ∧ Below W.heap.size W w' := by
  by_cases hp : plE g = 0
  · obtain ⟨hok, h0⟩ := plE_zero hp
    have hl := hok.len
    have hpl := rounds_any g a cap W hG hm
    rw [hp] at hpl
    have Hpl := hid hpl
    clear hpl
    obtain ⟨b, off, aa, c, rfl, hbl, y1, _, y3, _, ycm⟩ := hG 0 (by omega)
    have z1 : W.cell? ⟨b, off, none⟩ = some (.slice aa (adv g 0).length c) := by simpa using y1
    have he := (hok.el 0 (by omega)).2
    clear y1 ycm
    by_cases hx : 0 ≤ x ∧ x < (adv g 0).length
    · have e1 : wrongE g x = 0 := by simp [wrongE, hp, hx]
      rw [wrongR, e1, if_pos rfl]
      obtain ⟨hx0, hx1⟩ := hx
      obtain ⟨j, rfl⟩ := Int.eq_ofNat_of_zero_le hx0
      have hall := hid (all_adv hok j (by omega))
      clear e1 hp
      go_enter Try.func47, Try.ntmps47
      go_wp2_with fail
      refine Hpl.out.mono ?_; rintro e w1 ⟨rfl, rfl⟩
      go_wp2_with fail
      refine (rwrong_in g _ _ j _ hG hl hall.out).mono ?_; rintro e w2 ⟨rfl, n, rfl⟩
      go_wp2
      go_ret2
      exact ⟨rfl, below_drewN (Below.refl _ _) _⟩
    · have e1 : wrongE g x = 5 := by simp [wrongE, hp, hx]
      rw [wrongR, e1, if_neg (by decide)]
      clear e1 hp
      by_cases hx0 : x < 0
      all_goals
        go_enter Try.func47, Try.ntmps47
        go_wp2_with fail
        refine Hpl.out.mono ?_; rintro e w1 ⟨rfl, rfl⟩
        go_wp2
        go_ret2
        exact ⟨rfl, Below.refl _ _⟩
  · have e1 : wrongE g x = plE g := by simp [wrongE, hp]
    rw [wrongR, e1, if_neg hp]
    have hne := pl_wf g hp
    clear e1 hp
    go_enter Try.func47, Try.ntmps47
    go_wp2_with fail
    refine (rounds_any g _ _ _ hG hm).mono ?_; rintro e w1 ⟨rfl, rfl⟩
    go_wp2
    go_ret2
    exact ⟨rfl, Below.refl _ _⟩

theorem rwr (g : List Rd) (a : Option Addr) (cap k : Nat) (W : World) (hG : GameAt W a g) (hok : GOK g) (hk : k < (adv g 0).length) :
    Calls Try.prog 70 #[.slice a g.length cap, .int .i64 k] W fun e w' => e = .returned (.int .i64 (wrI g k)) ∧ Below W.heap.size W w' :=
  (rwrong_in g a cap k W hG hok.len (all_adv hok k hk)).mono fun _ _ ⟨h1, n, h2⟩ => ⟨h1, by rw [h2]; exact below_drewN (Below.refl _ _) _⟩
set_option maxHeartbeats 1000000 in
theorem rBestAdviser_any (g : List Rd) (a : Option Addr) (cap : Nat) (W : World) (hG : GameAt W a g) (hm : g.length ≤ maxLen) :
    Calls Try.prog 50 #[.slice a g.length cap] W fun e w' => e = .returned (.tuple #[.int .i64 (bestA g), .int .i64 (bestW g), .int .i64 (plE g)]) ∧ Below W.heap.size W w' := by
  by_cases hp : plE g = 0
  · obtain ⟨hok, h0⟩ := plE_zero hp
    have hl := hok.len
    have hpl := rounds_any g a cap W hG hm
    rw [hp] at hpl
    have Hpl := hid hpl
    rw [bestA, bestW, hp, if_pos rfl, if_pos rfl]
    clear hpl hp
    have hn0 := (hok.el 0 (by omega)).2
    go_enter Try.func50, Try.ntmps50
    go_wp2_with fail
    refine Hpl.out.mono ?_; rintro e w1 ⟨rfl, rfl⟩
    go_wp2
    go_loopw [6, 7] (fun v6 v7 w' => ∃ k : Nat, 1 ≤ k ∧ k ≤ (adv g 0).length ∧ v6 = .int .i64 (least (wrI g) k) ∧ v7 = .int .i64 k ∧ Below W.heap.size W w') (fun _ v7 _ => (adv g 0).length - (intOf v7).toNat)
    case atStart => exact ⟨1, by omega, by omega, by simp [least], rfl, Below.refl _ _⟩
    case round =>
      obtain ⟨k, hk1, hk, rfl, rfl, hb⟩ := hrel
      obtain ⟨b, off, aa, c, rfl, hbl, y1, _, y3, _, ycm⟩ := (hG.below hb) 0 (by omega)
      have z1 : wr.cell? ⟨b, off, none⟩ = some (.slice aa (adv g 0).length c) := by simpa using y1
      clear y1 ycm y3
      have hll := least_lt (wrI g) k
      by_cases hlt : k < (adv g 0).length
      · have Hc1 := hid (rwr g (some ⟨b, off, none⟩) cap k wr (hG.below hb) hok hlt)
        have Hc2 : Hid (∀ w', Below wr.heap.size wr w' → Calls Try.prog 70 #[.slice (some ⟨b, off, none⟩) g.length cap, .int .i64 (least (wrI g) k)] w' fun e w2 => e = .returned (.int .i64 (wrI g (least (wrI g) k))) ∧ Below w'.heap.size w' w2) := fun w' hb' => rwr g (some ⟨b, off, none⟩) cap (least (wrI g) k) w' ((hG.below hb).below hb') hok (by omega)
        by_cases hf : wrI g k < wrI g (least (wrI g) k)
        · have hs := hid (least_step _ k hf)
          go_wp2_with fail
          refine Hc1.out.mono ?_; rintro e w3 ⟨rfl, hb3⟩
          go_wp2_with fail
          refine (Hc2.out _ hb3).mono ?_; rintro e w4 ⟨rfl, hb4⟩
          have hbb := hb.trans (hb3.mono hb.size)
          have hbb2 := hbb.trans (hb4.mono hbb.size)
          clear hb hb3 hb4 hbb
          go_wp2
          go_roundw
          case rel => exact ⟨k + 1, by omega, by omega, by rw [hs.out], by go_num, hbb2⟩
          case measure => simp [intOf]; omega
        · have hs := hid (least_skip _ k hf)
          go_wp2_with fail
          refine Hc1.out.mono ?_; rintro e w3 ⟨rfl, hb3⟩
          go_wp2_with fail
          refine (Hc2.out _ hb3).mono ?_; rintro e w4 ⟨rfl, hb4⟩
          have hbb := hb.trans (hb3.mono hb.size)
          have hbb2 := hbb.trans (hb4.mono hbb.size)
          clear hb hb3 hb4 hbb
          go_wp2
          go_roundw
          case rel => exact ⟨k + 1, by omega, by omega, by rw [hs.out], by go_num, hbb2⟩
          case measure => simp [intOf]; omega
      · have hkk : k = (adv g 0).length := by omega
        have Hc2 := hid (rwr g (some ⟨b, off, none⟩) cap (least (wrI g) k) wr (hG.below hb) hok (by omega))
        subst hkk
        go_wp2_with fail
        refine Hc2.out.mono ?_; rintro e w4 ⟨rfl, hb4⟩
        go_wp2
        go_ret3
        exact ⟨rfl, hb.trans (hb4.mono hb.size)⟩
  · rw [bestA, bestW, if_neg hp, if_neg hp]
    have hne := pl_wf g hp
    clear hp
    go_enter Try.func50, Try.ntmps50
    go_wp2_with fail
    refine (rounds_any g _ _ _ hG hm).mono ?_; rintro e w1 ⟨rfl, rfl⟩
    go_wp2
    go_ret3
    exact ⟨rfl, Below.refl _ _⟩

theorem says_in {g : List Rd} {bs : List Bool} (h : SayOK g bs) : SaysIn g bs :=
  ⟨h.game.len, h.l2, fun i hi => by have := h.game.el i hi; have := h.same (by omega); omega⟩
set_option maxHeartbeats 1000000 in
theorem rSay_any (g : List Rd) (a : Option Addr) (cap : Nat) (a2 : Option Addr) (bs : List Bool) (cap2 : Nat) (W : World) (hG : GameAt W a g) (hm : g.length ≤ maxLen) (hB : BoolsAt W a2 bs) (hm2 : bs.length ≤ maxLen) :
    Calls Try.prog 39 #[.slice a g.length cap, .slice a2 bs.length cap2] W fun e w' => e = .returned (.tuple #[.bool (sayR g bs), .int .i64 (sayE g bs)]) ∧ Below W.heap.size W w' := by
  by_cases hv : vE g = 0
  · have hok := vE_zero hv
    have hl := hok.len
    have hva := rvalidate_any g a cap W hG hm
    rw [hv] at hva
    have Hva := hid hva
    clear hva
    unfold maxLen at hm hm2
    by_cases hln : 1 ≤ bs.length ∧ bs.length ≤ 8
    · obtain ⟨hl1, hl2⟩ := hln
      by_cases h0 : 0 < g.length
      · have hz : decide (0 < g.length) = true := decide_eq_true h0
        obtain ⟨b, off, aa, c, rfl, hbl, y1, _, y3, _, ycm⟩ := hG 0 (by omega)
        have z1 : W.cell? ⟨b, off, none⟩ = some (.slice aa (adv g 0).length c) := by simpa using y1
        clear y1 ycm
        by_cases hs : bs.length = (adv g 0).length
        · have hok2 : SayOK g bs := ⟨hok, hl1, hl2, fun _ => hs⟩
          have e1 : sayE g bs = 0 := by simp [sayE, hv, hok2]
          have e2 : sayR g bs = sayB g bs := by simp [sayR, hok2]
          have hin := says_in hok2
          have hs' : ((bs.length : Int) != ((adv g 0).length : Int)) = false := by simp [hs]
          rw [e1, e2]
          clear e1 e2 hv hs hok2
          go_enter Try.func39, Try.ntmps39
          go_wp2_with fail
          refine Hva.out.mono ?_; rintro e w1 ⟨rfl, rfl⟩
          go_wp2_with fail
          refine (rsays_any g _ _ _ bs _ _ hG hB hin).mono ?_; rintro e w2 ⟨rfl, hb2⟩
          go_wp2
          go_ret2
          exact ⟨rfl, hb2⟩
        · have hok2 : ¬ SayOK g bs := fun h => hs (h.same h0)
          have e1 : sayE g bs = 1 := by simp [sayE, hv, hok2]
          have e2 : sayR g bs = false := by simp [sayR, hok2]
          have hs' : ((bs.length : Int) != ((adv g 0).length : Int)) = true := by simp; omega
          rw [e1, e2]
          clear e1 e2 hv hs hok2
          go_enter Try.func39, Try.ntmps39
          go_wp2_with fail
          refine Hva.out.mono ?_; rintro e w1 ⟨rfl, rfl⟩
          go_wp2
          go_ret2
          exact ⟨rfl, Below.refl _ _⟩
      · have hok2 : SayOK g bs := ⟨hok, hl1, hl2, fun h => absurd h h0⟩
        have e1 : sayE g bs = 0 := by simp [sayE, hv, hok2]
        have e2 : sayR g bs = sayB g bs := by simp [sayR, hok2]
        have hin := says_in hok2
        have hz : decide (0 < g.length) = false := decide_eq_false h0
        rw [e1, e2]
        clear e1 e2 hv hok2
        go_enter Try.func39, Try.ntmps39
        go_wp2_with fail
        refine Hva.out.mono ?_; rintro e w1 ⟨rfl, rfl⟩
        go_wp2_with fail
        refine (rsays_any g _ _ _ bs _ _ hG hB hin).mono ?_; rintro e w2 ⟨rfl, hb2⟩
        go_wp2
        go_ret2
        exact ⟨rfl, hb2⟩
    · have hok2 : ¬ SayOK g bs := fun h => hln ⟨h.l1, h.l2⟩
      have e1 : sayE g bs = 1 := by simp [sayE, hv, hok2]
      have e2 : sayR g bs = false := by simp [sayR, hok2]
      rw [e1, e2]
      clear e1 e2 hv hok2
      by_cases hs1 : bs.length < 1
      all_goals
        go_enter Try.func39, Try.ntmps39
        go_wp2_with fail
        refine Hva.out.mono ?_; rintro e w1 ⟨rfl, rfl⟩
        go_wp2
        go_ret2
        exact ⟨rfl, Below.refl _ _⟩
  · have hok2 : ¬ SayOK g bs := fun h => hv (vE_ok h.game)
    have e1 : sayE g bs = vE g := by simp [sayE, hv]
    have e2 : sayR g bs = false := by simp [sayR, hok2]
    rw [e1, e2]
    have hne := v_ne g hv
    clear e1 e2 hv hok2
    go_enter Try.func39, Try.ntmps39
    go_wp2_with fail
    refine (rvalidate_any g _ _ _ hG hm).mono ?_; rintro e w1 ⟨rfl, rfl⟩
    go_wp2
    go_ret2
    exact ⟨rfl, Below.refl _ _⟩
end Go.Proofs.Ytedgndangamkaaa
