/- The document's 'Halving': what it returns. -/
import Derived.Test.YtedgndangamkaaaHalve
import Derived.Test.YtedgndangamkaaaRefLists
import Derived.Test.YtedgndangamkaaaKnown
import Derived.Test.YtedgndangamkaaaLong
namespace Go.Proofs.Ytedgndangamkaaa
open Go.RowKit
set_option linter.unusedSimpArgs false
set_option linter.unusedVariables false

def yk (g : List Rd) (k j : Nat) : Nat := (((List.range j).filter fun a => wrg g a k == 0).filter fun a => bth (adv g k) a).length
def nk (g : List Rd) (k j : Nat) : Nat := (((List.range j).filter fun a => wrg g a k == 0).filter fun a => !bth (adv g k) a).length
theorem yk_all (g : List Rd) (k : Nat) : yk g k (adv g 0).length = yesN g k := rfl
theorem nk_all (g : List Rd) (k : Nat) : nk g k (adv g 0).length = noN g k := rfl
theorem ynk_le (g : List Rd) (k j : Nat) : yk g k j ≤ j ∧ nk g k j ≤ j := by
  unfold yk nk
  have h1 := List.length_filter_le (fun a => wrg g a k == 0) (List.range j)
  have h2 := List.length_filter_le (fun a => bth (adv g k) a) ((List.range j).filter fun a => wrg g a k == 0)
  have h3 := List.length_filter_le (fun a => !bth (adv g k) a) ((List.range j).filter fun a => wrg g a k == 0)
  rw [List.length_range] at h1
  omega
theorem ynk_skip (g : List Rd) (k j : Nat) (h : 0 < wrg g j k) : yk g k (j + 1) = yk g k j ∧ nk g k (j + 1) = nk g k j := by
  have e : (wrg g j k == 0) = false := beq_eq_false_iff_ne.2 (by omega)
  unfold yk nk
  rw [List.range_succ, List.filter_append]
  simp [List.filter_cons, e]
theorem ynk_yes (g : List Rd) (k j : Nat) (h : wrg g j k = 0) (hb : bth (adv g k) j = true) : yk g k (j + 1) = yk g k j + 1 ∧ nk g k (j + 1) = nk g k j := by
  have e : (wrg g j k == 0) = true := beq_iff_eq.2 h
  unfold yk nk
  rw [List.range_succ, List.filter_append]
  simp [List.filter_cons, h, hb]
theorem ynk_no (g : List Rd) (k j : Nat) (h : wrg g j k = 0) (hb : bth (adv g k) j = false) : yk g k (j + 1) = yk g k j ∧ nk g k (j + 1) = nk g k j + 1 := by
  unfold yk nk
  rw [List.range_succ, List.filter_append]
  simp [List.filter_cons, h, hb]
theorem rwr_front {g : List Rd} (hok : GOK g) (a : Option Addr) (cap k j : Nat) (W : World) (hG : GameAt W a g) (hk : k ≤ g.length) (hj : j < (adv g 0).length) :
    Calls Try.prog 70 #[.slice a k cap, .int .i64 j] W fun e w' => e = .returned (.int .i64 (wrg g j k : Nat)) ∧ Below W.heap.size W w' := by
  have h := rwrong_in (g.take k) a cap j W (hG.take k) (by have := hok.len; simp; omega) fun i hi => by
    have hi' : i < k := by simp at hi; omega
    rw [adv_take g k i hi']
    exact all_adv hok j hj i (by omega)
  rw [List.length_take, Nat.min_eq_left hk, wr_take g j k k (Nat.le_refl _)] at h
  exact h.mono fun _ _ ⟨h1, n, h2⟩ => ⟨h1, by rw [h2]; exact below_drewN (Below.refl _ _) _⟩
def hdk (g : List Rd) (j : Nat) : List Int := ((List.range j).filter fun a => wrg g a g.length == 0).map fun (a : Nat) => (a : Int)
theorem hdk_all (g : List Rd) : hdk g (adv g 0).length = hdl g g.length := rfl
theorem hdk_yes (g : List Rd) (j : Nat) (h : wrg g j g.length = 0) : (hdk g j).map (Value.int .i64) ++ [.int .i64 (j : Int)] = (hdk g (j + 1)).map (Value.int .i64) ∧ (hdk g (j + 1)).length = (hdk g j).length + 1 := by
  unfold hdk
  rw [List.range_succ, List.filter_append]
  simp [List.filter_cons, h]
theorem hdk_no (g : List Rd) (j : Nat) (h : 0 < wrg g j g.length) : hdk g (j + 1) = hdk g j := by
  have e : (wrg g j g.length == 0) = false := beq_eq_false_iff_ne.2 (by omega)
  unfold hdk
  rw [List.range_succ, List.filter_append]
  simp [List.filter_cons, e]
theorem hdk_len (g : List Rd) (j : Nat) : (hdk g j).length ≤ j := by
  unfold hdk
  have h1 := List.length_filter_le (fun a => wrg g a g.length == 0) (List.range j)
  rw [List.length_range] at h1
  simpa using h1

set_option maxRecDepth 100000 in
set_option maxHeartbeats 4000000 in
theorem rHalving_any (g : List Rd) (a : Option Addr) (cap : Nat) (W : World) (hG : GameAt W a g) (hc : g.length ≤ cap) (hm : g.length ≤ maxLen) (hcm : cap ≤ maxLen) :
    Calls Try.prog 36 #[.slice a g.length cap] W (HalvePost g W) := by
  by_cases hp : plE g = 0
  · obtain ⟨hok, h0⟩ := plE_zero hp
    have hl := hok.len
    have hpl := rounds_any g a cap W hG hm
    rw [hp] at hpl
    have Hpl := hid hpl
    have Hp := hid hp
    clear hpl hp
    unfold maxLen at hm hcm
    have hn0 := (hok.el 0 (by omega)).2
    obtain ⟨i0, hi0, hz0, hz1, hz2⟩ := info_parts info3
    go_enter Try.func36, Try.ntmps36
    go_wp2_with fail
    refine Hpl.out.mono ?_; rintro e w1 ⟨rfl, rfl⟩
    go_wp2_with fail
    go_loopw [7, 8] (fun v7 v8 w' => ∃ k : Nat, k ≤ g.length ∧ v8 = .int .i64 k ∧ v7 = .int .i64 (hErr g k : Nat) ∧ Below W.heap.size W w') (fun _ v8 _ => g.length - (intOf v8).toNat)
    case atStart => exact ⟨0, by omega, rfl, rfl, Below.refl _ _⟩
    case round =>
      obtain ⟨k, hk, rfl, rfl, hb⟩ := hrel
      by_cases hlt : k < g.length
      · obtain ⟨wo, rfl⟩ : ∃ wo : World, wo = wr := ⟨_, rfl⟩
        have hel := hok.el k hlt
        have hel1 : 1 ≤ (adv g k).length := hel.2.1
        have hel8 : (adv g k).length ≤ 8 := hel.2.2
        have Hel := hid hel.1
        clear hel
        have hle := hErr_le g k
        go_wp2_with fail
        go_loopw [9, 10, 11] (fun v9 v10 v11 w' => ∃ j : Nat, j ≤ (adv g 0).length ∧ v11 = .int .i64 j ∧ v9 = .int .i64 (yk g k j : Nat) ∧ v10 = .int .i64 (nk g k j : Nat) ∧ Below W.heap.size W w') (fun _ _ v11 _ => (adv g 0).length - (intOf v11).toNat)
        case atStart => exact ⟨0, by omega, rfl, rfl, rfl, hb⟩
        case round =>
          clear hb
          obtain ⟨j, hj, rfl, rfl, rfl, hb⟩ := hrel
          obtain ⟨b, off, aa, c, rfl, hbl, y1, _, y3, _, ycm⟩ := (hG.below hb) 0 (by omega)
          have z1 : wr.cell? ⟨b, off, none⟩ = some (.slice aa (adv g 0).length c) := by simpa using y1
          clear y1 y3 ycm
          have hyn := ynk_le g k j
          by_cases hlt2 : j < (adv g 0).length
          · have Hw := hid (rwr_front hok (some ⟨b, off, none⟩) cap k j wr (hG.below hb) hk hlt2)
            have hQ : ∀ w', Below wr.heap.size wr w' → ∃ aa c, w'.cell? ⟨b, off + k * 2, none⟩ = some (.slice aa (adv g k).length c) ∧ (∃ b5 off5, aa = some ⟨b5, off5, none⟩ ∧ w'.cell? ⟨b5, off5 + j, none⟩ = some (.bool (bth (adv g k) j))) := by
              intro w' hb'
              obtain ⟨b', off', aa, c, e, hbl, y1, _, y3, _, ycm⟩ := ((hG.below hb).below hb') k hlt
              cases e
              obtain ⟨b5, off5, e5, _, x5⟩ := y3 j (by rw [Hel.out]; exact hlt2)
              exact ⟨aa, c, y1, b5, off5, e5, x5⟩
            have HQ := hid hQ
            clear hQ
            by_cases hw0 : 0 < wrg g j k
            · have S := hid (ynk_skip g k j hw0)
              go_wp2_with fail
              refine Hw.out.mono ?_; rintro e w3 ⟨rfl, hb3⟩
              go_wp2_with fail
              go_roundw
              case rel => exact ⟨j + 1, by omega, by go_num, by rw [S.out.1], by rw [S.out.2], hb.trans (hb3.mono hb.size)⟩
              case measure => simp [intOf]; omega
            · have hw1 : wrg g j k = 0 := by omega
              rw [hw1] at Hw
              have hjk : j < (adv g k).length := by have := Hel.out; omega
              cases hx : bth (adv g k) j
              · have S := hid (ynk_no g k j hw1 hx)
                clear hw0 hw1
                go_wp2_with fail
                refine Hw.out.mono ?_; rintro e w3 ⟨rfl, hb3⟩
                obtain ⟨aa3, c3, p1, b5, off5, rfl, p2⟩ := HQ.out w3 hb3
                rw [hx] at p2
                clear hx
                go_wp2_with fail
                go_roundw
                case rel => exact ⟨j + 1, by omega, by go_num, by rw [S.out.1], by rw [S.out.2]; go_num, hb.trans (hb3.mono hb.size)⟩
                case measure => simp [intOf]; omega
              · have S := hid (ynk_yes g k j hw1 hx)
                clear hw0 hw1
                go_wp2_with fail
                refine Hw.out.mono ?_; rintro e w3 ⟨rfl, hb3⟩
                obtain ⟨aa3, c3, p1, b5, off5, rfl, p2⟩ := HQ.out w3 hb3
                rw [hx] at p2
                clear hx
                go_wp2_with fail
                go_roundw
                case rel => exact ⟨j + 1, by omega, by go_num, by rw [S.out.1]; go_num, by rw [S.out.2], hb.trans (hb3.mono hb.size)⟩
                case measure => simp [intOf]; omega
          · obtain rfl : j = (adv g 0).length := by omega
            rw [yk_all, nk_all]
            rw [yk_all, nk_all] at hyn
            obtain ⟨b', off', aa2, c2, e2, hbl2, _, q2, _, _, _⟩ := (hG.below hb) k hlt
            cases e2
            have hyn2 := yes_no g k
            have hdI : decide (((noN g k : Nat) : Int) < ((yesN g k : Nat) : Int)) = decide ((hrd g k).length < 2 * yesN g k) := by
              apply decide_eq_decide.2; omega
            have hdN : decide (noN g k < yesN g k) = decide ((hrd g k).length < 2 * yesN g k) := by
              apply decide_eq_decide.2; omega
            have HdI := hid hdI
            have HdN := hid hdN
            clear hdI hdN hyn2
            cases hx : (decide ((hrd g k).length < 2 * yesN g k) == came g k)
            · have S := hid (hErr_step g k hx)
              have hx1 := hx
              rw [← HdI.out] at hx
              rw [← HdN.out] at hx1
              go_wp2_with fail
              go_roundw
              case rel => exact ⟨k + 1, by omega, by go_num, by rw [S.out]; go_num, hb⟩
              case measure => simp [intOf]; omega
            · have S := hid (hErr_skip g k hx)
              have hx1 := hx
              rw [← HdI.out] at hx
              rw [← HdN.out] at hx1
              go_wp2_with fail
              go_roundw
              case rel => exact ⟨k + 1, by omega, by go_num, by rw [S.out], hb⟩
              case measure => simp [intOf]; omega
      · obtain rfl : k = g.length := by omega
        obtain ⟨ws, rfl⟩ : ∃ ws : World, ws = wr := ⟨_, rfl⟩
        have hle := hErr_le g g.length
        go_wp2_with fail
        go_loopw [12, 13] (fun v12 v13 w' => ∃ j : Nat, j ≤ (adv g 0).length ∧ v13 = .int .i64 j ∧ w'.ownsRow W.heap.size 3 1 v12 (hdk g j).length ((hdk g j).map (Value.int .i64)) ∧ Below W.heap.size W w') (fun _ v13 _ => (adv g 0).length - (intOf v13).toNat)
        case atStart => exact ⟨0, by omega, rfl, World.ownsRow_nil _ _ _ _, hb⟩
        case round =>
          clear hb
          obtain ⟨j, hj, rfl, hown, hb⟩ := hrel
          obtain ⟨b, off, aa, c, rfl, hbl, y1, _, y3, _, ycm⟩ := (hG.below hb) 0 (by omega)
          have z1 : wr.cell? ⟨b, off, none⟩ = some (.slice aa (adv g 0).length c) := by simpa using y1
          clear y1 y3 ycm
          have hkl := hdk_len g j
          by_cases hlt2 : j < (adv g 0).length
          · have Hw := hid (rwr2 g (some ⟨b, off, none⟩) cap j wr (hG.below hb) hok hlt2)
            by_cases hw0 : 0 < wrg g j g.length
            · have S := hid (hdk_no g j hw0)
              have hne : (((wrg g j g.length : Nat) : Int) == 0) = false := beq_eq_false_iff_ne.2 (by omega)
              go_wp2_with fail
              refine Hw.out.mono ?_; rintro e w3 ⟨rfl, hb3⟩
              have hown3 := own_below hown hb3
              go_wp2_with fail
              go_roundw
              case rel => exact ⟨j + 1, by omega, by go_num, by rw [S.out]; exact hown3, hb.trans (hb3.mono hb.size)⟩
              case measure => simp [intOf]; omega
            · have hw1 : wrg g j g.length = 0 := by omega
              rw [hw1] at Hw
              have S := hid (hdk_yes g j hw1)
              clear hw0 hw1
              go_wp2_with fail
              refine Hw.out.mono ?_; rintro e w3 ⟨rfl, hb3⟩
              have hown3 := own_below hown hb3
              have hbb := hb.trans (hb3.mono hb.size)
              have hsz := hbb.size
              go_wp2_with (at_builtin; refine wpList_append_own _ rfl _ _ 27 rfl W.heap.size 3 i0 (.int .i64 0) 1 8 Try.underlying27 hi0 hz0 hz1 hz2 rfl (by decide) _ _ _ rfl (hown3.alloc _) ⟨w3.heap.size, 0, none⟩ 1 1 [.int .i64 (j : Int)] rfl rfl (World.news_of_block (cs := #[.int .i64 (j : Int)]) (t := 3) (fr := (0, 0)) (heap_alloc_new w3 _)) (by simp [Value.oneCell']) (by unfold maxLen; omega) (by omega) (by simp; omega) ?_; intro v' w4 hown4 hgrow4 _)
              rw [S.out.1, ← S.out.2] at hown4
              have hb4 : Below W.heap.size W w4 := (hbb.alloc hbb.size _).grown hgrow4 (by simp; omega) fun j hj => (hown3.lt j hj).1
              clear hgrow4 hown3 hbb hb3 hb hown
              go_wp2_with fail
              go_roundw
              case rel => exact ⟨j + 1, by omega, by go_num, hown4, hb4⟩
              case measure => simp [intOf]; omega
          · obtain rfl : j = (adv g 0).length := by omega
            rw [hdk_all] at hown hkl
            obtain ⟨a2, c2, e2, h3, h4, h5⟩ := own_ints hown
            rw [hdl_len] at e2 hkl
            subst e2
            by_cases hz : hrd g g.length = []
            · have e1 : hvB g = false := by simp [hvB, hz]
              have e2 : hvN g = 0 := by simp [hvN, e1]
              have e3 : hvL g = [] := by rw [hvL, if_pos Hp.out, hdl, hz]; rfl
              have E1 := hid e1
              have E2 := hid e2
              have E3 := hid e3
              have hl0 : (hrd g g.length).length = 0 := by rw [hz]; rfl
              have HL := hid hl0
              have hz1 : (((hrd g g.length).length : Int) == 0) = true := beq_iff_eq.2 (by omega)
              clear e1 e2 e3 hz hl0
              go_wp2_with fail
              refine bodyPost_ret (results_tmp4 rfl _ _ _) rfl ?_
              exact ⟨none, 0, by rw [E1.out, E2.out, E3.out, Hp.out]; rfl, by rw [E3.out]; exact fun i hi => absurd hi (Nat.not_lt_zero _), hb⟩
            · have e1 : hvB g = true := by rw [hvB, if_pos Hp.out]; exact decide_eq_true hz
              have e2 : hvN g = hErr g g.length := by rw [hvN, if_pos e1]
              have e3 : hvL g = hdl g g.length := by rw [hvL, if_pos Hp.out]
              have E1 := hid e1
              have E2 := hid e2
              have E3 := hid e3
              have hl0 : 0 < (hrd g g.length).length := List.length_pos_iff.2 hz
              have hz1 : (((hrd g g.length).length : Int) == 0) = false := beq_eq_false_iff_ne.2 (by omega)
              clear e1 e2 e3 hz
              go_wp2_with fail
              refine bodyPost_ret (results_tmp4 rfl _ _ _) rfl ?_
              exact ⟨a2, c2, by rw [E1.out, E2.out, E3.out, Hp.out, hdl_len]; rfl, by rw [E3.out]; exact h3, hb⟩
  · have e1 : hvB g = false := by simp [hvB, hp]
    have e2 : hvN g = 0 := by simp [hvN, e1]
    have e3 : hvL g = [] := by simp [hvL, hp]
    have E1 := hid e1
    have E2 := hid e2
    have E3 := hid e3
    have hne := pl_wf g hp
    clear hp e1 e2 e3
    go_enter Try.func36, Try.ntmps36
    go_wp2_with fail
    refine (rounds_any g _ _ _ hG hm).mono ?_; rintro e w1 ⟨rfl, rfl⟩
    go_wp2_with fail
    refine bodyPost_ret (results_tmp4 rfl _ _ _) rfl ?_
    exact ⟨none, 0, by rw [E1.out, E2.out, E3.out]; rfl, by rw [E3.out]; exact fun i hi => absurd hi (Nat.not_lt_zero _), Below.refl _ _⟩
end Go.Proofs.Ytedgndangamkaaa
