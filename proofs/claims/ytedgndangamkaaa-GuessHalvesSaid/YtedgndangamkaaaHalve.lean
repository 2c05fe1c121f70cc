/- 'Halving': what it returns. -/
import Derived.Test.YtedgndangamkaaaDel
import Derived.Test.YtedgndangamkaaaOffice
namespace Go.Proofs.Ytedgndangamkaaa
open Go.RowKit
set_option linter.unusedSimpArgs false
set_option linter.unusedVariables false

theorem results_tmp4 {fn : Func} {t u v x : Tmp} (h : fn.results = #[.tmp t, .tmp u, .tmp v, .tmp x]) (tmps : Array Value) (P : Program) (w : World) :
    (results fn tmps).run P w = .ok (.tuple #[tmps.getD t undef, tmps.getD u undef, tmps.getD v undef, tmps.getD x undef]) w := by simp [results, h]
theorem halv1_any (bs : List Bool) (cm : Bool) (aa : Option Addr) (c rb x : Nat) (W : World) (c1 : W.cell? ⟨rb, 0, none⟩ = some (.slice aa bs.length c)) (c2 : W.cell? ⟨rb, 1, none⟩ = some (.bool cm)) (hB : BoolsAt W aa bs) (hx : x < bs.length) (hl : bs.length ≤ 8) :
    Calls Try.prog 68 #[.int .i64 (x : Int), .pointer (some ⟨rb, 0, none⟩)] W fun e w2 => e = .returned (.bool (bth bs x != cm)) ∧ ∃ m, w2 = W.drewN m := by
  obtain ⟨b, off, rfl, hbl, k1⟩ := hB x hx
  have hx0 : (0 : Int) ≤ (x : Int) := by omega
  have hx1 : (x : Int) < (bs.length : Int) := by omega
  go_enter Try.func68, Try.ntmps68
  go_wp2
  go_quiet (fail)
  go_wp2
  go_ret
  exact ⟨rfl, _, rfl⟩

def hdl (g : List Rd) (k : Nat) : List Int := (hrd g k).map fun (a : Nat) => (a : Int)
theorem hdl_len (g : List Rd) (k : Nat) : (hdl g k).length = (hrd g k).length := by simp [hdl]
theorem hdl_at (g : List Rd) (k i : Nat) (h : i < (hrd g k).length) : ∃ a : Nat, nth (hdl g k) i = a ∧ a < (adv g 0).length := by
  refine ⟨(hrd g k)[i], by simp [nth, hdl, List.getD, h], hrd_lt g k _ (List.getElem_mem h)⟩
theorem hdl_zero (g : List Rd) (i : Nat) (h : i < (adv g 0).length) : nth (hdl g 0) i = i := by
  simp [nth, hdl, hrd_zero, List.getD, h]
theorem hdl_next (g : List Rd) (k : Nat) : ((hdl g k).filter fun x => !(bth (adv g k) x.toNat != came g k)) = hdl g (k + 1) := by
  unfold hdl
  rw [hrd_succ, List.filter_map]
  congr 2
  funext a
  simp [bne]
theorem hdl_yes (g : List Rd) (k : Nat) : ((hdl g k).filter fun x => bth (adv g k) x.toNat).length = yesN g k := by
  unfold hdl yesN
  rw [List.filter_map, List.length_map]
  congr 2
theorem hErr_step (g : List Rd) (k : Nat) (h : (decide ((hrd g k).length < 2 * yesN g k) == came g k) = false) : hErr g (k + 1) = hErr g k + 1 := by simp only [hErr, bne, h, Bool.not_false, if_true]
theorem hErr_skip (g : List Rd) (k : Nat) (h : (decide ((hrd g k).length < 2 * yesN g k) == came g k) = true) : hErr g (k + 1) = hErr g k := by simp only [hErr, bne, h]; rfl
open Classical in
noncomputable def hvL (g : List Rd) : List Int := if plE g = 0 then hdl g g.length else []
open Classical in
noncomputable def hvB (g : List Rd) : Bool := if plE g = 0 then decide (hrd g g.length ≠ []) else false
open Classical in
noncomputable def hvN (g : List Rd) : Int := if hvB g = true then hErr g g.length else 0
def HalvePost (g : List Rd) (W : World) (e : Ending) (w' : World) : Prop :=
  ∃ a cap, e = .returned (.tuple #[.slice a (hvL g).length cap, .int .i64 (hvN g), .bool (hvB g), .int .i64 (plE g)]) ∧ IntsAt w' a (hvL g) ∧ Below W.heap.size W w'

theorem clos_halve (g : List Rd) (k H rb : Nat) (aa : Option Addr) (c : Nat) (W wA : World) (hb : Below W.heap.size W wA) (hH : W.heap.size ≤ H) (hne : rb ≠ H) (hrb : rb < wA.heap.size) (hB : BoolsAt W aa (adv g k))
    (c1 : wA.cell? ⟨rb, 0, none⟩ = some (.slice aa (adv g k).length c)) (c2 : wA.cell? ⟨rb, 1, none⟩ = some (.bool (came g k))) (hl : (adv g k).length ≤ 8) (hs : (adv g k).length = (adv g 0).length) :
    ∀ w', wA.grownBy w' (some H) → ClosAt (fun x => bth (adv g k) x.toNat != came g k) (some ⟨rb, 0, none⟩) (hdl g k) w' := by
  intro w' hg n i hi
  rw [hdl_len] at hi
  obtain ⟨a, ha, halt⟩ := hdl_at g k i hi
  have hbw : Below W.heap.size W w' := hb.grown hg hb.size fun j hj => by have := Option.some.inj hj; omega
  have k1 : w'.cell? ⟨rb, 0, none⟩ = some (.slice aa (adv g k).length c) := (but_cell hg ⟨rb, 0, none⟩ hrb hne).trans c1
  have k2 : w'.cell? ⟨rb, 1, none⟩ = some (.bool (came g k)) := (but_cell hg ⟨rb, 1, none⟩ hrb hne).trans c2
  rw [ha]
  refine (halv1_any (adv g k) (came g k) aa c rb a (w'.drewN n) (by simpa using k1) (by simpa using k2) ((hB.below hbw).below (below_drewN (Below.refl _ _) n)) (by omega) hl).mono ?_
  rintro e w2 ⟨rfl, m, rfl⟩
  exact ⟨by simp, n + m, by simp [World.drewN_drewN]⟩
set_option maxRecDepth 100000 in
set_option maxHeartbeats 4000000 in
theorem Halving_any (g : List Rd) (a : Option Addr) (cap : Nat) (W : World) (hG : GameAt W a g) (hm : g.length ≤ maxLen) :
    Calls Try.prog 35 #[.slice a g.length cap] W (HalvePost g W) := by
  by_cases hp : plE g = 0
  · obtain ⟨hok, h0⟩ := plE_zero hp
    have hl := hok.len
    have hpl := played_any g a cap W hG hm
    rw [hp] at hpl
    have Hpl := hid hpl
    have Hp := hid hp
    clear hpl hp
    have hn0 := (hok.el 0 (by omega)).2
    go_enter Try.func35, Try.ntmps35
    go_wp2_with fail
    refine Hpl.out.mono ?_; rintro e w1 ⟨rfl, hb1⟩
    obtain ⟨b, off, aa, c, rfl, hbl, y1, _, y3, _, ycm⟩ := (hG.below hb1) 0 (by omega)
    have z1 : w1.cell? ⟨b, off, none⟩ = some (.slice aa (adv g 0).length c) := by simpa using y1
    clear y1 y3 ycm
    go_wp2_with (refine wpList_make_int _ rfl _ _ 27 rfl 3 (.int .i64 0) 8 Try.underlying27 info3 rfl .i64 .i64 _ _ (adv g 0).length rfl rfl rfl rfl (by omega) (by omega) ?_; intro w2 hr2 hz2 hb2)
    have hb12 := hb1.trans (hb2.mono hb1.size)
    have hH : W.heap.size ≤ w1.heap.size := hb1.size
    clear hb1 hb2 z1
    generalize w1.heap.size = H at *
    go_loopw [8, 28] (fun v8 v28 w' => ∃ j : Nat, j ≤ (adv g 0).length ∧ v28 = .int .i64 j ∧ w'.rowIs H 3 (adv g 0).length (fun t => .int .i64 (if t < j then (t : Int) else 0)) ∧ Below W.heap.size W w') (fun _ v28 _ => (adv g 0).length - (intOf v28).toNat)
    case atStart => exact ⟨0, by omega, rfl, hr2.congr fun t _ => by simp, hb12⟩
    case round =>
      clear hr2 hb12
      obtain ⟨j, hj, rfl, hr, hb⟩ := hrel
      by_cases hlt : j < (adv g 0).length
      · have ci := hr.cell hlt
        have fi := hr.frozen j
        go_wp2_with fail
        go_roundw
        case rel =>
          refine ⟨j + 1, by omega, by go_num, (hr.set j _).congr fun t _ => ?_, hb.setCell (by exact hH) _⟩
          by_cases e : t = j
          · subst e; rw [if_pos rfl, if_pos (by omega)]
          · rw [if_neg e]
            by_cases h1 : t < j
            · rw [if_pos h1, if_pos (by omega)]
            · rw [if_neg h1, if_neg (by omega)]
        case measure => simp [intOf]; omega
      · obtain rfl : j = (adv g 0).length := by omega
        have hr0 := hr.congr (g := fun t => .int .i64 ((fun t : Nat => if t < (adv g 0).length then (t : Int) else 0) t)) fun t _ => rfl
        clear hr
        obtain ⟨ws, rfl⟩ : ∃ ws : World, ws = wr := ⟨_, rfl⟩
        go_wp2_with fail
        go_loopw [7, 9, 38] (fun v7 v9 v38 w' => ∃ (k : Nat) (F : Nat → Int), k ≤ g.length ∧ v38 = .int .i64 k ∧ v9 = .int .i64 (hErr g k : Nat) ∧ v7 = .slice (some ⟨H, 0, none⟩) (hrd g k).length (adv g 0).length ∧ Hid (∀ i, i < (hdl g k).length → F i = nth (hdl g k) i) ∧ w'.rowIs H 3 (adv g 0).length (fun t => .int .i64 (F t)) ∧ Below W.heap.size W w') (fun _ _ v38 _ => g.length - (intOf v38).toNat)
        case atStart =>
          refine ⟨0, _, by omega, rfl, rfl, by rw [hrd_zero]; simp, hid fun i hi => ?_, hr0, hb⟩
          rw [hdl_len, hrd_zero] at hi
          have hi' : i < (adv g 0).length := by simpa using hi
          rw [hdl_zero g i hi', if_pos hi']
        case round =>
          clear hr0 hb
          obtain ⟨k, F, hk, rfl, rfl, rfl, hF, hr, hb⟩ := hrel
          have hlen := hrd_len g k
          by_cases hlt : k < g.length
          · obtain ⟨b2, off2, aa2, cc, e2, hbl2, q1, q2, q3, _, qcm⟩ := (hG.below hb) k hlt
            cases e2
            obtain ⟨b4, off4, aa4, cc4, e4, hbl4, g1, _, g3, _, _⟩ := hG k hlt
            cases e4
            have hea : aa4 = aa2 := by
              have := (hb.cell (p := ⟨b, off + k * 2, none⟩) hbl4).trans g1
              rw [q1] at this
              injection this with this
              injection this with this
              exact this.symm
            subst hea
            clear g1 hbl4
            have hel := hok.el k hlt
            have hk0 : (0 : Int) ≤ (k : Int) := by omega
            have hk1 : (k : Int) < (g.length : Int) := by omega
            unfold maxLen at qcm
            obtain ⟨wo, rfl⟩ : ∃ wo : World, wo = wr := ⟨_, rfl⟩
            have hneH : wo.heap.size ≠ H := by have := hr.lt; omega
            have hrA := hr.alloc (.cells #[.slice aa4 (adv g k).length cc, .bool (came g k)] 49)
            have hbA := hb.alloc hb.size (.cells #[.slice aa4 (adv g k).length cc, .bool (came g k)] 49)
            have HcA := hid (clos_halve g k H wo.heap.size aa4 cc W (wo.alloc (.cells #[.slice aa4 (adv g k).length cc, .bool (came g k)] 49)) hbA hH hneH (by simp) g3 (by simp) (by simp) hel.2.2 hel.1)
            have Hdel := hid (deleteFunc_any (fun x => bth (adv g k) x.toNat != came g k) (some ⟨wo.heap.size, 0, none⟩) (hdl g k) H (adv g 0).length F (wo.alloc (.cells #[.slice aa4 (adv g k).length cc, .bool (came g k)] 49)) hrA hF.out (by rw [hdl_len]; exact hlen) hn0.2 HcA.out)
            rw [hdl_next, hdl_len] at Hdel
            have Hb3 := hid (g3.below hbA)
            have hel1 : 1 ≤ (adv g k).length := hel.2.1
            have hel8 : (adv g k).length ≤ 8 := hel.2.2
            have Hel := hid hel
            clear g3 q3 hel
            go_wp2_with fail
            go_loop [12, 44] (fun v12 v44 => ∃ j : Nat, j ≤ (hrd g k).length ∧ v44 = .int .i64 j ∧ v12 = .int .i64 ((kp (fun x => bth (adv g k) x.toNat) (hdl g k) j).length : Nat)) (fun _ v44 => (hrd g k).length - (intOf v44).toNat)
            case atStart => exact ⟨0, by omega, rfl, by simp [kp]⟩
            case round =>
              clear q1 q2
              obtain ⟨j, hj, rfl, rfl⟩ := hrel
              have hkl := kp_len (fun x => bth (adv g k) x.toNat) (hdl g k) j
              by_cases hlt2 : j < (hrd g k).length
              · obtain ⟨ai, ha, halt⟩ := hdl_at g k j hlt2
                have cj := hrA.cell (i := j) (by omega)
                rw [hF.out j (by rw [hdl_len]; exact hlt2), ha] at cj
                obtain ⟨b5, off5, rfl, hb5, x5⟩ := Hb3.out ai (by have := Hel.out.1; omega)
                have hai : ai < (adv g k).length := by have := Hel.out.1; omega
                have ht : (fun x : Int => bth (adv g k) x.toNat) (nth (hdl g k) j) = bth (adv g k) ai := by rw [ha]; simp
                cases hx : bth (adv g k) ai
                · have S := hid (kp_no (fun x => bth (adv g k) x.toNat) (hdl g k) j (by rw [hdl_len]; exact hlt2) (ht.trans hx))
                  rw [hx] at x5
                  have X := hid ha
                  clear ha ht hx
                  go_wp2_with fail
                  go_round
                  case rel => exact ⟨j + 1, by omega, by go_num, by rw [S.out]⟩
                  case measure => simp [intOf]; omega
                · have S := hid (kp_yes (fun x => bth (adv g k) x.toNat) (hdl g k) j (by rw [hdl_len]; exact hlt2) (ht.trans hx))
                  rw [hx] at x5
                  have X := hid ha
                  clear ha ht hx
                  go_wp2_with fail
                  go_round
                  case rel => exact ⟨j + 1, by omega, by go_num, by rw [S.out, List.length_append]; go_num⟩
                  case measure => simp [intOf]; omega
              · obtain rfl : j = (hrd g k).length := by omega
                have hy : (kp (fun x => bth (adv g k) x.toNat) (hdl g k) (hrd g k).length).length = yesN g k := by
                  rw [← hdl_len, kp_all, hdl_yes]
                rw [hy]
                rw [hy] at hkl
                have hle := hErr_le g k
                clear hy
                have hdI : decide (((hrd g k).length : Int) < 2 * ((yesN g k : Nat) : Int)) = decide ((hrd g k).length < 2 * yesN g k) := by
                  apply decide_eq_decide.2; omega
                have HdI := hid hdI
                clear hdI
                cases hx : (decide ((hrd g k).length < 2 * yesN g k) == came g k)
                · have S := hid (hErr_step g k hx)
                  rw [← HdI.out] at hx
                  have hx2 : (decide (((hrd g k).length : Int) < 2 * ((yesN g k : Nat) : Int)) != came g k) = true := by rw [bne, hx]; rfl
                  go_wp2_with fail
                  refine Hdel.out.mono ?_; rintro e w5 ⟨F5, rfl, hF5, hr5, hg5⟩
                  rw [hdl_len] at hF5 ⊢
                  have hb5 : Below W.heap.size W w5 := hbA.grown hg5 hbA.size fun j hj => by have := Option.some.inj hj; omega
                  clear hx hx2
                  go_wp2_with fail
                  go_roundw
                  case rel => exact ⟨k + 1, F5, by omega, by go_num, by rw [S.out]; go_num, rfl, hid (by rw [hdl_len]; exact hF5), hr5, hb5⟩
                  case measure => simp [intOf]; omega
                · have S := hid (hErr_skip g k hx)
                  rw [← HdI.out] at hx
                  have hx2 : (decide (((hrd g k).length : Int) < 2 * ((yesN g k : Nat) : Int)) != came g k) = false := by rw [bne, hx]; rfl
                  go_wp2_with fail
                  refine Hdel.out.mono ?_; rintro e w5 ⟨F5, rfl, hF5, hr5, hg5⟩
                  rw [hdl_len] at hF5 ⊢
                  have hb5 : Below W.heap.size W w5 := hbA.grown hg5 hbA.size fun j hj => by have := Option.some.inj hj; omega
                  clear hx hx2
                  go_wp2_with fail
                  go_roundw
                  case rel => exact ⟨k + 1, F5, by omega, by go_num, by rw [S.out], rfl, hid (by rw [hdl_len]; exact hF5), hr5, hb5⟩
                  case measure => simp [intOf]; omega
          · obtain rfl : k = g.length := by omega
            by_cases hz : hrd g g.length = []
            · have e1 : hvB g = false := by simp [hvB, hz]
              have e2 : hvN g = 0 := by simp [hvN, e1]
              have e3 : hvL g = [] := by rw [hvL, if_pos Hp.out, hdl, hz]; rfl
              have E1 := hid e1
              have E2 := hid e2
              have E3 := hid e3
              have hl0 : (hrd g g.length).length = 0 := by rw [hz]; rfl
              have HL := hid hl0
              have hz1 : (((hrd g g.length).length : Int) == 0) = true := beq_iff_eq.2 (by omega)
              clear e1 e2 e3 hz hl0
              go_wp2_with fail
              refine bodyPost_ret (results_tmp4 rfl _ _ _) rfl ?_
              exact ⟨none, 0, by rw [E1.out, E2.out, E3.out, Hp.out]; rfl, by rw [E3.out]; exact fun i hi => absurd hi (Nat.not_lt_zero _), hb⟩
            · have e1 : hvB g = true := by rw [hvB, if_pos Hp.out]; exact decide_eq_true hz
              have e2 : hvN g = hErr g g.length := by rw [hvN, if_pos e1]
              have e3 : hvL g = hdl g g.length := by rw [hvL, if_pos Hp.out]
              have E1 := hid e1
              have E2 := hid e2
              have E3 := hid e3
              have hl0 : 0 < (hrd g g.length).length := List.length_pos_iff.2 hz
              have hz1 : (((hrd g g.length).length : Int) == 0) = false := beq_eq_false_iff_ne.2 (by omega)
              clear e1 e2 e3 hz
              go_wp2_with fail
              refine bodyPost_ret (results_tmp4 rfl _ _ _) rfl ?_
              exact ⟨some ⟨H, 0, none⟩, (adv g 0).length, by rw [E1.out, E2.out, E3.out, Hp.out, hdl_len]; rfl, by rw [E3.out]; exact ints_row hr hF.out (by rw [hdl_len]; exact hlen), hb⟩
  · have e1 : hvB g = false := by simp [hvB, hp]
    have e2 : hvN g = 0 := by simp [hvN, e1]
    have e3 : hvL g = [] := by simp [hvL, hp]
    have E1 := hid e1
    have E2 := hid e2
    have E3 := hid e3
    have hne := pl_wf g hp
    clear hp e1 e2 e3
    go_enter Try.func35, Try.ntmps35
    go_wp2_with fail
    refine (played_any g _ _ _ hG hm).mono ?_; rintro e w1 ⟨rfl, hb1⟩
    go_wp2_with fail
    refine bodyPost_ret (results_tmp4 rfl _ _ _) rfl ?_
    exact ⟨none, 0, by rw [E1.out, E2.out, E3.out]; rfl, by rw [E3.out]; exact fun i hi => absurd hi (Nat.not_lt_zero _), hb1⟩
end Go.Proofs.Ytedgndangamkaaa
