/- The document's 'CountPoints': what it returns. -/
import Derived.Test.YtmllbemjcfkmjaaPoints
import Derived.BigQuiet
namespace Go.Proofs.Ytmllbemjcfkmjaa
open Go.RowKit Go.Maps
set_option linter.unusedSimpArgs false
set_option linter.unusedVariables false

/-! ### rows of numbers behind a row of slices -/
def slV (g : Nat → Nat) (T c s : Nat) : Value := if s < c then .slice (some ⟨g s, 0, none⟩) T T else .slice none 0 0
structure RowsI (base N T b : Nat) (g : Nat → Nat) (c : Nat) (F : Nat → Nat → Int) (w : World) : Prop where
  out : w.rowIs b 33 N (slV g T c)
  ge : base ≤ b
  rows : ∀ s, s < c → base ≤ g s ∧ w.rowIs (g s) 3 T (fun q => .int .i64 (F s q))
  inj : ∀ s s', s < c → s' < c → g s = g s' → s = s'
section
variable {w w' : World} {base N T b c : Nat} {g : Nat → Nat} {F G : Nat → Nat → Int}
theorem RowsI.below (h : RowsI base N T b g c F w) (hb : Below w.heap.size w w') : RowsI base N T b g c F w' :=
  ⟨rowIs_below h.out hb h.out.lt, h.ge, fun s hs => ⟨(h.rows s hs).1, rowIs_below (h.rows s hs).2 hb (h.rows s hs).2.lt⟩, h.inj⟩
theorem RowsI.drew (h : RowsI base N T b g c F w) : RowsI base N T b g c F w.drew := ⟨h.out, h.ge, h.rows, h.inj⟩
theorem RowsI.same (h : RowsI base N T b g c F w) (hg : ∀ s q, s < c → q < T → F s q = G s q) : RowsI base N T b g c G w :=
  ⟨h.out, h.ge, fun s hs => ⟨(h.rows s hs).1, (h.rows s hs).2.congr fun q hq => by rw [hg s q hs hq]⟩, h.inj⟩
theorem RowsI.cell (h : RowsI base N T b g c F w) {s : Nat} (hN : s < N) (hs : s < c) : w.cell? ⟨b, s, none⟩ = some (.slice (some ⟨g s, 0, none⟩) T T) := by
  have := h.out.cell hN
  rw [this]
  unfold slV
  rw [if_pos hs]
theorem row_block_ne {b b' t t' N N' : Nat} {f f' : Nat → Value} (h : w.rowIs b t N f) (h' : w.rowIs b' t' N' f') (hne : t ≠ t') : b ≠ b' := by
  intro e
  subst e
  obtain ⟨c, hb, _⟩ := h
  obtain ⟨c', hb', _⟩ := h'
  rw [hb] at hb'
  cases hb'
  exact hne rfl
theorem RowsI.set (h : RowsI base N T b g c F w) {s q : Nat} (hs : s < c) {z : Int} (hz : z = G s q) (hg : ∀ t r, t < c → r < T → ¬ (t = s ∧ r = q) → F t r = G t r) : RowsI base N T b g c G (w.setCell ⟨g s, q, none⟩ (.int .i64 z)) := by
  have hr := (h.rows s hs).2
  refine ⟨h.out.setOther (row_block_ne h.out hr (by decide)) _, h.ge, fun t ht => ⟨(h.rows t ht).1, ?_⟩, h.inj⟩
  by_cases e : t = s
  · subst e
    refine (hr.set q _).congr fun r hr' => ?_
    by_cases e2 : r = q
    · subst e2; simp [hz]
    · simp only [e2, if_false]
      rw [hg t r ht hr' (fun h => e2 h.2)]
  · have hne : g t ≠ g s := fun e2 => e (h.inj t s ht hs e2)
    refine ((h.rows t ht).2.setOther (a := ⟨g s, q, none⟩) hne _).congr fun r hr' => ?_
    rw [hg t r ht hr' (fun h => e h.1)]
/-- One row more. -/
theorem RowsI.more (h : RowsI base N T b g c (fun _ _ => 0) w) {hh : Nat} (hn : hh = w.heap.size) (hw : Below w.heap.size w w') (hbase : base ≤ w.heap.size) (hr : w'.rowIs hh 3 T (fun _ => .int .i64 0)) :
    RowsI base N T b (fun s => if s = c then hh else g s) (c + 1) (fun _ _ => 0) (w'.setCell ⟨b, c, none⟩ (.slice (some ⟨hh, 0, none⟩) T T)) := by
  have h' := h.below hw
  have hlt := fun s (hs : s < c) => (h.rows s hs).2.lt
  refine ⟨(h'.out.set c _).congr fun i hi => ?_, h.ge, fun s hs => ?_, fun s s' hs hs' e => ?_⟩
  · unfold slV
    by_cases e : i = c
    · subst e; simp
    · by_cases e2 : i < c
      · simp [e, e2, show i < c + 1 by omega]
      · simp [e, e2, show ¬ i < c + 1 by omega]
  · by_cases e : s = c
    · subst e
      simp only [if_true]
      exact ⟨by omega, hr.setOther (fun e => row_block_ne hr h'.out (by decide) e) _⟩
    · simp only [e, if_false]
      have hs' : s < c := by omega
      exact ⟨(h'.rows s hs').1, (h'.rows s hs').2.setOther (fun e => row_block_ne (h'.rows s hs').2 h'.out (by decide) e) _⟩
  · by_cases e1 : s = c <;> by_cases e2 : s' = c
    · omega
    · simp only [e1, if_true, e2, if_false] at e
      have := hlt s' (by omega)
      omega
    · simp only [e1, if_false, e2, if_true] at e
      have := hlt s (by omega)
      omega
    · simp only [e1, if_false, e2] at e
      exact h.inj s s' (by omega) (by omega) e
theorem RowsI.start (h : w.rowIs b 33 N (fun _ => .slice none 0 0)) (hb : base ≤ b) (g : Nat → Nat) : RowsI base N T b g 0 (fun _ _ => 0) w :=
  ⟨h.congr fun i hi => by unfold slV; rw [if_neg (by omega)], hb, fun s hs => absurd hs (Nat.not_lt_zero s), fun s s' hs => absurd hs (Nat.not_lt_zero s)⟩
end
theorem mul20 (N0 : Nat) (h : N0 ≤ 20) : IntKind.i64.wrap ((N0 : Int) * 20) = ((20 * N0 : Nat) : Int) := by
  rw [IntWalk.i64_in _ (by omega)]
  omega

set_option maxRecDepth 100000 in
set_option maxHeartbeats 4000000 in
theorem rCountPoints_any (m : Mac) (a a2 : Option Addr) (cap cap2 : Nat) (n : Int) (xs : List Int) (ax : Option Addr) (cx : Nat) (tot : Int) (W : World) (hM : MacAt W a cap a2 cap2 m) (hI : IntsAt W ax xs) (hl : xs.length ≤ maxLen) :
    Calls Try.prog 53 #[.agg #[.int .i64 m.L, .slice a m.nx.length cap, .slice a2 m.ac.length cap2], .int .i64 n, .slice ax xs.length cx, .int .i64 tot] W fun e w' => e = .returned (.tuple #[.int .i64 (cpN m n xs tot), .int .i64 (scoE m n xs)]) ∧ Below W.heap.size W w' := by
  have hb0 := below_alloc W (.cells #[.int .i64 m.L, .slice a m.nx.length cap, .slice a2 m.ac.length cap2] 25)
  have Hv := hid (scored_any m a a2 cap cap2 n xs ax cx (W.alloc (.cells #[.int .i64 m.L, .slice a m.nx.length cap, .slice a2 m.ac.length cap2] 25)) (hM.below hb0) (hI.below hb0) hl)
  have HX := hid (box_new0 W (.int .i64 m.L) (.slice a m.nx.length cap) (.slice a2 m.ac.length cap2) 25)
  have HM := hid (hM.below hb0)
  have HI := hid (hI.below hb0)
  have HB := hid hb0
  clear hM hI hb0 hl
  by_cases hE : scoE m n xs = 0
  · obtain ⟨⟨hOK, hn0, hn20⟩, hP⟩ := scoE_zero.1 hE
    have HE := hid hE
    rw [hE] at Hv ⊢
    obtain ⟨N0, rfl⟩ : ∃ N0 : Nat, n = (N0 : Int) := ⟨n.toNat, by omega⟩
    have hN0 : N0 ≤ 20 := by omega
    have wk := mul20 N0 hN0
    by_cases ht : 0 ≤ tot ∧ tot ≤ 20 * (N0 : Int)
    · have HOK := hid hOK
      have HP := hid hP
      have h64 := hOK.n64
      have hn1 := hOK.n1
      have Hac := hid hOK.ac
      obtain ⟨T0, rfl⟩ : ∃ T0 : Nat, tot = (T0 : Int) := ⟨tot.toNat, by omega⟩
      have hT0 : T0 ≤ 20 * N0 := by omega
      have HR : Hid (cpN m (N0 : Int) xs (T0 : Int) = accS m (fun s => wy m xs N0 s T0) m.nx.length) := hid (by
        rw [cpN_yes ⟨HE.out, ht⟩]; rfl)
      have Hw := hid (fun w => within_yes (T0 : Int) 0 ((N0 : Int) * 20) w (by omega) (by omega))
      clear hE hOK hP hn0 hn20 ht
      go_enter Try.func53, Try.ntmps53
      go_wp2_with fail
      refine Hv.out.mono ?_; rintro e U ⟨rfl, hbU⟩
      replace HX := hid (HX.out.belowB hbU)
      replace HM := hid (HM.out.below hbU)
      replace HI := hid (HI.out.below hbU)
      replace HB := hid (HB.out.trans (hbU.mono HB.out.size))
      clear hbU Hv
      have x1 := HX.out.c1
      have xl := HX.out.lt
      clear wk
      go_wp2_with fail
      refine (Hw.out _).mono ?_; rintro e w' ⟨rfl, rfl⟩
      go_wp2_with (refine wpList_make_int (o := ⟨some 38, _, _, _, _, _⟩) _ rfl _ _ 22 rfl 33 (.slice none 0 0) 24 Try.underlying22 info33 rfl .i64 .i64 _ _ m.nx.length rfl rfl rfl rfl (by omega) (by omega) ?_; intro w1 hr1 hz1 hb1; clear x1 xl)
      have HS0 := hid (RowsI.start (T := 20 * N0 + 1) hr1 (Nat.le_refl _) (fun _ => 0))
      have HS1 := hid hb1
      clear hr1 hz1 hb1
      go_loopw [13] (fun v13 w' => ∃ (c : Nat) (g : Nat → Nat), c ≤ m.nx.length ∧ v13 = .int .i64 c ∧ RowsI U.heap.size m.nx.length (20 * N0 + 1) U.heap.size g c (fun _ _ => 0) w' ∧ Below U.heap.size U w') (fun v13 _ => m.nx.length - (intOf v13).toNat)
      case atStart => exact ⟨0, fun _ => 0, by omega, rfl, HS0.out, HS1.out⟩
      case round =>
        clear HS0 HS1
        obtain ⟨c, g, hc, rfl, hR, qb⟩ := hrel
        by_cases hls : c < m.nx.length
        · have z1 := hR.out.cell hls
          have y1 := hR.out.frozen c
          have hlB := hR.out.lt
          have i1 : (0 : Int) ≤ (c : Int) := by omega
          have i2 : (c : Int) < (m.nx.length : Int) := by omega
          have HRR := hid hR
          have Hqb := hid qb
          unfold slV at z1
          rw [if_neg (Nat.lt_irrefl c)] at z1
          clear hR qb
          go_wp2_with (refine wpList_make_int (o := ⟨some 49, _, _, _, _, _⟩) _ rfl _ _ 33 rfl 3 (.int .i64 0) 8 Try.underlying33 info3 rfl .i64 .i64 _ _ (20 * N0 + 1) rfl rfl (by omega) (by omega) (by omega) (by omega) ?_; intro w1 hr1 hz1 hb1; have z2 := (hb1.cell (p := ⟨U.heap.size, c, none⟩) hlB).trans z1; have y2 := (rowIs_below HRR.out.out hb1 hlB).frozen c; have l2 : U.heap.size < w1.heap.size := Nat.lt_of_lt_of_le hlB hb1.size; clear z1 y1 hlB)
          have HR2 := hid (HRR.out.more rfl hb1 Hqb.out.size hr1)
          have HQ2 := hid ((Hqb.out.trans (hb1.mono Hqb.out.size)).setCell (p := ⟨U.heap.size, c, none⟩) (Nat.le_refl _) (.slice (some ⟨wr.heap.size, 0, none⟩) (20 * N0 + 1) (20 * N0 + 1)))
          clear z2 y2 l2 hz1 hr1 hb1
          go_wp2_with fail
          go_roundw
          case rel => exact ⟨c + 1, _, by omega, by go_num, HR2.out, HQ2.out⟩
          case measure => simp [intOf]; omega
        · obtain rfl : c = m.nx.length := by omega
          have hr0 := hR.rows 0 (by omega)
          have z1 := hR.cell (s := 0) (by omega) (by omega)
          have z2 := hr0.2.cell (i := 0) (by omega)
          have y2 := hr0.2.frozen 0
          have l1 := hR.out.lt
          have l2 := hr0.2.lt
          have H0 := hid (hR.set (s := 0) (q := 0) (by omega) (z := 1) (G := wy m xs 0) (by rfl) (fun t r ht hr hne => by
            unfold wy reach
            rw [wyN_skip (fun e => hne (by cases e; exact ⟨rfl, rfl⟩))]
            rfl))
          have HB2 := hid (qb.setCell (p := ⟨g 0, 0, none⟩) hr0.1 (.int .i64 1))
          clear hR qb hr0 hls
          go_wp2_with fail
          clear z1 z2 y2 l1 l2
          go_loopw [12, 14, 15] (fun v12 v14 v15 w' => ∃ (k b : Nat) (g : Nat → Nat), k ≤ N0 ∧ v14 = .int .i64 k ∧ v12 = .slice (some ⟨b, 0, none⟩) m.nx.length m.nx.length ∧ RowsI U.heap.size m.nx.length (20 * N0 + 1) b g m.nx.length (wy m xs k) w' ∧ Below U.heap.size U w') (fun _ v14 _ _ => N0 - (intOf v14).toNat)
          case atStart => exact ⟨0, U.heap.size, g, by omega, rfl, rfl, H0.out, HB2.out⟩
          case round =>
            clear H0 HB2
            obtain ⟨k, bo, go, hk, rfl, rfl, hO, hbw⟩ := hrel
            have hX := HX.out.belowB hbw
            have x1 := hX.c1
            have x2 := hX.c2
            have xl := hX.lt
            clear hX
            by_cases hlt : k < N0
            · obtain ⟨Y, hY⟩ : ∃ Y, Y = wr := ⟨_, rfl⟩
              subst hY
              have HO := hid hO
              have Hbw := hid hbw
              have hOl := hO.out.lt
              clear hO hbw x2
              go_wp2_with (refine wpList_make_int (o := ⟨some 63, _, _, _, _, _⟩) _ rfl _ _ 22 rfl 33 (.slice none 0 0) 24 Try.underlying22 info33 rfl .i64 .i64 _ _ m.nx.length rfl rfl rfl rfl (by omega) (by omega) ?_; intro w1 hr1 hz1 hb1; clear x1 xl)
              have HS0 := hid (RowsI.start (T := 20 * N0 + 1) hr1 (Nat.le_refl _) (fun _ => 0))
              have HS1 := hid hb1
              clear hr1 hz1 hb1
              go_loopw [16] (fun v16 w' => ∃ (c : Nat) (g : Nat → Nat), c ≤ m.nx.length ∧ v16 = .int .i64 c ∧ RowsI Y.heap.size m.nx.length (20 * N0 + 1) Y.heap.size g c (fun _ _ => 0) w' ∧ Below Y.heap.size Y w') (fun v16 _ => m.nx.length - (intOf v16).toNat)
              case atStart => exact ⟨0, fun _ => 0, by omega, rfl, HS0.out, HS1.out⟩
              case round =>
                clear HS0 HS1
                obtain ⟨c, g, hc, rfl, hR, qb⟩ := hrel
                by_cases hls : c < m.nx.length
                · have z1 := hR.out.cell hls
                  have y1 := hR.out.frozen c
                  have hlB := hR.out.lt
                  have i1 : (0 : Int) ≤ (c : Int) := by omega
                  have i2 : (c : Int) < (m.nx.length : Int) := by omega
                  have HRR := hid hR
                  have Hqb := hid qb
                  unfold slV at z1
                  rw [if_neg (Nat.lt_irrefl c)] at z1
                  clear hR qb
                  go_wp2_with (refine wpList_make_int (o := ⟨some 74, _, _, _, _, _⟩) _ rfl _ _ 33 rfl 3 (.int .i64 0) 8 Try.underlying33 info3 rfl .i64 .i64 _ _ (20 * N0 + 1) rfl rfl (by omega) (by omega) (by omega) (by omega) ?_; intro w1 hr1 hz1 hb1; have z2 := (hb1.cell (p := ⟨Y.heap.size, c, none⟩) hlB).trans z1; have y2 := (rowIs_below HRR.out.out hb1 hlB).frozen c; have l2 : Y.heap.size < w1.heap.size := Nat.lt_of_lt_of_le hlB hb1.size; clear z1 y1 hlB)
                  have HR2 := hid (HRR.out.more rfl hb1 Hqb.out.size hr1)
                  have HQ2 := hid ((Hqb.out.trans (hb1.mono Hqb.out.size)).setCell (p := ⟨Y.heap.size, c, none⟩) (Nat.le_refl _) (.slice (some ⟨wr.heap.size, 0, none⟩) (20 * N0 + 1) (20 * N0 + 1)))
                  clear z2 y2 l2 hz1 hr1 hb1
                  go_wp2_with fail
                  go_roundw
                  case rel => exact ⟨c + 1, _, by omega, by go_num, HR2.out, HQ2.out⟩
                  case measure => simp [intOf]; omega
                · obtain rfl : c = m.nx.length := by omega
                  have hR1 := hR.same (G := dP m xs k 0 0 0) (fun t r _ _ => dP_zero.symm)
                  clear hR hls
                  have HR1 := hid hR1
                  have HQ1 := hid qb
                  clear hR1 qb
                  go_wp2_with fail
                  go_loopw [17] (fun v17 w' => ∃ s : Nat, s ≤ m.nx.length ∧ v17 = .int .i64 s ∧ RowsI Y.heap.size m.nx.length (20 * N0 + 1) Y.heap.size g m.nx.length (dP m xs k s 0 0) w' ∧ Below Y.heap.size Y w') (fun v17 _ => m.nx.length - (intOf v17).toNat)
                  case atStart => exact ⟨0, by omega, rfl, HR1.out, HQ1.out⟩
                  case round =>
                    clear HR1 HQ1
                    obtain ⟨s, hs, rfl, hR, qb⟩ := hrel
                    by_cases hls : s < m.nx.length
                    · obtain ⟨b1, o1, eb1, hb1, ra, rc, hcU, r1, r2, hIA⟩ := HM.out.nx s hls
                      have hrl := HOK.out.len s hls
                      have hrel := HOK.out.el s hls
                      have h6 := HOK.out.l6
                      have h1L := HOK.out.l1
                      have HLn : Hid ((rowOf m s).length = m.L.toNat) := hid (by omega)
                      have HLi : Hid (((rowOf m s).length : Int) = m.L) := hid hrl
                      have hl6 : (rowOf m s).length ≤ 6 := by omega
                      have Hxl : Hid (xs.length = (rowOf m s).length) := hid (by have := HP.out.len; omega)
                      have HEl := hid hrel
                      have HIA := hid hIA
                      have HcU := hid hcU
                      have Hb1 := hid hb1
                      have HR1 := hid hR
                      have HQ1 := hid qb
                      have i1 : (0 : Int) ≤ (s : Int) := by omega
                      have i2 : (s : Int) < (m.nx.length : Int) := by omega
                      subst eb1
                      clear hrl hrel h6 h1L hIA hcU hb1 hR qb
                      go_wp2_with fail
                      go_loopw [18] (fun v18 w' => ∃ a : Nat, a ≤ (rowOf m s).length ∧ v18 = .int .i64 a ∧ RowsI Y.heap.size m.nx.length (20 * N0 + 1) Y.heap.size g m.nx.length (dP m xs k s a 0) w' ∧ Below Y.heap.size Y w') (fun v18 _ => (rowOf m s).length - (intOf v18).toNat)
                      case atStart => exact ⟨0, by omega, rfl, HR1.out, HQ1.out⟩
                      case round =>
                        clear HR1 HQ1
                        obtain ⟨a, ha, rfl, hR, qb⟩ := hrel
                        have hUw := Hbw.out.trans (qb.mono Hbw.out.size)
                        have hX := HX.out.belowB hUw
                        have x0 := hX.c0
                        have xl := hX.lt
                        clear hX
                        by_cases hla : a < (rowOf m s).length
                        · have da : decide ((a : Int) < m.L) = true := decide_eq_true (by rw [← HLi.out]; omega)
                          have hel := HEl.out a hla
                          have hpx := HP.out.el a (by rw [Hxl.out]; exact hla)
                          obtain ⟨tn, htn⟩ : ∃ tn : Nat, nth (rowOf m s) a = (tn : Int) := ⟨(nth (rowOf m s) a).toNat, by omega⟩
                          obtain ⟨pn, hpn⟩ : ∃ pn : Nat, nth xs a = (pn : Int) := ⟨(nth xs a).toNat, by omega⟩
                          have hst : stN m s a = tn := by
                            show (nth (rowOf m ((s : Int)).toNat) a).toNat = tn
                            rw [Int.toNat_natCast, htn, Int.toNat_natCast]
                          have hpt : ptN xs a = pn := by unfold ptN; rw [hpn, Int.toNat_natCast]
                          rw [htn] at hel
                          rw [hpn] at hpx
                          have htl : tn < m.nx.length := by omega
                          have hp20 : pn ≤ 20 := by omega
                          have Htn := hid htn
                          have Hpn := hid hpn
                          have Hst := hid hst
                          have Hpt := hid hpt
                          have HR1 := hid hR
                          have HQ1 := hid qb
                          have HaL : Hid (a < m.L.toNat) := hid (by have := HLn.out; omega)
                          have i4 : (0 : Int) ≤ (a : Int) := by omega
                          have i5 : (a : Int) < ((rowOf m s).length : Int) := by omega
                          have i6 : (a : Int) < (xs.length : Int) := by rw [Hxl.out]; omega
                          have i7 : (0 : Int) ≤ (tn : Int) := by omega
                          have i8 : (tn : Int) < (m.nx.length : Int) := by omega
                          clear hel hpx htn hpn hst hpt hR qb hUw
                          obtain ⟨w2, hw2⟩ : ∃ w2, w2 = wr := ⟨_, rfl⟩
                          subst hw2
                          go_wp2_with fail
                          clear x0 xl da
                          go_loopw [19] (fun v19 w' => ∃ p : Nat, p ≤ 20 * N0 + 1 ∧ v19 = .int .i64 p ∧ RowsI Y.heap.size m.nx.length (20 * N0 + 1) Y.heap.size g m.nx.length (dP m xs k s a p) w' ∧ Below Y.heap.size Y w') (fun v19 _ => 20 * N0 + 1 - (intOf v19).toNat)
                          case atStart => exact ⟨0, by omega, rfl, HR1.out, HQ1.out⟩
                          case round =>
                            clear HR1 HQ1
                            obtain ⟨p, hp, rfl, hR, qb⟩ := hrel
                            have hUw := Hbw.out.trans (qb.mono Hbw.out.size)
                            obtain ⟨bp, op, rfl, hbp, cp⟩ := (HI.out.below hUw) a (by rw [Hxl.out]; exact hla)
                            rw [Hpn.out] at cp
                            by_cases hq : p + pn ≤ 20 * N0
                            · have dq : decide ((p : Int) + (pn : Int) ≤ (N0 : Int) * 20) = true := decide_eq_true (by omega)
                              have hX := HX.out.belowB hUw
                              have x1 := hX.c1
                              have xl := hX.lt
                              have hc0 := (hUw.cell (p := ⟨b1, o1 + s, none⟩) Hb1.out).trans HcU.out
                              have hb1 := Nat.lt_of_lt_of_le Hb1.out hUw.size
                              obtain ⟨b', o', rfl, hb', c1⟩ := (HIA.out.below hUw) a hla
                              rw [Htn.out] at c1
                              have hO' := HO.out.below qb
                              have zo := hO'.cell hls hls
                              have zw := (hO'.rows s hls).2.cell (i := p) (by omega)
                              have lo := hO'.out.lt
                              have lw := (hO'.rows s hls).2.lt
                              have zn := hR.cell htl htl
                              have zc := (hR.rows tn htl).2.cell (i := p + pn) (by omega)
                              have yc := (hR.rows tn htl).2.frozen (p + pn)
                              have ln := hR.out.lt
                              have lc := (hR.rows tn htl).2.lt
                              have hpb := dP_bd HOK.out HP.out (k := k) (a := a) (p := p) (t := tn) (q := p + pn) hls HaL.out
                              have hwb := wy_bd (m := m) (xs := xs) HOK.out.l6 k s p
                              have h6a := six_le (show k + 1 ≤ 20 by omega)
                              have h6b := six_le (show k ≤ 20 by omega)
                              have t1 := hR.set (s := tn) (q := p + pn) htl (z := dP m xs k s a p tn (p + pn) + wy m xs k s p) (G := dP m xs k s a (p + 1)) (by rw [dP_step, Hst.out, Hpt.out, if_pos ⟨rfl, rfl⟩]) (fun t r _ _ hne => by rw [dP_step, Hst.out, Hpt.out, if_neg hne, Int.add_zero])
                              have t2 := qb.setCell (p := ⟨g tn, p + pn, none⟩) (hR.rows tn htl).1 (.int .i64 (dP m xs k s a p tn (p + pn) + wy m xs k s p))
                              generalize dP m xs k s a p tn (p + pn) = dv at *
                              generalize wy m xs k s p = wv at *
                              generalize six k = sx at *
                              generalize six (k + 1) = sy at *
                              generalize hgt : g tn = gt at *
                              generalize hgs : go s = gs at *
                              have H1 := hid t1
                              have H2 := hid t2
                              have j1 : (0 : Int) ≤ (p : Int) + (pn : Int) := by omega
                              have j2 : (p : Int) + (pn : Int) < 20 * (N0 : Int) + 1 := by omega
                              have j3 : (p : Int) < 20 * (N0 : Int) + 1 := by omega
                              have wk : IntKind.i64.wrap ((p : Int) + (pn : Int)) = (p : Int) + (pn : Int) := IntWalk.i64_in _ (by omega)
                              have hts : ((p : Int) + (pn : Int)).toNat = p + pn := by omega
                              clear t1 t2 hR qb hUw hO' hX hgt hgs
                              go_wp2_with fail
                              refine wp_region_still_tail 28 (by kernel_rfl) (by kernel_rfl) ?_
                              simp only [List.take_succ_cons, List.take_zero, List.drop_succ_cons, List.drop_zero]
                              refine St.out ?_
                              iterate 28 (refine st_want (by kernel_rfl) (fun K hK => ?_); go_simp; refine hK _ ?_; clear hK K)
                              refine st_nil ?_
                              change wpList _ _ _ _ _ wr.drew
                              clear wk hts
                              go_wp2_with fail
                              go_roundw
                              case rel => exact ⟨p + 1, by omega, by go_num, H1.out.drew, H2.out.drew⟩
                              case measure => simp [intOf]; omega
                            · have dq : decide ((p : Int) + (pn : Int) ≤ (N0 : Int) * 20) = false := decide_eq_false (by omega)
                              have h2 := hR.same (G := dP m xs k s (a + 1) 0) (fun t r _ hr => dP_next (top := 20 * N0) (by rw [Hpt.out]; omega) (by omega))
                              clear hR
                              go_wp2_with fail
                              go_roundw
                              case rel => exact ⟨a + 1, by omega, by go_num, h2, qb⟩
                              case measure => simp [intOf]; omega
                        · have da : decide ((a : Int) < m.L) = false := decide_eq_false (by rw [← HLi.out]; omega)
                          obtain rfl : a = (rowOf m s).length := by omega
                          have h2 := hR.same (G := dP m xs k (s + 1) 0 0) (fun t r _ _ => by rw [HLn.out]; exact dP_row)
                          clear hR
                          go_wp2_with fail
                          go_roundw
                          case rel => exact ⟨s + 1, by omega, by go_num, h2, qb⟩
                          case measure => simp [intOf]; omega
                    · obtain rfl : s = m.nx.length := by omega
                      have hR2 := hR.same (G := wy m xs (k + 1)) (fun t r _ _ => dP_end HOK.out HP.out)
                      have hUw := Hbw.out.trans (qb.mono Hbw.out.size)
                      have hYU := Hbw.out.size
                      have hR3 : RowsI U.heap.size m.nx.length (20 * N0 + 1) Y.heap.size g m.nx.length (wy m xs (k + 1)) wr := ⟨hR2.out, by have := hR2.ge; omega, fun s hs => ⟨by have := (hR2.rows s hs).1; omega, (hR2.rows s hs).2⟩, hR2.inj⟩
                      clear hR hR2
                      go_wp2_with fail
                      go_roundw
                      case rel => exact ⟨k + 1, Y.heap.size, g, by omega, by go_num, by rfl, hR3, hUw⟩
                      case measure => simp [intOf]; omega
            · obtain rfl : k = N0 := by omega
              have HO := hid hO
              have HZ := hid hbw
              have i4 : m.ac.length ≤ m.nx.length := by rw [Hac.out]; omega
              clear hO hbw x1
              obtain ⟨Y, hY⟩ : ∃ Y, Y = wr := ⟨_, rfl⟩
              subst hY
              go_wp2_with fail
              clear i4
              go_loopw [20, 21] (fun v20 v21 w' => ∃ s : Nat, s ≤ m.nx.length ∧ v21 = .int .i64 s ∧ v20 = .int .i64 (accS m (fun s => wy m xs k s T0) s) ∧ w' = Y) (fun _ v21 _ => m.nx.length - (intOf v21).toNat)
              case atStart => exact ⟨0, by omega, rfl, rfl, rfl⟩
              case round =>
                obtain ⟨s, hs, rfl, rfl, rfl⟩ := hrel
                by_cases hls : s < m.nx.length
                · obtain ⟨b2, o2, rfl, hb2, c2⟩ := (HM.out.below HZ.out).ac s (by rw [Hac.out]; exact hls)
                  have z1 := HO.out.cell hls hls
                  have z2 := (HO.out.rows s hls).2.cell (i := T0) (by omega)
                  have l1 := HO.out.out.lt
                  have l2 := (HO.out.rows s hls).2.lt
                  have i1 : (0 : Int) ≤ (s : Int) := by omega
                  have i2 : (s : Int) < (m.nx.length : Int) := by omega
                  have i3' : (s : Int) < (m.ac.length : Int) := by rw [Hac.out]; omega
                  have i5 : (T0 : Int) < ((20 * k + 1 : Nat) : Int) := by omega
                  have i6 : (0 : Int) ≤ (T0 : Int) := by omega
                  have ha : accM m (s : Int) = m.ac.getD s false := rfl
                  have hs1 : accS m (fun s => wy m xs k s T0) (s + 1) = accS m (fun s => wy m xs k s T0) s + (if accM m (s : Int) = true then wy m xs k s T0 else 0) := rfl
                  have hwb := wy_bd (m := m) (xs := xs) HOK.out.l6 k s T0
                  have h6b := six_le (show k ≤ 20 by omega)
                  have hab := accS_bd (m := m) (f := fun s => wy m xs k s T0) (B := 3656158440062976) (by omega) (fun s => by have := wy_bd (m := m) (xs := xs) HOK.out.l6 k s T0; omega) s
                  have hab2 : accS m (fun s => wy m xs k s T0) s ≤ 233994140163  * 1000000 := by omega
                  rw [ha] at hs1
                  have Hs1 := hid hs1
                  generalize m.ac.getD s false = x at *
                  generalize wy m xs k s T0 = wv at *
                  generalize accS m (fun s => wy m xs k s T0) s = av at *
                  clear ha hs1
                  cases x with
                  | true =>
                    rw [if_pos rfl] at Hs1
                    go_wp2_with fail
                    go_roundw
                    case rel => exact ⟨s + 1, by omega, by go_num, by rw [Hs1.out], trivial⟩
                    case measure => simp [intOf]; omega
                  | false =>
                    rw [if_neg (by decide), Int.add_zero] at Hs1
                    go_wp2_with fail
                    go_roundw
                    case rel => exact ⟨s + 1, by omega, by go_num, by rw [Hs1.out], trivial⟩
                    case measure => simp [intOf]; omega
                · obtain rfl : s = m.nx.length := by omega
                  rw [← HR.out]
                  go_wp2_with fail
                  go_ret2
                  exact ⟨rfl, HB.out.trans (HZ.out.mono HB.out.size)⟩
    · have HR := hid (cpN_no (m := m) (n := (N0 : Int)) (xs := xs) (total := tot) (fun h => ht ⟨h.2.1, h.2.2⟩))
      rw [HR.out]
      have Hw := hid (fun w => within_no tot 0 ((N0 : Int) * 20) w (by omega))
      clear hE hOK hP HR ht hn0 hn20 wk
      go_enter Try.func53, Try.ntmps53
      go_wp2_with fail
      refine Hv.out.mono ?_; rintro e w1 ⟨rfl, hb1⟩
      have hz := HB.out.trans (hb1.mono HB.out.size)
      clear hb1
      go_wp2_with fail
      refine (Hw.out _).mono ?_; rintro e w' ⟨rfl, rfl⟩
      go_wp2_with fail
      go_ret2
      exact ⟨rfl, hz⟩
  · have d1 : (scoE m n xs == 0) = false := beq_eq_false_iff_ne.2 hE
    have d2 : (scoE m n xs != 0) = true := by rw [bne, d1]; rfl
    have HR := hid (cpN_no (m := m) (n := n) (xs := xs) (total := tot) (fun h => hE h.1))
    rw [HR.out]
    clear hE HR
    generalize scoE m n xs = ev at *
    go_enter Try.func53, Try.ntmps53
    go_wp2_with fail
    refine Hv.out.mono ?_; rintro e w1 ⟨rfl, hb1⟩
    have hz := HB.out.trans (hb1.mono HB.out.size)
    clear hb1
    go_wp2_with fail
    go_ret2
    exact ⟨rfl, hz⟩
end Go.Proofs.Ytmllbemjcfkmjaa
