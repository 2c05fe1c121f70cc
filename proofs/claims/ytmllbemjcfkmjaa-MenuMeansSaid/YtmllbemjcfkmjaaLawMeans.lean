/- 'MenuMeans' returns true, whatever the numbers and the word. -/
import Derived.Test.YtmllbemjcfkmjaaMeanLaw
import Derived.Test.YtmllbemjcfkmjaaGenOne
import Derived.Test.YtmllbemjcfkmjaaFront
import Derived.Test.YtmllbemjcfkmjaaKnown
import Derived.Deep.DeepCutAuto
namespace Go.Proofs.Ytmllbemjcfkmjaa
open Go.RowKit
set_option linter.unusedSimpArgs false
set_option linter.unusedVariables false

theorem vint_eq {a b : Int} (h : a = b) : Value.int .i64 a = .int .i64 b := by rw [h]
theorem i64_bdM {x : Int} (h : (Lit.int .i64 x).wf = true) : -9223372036854775808 ≤ x ∧ x ≤ 9223372036854775807 := by
  simp only [Lit.wf, Bool.and_eq_true, decide_eq_true_eq] at h
  exact h

set_option maxRecDepth 100000 in
set_option maxHeartbeats 4000000 in
theorem lawMeans (W : World) (L A B : Int) (wL : (Lit.int .i64 L).wf = true) (wA : (Lit.int .i64 A).wf = true) (wB : (Lit.int .i64 B).wf = true) (ax : Option Addr) (xs : List Int) (cx : Nat) (hI : IntsAt W ax xs) (hlc : xs.length ≤ cx) (hcm : cx ≤ maxLen) (hwf : ∀ i, i < xs.length → (Lit.int .i64 (nth xs i)).wf = true) :
    Calls Try.prog 15 #[.agg #[.int .i64 L, .int .i64 A, .int .i64 B], .slice ax xs.length cx] W fun e w' => e = .returned (.bool true) ∧ Below W.heap.size W w' := by
  have hl : xs.length ≤ maxLen := Nat.le_trans hlc hcm
  clear hwf
  have bA := i64_bdM wA
  have hb0 := below_alloc W (.cells #[.int .i64 L, .int .i64 A, .int .i64 B] 51)
  have HI0 := hid (hI.below hb0)
  have HB0 := hid hb0
  have HX0 := hid (box_new W (.int .i64 L) (.int .i64 A) (.int .i64 B) 51)
  have Hl := hid hl
  have Hk := hid known_true
  clear hI hb0 hlc hcm wL wA wB
  cases hN : lngB xs
  · have HN := hid (fun w => long_any xs ax cx w hl)
    rw [hN] at HN
    have hx200 : xs.length ≤ 200 := by have : decide (200 < xs.length) = false := hN; have := of_decide_eq_false this; omega
    clear hN hl
    have HP := hid (Apart_any L A (W.alloc (.cells #[.int .i64 L, .int .i64 A, .int .i64 B] 51)))
    go_enter Try.func15, Try.ntmps15
    go_wp2_with fail
    refine (HN.out _).mono ?_; rintro e w0 ⟨rfl, rfl⟩
    go_wp2_with fail
    refine HP.out.mono ?_
    intro e w1 hG
    obtain ⟨z1, an, p1, cn, ab, q1, cb, E1, rfl, hb1, hok, hE1⟩ := gen_one hG
    clear hE1
    have HX1 := hid (HX0.out.below hb1)
    have HI1 := hid (HI0.out.below hb1)
    have HB1 := hid (HB0.out.trans (hb1.mono HB0.out.size))
    have HO1 := hid hok
    have x0 := HX1.out.c0
    have x1 := HX1.out.c1
    have x2 := HX1.out.c2
    have xl := HX1.out.lt
    clear hb1 hG hok
    go_upto_if 39 with (fail)
    have hb2 := below_alloc w1 (.cells #[.int .i64 z1, .slice an p1 cn, .slice ab q1 cb] 25)
    have HNn := hid (box_new w1 (.int .i64 z1) (.slice an p1 cn) (.slice ab q1 cb) 25)
    have HX2 := hid (HX1.out.below hb2)
    have HI2 := hid (HI1.out.below hb2)
    have HB2 := hid (HB1.out.trans (hb2.mono HB1.out.size))
    have HO2 := hid (fun h => (HO1.out h).imp fun F g => (⟨g.ok, g.fnd, g.le, g.z, g.p, g.q, g.mac.below hb2⟩ : GenOne _ _ _ (w1.alloc (.cells #[.int .i64 z1, .slice an p1 cn, .slice ab q1 cb] 25)) z1 an p1 cn ab q1 cb E1 F))
    have hl1 : w1.heap.size < (w1.alloc (.cells #[.int .i64 z1, .slice an p1 cn, .slice ab q1 cb] 25)).heap.size := HNn.out.lt
    clear hb2 x0 x1 x2 xl
    generalize w1.alloc (.cells #[.int .i64 z1, .slice an p1 cn, .slice ab q1 cb] 25) = w2 at *
    go_cut [] (fun wx => Below w2.heap.size w2 wx)
    case first =>
      by_cases hE : E1 = 0
      · subst hE
        obtain ⟨F, gF⟩ := HO2.out rfl
        have hap := gF.ok
        have hrg : (1 ≤ L ∧ L ≤ 6) ∧ 0 ≤ A ∧ A ≤ 3 := by
          unfold apE at hap
          split at hap
          · assumption
          · cases hap
        clear hap
        have hA := Accepts_any (macOf L.toNat F) an ab cn cb xs
        rw [← form_args gF.z gF.p gF.q] at hA
        have HA := hid hA
        have HF := hid gF
        have hLz : (L.toNat : Int) = L := by omega
        have HLz := hid hLz
        have HE : Hid (wodE (macOf L.toNat F) xs = wrdE L xs) := hid (by rw [wod_form gF.fnd (by omega) (by omega) gF.le, hLz])
        obtain ⟨d, rfl⟩ : ∃ d : Nat, A = (d : Int) := ⟨A.toNat, by omega⟩
        have HM : Hid (WordOK L xs → accB (macOf L.toNat F) xs = okB d xs xs.length) := hid fun hw => by
          have hw' : WordOK ((L.toNat : Nat) : Int) xs := by rw [hLz]; exact hw
          rw [acc_form gF.fnd (by omega) (by omega) gF.le hw']
          exact ap_mean (by omega) (by omega) hw
        have hd3 : d ≤ 3 := by omega
        clear hA gF hLz hrg
        have x1 := HX2.out.c1
        have xl := HX2.out.lt
        go_wp2_with fail
        go_loopw [7, 8, 9] (fun v7 v8 v9 w' => ∃ i : Nat, i ≤ xs.length ∧ v8 = .int .i64 i ∧ v7 = .bool (okB d xs i) ∧ ∃ n, w' = w2.drewN n) (fun _ v8 _ _ => xs.length - (intOf v8).toNat)
        case atStart => exact ⟨0, by omega, rfl, rfl, 0, rfl⟩
        case round =>
          obtain ⟨i, hi, rfl, rfl, nq, rfl⟩ := hrel
          by_cases hlt : i < xs.length
          · have hmx : max (0 : Int) ((i : Int) - (d : Int) + 1) = ((i + 1 - d : Nat) : Int) := by omega
            have HOK : Hid (okB d xs (i + 1) = (okB d xs i && okI xs i (i + 1 - d) i)) := hid rfl
            have HS0 : Hid (okI xs i (i + 1 - d) (i + 1 - d) = true) := hid (okI_start _ _ _)
            have HSS := hid (fun k (h : i + 1 - d ≤ k) => okI_succ xs i (i + 1 - d) k h)
            have HSZ : Hid (i < i + 1 - d → okI xs i (i + 1 - d) i = true) := hid fun h => decide_eq_true fun k h3 h4 => by omega
            obtain ⟨k0, hk0⟩ : ∃ k0, k0 = i + 1 - d := ⟨_, rfl⟩
            rw [← hk0] at HOK HS0 HSS HSZ
            have hk0' : k0 ≤ i + 1 := by omega
            have HK0 := hid hk0
            clear hk0
            generalize okB d xs i = ob at *
            go_wp2_with fail
            all_goals
              go_loopw [7, 9] (fun v7 v9 w' => ∃ k : Nat, k0 ≤ k ∧ (k ≤ i ∨ k = k0) ∧ v9 = .int .i64 k ∧ v7 = .bool (ob && okI xs i k0 k) ∧ ∃ n, w' = w2.drewN n) (fun _ v9 _ => i - (intOf v9).toNat)
              case atStart => exact ⟨k0, Nat.le_refl _, .inr rfl, vint_eq (by have := HK0.out; omega), by rw [HS0.out, Bool.and_true], nq, rfl⟩
              case round =>
                obtain ⟨k, hk1, hk2, rfl, rfl, n2, rfl⟩ := hrel
                have HK := hid hk2
                clear hk2
                by_cases hki : k < i
                · obtain ⟨bx, ox, rfl, hbx, c1⟩ := HI2.out i hlt
                  obtain ⟨bx', ox', e', _, c2⟩ := HI2.out k (by omega)
                  cases e'
                  have i1 : (0 : Int) ≤ (i : Int) := by omega
                  have i2 : (i : Int) < (xs.length : Int) := by omega
                  have i3 : (0 : Int) ≤ (k : Int) := by omega
                  have i4 : (k : Int) < (xs.length : Int) := by omega
                  have HS1 := hid (HSS.out k hk1)
                  have HD := hid (show decide (nth xs i ≠ nth xs k) = (nth xs i != nth xs k) by by_cases h : nth xs i = nth xs k <;> simp [h])
                  generalize okI xs i k0 k = oi at *
                  generalize hde : (nth xs i != nth xs k) = de at *
                  have hde2 : (nth xs i == nth xs k) = !de := by rw [← hde, bne, Bool.not_not]
                  generalize hop : (ob && oi) = op at *
                  have Hop := hid hop
                  clear hop
                  cases op with
                  | true =>
                    go_wp2_with fail
                    go_quiet (fail)
                    go_wp2_with fail
                    go_roundw
                    case rel => exact ⟨k + 1, by omega, .inl (by omega), by go_num, by rw [HS1.out, ← Bool.and_assoc, Hop.out, HD.out, Bool.true_and], _, rfl⟩
                    case measure => simp [intOf]; omega
                  | false =>
                    go_wp2_with fail
                    go_quiet (fail)
                    go_wp2_with fail
                    go_roundw
                    case rel => exact ⟨k + 1, by omega, .inl (by omega), by go_num, by rw [HS1.out, ← Bool.and_assoc, Hop.out, Bool.false_and], _, rfl⟩
                    case measure => simp [intOf]; omega
                · have HEq : Hid ((ob && okI xs i k0 k) = okB d xs (i + 1)) := hid (by
                    rw [HOK.out]
                    by_cases e : k = i
                    · rw [e]
                    · have h1 : k = k0 := by rcases HK.out with h | h <;> omega
                      have h2 : i < k0 := by omega
                      rw [HSZ.out h2, h1, HS0.out])
                  go_wp2_with fail
                  go_roundw
                  case rel => exact ⟨i + 1, by omega, by go_num, by rw [HEq.out], _, rfl⟩
                  case measure => simp [intOf]; omega
          · obtain rfl : i = xs.length := by omega
            have hq : Below w2.heap.size w2 (w2.drewN nq) := below_quiet (Below.refl _ _)
            have HAc := hid (HA.out ax cx (w2.drewN nq) (HF.out.mac.below hq) (HI2.out.below hq) Hl.out)
            have n0 := HNn.out.c0
            have n1 := HNn.out.c1
            have n2 := HNn.out.c2
            have nl := HNn.out.lt
            by_cases hw : WordOK L xs
            · have e1 := wrdE_ok hw
              have e2 := HM.out hw
              rw [HE.out, e1, e2] at HAc
              clear hw e1 e2
              generalize okB d xs xs.length = ob at *
              have ee : (ob != ob) = false := by simp
              have ee2 : (ob == ob) = true := beq_self_eq_true _
              go_wp2_with fail
              refine HAc.out.mono ?_; rintro e w3 ⟨rfl, hb3⟩
              have hz := hq.trans (hb3.mono hq.size)
              clear hb3
              go_wp2_with fail
              go_meet
              exact hz
            · have e1 : wrdE L xs ≠ 0 := fun h => hw (wrdE_zero.1 h)
              have d1 : (wrdE L xs == 0) = false := beq_eq_false_iff_ne.2 e1
              have d2 : (wrdE L xs != 0) = true := by rw [bne, d1]; rfl
              rw [HE.out] at HAc
              clear hw e1
              go_wp2_with fail
              refine HAc.out.mono ?_; rintro e w3 ⟨rfl, hb3⟩
              have hz := hq.trans (hb3.mono hq.size)
              clear hb3
              go_wp2_with fail
              go_meet
              exact hz
      · have d1 : (E1 == 0) = false := beq_eq_false_iff_ne.2 hE
        have d2 : (E1 != 0) = true := by rw [bne, d1]; rfl
        clear hE
        go_wp2_with fail
        go_meet
        exact Below.refl _ _
    case rest =>
      have HX3 := hid (HX2.out.below hcut)
      have HI3 := hid (HI2.out.below hcut)
      have HB3 := hid (HB2.out.trans (hcut.mono HB2.out.size))
      clear hcut HNn HO2 HO1 HX1 HI1 HB1 HP hl1
      have HPl := hid (Least_any L A B wc)
      have x0 := HX3.out.c0
      have x1 := HX3.out.c1
      have x2 := HX3.out.c2
      have xl := HX3.out.lt
      go_wp2_with fail
      refine HPl.out.mono ?_
      intro e w4 hG
      obtain ⟨zl, anl, pl, cnl, abl, ql, cbl, El, rfl, hb4, hok, hE1⟩ := gen_one hG
      have HX4 := hid (HX3.out.below hb4)
      have HI4 := hid (HI3.out.below hb4)
      have HB4 := hid (HB3.out.trans (hb4.mono HB3.out.size))
      have hb5 := below_alloc w4 (.cells #[.int .i64 zl, .slice anl pl cnl, .slice abl ql cbl] 25)
      have HNl := hid (box_new w4 (.int .i64 zl) (.slice anl pl cnl) (.slice abl ql cbl) 25)
      have HX5 := hid (HX4.out.below hb5)
      have HI5 := hid (HI4.out.below hb5)
      have HB5 := hid (HB4.out.trans (hb5.mono HB4.out.size))
      have HOl := hid (fun h => (hok h).imp fun F g => (⟨g.ok, g.fnd, g.le, g.z, g.p, g.q, g.mac.below hb5⟩ : GenOne _ _ _ (w4.alloc (.cells #[.int .i64 zl, .slice anl pl cnl, .slice abl ql cbl] 25)) zl anl pl cnl abl ql cbl El F))
      have hll : w4.heap.size < (w4.alloc (.cells #[.int .i64 zl, .slice anl pl cnl, .slice abl ql cbl] 25)).heap.size := HNl.out.lt
      clear hG hok hE1 HPl x0 x1 x2 xl hb4 hb5
      have HPm := hid (Most_any L A B (w4.alloc (.cells #[.int .i64 zl, .slice anl pl cnl, .slice abl ql cbl] 25)))
      have x0 := HX5.out.c0
      have x1 := HX5.out.c1
      have x2 := HX5.out.c2
      have xl := HX5.out.lt
      go_wp2_with fail
      refine HPm.out.mono ?_
      intro e w6 hG
      obtain ⟨zm, anm, pm, cnm, abm, qm, cbm, Em, rfl, hb6, hok, hE1⟩ := gen_one hG
      have HX6 := hid (HX5.out.below hb6)
      have HI6 := hid (HI5.out.below hb6)
      have HB6 := hid (HB5.out.trans (hb6.mono HB5.out.size))
      have HNl := hid (HNl.out.below hb6)
      have HOl := hid (fun h => (HOl.out h).imp fun F g => (⟨g.ok, g.fnd, g.le, g.z, g.p, g.q, g.mac.below hb6⟩ : GenOne _ _ _ _ zl anl pl cnl abl ql cbl El F))
      have hb7 := below_alloc w6 (.cells #[.int .i64 zm, .slice anm pm cnm, .slice abm qm cbm] 25)
      have HNm := hid (box_new w6 (.int .i64 zm) (.slice anm pm cnm) (.slice abm qm cbm) 25)
      have HX7 := hid (HX6.out.below hb7)
      have HI7 := hid (HI6.out.below hb7)
      have HB7 := hid (HB6.out.trans (hb7.mono HB6.out.size))
      have HNl := hid (HNl.out.below hb7)
      have HOl := hid (fun h => (HOl.out h).imp fun F g => (⟨g.ok, g.fnd, g.le, g.z, g.p, g.q, g.mac.below hb7⟩ : GenOne _ _ _ _ zl anl pl cnl abl ql cbl El F))
      have HOm := hid (fun h => (hok h).imp fun F g => (⟨g.ok, g.fnd, g.le, g.z, g.p, g.q, g.mac.below hb7⟩ : GenOne _ _ _ (w6.alloc (.cells #[.int .i64 zm, .slice anm pm cnm, .slice abm qm cbm] 25)) zm anm pm cnm abm qm cbm Em F))
      have hlm : w6.heap.size < (w6.alloc (.cells #[.int .i64 zm, .slice anm pm cnm, .slice abm qm cbm] 25)).heap.size := HNm.out.lt
      clear hG hok hE1 HPm x0 x1 x2 xl hb6 hb7
      have HPn := hid (Never_any L A B (w6.alloc (.cells #[.int .i64 zm, .slice anm pm cnm, .slice abm qm cbm] 25)))
      have x0 := HX7.out.c0
      have x1 := HX7.out.c1
      have x2 := HX7.out.c2
      have xl := HX7.out.lt
      go_wp2_with fail
      refine HPn.out.mono ?_
      intro e w8 hG
      obtain ⟨zn, ann, pn, cnn, abn, qn, cbn, En, rfl, hb8, hok, hE1⟩ := gen_one hG
      have HX8 := hid (HX7.out.below hb8)
      have HI8 := hid (HI7.out.below hb8)
      have HB8 := hid (HB7.out.trans (hb8.mono HB7.out.size))
      have HNl := hid (HNl.out.below hb8)
      have HOl := hid (fun h => (HOl.out h).imp fun F g => (⟨g.ok, g.fnd, g.le, g.z, g.p, g.q, g.mac.below hb8⟩ : GenOne _ _ _ _ zl anl pl cnl abl ql cbl El F))
      have HNm := hid (HNm.out.below hb8)
      have HOm := hid (fun h => (HOm.out h).imp fun F g => (⟨g.ok, g.fnd, g.le, g.z, g.p, g.q, g.mac.below hb8⟩ : GenOne _ _ _ _ zm anm pm cnm abm qm cbm Em F))
      have hb9 := below_alloc w8 (.cells #[.int .i64 zn, .slice ann pn cnn, .slice abn qn cbn] 25)
      have HNn := hid (box_new w8 (.int .i64 zn) (.slice ann pn cnn) (.slice abn qn cbn) 25)
      have HX9 := hid (HX8.out.below hb9)
      have HI9 := hid (HI8.out.below hb9)
      have HB9 := hid (HB8.out.trans (hb9.mono HB8.out.size))
      have HNl := hid (HNl.out.below hb9)
      have HOl := hid (fun h => (HOl.out h).imp fun F g => (⟨g.ok, g.fnd, g.le, g.z, g.p, g.q, g.mac.below hb9⟩ : GenOne _ _ _ _ zl anl pl cnl abl ql cbl El F))
      have HNm := hid (HNm.out.below hb9)
      have HOm := hid (fun h => (HOm.out h).imp fun F g => (⟨g.ok, g.fnd, g.le, g.z, g.p, g.q, g.mac.below hb9⟩ : GenOne _ _ _ _ zm anm pm cnm abm qm cbm Em F))
      have HOn := hid (fun h => (hok h).imp fun F g => (⟨g.ok, g.fnd, g.le, g.z, g.p, g.q, g.mac.below hb9⟩ : GenOne _ _ _ (w8.alloc (.cells #[.int .i64 zn, .slice ann pn cnn, .slice abn qn cbn] 25)) zn ann pn cnn abn qn cbn En F))
      have hln : w8.heap.size < (w8.alloc (.cells #[.int .i64 zn, .slice ann pn cnn, .slice abn qn cbn] 25)).heap.size := HNn.out.lt
      clear hG hok hE1 HPn x0 x1 x2 xl hb8 hb9
      go_wp2_with fail
      generalize (w8.alloc (.cells #[.int .i64 zn, .slice ann pn cnn, .slice abn qn cbn] 25)) = w9 at *
      go_loopw [18, 19, 20] (fun v18 v19 v20 w' => ∃ j : Nat, j ≤ xs.length ∧ v20 = .int .i64 j ∧ v18 = .int .i64 (tmC A xs j : Nat) ∧ v19 = .bool (brB A B xs j) ∧ ∃ n, w' = w9.drewN n) (fun _ _ v20 _ => xs.length - (intOf v20).toNat)
      case atStart => exact ⟨0, by omega, rfl, rfl, rfl, 0, rfl⟩
      case round =>
        obtain ⟨j, hj, rfl, rfl, rfl, nq, rfl⟩ := hrel
        have htm := tmC_le A xs j
        by_cases hlt : j < xs.length
        · obtain ⟨bx, ox, rfl, hbx, c1⟩ := HI9.out j hlt
          have x0 := HX9.out.c0
          have x1 := HX9.out.c1
          have x2 := HX9.out.c2
          have xl := HX9.out.lt
          have i1 : (0 : Int) ≤ (j : Int) := by omega
          have i2 : (j : Int) < (xs.length : Int) := by omega
          have HBR : Hid (brB A B xs (j + 1) = (brB A B xs j || (decide (0 < j) && (decide (nth xs (j - 1) = A) && decide (nth xs j = B))))) := hid rfl
          have HTY := hid (fun h => tmC_yes (a := A) (xs := xs) (j := j) h)
          have HTN := hid (fun h => tmC_no (a := A) (xs := xs) (j := j) h)
          by_cases hA : nth xs j = A
          · have dA : (nth xs j == A) = true := beq_iff_eq.2 hA
            have HT := hid (HTY.out hA)
            clear hA
            generalize hbo : brB A B xs j = bo at *
            have Hbo := hid hbo
            clear hbo
            cases bo with
            | true =>
              as_aux_lemma =>
                go_wp2_with fail
                go_quiet (fail)
                go_wp2_with fail
                go_quiet (fail)
                go_wp2_with fail
                go_roundw
                case rel => exact ⟨j + 1, by omega, by go_num, by first | (rw [HT.out]; done) | (rw [HT.out]; go_num), by rw [HBR.out, Bool.true_or], _, rfl⟩
                case measure => first | (simp [intOf]; done) | (simp [intOf]; omega)
            | false =>
              cases j with
              | zero =>
                have d0 : decide ((0 : Int) < ((0 : Nat) : Int)) = false := rfl
                rw [Nat.add_zero] at c1
                as_aux_lemma =>
                  go_wp2_with fail
                  go_quiet (fail)
                  go_wp2_with fail
                  go_quiet (fail)
                  clear d0
                  go_wp2_with fail
                  go_roundw
                  case rel => exact ⟨0 + 1, by omega, by go_num, by first | (rw [HT.out]; done) | (rw [HT.out]; go_num), by rw [HBR.out, show decide (0 < 0) = false from rfl, Bool.false_and, Bool.false_or], _, rfl⟩
                  case measure => first | (simp [intOf]; done) | (simp [intOf]; omega)
              | succ i =>
                obtain ⟨bx', ox', e', _, c2⟩ := HI9.out i (by omega)
                cases e'
                have wk : IntKind.i64.wrap (i : Int) = (i : Int) := IntWalk.i64_in _ (by omega)
                have k0 : (0 : Int) ≤ (i : Int) := by omega
                have k1 : (i : Int) < (xs.length : Int) := by omega
                have d0 : decide ((0 : Int) < (i : Int) + 1) = true := decide_eq_true (by omega)
                rw [Nat.add_sub_cancel] at HBR
                by_cases hP : nth xs i = A
                · have dP : (nth xs i == A) = true := beq_iff_eq.2 hP
                  by_cases hB : nth xs (i + 1) = B
                  · have dB : (nth xs (i + 1) == B) = true := beq_iff_eq.2 hB
                    have R := hid (show (false || (decide (0 < i + 1) && (decide (nth xs i = A) && decide (nth xs (i + 1) = B)))) = true by simp [hP, hB])
                    clear hP hB
                    as_aux_lemma =>
                      go_wp2_with fail
                      go_quiet (fail)
                      go_wp2_with fail
                      go_quiet (fail)
                      clear wk d0
                      go_wp2_with fail
                      go_roundw
                      case rel => exact ⟨i + 1 + 1, by omega, by go_num, by first | (rw [HT.out]; done) | (rw [HT.out]; go_num), by rw [HBR.out, R.out], _, rfl⟩
                      case measure => first | (simp [intOf]; done) | (simp [intOf]; omega)
                  · have dB : (nth xs (i + 1) == B) = false := beq_eq_false_iff_ne.2 hB
                    have R := hid (show (false || (decide (0 < i + 1) && (decide (nth xs i = A) && decide (nth xs (i + 1) = B)))) = false by simp [hB])
                    clear hP hB
                    as_aux_lemma =>
                      go_wp2_with fail
                      go_quiet (fail)
                      go_wp2_with fail
                      go_quiet (fail)
                      clear wk d0
                      go_wp2_with fail
                      go_roundw
                      case rel => exact ⟨i + 1 + 1, by omega, by go_num, by first | (rw [HT.out]; done) | (rw [HT.out]; go_num), by rw [HBR.out, R.out], _, rfl⟩
                      case measure => first | (simp [intOf]; done) | (simp [intOf]; omega)
                · have dP : (nth xs i == A) = false := beq_eq_false_iff_ne.2 hP
                  have R := hid (show (false || (decide (0 < i + 1) && (decide (nth xs i = A) && decide (nth xs (i + 1) = B)))) = false by simp [hP])
                  clear hP
                  as_aux_lemma =>
                    go_wp2_with fail
                    go_quiet (fail)
                    go_wp2_with fail
                    go_quiet (fail)
                    clear wk d0
                    go_wp2_with fail
                    go_roundw
                    case rel => exact ⟨i + 1 + 1, by omega, by go_num, by first | (rw [HT.out]; done) | (rw [HT.out]; go_num), by rw [HBR.out, R.out], _, rfl⟩
                    case measure => first | (simp [intOf]; done) | (simp [intOf]; omega)
          · have dA : (nth xs j == A) = false := beq_eq_false_iff_ne.2 hA
            have HT := hid (HTN.out hA)
            clear hA
            generalize hbo : brB A B xs j = bo at *
            have Hbo := hid hbo
            clear hbo
            cases bo with
            | true =>
              as_aux_lemma =>
                go_wp2_with fail
                go_quiet (fail)
                go_wp2_with fail
                go_quiet (fail)
                go_wp2_with fail
                go_roundw
                case rel => exact ⟨j + 1, by omega, by go_num, by first | (rw [HT.out]; done) | (rw [HT.out]; go_num), by rw [HBR.out, Bool.true_or], _, rfl⟩
                case measure => first | (simp [intOf]; done) | (simp [intOf]; omega)
            | false =>
              cases j with
              | zero =>
                have d0 : decide ((0 : Int) < ((0 : Nat) : Int)) = false := rfl
                rw [Nat.add_zero] at c1
                as_aux_lemma =>
                  go_wp2_with fail
                  go_quiet (fail)
                  go_wp2_with fail
                  go_quiet (fail)
                  clear d0
                  go_wp2_with fail
                  go_roundw
                  case rel => exact ⟨0 + 1, by omega, by go_num, by first | (rw [HT.out]; done) | (rw [HT.out]; go_num), by rw [HBR.out, show decide (0 < 0) = false from rfl, Bool.false_and, Bool.false_or], _, rfl⟩
                  case measure => first | (simp [intOf]; done) | (simp [intOf]; omega)
              | succ i =>
                obtain ⟨bx', ox', e', _, c2⟩ := HI9.out i (by omega)
                cases e'
                have wk : IntKind.i64.wrap (i : Int) = (i : Int) := IntWalk.i64_in _ (by omega)
                have k0 : (0 : Int) ≤ (i : Int) := by omega
                have k1 : (i : Int) < (xs.length : Int) := by omega
                have d0 : decide ((0 : Int) < (i : Int) + 1) = true := decide_eq_true (by omega)
                rw [Nat.add_sub_cancel] at HBR
                by_cases hP : nth xs i = A
                · have dP : (nth xs i == A) = true := beq_iff_eq.2 hP
                  by_cases hB : nth xs (i + 1) = B
                  · have dB : (nth xs (i + 1) == B) = true := beq_iff_eq.2 hB
                    have R := hid (show (false || (decide (0 < i + 1) && (decide (nth xs i = A) && decide (nth xs (i + 1) = B)))) = true by simp [hP, hB])
                    clear hP hB
                    as_aux_lemma =>
                      go_wp2_with fail
                      go_quiet (fail)
                      go_wp2_with fail
                      go_quiet (fail)
                      clear wk d0
                      go_wp2_with fail
                      go_roundw
                      case rel => exact ⟨i + 1 + 1, by omega, by go_num, by first | (rw [HT.out]; done) | (rw [HT.out]; go_num), by rw [HBR.out, R.out], _, rfl⟩
                      case measure => first | (simp [intOf]; done) | (simp [intOf]; omega)
                  · have dB : (nth xs (i + 1) == B) = false := beq_eq_false_iff_ne.2 hB
                    have R := hid (show (false || (decide (0 < i + 1) && (decide (nth xs i = A) && decide (nth xs (i + 1) = B)))) = false by simp [hB])
                    clear hP hB
                    as_aux_lemma =>
                      go_wp2_with fail
                      go_quiet (fail)
                      go_wp2_with fail
                      go_quiet (fail)
                      clear wk d0
                      go_wp2_with fail
                      go_roundw
                      case rel => exact ⟨i + 1 + 1, by omega, by go_num, by first | (rw [HT.out]; done) | (rw [HT.out]; go_num), by rw [HBR.out, R.out], _, rfl⟩
                      case measure => first | (simp [intOf]; done) | (simp [intOf]; omega)
                · have dP : (nth xs i == A) = false := beq_eq_false_iff_ne.2 hP
                  have R := hid (show (false || (decide (0 < i + 1) && (decide (nth xs i = A) && decide (nth xs (i + 1) = B)))) = false by simp [hP])
                  clear hP
                  as_aux_lemma =>
                    go_wp2_with fail
                    go_quiet (fail)
                    go_wp2_with fail
                    go_quiet (fail)
                    clear wk d0
                    go_wp2_with fail
                    go_roundw
                    case rel => exact ⟨i + 1 + 1, by omega, by go_num, by first | (rw [HT.out]; done) | (rw [HT.out]; go_num), by rw [HBR.out, R.out], _, rfl⟩
                    case measure => first | (simp [intOf]; done) | (simp [intOf]; omega)
        · obtain rfl : j = xs.length := by omega
          generalize htx : tmC A xs xs.length = tm at *
          have HTM := hid htx
          generalize hbx : brB A B xs xs.length = br at *
          have HBX := hid hbx
          have hq : Below w9.heap.size w9 (w9.drewN nq) := below_quiet (Below.refl _ _)
          have HX9 := hid (HX9.out.below hq)
          have HI9 := hid (HI9.out.below hq)
          have HB9 := hid (HB9.out.trans (hq.mono HB9.out.size))
          have HNl := hid (HNl.out.below hq)
          have HNm := hid (HNm.out.below hq)
          have HNn := hid (HNn.out.below hq)
          have HOl := hid (fun h => (HOl.out h).imp fun F g => (⟨g.ok, g.fnd, g.le, g.z, g.p, g.q, g.mac.below hq⟩ : GenOne _ _ _ _ zl anl pl cnl abl ql cbl El F))
          have HOm := hid (fun h => (HOm.out h).imp fun F g => (⟨g.ok, g.fnd, g.le, g.z, g.p, g.q, g.mac.below hq⟩ : GenOne _ _ _ _ zm anm pm cnm abm qm cbm Em F))
          have HOn := hid (fun h => (HOn.out h).imp fun F g => (⟨g.ok, g.fnd, g.le, g.z, g.p, g.q, g.mac.below hq⟩ : GenOne _ _ _ _ zn ann pn cnn abn qn cbn En F))
          clear htx hbx hq hlt hj
          generalize w9.drewN nq = wq at *
          by_cases hl0 : El = 0
          · by_cases hm0 : Em = 0
            · subst hl0
              subst hm0
              go_upto_if 156 with (fail)
              go_cut [] (fun wx => Below wq.heap.size wq wx)
              case first =>
                obtain ⟨F, gF⟩ := HOl.out rfl
                obtain ⟨G, gG⟩ := HOm.out rfl
                have hcu := gF.ok
                have hrg : ((1 ≤ L ∧ L ≤ 6) ∧ 0 ≤ A ∧ A < L) ∧ 0 ≤ B ∧ B ≤ 20 := by
                  unfold cuE at hcu
                  split at hcu
                  · assumption
                  · cases hcu
                have hLz : (L.toNat : Int) = L := by omega
                have HE1 : Hid (wodE (macOf L.toNat F) xs = wrdE L xs) := hid (by rw [wod_form gF.fnd (by omega) (by omega) gF.le, hLz])
                have HE2 : Hid (wodE (macOf L.toNat G) xs = wrdE L xs) := hid (by rw [wod_form gG.fnd (by omega) (by omega) gG.le, hLz])
                have HM1 : Hid (WordOK L xs → accB (macOf L.toNat F) xs = decide (B ≤ (tm : Int))) := hid fun hw => by
                  have hw' : WordOK ((L.toNat : Nat) : Int) xs := by rw [hLz]; exact hw
                  rw [acc_form gF.fnd (by omega) (by omega) gF.le hw', le_mean hw (by omega) (by omega), HTM.out]
                have HM2 : Hid (WordOK L xs → accB (macOf L.toNat G) xs = decide ((tm : Int) ≤ B)) := hid fun hw => by
                  have hw' : WordOK ((L.toNat : Nat) : Int) xs := by rw [hLz]; exact hw
                  rw [acc_form gG.fnd (by omega) (by omega) gG.le hw', mo_mean hw (by omega) (by omega), HTM.out]
                have h1 := Accepts_any (macOf L.toNat F) anl abl cnl cbl xs ax cx wq gF.mac HI9.out Hl.out
                have h2 := fun w (hw : Below wq.heap.size wq w) => Accepts_any (macOf L.toNat G) anm abm cnm cbm xs ax cx w (gG.mac.below hw) (HI9.out.below hw) Hl.out
                rw [← form_args gF.z gF.p gF.q, HE1.out] at h1
                simp only [← form_args gG.z gG.p gG.q, HE2.out] at h2
                have n0 := HNl.out.c0
                have n1 := HNl.out.c1
                have n2 := HNl.out.c2
                have nl := HNl.out.lt
                clear gF gG hcu hrg hLz
                by_cases hw : WordOK L xs
                · rw [HM1.out hw, wrdE_ok hw] at h1
                  simp only [HM2.out hw, wrdE_ok hw] at h2
                  clear hw
                  by_cases b1 : B ≤ (tm : Int)
                  · rw [decide_eq_true b1] at h1
                    by_cases b2 : (tm : Int) ≤ B
                    · simp only [decide_eq_true b2] at h2
                      have H1 := hid h1
                      have H2 := hid h2
                      clear h1 h2
                      as_aux_lemma =>
                        go_wp2_with fail
                        refine H1.out.mono ?_; rintro e wa ⟨rfl, hba⟩
                        have m0 := (hba.cell (p := ⟨w6.heap.size, 0, none⟩) HNm.out.lt).trans HNm.out.c0
                        have m1 := (hba.cell (p := ⟨w6.heap.size, 1, none⟩) HNm.out.lt).trans HNm.out.c1
                        have m2 := (hba.cell (p := ⟨w6.heap.size, 2, none⟩) HNm.out.lt).trans HNm.out.c2
                        have ml : w6.heap.size < wa.heap.size := by have := hba.size; have := HNm.out.lt; omega
                        have H2 := hid (H2.out wa hba)
                        have Hba := hid hba
                        clear hba n0 n1 n2 nl
                        go_wp2_with fail
                        refine H2.out.mono ?_; rintro e wb ⟨rfl, hbb⟩
                        have hwb := Hba.out.trans (hbb.mono Hba.out.size)
                        have y2 := (hwb.cell (p := ⟨W.heap.size, 2, none⟩) HX9.out.lt).trans HX9.out.c2
                        have yl : W.heap.size < wb.heap.size := by have := hwb.size; have := HX9.out.lt; omega
                        clear hbb m0 m1 m2 ml
                        go_wp2_with fail
                        go_meet
                        exact hwb
                    · simp only [decide_eq_false b2] at h2
                      have H1 := hid h1
                      have H2 := hid h2
                      clear h1 h2
                      as_aux_lemma =>
                        go_wp2_with fail
                        refine H1.out.mono ?_; rintro e wa ⟨rfl, hba⟩
                        have m0 := (hba.cell (p := ⟨w6.heap.size, 0, none⟩) HNm.out.lt).trans HNm.out.c0
                        have m1 := (hba.cell (p := ⟨w6.heap.size, 1, none⟩) HNm.out.lt).trans HNm.out.c1
                        have m2 := (hba.cell (p := ⟨w6.heap.size, 2, none⟩) HNm.out.lt).trans HNm.out.c2
                        have ml : w6.heap.size < wa.heap.size := by have := hba.size; have := HNm.out.lt; omega
                        have H2 := hid (H2.out wa hba)
                        have Hba := hid hba
                        clear hba n0 n1 n2 nl
                        go_wp2_with fail
                        refine H2.out.mono ?_; rintro e wb ⟨rfl, hbb⟩
                        have hwb := Hba.out.trans (hbb.mono Hba.out.size)
                        have y2 := (hwb.cell (p := ⟨W.heap.size, 2, none⟩) HX9.out.lt).trans HX9.out.c2
                        have yl : W.heap.size < wb.heap.size := by have := hwb.size; have := HX9.out.lt; omega
                        clear hbb m0 m1 m2 ml
                        go_wp2_with fail
                        go_meet
                        exact hwb
                  · rw [decide_eq_false b1] at h1
                    have b2 : (tm : Int) ≤ B := by omega
                    simp only [decide_eq_true b2] at h2
                    have H1 := hid h1
                    have H2 := hid h2
                    clear h1 h2
                    as_aux_lemma =>
                      go_wp2_with fail
                      refine H1.out.mono ?_; rintro e wa ⟨rfl, hba⟩
                      have m0 := (hba.cell (p := ⟨w6.heap.size, 0, none⟩) HNm.out.lt).trans HNm.out.c0
                      have m1 := (hba.cell (p := ⟨w6.heap.size, 1, none⟩) HNm.out.lt).trans HNm.out.c1
                      have m2 := (hba.cell (p := ⟨w6.heap.size, 2, none⟩) HNm.out.lt).trans HNm.out.c2
                      have ml : w6.heap.size < wa.heap.size := by have := hba.size; have := HNm.out.lt; omega
                      have H2 := hid (H2.out wa hba)
                      have Hba := hid hba
                      clear hba n0 n1 n2 nl
                      go_wp2_with fail
                      refine H2.out.mono ?_; rintro e wb ⟨rfl, hbb⟩
                      have hwb := Hba.out.trans (hbb.mono Hba.out.size)
                      have y2 := (hwb.cell (p := ⟨W.heap.size, 2, none⟩) HX9.out.lt).trans HX9.out.c2
                      have yl : W.heap.size < wb.heap.size := by have := hwb.size; have := HX9.out.lt; omega
                      clear hbb m0 m1 m2 ml
                      go_wp2_with fail
                      go_meet
                      exact hwb
                · have e1 : wrdE L xs ≠ 0 := fun h => hw (wrdE_zero.1 h)
                  have d1 : (wrdE L xs == 0) = false := beq_eq_false_iff_ne.2 e1
                  have d2 : (wrdE L xs != 0) = true := by rw [bne, d1]; rfl
                  have d3 : (wrdE L xs != wrdE L xs) = false := by simp
                  have d4 : (wrdE L xs == wrdE L xs) = true := beq_self_eq_true _
                  have H1 := hid h1
                  have H2 := hid h2
                  clear h1 h2 hw e1
                  as_aux_lemma =>
                    go_wp2_with fail
                    refine H1.out.mono ?_; rintro e wa ⟨rfl, hba⟩
                    have m0 := (hba.cell (p := ⟨w6.heap.size, 0, none⟩) HNm.out.lt).trans HNm.out.c0
                    have m1 := (hba.cell (p := ⟨w6.heap.size, 1, none⟩) HNm.out.lt).trans HNm.out.c1
                    have m2 := (hba.cell (p := ⟨w6.heap.size, 2, none⟩) HNm.out.lt).trans HNm.out.c2
                    have ml : w6.heap.size < wa.heap.size := by have := hba.size; have := HNm.out.lt; omega
                    have H2 := hid (H2.out wa hba)
                    have Hba := hid hba
                    clear hba n0 n1 n2 nl
                    go_wp2_with fail
                    refine H2.out.mono ?_; rintro e wb ⟨rfl, hbb⟩
                    have hwb := Hba.out.trans (hbb.mono Hba.out.size)
                    have y2 := (hwb.cell (p := ⟨W.heap.size, 2, none⟩) HX9.out.lt).trans HX9.out.c2
                    have yl : W.heap.size < wb.heap.size := by have := hwb.size; have := HX9.out.lt; omega
                    clear hbb m0 m1 m2 ml
                    go_wp2_with fail
                    go_meet
                    exact hwb
              case rest =>
                have HIr := hid (HI9.out.below hcut)
                have HBr := hid (HB9.out.trans (hcut.mono HB9.out.size))
                have HNr := hid (HNn.out.below hcut)
                have HOr := hid (fun h => (HOn.out h).imp fun F g => (⟨g.ok, g.fnd, g.le, g.z, g.p, g.q, g.mac.below hcut⟩ : GenOne _ _ _ _ zn ann pn cnn abn qn cbn En F))
                clear hcut HNl HNm HNn HOl HOm HOn HX9 HI9 HB9
                by_cases hn0 : En = 0
                · subst hn0
                  obtain ⟨F, gF⟩ := HOr.out rfl
                  have hcu := gF.ok
                  have hrg : (1 ≤ L ∧ L ≤ 6) ∧ (0 ≤ A ∧ A < L) ∧ 0 ≤ B ∧ B < L := by
                    unfold nvE at hcu
                    split at hcu
                    · assumption
                    · cases hcu
                  have hLz : (L.toNat : Int) = L := by omega
                  have HE1 : Hid (wodE (macOf L.toNat F) xs = wrdE L xs) := hid (by rw [wod_form gF.fnd (by omega) (by omega) gF.le, hLz])
                  have HM1 : Hid (WordOK L xs → accB (macOf L.toNat F) xs = !br) := hid fun hw => by
                    have hw' : WordOK ((L.toNat : Nat) : Int) xs := by rw [hLz]; exact hw
                    rw [acc_form gF.fnd (by omega) (by omega) gF.le hw', nv_mean hw, HBX.out]
                  have h1 := Accepts_any (macOf L.toNat F) ann abn cnn cbn xs ax cx wc gF.mac HIr.out Hl.out
                  rw [← form_args gF.z gF.p gF.q, HE1.out] at h1
                  have n0 := HNr.out.c0
                  have n1 := HNr.out.c1
                  have n2 := HNr.out.c2
                  have nl := HNr.out.lt
                  clear gF hcu hrg hLz
                  by_cases hw : WordOK L xs
                  · rw [HM1.out hw, wrdE_ok hw] at h1
                    clear hw
                    cases br with
                    | true =>
                      have H1 := hid h1
                      clear h1
                      as_aux_lemma =>
                        go_wp2_with fail
                        refine H1.out.mono ?_; rintro e wa ⟨rfl, hba⟩
                        have hB := HBr.out.trans (hba.mono HBr.out.size)
                        clear hba n0 n1 n2 nl
                        go_wp2_with fail
                        refine (Hk.out _).mono ?_; rintro e wk ⟨rfl, hbk⟩
                        have hz := hB.trans (hbk.mono hB.size)
                        clear hbk
                        go_wp2_with fail
                        go_ret
                        exact ⟨rfl, hz⟩
                    | false =>
                      have H1 := hid h1
                      clear h1
                      as_aux_lemma =>
                        go_wp2_with fail
                        refine H1.out.mono ?_; rintro e wa ⟨rfl, hba⟩
                        have hB := HBr.out.trans (hba.mono HBr.out.size)
                        clear hba n0 n1 n2 nl
                        go_wp2_with fail
                        refine (Hk.out _).mono ?_; rintro e wk ⟨rfl, hbk⟩
                        have hz := hB.trans (hbk.mono hB.size)
                        clear hbk
                        go_wp2_with fail
                        go_ret
                        exact ⟨rfl, hz⟩
                  · have e1 : wrdE L xs ≠ 0 := fun h => hw (wrdE_zero.1 h)
                    have d1 : (wrdE L xs == 0) = false := beq_eq_false_iff_ne.2 e1
                    have d2 : (wrdE L xs != 0) = true := by rw [bne, d1]; rfl
                    have H1 := hid h1
                    clear h1 hw e1
                    as_aux_lemma =>
                      go_wp2_with fail
                      refine H1.out.mono ?_; rintro e wa ⟨rfl, hba⟩
                      have hB := HBr.out.trans (hba.mono HBr.out.size)
                      clear hba n0 n1 n2 nl
                      go_wp2_with fail
                      refine (Hk.out _).mono ?_; rintro e wk ⟨rfl, hbk⟩
                      have hz := hB.trans (hbk.mono hB.size)
                      clear hbk
                      go_wp2_with fail
                      go_ret
                      exact ⟨rfl, hz⟩
                · have d1 : (En == 0) = false := beq_eq_false_iff_ne.2 hn0
                  have d2 : (En != 0) = true := by rw [bne, d1]; rfl
                  clear hn0
                  have hB := HBr.out
                  as_aux_lemma =>
                    go_wp2_with fail
                    refine (Hk.out _).mono ?_; rintro e wk ⟨rfl, hbk⟩
                    have hz := hB.trans (hbk.mono hB.size)
                    clear hbk
                    go_wp2_with fail
                    go_ret
                    exact ⟨rfl, hz⟩
            · have d1 : (Em == 0) = false := beq_eq_false_iff_ne.2 hm0
              have d2 : (Em != 0) = true := by rw [bne, d1]; rfl
              subst hl0
              clear hm0
              go_upto_if 156 with (fail)
              go_cut [] (fun wx => Below wq.heap.size wq wx)
              case first =>
                go_wp2_with fail
                go_meet
                exact Below.refl _ _
              case rest =>
                have HIr := hid (HI9.out.below hcut)
                have HBr := hid (HB9.out.trans (hcut.mono HB9.out.size))
                have HNr := hid (HNn.out.below hcut)
                have HOr := hid (fun h => (HOn.out h).imp fun F g => (⟨g.ok, g.fnd, g.le, g.z, g.p, g.q, g.mac.below hcut⟩ : GenOne _ _ _ _ zn ann pn cnn abn qn cbn En F))
                clear hcut HNl HNm HNn HOl HOm HOn HX9 HI9 HB9
                by_cases hn0 : En = 0
                · subst hn0
                  obtain ⟨F, gF⟩ := HOr.out rfl
                  have hcu := gF.ok
                  have hrg : (1 ≤ L ∧ L ≤ 6) ∧ (0 ≤ A ∧ A < L) ∧ 0 ≤ B ∧ B < L := by
                    unfold nvE at hcu
                    split at hcu
                    · assumption
                    · cases hcu
                  have hLz : (L.toNat : Int) = L := by omega
                  have HE1 : Hid (wodE (macOf L.toNat F) xs = wrdE L xs) := hid (by rw [wod_form gF.fnd (by omega) (by omega) gF.le, hLz])
                  have HM1 : Hid (WordOK L xs → accB (macOf L.toNat F) xs = !br) := hid fun hw => by
                    have hw' : WordOK ((L.toNat : Nat) : Int) xs := by rw [hLz]; exact hw
                    rw [acc_form gF.fnd (by omega) (by omega) gF.le hw', nv_mean hw, HBX.out]
                  have h1 := Accepts_any (macOf L.toNat F) ann abn cnn cbn xs ax cx wc gF.mac HIr.out Hl.out
                  rw [← form_args gF.z gF.p gF.q, HE1.out] at h1
                  have n0 := HNr.out.c0
                  have n1 := HNr.out.c1
                  have n2 := HNr.out.c2
                  have nl := HNr.out.lt
                  clear gF hcu hrg hLz
                  by_cases hw : WordOK L xs
                  · rw [HM1.out hw, wrdE_ok hw] at h1
                    clear hw
                    cases br with
                    | true =>
                      have H1 := hid h1
                      clear h1
                      as_aux_lemma =>
                        go_wp2_with fail
                        refine H1.out.mono ?_; rintro e wa ⟨rfl, hba⟩
                        have hB := HBr.out.trans (hba.mono HBr.out.size)
                        clear hba n0 n1 n2 nl
                        go_wp2_with fail
                        refine (Hk.out _).mono ?_; rintro e wk ⟨rfl, hbk⟩
                        have hz := hB.trans (hbk.mono hB.size)
                        clear hbk
                        go_wp2_with fail
                        go_ret
                        exact ⟨rfl, hz⟩
                    | false =>
                      have H1 := hid h1
                      clear h1
                      as_aux_lemma =>
                        go_wp2_with fail
                        refine H1.out.mono ?_; rintro e wa ⟨rfl, hba⟩
                        have hB := HBr.out.trans (hba.mono HBr.out.size)
                        clear hba n0 n1 n2 nl
                        go_wp2_with fail
                        refine (Hk.out _).mono ?_; rintro e wk ⟨rfl, hbk⟩
                        have hz := hB.trans (hbk.mono hB.size)
                        clear hbk
                        go_wp2_with fail
                        go_ret
                        exact ⟨rfl, hz⟩
                  · have e1 : wrdE L xs ≠ 0 := fun h => hw (wrdE_zero.1 h)
                    have d1 : (wrdE L xs == 0) = false := beq_eq_false_iff_ne.2 e1
                    have d2 : (wrdE L xs != 0) = true := by rw [bne, d1]; rfl
                    have H1 := hid h1
                    clear h1 hw e1
                    as_aux_lemma =>
                      go_wp2_with fail
                      refine H1.out.mono ?_; rintro e wa ⟨rfl, hba⟩
                      have hB := HBr.out.trans (hba.mono HBr.out.size)
                      clear hba n0 n1 n2 nl
                      go_wp2_with fail
                      refine (Hk.out _).mono ?_; rintro e wk ⟨rfl, hbk⟩
                      have hz := hB.trans (hbk.mono hB.size)
                      clear hbk
                      go_wp2_with fail
                      go_ret
                      exact ⟨rfl, hz⟩
                · have d1 : (En == 0) = false := beq_eq_false_iff_ne.2 hn0
                  have d2 : (En != 0) = true := by rw [bne, d1]; rfl
                  clear hn0
                  have hB := HBr.out
                  as_aux_lemma =>
                    go_wp2_with fail
                    refine (Hk.out _).mono ?_; rintro e wk ⟨rfl, hbk⟩
                    have hz := hB.trans (hbk.mono hB.size)
                    clear hbk
                    go_wp2_with fail
                    go_ret
                    exact ⟨rfl, hz⟩
          · have d1 : (El == 0) = false := beq_eq_false_iff_ne.2 hl0
            have d2 : (El != 0) = true := by rw [bne, d1]; rfl
            clear hl0
            go_upto_if 156 with (fail)
            go_cut [] (fun wx => Below wq.heap.size wq wx)
            case first =>
              go_wp2_with fail
              go_meet
              exact Below.refl _ _
            case rest =>
              have HIr := hid (HI9.out.below hcut)
              have HBr := hid (HB9.out.trans (hcut.mono HB9.out.size))
              have HNr := hid (HNn.out.below hcut)
              have HOr := hid (fun h => (HOn.out h).imp fun F g => (⟨g.ok, g.fnd, g.le, g.z, g.p, g.q, g.mac.below hcut⟩ : GenOne _ _ _ _ zn ann pn cnn abn qn cbn En F))
              clear hcut HNl HNm HNn HOl HOm HOn HX9 HI9 HB9
              by_cases hn0 : En = 0
              · subst hn0
                obtain ⟨F, gF⟩ := HOr.out rfl
                have hcu := gF.ok
                have hrg : (1 ≤ L ∧ L ≤ 6) ∧ (0 ≤ A ∧ A < L) ∧ 0 ≤ B ∧ B < L := by
                  unfold nvE at hcu
                  split at hcu
                  · assumption
                  · cases hcu
                have hLz : (L.toNat : Int) = L := by omega
                have HE1 : Hid (wodE (macOf L.toNat F) xs = wrdE L xs) := hid (by rw [wod_form gF.fnd (by omega) (by omega) gF.le, hLz])
                have HM1 : Hid (WordOK L xs → accB (macOf L.toNat F) xs = !br) := hid fun hw => by
                  have hw' : WordOK ((L.toNat : Nat) : Int) xs := by rw [hLz]; exact hw
                  rw [acc_form gF.fnd (by omega) (by omega) gF.le hw', nv_mean hw, HBX.out]
                have h1 := Accepts_any (macOf L.toNat F) ann abn cnn cbn xs ax cx wc gF.mac HIr.out Hl.out
                rw [← form_args gF.z gF.p gF.q, HE1.out] at h1
                have n0 := HNr.out.c0
                have n1 := HNr.out.c1
                have n2 := HNr.out.c2
                have nl := HNr.out.lt
                clear gF hcu hrg hLz
                by_cases hw : WordOK L xs
                · rw [HM1.out hw, wrdE_ok hw] at h1
                  clear hw
                  cases br with
                  | true =>
                    have H1 := hid h1
                    clear h1
                    as_aux_lemma =>
                      go_wp2_with fail
                      refine H1.out.mono ?_; rintro e wa ⟨rfl, hba⟩
                      have hB := HBr.out.trans (hba.mono HBr.out.size)
                      clear hba n0 n1 n2 nl
                      go_wp2_with fail
                      refine (Hk.out _).mono ?_; rintro e wk ⟨rfl, hbk⟩
                      have hz := hB.trans (hbk.mono hB.size)
                      clear hbk
                      go_wp2_with fail
                      go_ret
                      exact ⟨rfl, hz⟩
                  | false =>
                    have H1 := hid h1
                    clear h1
                    as_aux_lemma =>
                      go_wp2_with fail
                      refine H1.out.mono ?_; rintro e wa ⟨rfl, hba⟩
                      have hB := HBr.out.trans (hba.mono HBr.out.size)
                      clear hba n0 n1 n2 nl
                      go_wp2_with fail
                      refine (Hk.out _).mono ?_; rintro e wk ⟨rfl, hbk⟩
                      have hz := hB.trans (hbk.mono hB.size)
                      clear hbk
                      go_wp2_with fail
                      go_ret
                      exact ⟨rfl, hz⟩
                · have e1 : wrdE L xs ≠ 0 := fun h => hw (wrdE_zero.1 h)
                  have d1 : (wrdE L xs == 0) = false := beq_eq_false_iff_ne.2 e1
                  have d2 : (wrdE L xs != 0) = true := by rw [bne, d1]; rfl
                  have H1 := hid h1
                  clear h1 hw e1
                  as_aux_lemma =>
                    go_wp2_with fail
                    refine H1.out.mono ?_; rintro e wa ⟨rfl, hba⟩
                    have hB := HBr.out.trans (hba.mono HBr.out.size)
                    clear hba n0 n1 n2 nl
                    go_wp2_with fail
                    refine (Hk.out _).mono ?_; rintro e wk ⟨rfl, hbk⟩
                    have hz := hB.trans (hbk.mono hB.size)
                    clear hbk
                    go_wp2_with fail
                    go_ret
                    exact ⟨rfl, hz⟩
              · have d1 : (En == 0) = false := beq_eq_false_iff_ne.2 hn0
                have d2 : (En != 0) = true := by rw [bne, d1]; rfl
                clear hn0
                have hB := HBr.out
                as_aux_lemma =>
                  go_wp2_with fail
                  refine (Hk.out _).mono ?_; rintro e wk ⟨rfl, hbk⟩
                  have hz := hB.trans (hbk.mono hB.size)
                  clear hbk
                  go_wp2_with fail
                  go_ret
                  exact ⟨rfl, hz⟩
  · have HN := hid (fun w => long_any xs ax cx w hl)
    rw [hN] at HN
    clear hN hl
    go_enter Try.func15, Try.ntmps15
    go_wp2_with fail
    refine (HN.out _).mono ?_; rintro e w1' ⟨rfl, rfl⟩
    go_wp2_with fail
    refine (Hk.out _).mono ?_; rintro e wk ⟨rfl, hbk⟩
    have hz := HB0.out.trans (hbk.mono HB0.out.size)
    clear hbk
    go_wp2_with fail
    go_ret
    exact ⟨rfl, hz⟩
end Go.Proofs.Ytmllbemjcfkmjaa
