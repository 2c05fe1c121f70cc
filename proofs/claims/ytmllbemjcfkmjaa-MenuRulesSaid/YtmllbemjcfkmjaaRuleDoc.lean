/- The document's 'Apart', 'Never', 'Least', 'Most': what they return. -/
import Derived.Test.YtmllbemjcfkmjaaMade
import Derived.Test.YtmllbemjcfkmjaaTab
import Derived.Test.YtmllbemjcfkmjaaKnown
namespace Go.Proofs.Ytmllbemjcfkmjaa
open Go.RowKit Go.Maps
set_option linter.unusedSimpArgs false
set_option linter.unusedVariables false

theorem within_bt (n lo hi : Int) (w : World) (h1 : lo ≤ n) (h2 : n ≤ hi) : Calls Try.prog 73 #[.int .i64 n, .int .i64 lo, .int .i64 hi] w fun e w' => e = .returned (.bool true) ∧ Below w.heap.size w w' :=
  (within_yes n lo hi w h1 h2).mono fun e w' h => ⟨h.1, h.2 ▸ Below.refl _ _⟩
theorem within_bf (n lo hi : Int) (w : World) (h : ¬ (lo ≤ n ∧ n ≤ hi)) : Calls Try.prog 73 #[.int .i64 n, .int .i64 lo, .int .i64 hi] w fun e w' => e = .returned (.bool false) ∧ Below w.heap.size w w' :=
  (within_no n lo hi w (by omega)).mono fun e w' h => ⟨h.1, h.2 ▸ Below.refl _ _⟩

set_option maxRecDepth 100000 in
theorem counted_any (L a t : Int) (W : World) : Calls Try.prog 90 #[.int .i64 L, .int .i64 a, .int .i64 t] W fun e w' => e = .returned (.int .i64 (cuE L a t)) ∧ Below W.heap.size W w' := by
  by_cases h0 : 1 ≤ L ∧ L ≤ 6
  · by_cases h1 : 0 ≤ a ∧ a ≤ L - 1
    · by_cases h2 : 0 ≤ t ∧ t ≤ 20
      · have R : Hid (cuE L a t = 0) := hid (by unfold cuE; rw [if_pos ⟨⟨h0, h1.1, by omega⟩, h2⟩])
        have HW0 := hid (fun w => within_bt (L) (1) (6) w h0.1 h0.2)
        have HW1 := hid (fun w => within_bt (a) (0) (L - 1) w h1.1 h1.2)
        have HW2 := hid (fun w => within_bt (t) (0) (20) w h2.1 h2.2)
        obtain ⟨g1, g2⟩ := h0
        clear h1 h2
        have HB := hid (Below.refl W.heap.size W)
        go_enter Try.func90, Try.ntmps90
        go_wp2_with fail
        refine (HW0.out _).mono ?_; rintro e w1 ⟨rfl, hb⟩
        replace HB := hid (HB.out.trans (hb.mono HB.out.size))
        clear hb
        go_wp2_with fail
        refine (HW1.out _).mono ?_; rintro e w2 ⟨rfl, hb⟩
        replace HB := hid (HB.out.trans (hb.mono HB.out.size))
        clear hb
        go_wp2_with fail
        refine (HW2.out _).mono ?_; rintro e w3 ⟨rfl, hb⟩
        replace HB := hid (HB.out.trans (hb.mono HB.out.size))
        clear hb
        go_wp2_with fail
        go_ret
        exact ⟨by rw [R.out]; rfl, HB.out⟩
      · have R : Hid (cuE L a t = 1) := hid (by unfold cuE; rw [if_neg (by omega)])
        have HW0 := hid (fun w => within_bt (L) (1) (6) w h0.1 h0.2)
        have HW1 := hid (fun w => within_bt (a) (0) (L - 1) w h1.1 h1.2)
        have HW2 := hid (fun w => within_bf (t) (0) (20) w h2)
        obtain ⟨g1, g2⟩ := h0
        clear h1 h2
        have HB := hid (Below.refl W.heap.size W)
        go_enter Try.func90, Try.ntmps90
        go_wp2_with fail
        refine (HW0.out _).mono ?_; rintro e w1 ⟨rfl, hb⟩
        replace HB := hid (HB.out.trans (hb.mono HB.out.size))
        clear hb
        go_wp2_with fail
        refine (HW1.out _).mono ?_; rintro e w2 ⟨rfl, hb⟩
        replace HB := hid (HB.out.trans (hb.mono HB.out.size))
        clear hb
        go_wp2_with fail
        refine (HW2.out _).mono ?_; rintro e w3 ⟨rfl, hb⟩
        replace HB := hid (HB.out.trans (hb.mono HB.out.size))
        clear hb
        go_wp2_with fail
        go_ret
        exact ⟨by rw [R.out]; rfl, HB.out⟩
    · have R : Hid (cuE L a t = 1) := hid (by unfold cuE; rw [if_neg (by omega)])
      have HW0 := hid (fun w => within_bt (L) (1) (6) w h0.1 h0.2)
      have HW1 := hid (fun w => within_bf (a) (0) (L - 1) w h1)
      obtain ⟨g1, g2⟩ := h0
      clear h1
      have HB := hid (Below.refl W.heap.size W)
      go_enter Try.func90, Try.ntmps90
      go_wp2_with fail
      refine (HW0.out _).mono ?_; rintro e w1 ⟨rfl, hb⟩
      replace HB := hid (HB.out.trans (hb.mono HB.out.size))
      clear hb
      go_wp2_with fail
      refine (HW1.out _).mono ?_; rintro e w2 ⟨rfl, hb⟩
      replace HB := hid (HB.out.trans (hb.mono HB.out.size))
      clear hb
      go_wp2_with fail
      go_ret
      exact ⟨by rw [R.out]; rfl, HB.out⟩
  · have R : Hid (cuE L a t = 1) := hid (by unfold cuE; rw [if_neg (by omega)])
    have HW0 := hid (fun w => within_bf (L) (1) (6) w h0)
    clear h0
    have HB := hid (Below.refl W.heap.size W)
    go_enter Try.func90, Try.ntmps90
    go_wp2_with fail
    refine (HW0.out _).mono ?_; rintro e w1 ⟨rfl, hb⟩
    replace HB := hid (HB.out.trans (hb.mono HB.out.size))
    clear hb
    go_wp2_with fail
    go_ret
    exact ⟨by rw [R.out]; rfl, HB.out⟩

set_option maxRecDepth 100000 in
set_option maxHeartbeats 4000000 in
theorem rApart_any (L d : Int) (W : World) : Calls Try.prog 43 #[.int .i64 L, .int .i64 d] W (GenPost W (apE L d) L.toNat (apL L d)) := by
  by_cases h0 : 1 ≤ L ∧ L ≤ 6
  · by_cases h1 : 0 ≤ d ∧ d ≤ 3
    · have R0 : apE L d = 0 := by unfold apE; rw [if_pos ⟨⟨by omega, by omega⟩, by omega, by omega⟩]
      have HW0 := hid (fun w => within_bt (L) (1) (6) w h0.1 h0.2)
      have HW1 := hid (fun w => within_bt (d) (0) (3) w h1.1 h1.2)
      obtain ⟨N, rfl⟩ : ∃ N : Nat, L = N := ⟨L.toNat, by omega⟩
      unfold apL
      rw [Int.toNat_natCast]
      have hm := fun w => made_any 0 d 0 N (by omega) (by omega) w
      rw [ru_apart (by omega) (by omega) (by omega)] at hm
      unfold rulV at hm
      have HM := hid hm
      have R := hid R0
      obtain ⟨g1, g2⟩ := h0
      clear hm R0 h1
      have HB := hid (below_alloc W (.cells #[.int .i64 0, .slice none 0 0, .slice none 0 0] 25))
      have HR := hid (PlO.start W 0 (fun _ => []) (fun _ => undef)).out
      go_enter Try.func43, Try.ntmps43
      go_wp2_with fail
      refine (HW0.out _).mono ?_; rintro e w1 ⟨rfl, hb⟩
      replace HR := hid (rowIs_below HR.out hb HR.out.lt)
      replace HB := hid (HB.out.trans (hb.mono HB.out.size))
      clear hb
      go_wp2_with fail
      refine (HW1.out _).mono ?_; rintro e w2 ⟨rfl, hb⟩
      replace HR := hid (rowIs_below HR.out hb HR.out.lt)
      replace HB := hid (HB.out.trans (hb.mono HB.out.size))
      clear hb
      have HP := hid ((HM.out w2).mono fun e w' h => plainZ (z := (N : Int)) (L := N) rfl h)
      have hl := HR.out.lt
      go_wp2_with fail
      refine HP.out.mono ?_
      rintro e wP ⟨F, hF, hbP, ⟨h64, base, an, cn, ab, cb, hbase, rfl, hMA⟩ | ⟨h64, rfl⟩⟩
      · have HF := hid hF
        have HMA := hid hMA
        clear hF hMA
        have hrP := rowIs_below HR.out hbP HR.out.lt
        have hzP := HB.out.trans (hbP.mono HB.out.size)
        have f0 := hrP.frozen 0
        have f1 := hrP.frozen 1
        have f2 := hrP.frozen 2
        have x0 := hrP.cell (i := 0) (by omega)
        have x1 := hrP.cell (i := 1) (by omega)
        have x2 := hrP.cell (i := 2) (by omega)
        have xl2 := hrP.lt
        have HC := hid (res_set hrP (.int .i64 (N : Nat)) (.slice an F.length cn) (.slice ab F.length cb))
        simp only [outF] at x0 x1 x2
        clear hrP hbP
        go_wp2_with fail
        have o0 := HC.out.c0
        have o1 := HC.out.c1
        have o2 := HC.out.c2
        exact bodyPost_ret (v := .tuple #[.agg #[.int .i64 (N : Nat), .slice an F.length cn, .slice ab F.length cb], .int .i64 0]) (by simp [results, Try.results43, go_sem, o0, o1, o2]) rfl (gen_ok R.out rfl HF.out hzP (by omega) (by omega) h64 HMA.out)
      · have HF := hid hF
        clear hF
        have hrP := rowIs_below HR.out hbP HR.out.lt
        have hzP := HB.out.trans (hbP.mono HB.out.size)
        have f0 := hrP.frozen 0
        have f1 := hrP.frozen 1
        have f2 := hrP.frozen 2
        have x0 := hrP.cell (i := 0) (by omega)
        have x1 := hrP.cell (i := 1) (by omega)
        have x2 := hrP.cell (i := 2) (by omega)
        have xl2 := hrP.lt
        have HC := hid (res_set hrP (.int .i64 0) (.slice none 0 0) (.slice none 0 0))
        simp only [outF] at x0 x1 x2
        clear hrP hbP
        go_wp2_with fail
        have o0 := HC.out.c0
        have o1 := HC.out.c1
        have o2 := HC.out.c2
        exact bodyPost_ret (v := .tuple #[.agg #[.int .i64 0, .slice none 0 0, .slice none 0 0], .int .i64 4]) (by simp [results, Try.results43, go_sem, o0, o1, o2]) rfl (gen_large R.out HF.out hzP (by omega) h64)
    · have R : Hid (apE L d = 1) := hid (by unfold apE; rw [if_neg (by omega)])
      have HW0 := hid (fun w => within_bt (L) (1) (6) w h0.1 h0.2)
      have HW1 := hid (fun w => within_bf (d) (0) (3) w h1)
      obtain ⟨g1, g2⟩ := h0
      clear h1
      have HB := hid (below_alloc W (.cells #[.int .i64 0, .slice none 0 0, .slice none 0 0] 25))
      have HR := hid (PlO.start W 0 (fun _ => []) (fun _ => undef)).out
      go_enter Try.func43, Try.ntmps43
      go_wp2_with fail
      refine (HW0.out _).mono ?_; rintro e w1 ⟨rfl, hb⟩
      replace HR := hid (rowIs_below HR.out hb HR.out.lt)
      replace HB := hid (HB.out.trans (hb.mono HB.out.size))
      clear hb
      go_wp2_with fail
      refine (HW1.out _).mono ?_; rintro e w2 ⟨rfl, hb⟩
      replace HR := hid (rowIs_below HR.out hb HR.out.lt)
      replace HB := hid (HB.out.trans (hb.mono HB.out.size))
      clear hb
      have hrP := HR.out
      have hzP := HB.out
      have f0 := hrP.frozen 0
      have f1 := hrP.frozen 1
      have f2 := hrP.frozen 2
      have x0 := hrP.cell (i := 0) (by omega)
      have x1 := hrP.cell (i := 1) (by omega)
      have x2 := hrP.cell (i := 2) (by omega)
      have xl2 := hrP.lt
      have HC := hid (res_set hrP (.int .i64 0) (.slice none 0 0) (.slice none 0 0))
      simp only [outF] at x0 x1 x2
      clear hrP
      go_wp2_with fail
      have o0 := HC.out.c0
      have o1 := HC.out.c1
      have o2 := HC.out.c2
      exact bodyPost_ret (v := .tuple #[.agg #[.int .i64 0, .slice none 0 0, .slice none 0 0], .int .i64 1]) (by simp [results, Try.results43, go_sem, o0, o1, o2]) rfl (gen_err (by rw [R.out]; decide) R.out.symm hzP (by omega))
  · have R : Hid (apE L d = 1) := hid (by unfold apE; rw [if_neg (by omega)])
    have HW0 := hid (fun w => within_bf (L) (1) (6) w h0)
    clear h0
    have HB := hid (below_alloc W (.cells #[.int .i64 0, .slice none 0 0, .slice none 0 0] 25))
    have HR := hid (PlO.start W 0 (fun _ => []) (fun _ => undef)).out
    go_enter Try.func43, Try.ntmps43
    go_wp2_with fail
    refine (HW0.out _).mono ?_; rintro e w1 ⟨rfl, hb⟩
    replace HR := hid (rowIs_below HR.out hb HR.out.lt)
    replace HB := hid (HB.out.trans (hb.mono HB.out.size))
    clear hb
    have hrP := HR.out
    have hzP := HB.out
    have f0 := hrP.frozen 0
    have f1 := hrP.frozen 1
    have f2 := hrP.frozen 2
    have x0 := hrP.cell (i := 0) (by omega)
    have x1 := hrP.cell (i := 1) (by omega)
    have x2 := hrP.cell (i := 2) (by omega)
    have xl2 := hrP.lt
    have HC := hid (res_set hrP (.int .i64 0) (.slice none 0 0) (.slice none 0 0))
    simp only [outF] at x0 x1 x2
    clear hrP
    go_wp2_with fail
    have o0 := HC.out.c0
    have o1 := HC.out.c1
    have o2 := HC.out.c2
    exact bodyPost_ret (v := .tuple #[.agg #[.int .i64 0, .slice none 0 0, .slice none 0 0], .int .i64 1]) (by simp [results, Try.results43, go_sem, o0, o1, o2]) rfl (gen_err (by rw [R.out]; decide) R.out.symm hzP (by omega))

set_option maxRecDepth 100000 in
set_option maxHeartbeats 4000000 in
theorem rNever_any (L p q : Int) (W : World) : Calls Try.prog 45 #[.int .i64 L, .int .i64 p, .int .i64 q] W (GenPost W (nvE L p q) L.toNat (laA L.toNat (nvS p q) nvA 0)) := by
  by_cases h0 : 1 ≤ L ∧ L ≤ 6
  · by_cases h1 : 0 ≤ p ∧ p ≤ L - 1
    · by_cases h2 : 0 ≤ q ∧ q ≤ L - 1
      · have R0 : nvE L p q = 0 := by unfold nvE; rw [if_pos ⟨⟨by omega, by omega⟩, ⟨by omega, by omega⟩, by omega, by omega⟩]
        have HW0 := hid (fun w => within_bt (L) (1) (6) w h0.1 h0.2)
        have HW1 := hid (fun w => within_bt (p) (0) (L - 1) w h1.1 h1.2)
        have HW2 := hid (fun w => within_bt (q) (0) (L - 1) w h2.1 h2.2)
        obtain ⟨N, rfl⟩ : ∃ N : Nat, L = N := ⟨L.toNat, by omega⟩
        rw [Int.toNat_natCast]
        have hm := fun w => made_any 3 p q N (by omega) (by omega) w
        rw [ru_never (by omega) (by omega)] at hm
        unfold rulV at hm
        have HM := hid hm
        have R := hid R0
        obtain ⟨g1, g2⟩ := h0
        clear hm R0 h1 h2
        have HB := hid (below_alloc W (.cells #[.int .i64 0, .slice none 0 0, .slice none 0 0] 25))
        have HR := hid (PlO.start W 0 (fun _ => []) (fun _ => undef)).out
        go_enter Try.func45, Try.ntmps45
        go_wp2_with fail
        refine (HW0.out _).mono ?_; rintro e w1 ⟨rfl, hb⟩
        replace HR := hid (rowIs_below HR.out hb HR.out.lt)
        replace HB := hid (HB.out.trans (hb.mono HB.out.size))
        clear hb
        go_wp2_with fail
        refine (HW1.out _).mono ?_; rintro e w2 ⟨rfl, hb⟩
        replace HR := hid (rowIs_below HR.out hb HR.out.lt)
        replace HB := hid (HB.out.trans (hb.mono HB.out.size))
        clear hb
        go_wp2_with fail
        refine (HW2.out _).mono ?_; rintro e w3 ⟨rfl, hb⟩
        replace HR := hid (rowIs_below HR.out hb HR.out.lt)
        replace HB := hid (HB.out.trans (hb.mono HB.out.size))
        clear hb
        have HP := hid ((HM.out w3).mono fun e w' h => plainZ (z := (N : Int)) (L := N) rfl h)
        have hl := HR.out.lt
        go_wp2_with fail
        refine HP.out.mono ?_
        rintro e wP ⟨F, hF, hbP, ⟨h64, base, an, cn, ab, cb, hbase, rfl, hMA⟩ | ⟨h64, rfl⟩⟩
        · have HF := hid hF
          have HMA := hid hMA
          clear hF hMA
          have hrP := rowIs_below HR.out hbP HR.out.lt
          have hzP := HB.out.trans (hbP.mono HB.out.size)
          have f0 := hrP.frozen 0
          have f1 := hrP.frozen 1
          have f2 := hrP.frozen 2
          have x0 := hrP.cell (i := 0) (by omega)
          have x1 := hrP.cell (i := 1) (by omega)
          have x2 := hrP.cell (i := 2) (by omega)
          have xl2 := hrP.lt
          have HC := hid (res_set hrP (.int .i64 (N : Nat)) (.slice an F.length cn) (.slice ab F.length cb))
          simp only [outF] at x0 x1 x2
          clear hrP hbP
          go_wp2_with fail
          have o0 := HC.out.c0
          have o1 := HC.out.c1
          have o2 := HC.out.c2
          exact bodyPost_ret (v := .tuple #[.agg #[.int .i64 (N : Nat), .slice an F.length cn, .slice ab F.length cb], .int .i64 0]) (by simp [results, Try.results45, go_sem, o0, o1, o2]) rfl (gen_ok R.out rfl HF.out hzP (by omega) (by omega) h64 HMA.out)
        · have HF := hid hF
          clear hF
          have hrP := rowIs_below HR.out hbP HR.out.lt
          have hzP := HB.out.trans (hbP.mono HB.out.size)
          have f0 := hrP.frozen 0
          have f1 := hrP.frozen 1
          have f2 := hrP.frozen 2
          have x0 := hrP.cell (i := 0) (by omega)
          have x1 := hrP.cell (i := 1) (by omega)
          have x2 := hrP.cell (i := 2) (by omega)
          have xl2 := hrP.lt
          have HC := hid (res_set hrP (.int .i64 0) (.slice none 0 0) (.slice none 0 0))
          simp only [outF] at x0 x1 x2
          clear hrP hbP
          go_wp2_with fail
          have o0 := HC.out.c0
          have o1 := HC.out.c1
          have o2 := HC.out.c2
          exact bodyPost_ret (v := .tuple #[.agg #[.int .i64 0, .slice none 0 0, .slice none 0 0], .int .i64 4]) (by simp [results, Try.results45, go_sem, o0, o1, o2]) rfl (gen_large R.out HF.out hzP (by omega) h64)
      · have R : Hid (nvE L p q = 1) := hid (by unfold nvE; rw [if_neg (by omega)])
        have HW0 := hid (fun w => within_bt (L) (1) (6) w h0.1 h0.2)
        have HW1 := hid (fun w => within_bt (p) (0) (L - 1) w h1.1 h1.2)
        have HW2 := hid (fun w => within_bf (q) (0) (L - 1) w h2)
        obtain ⟨g1, g2⟩ := h0
        clear h1 h2
        have HB := hid (below_alloc W (.cells #[.int .i64 0, .slice none 0 0, .slice none 0 0] 25))
        have HR := hid (PlO.start W 0 (fun _ => []) (fun _ => undef)).out
        go_enter Try.func45, Try.ntmps45
        go_wp2_with fail
        refine (HW0.out _).mono ?_; rintro e w1 ⟨rfl, hb⟩
        replace HR := hid (rowIs_below HR.out hb HR.out.lt)
        replace HB := hid (HB.out.trans (hb.mono HB.out.size))
        clear hb
        go_wp2_with fail
        refine (HW1.out _).mono ?_; rintro e w2 ⟨rfl, hb⟩
        replace HR := hid (rowIs_below HR.out hb HR.out.lt)
        replace HB := hid (HB.out.trans (hb.mono HB.out.size))
        clear hb
        go_wp2_with fail
        refine (HW2.out _).mono ?_; rintro e w3 ⟨rfl, hb⟩
        replace HR := hid (rowIs_below HR.out hb HR.out.lt)
        replace HB := hid (HB.out.trans (hb.mono HB.out.size))
        clear hb
        have hrP := HR.out
        have hzP := HB.out
        have f0 := hrP.frozen 0
        have f1 := hrP.frozen 1
        have f2 := hrP.frozen 2
        have x0 := hrP.cell (i := 0) (by omega)
        have x1 := hrP.cell (i := 1) (by omega)
        have x2 := hrP.cell (i := 2) (by omega)
        have xl2 := hrP.lt
        have HC := hid (res_set hrP (.int .i64 0) (.slice none 0 0) (.slice none 0 0))
        simp only [outF] at x0 x1 x2
        clear hrP
        go_wp2_with fail
        have o0 := HC.out.c0
        have o1 := HC.out.c1
        have o2 := HC.out.c2
        exact bodyPost_ret (v := .tuple #[.agg #[.int .i64 0, .slice none 0 0, .slice none 0 0], .int .i64 1]) (by simp [results, Try.results45, go_sem, o0, o1, o2]) rfl (gen_err (by rw [R.out]; decide) R.out.symm hzP (by omega))
    · have R : Hid (nvE L p q = 1) := hid (by unfold nvE; rw [if_neg (by omega)])
      have HW0 := hid (fun w => within_bt (L) (1) (6) w h0.1 h0.2)
      have HW1 := hid (fun w => within_bf (p) (0) (L - 1) w h1)
      obtain ⟨g1, g2⟩ := h0
      clear h1
      have HB := hid (below_alloc W (.cells #[.int .i64 0, .slice none 0 0, .slice none 0 0] 25))
      have HR := hid (PlO.start W 0 (fun _ => []) (fun _ => undef)).out
      go_enter Try.func45, Try.ntmps45
      go_wp2_with fail
      refine (HW0.out _).mono ?_; rintro e w1 ⟨rfl, hb⟩
      replace HR := hid (rowIs_below HR.out hb HR.out.lt)
      replace HB := hid (HB.out.trans (hb.mono HB.out.size))
      clear hb
      go_wp2_with fail
      refine (HW1.out _).mono ?_; rintro e w2 ⟨rfl, hb⟩
      replace HR := hid (rowIs_below HR.out hb HR.out.lt)
      replace HB := hid (HB.out.trans (hb.mono HB.out.size))
      clear hb
      have hrP := HR.out
      have hzP := HB.out
      have f0 := hrP.frozen 0
      have f1 := hrP.frozen 1
      have f2 := hrP.frozen 2
      have x0 := hrP.cell (i := 0) (by omega)
      have x1 := hrP.cell (i := 1) (by omega)
      have x2 := hrP.cell (i := 2) (by omega)
      have xl2 := hrP.lt
      have HC := hid (res_set hrP (.int .i64 0) (.slice none 0 0) (.slice none 0 0))
      simp only [outF] at x0 x1 x2
      clear hrP
      go_wp2_with fail
      have o0 := HC.out.c0
      have o1 := HC.out.c1
      have o2 := HC.out.c2
      exact bodyPost_ret (v := .tuple #[.agg #[.int .i64 0, .slice none 0 0, .slice none 0 0], .int .i64 1]) (by simp [results, Try.results45, go_sem, o0, o1, o2]) rfl (gen_err (by rw [R.out]; decide) R.out.symm hzP (by omega))
  · have R : Hid (nvE L p q = 1) := hid (by unfold nvE; rw [if_neg (by omega)])
    have HW0 := hid (fun w => within_bf (L) (1) (6) w h0)
    clear h0
    have HB := hid (below_alloc W (.cells #[.int .i64 0, .slice none 0 0, .slice none 0 0] 25))
    have HR := hid (PlO.start W 0 (fun _ => []) (fun _ => undef)).out
    go_enter Try.func45, Try.ntmps45
    go_wp2_with fail
    refine (HW0.out _).mono ?_; rintro e w1 ⟨rfl, hb⟩
    replace HR := hid (rowIs_below HR.out hb HR.out.lt)
    replace HB := hid (HB.out.trans (hb.mono HB.out.size))
    clear hb
    have hrP := HR.out
    have hzP := HB.out
    have f0 := hrP.frozen 0
    have f1 := hrP.frozen 1
    have f2 := hrP.frozen 2
    have x0 := hrP.cell (i := 0) (by omega)
    have x1 := hrP.cell (i := 1) (by omega)
    have x2 := hrP.cell (i := 2) (by omega)
    have xl2 := hrP.lt
    have HC := hid (res_set hrP (.int .i64 0) (.slice none 0 0) (.slice none 0 0))
    simp only [outF] at x0 x1 x2
    clear hrP
    go_wp2_with fail
    have o0 := HC.out.c0
    have o1 := HC.out.c1
    have o2 := HC.out.c2
    exact bodyPost_ret (v := .tuple #[.agg #[.int .i64 0, .slice none 0 0, .slice none 0 0], .int .i64 1]) (by simp [results, Try.results45, go_sem, o0, o1, o2]) rfl (gen_err (by rw [R.out]; decide) R.out.symm hzP (by omega))

set_option maxRecDepth 100000 in
set_option maxHeartbeats 4000000 in
theorem rLeast_any (L a t : Int) (W : World) : Calls Try.prog 47 #[.int .i64 L, .int .i64 a, .int .i64 t] W (GenPost W (cuE L a t) L.toNat (laA L.toNat (cuS a t) (leA t) 0)) := by
  have hC := fun w => counted_any L a t w
  by_cases h0 : ((1 ≤ L ∧ L ≤ 6) ∧ 0 ≤ a ∧ a < L) ∧ 0 ≤ t ∧ t ≤ 20
  · have R0 : cuE L a t = 0 := by unfold cuE; rw [if_pos h0]
    rw [R0] at hC
    obtain ⟨N, rfl⟩ : ∃ N : Nat, L = N := ⟨L.toNat, by omega⟩
    rw [Int.toNat_natCast]
    have hm := fun w => made_any 1 a t N (by omega) (by omega) w
    rw [ru_least (by omega) (by omega) (by omega)] at hm
    unfold rulV at hm
    have HM := hid hm
    have R := hid R0
    have HC0 := hid hC
    clear hm R0 h0 hC
    have HB := hid (below_alloc W (.cells #[.int .i64 0, .slice none 0 0, .slice none 0 0] 25))
    have HR := hid (PlO.start W 0 (fun _ => []) (fun _ => undef)).out
    go_enter Try.func47, Try.ntmps47
    go_wp2_with fail
    refine (HC0.out _).mono ?_; rintro e w1 ⟨rfl, hb⟩
    replace HR := hid (rowIs_below HR.out hb HR.out.lt)
    replace HB := hid (HB.out.trans (hb.mono HB.out.size))
    clear hb
    have HP := hid ((HM.out w1).mono fun e w' h => plainZ (z := (N : Int)) (L := N) rfl h)
    have hl := HR.out.lt
    clear HC0
    go_wp2_with fail
    refine HP.out.mono ?_
    rintro e wP ⟨F, hF, hbP, ⟨h64, base, an, cn, ab, cb, hbase, rfl, hMA⟩ | ⟨h64, rfl⟩⟩
    · have HF := hid hF
      have HMA := hid hMA
      clear hF hMA
      have hrP := rowIs_below HR.out hbP HR.out.lt
      have hzP := HB.out.trans (hbP.mono HB.out.size)
      have f0 := hrP.frozen 0
      have f1 := hrP.frozen 1
      have f2 := hrP.frozen 2
      have x0 := hrP.cell (i := 0) (by omega)
      have x1 := hrP.cell (i := 1) (by omega)
      have x2 := hrP.cell (i := 2) (by omega)
      have xl2 := hrP.lt
      have HC := hid (res_set hrP (.int .i64 (N : Nat)) (.slice an F.length cn) (.slice ab F.length cb))
      simp only [outF] at x0 x1 x2
      clear hrP hbP
      go_wp2_with fail
      have o0 := HC.out.c0
      have o1 := HC.out.c1
      have o2 := HC.out.c2
      exact bodyPost_ret (v := .tuple #[.agg #[.int .i64 (N : Nat), .slice an F.length cn, .slice ab F.length cb], .int .i64 0]) (by simp [results, Try.results47, go_sem, o0, o1, o2]) rfl (gen_ok R.out rfl HF.out hzP (by omega) (by omega) h64 HMA.out)
    · have HF := hid hF
      clear hF
      have hrP := rowIs_below HR.out hbP HR.out.lt
      have hzP := HB.out.trans (hbP.mono HB.out.size)
      have f0 := hrP.frozen 0
      have f1 := hrP.frozen 1
      have f2 := hrP.frozen 2
      have x0 := hrP.cell (i := 0) (by omega)
      have x1 := hrP.cell (i := 1) (by omega)
      have x2 := hrP.cell (i := 2) (by omega)
      have xl2 := hrP.lt
      have HC := hid (res_set hrP (.int .i64 0) (.slice none 0 0) (.slice none 0 0))
      simp only [outF] at x0 x1 x2
      clear hrP hbP
      go_wp2_with fail
      have o0 := HC.out.c0
      have o1 := HC.out.c1
      have o2 := HC.out.c2
      exact bodyPost_ret (v := .tuple #[.agg #[.int .i64 0, .slice none 0 0, .slice none 0 0], .int .i64 4]) (by simp [results, Try.results47, go_sem, o0, o1, o2]) rfl (gen_large R.out HF.out hzP (by omega) h64)
  · have R : Hid (cuE L a t = 1) := hid (by unfold cuE; rw [if_neg h0])
    rw [R.out] at hC
    have HC0 := hid hC
    clear h0 hC
    have HB := hid (below_alloc W (.cells #[.int .i64 0, .slice none 0 0, .slice none 0 0] 25))
    have HR := hid (PlO.start W 0 (fun _ => []) (fun _ => undef)).out
    go_enter Try.func47, Try.ntmps47
    go_wp2_with fail
    refine (HC0.out _).mono ?_; rintro e w1 ⟨rfl, hb⟩
    replace HR := hid (rowIs_below HR.out hb HR.out.lt)
    replace HB := hid (HB.out.trans (hb.mono HB.out.size))
    clear hb
    clear HC0
    have hrP := HR.out
    have hzP := HB.out
    have f0 := hrP.frozen 0
    have f1 := hrP.frozen 1
    have f2 := hrP.frozen 2
    have x0 := hrP.cell (i := 0) (by omega)
    have x1 := hrP.cell (i := 1) (by omega)
    have x2 := hrP.cell (i := 2) (by omega)
    have xl2 := hrP.lt
    have HC := hid (res_set hrP (.int .i64 0) (.slice none 0 0) (.slice none 0 0))
    simp only [outF] at x0 x1 x2
    clear hrP
    go_wp2_with fail
    have o0 := HC.out.c0
    have o1 := HC.out.c1
    have o2 := HC.out.c2
    exact bodyPost_ret (v := .tuple #[.agg #[.int .i64 0, .slice none 0 0, .slice none 0 0], .int .i64 1]) (by simp [results, Try.results47, go_sem, o0, o1, o2]) rfl (gen_err (by rw [R.out]; decide) R.out.symm hzP (by omega))

set_option maxRecDepth 100000 in
set_option maxHeartbeats 4000000 in
theorem rMost_any (L a t : Int) (W : World) : Calls Try.prog 49 #[.int .i64 L, .int .i64 a, .int .i64 t] W (GenPost W (cuE L a t) L.toNat (laA L.toNat (cuS a t) (moA t) 0)) := by
  have hC := fun w => counted_any L a t w
  by_cases h0 : ((1 ≤ L ∧ L ≤ 6) ∧ 0 ≤ a ∧ a < L) ∧ 0 ≤ t ∧ t ≤ 20
  · have R0 : cuE L a t = 0 := by unfold cuE; rw [if_pos h0]
    rw [R0] at hC
    obtain ⟨N, rfl⟩ : ∃ N : Nat, L = N := ⟨L.toNat, by omega⟩
    rw [Int.toNat_natCast]
    have hm := fun w => made_any 2 a t N (by omega) (by omega) w
    rw [ru_most (by omega) (by omega) (by omega)] at hm
    unfold rulV at hm
    have HM := hid hm
    have R := hid R0
    have HC0 := hid hC
    clear hm R0 h0 hC
    have HB := hid (below_alloc W (.cells #[.int .i64 0, .slice none 0 0, .slice none 0 0] 25))
    have HR := hid (PlO.start W 0 (fun _ => []) (fun _ => undef)).out
    go_enter Try.func49, Try.ntmps49
    go_wp2_with fail
    refine (HC0.out _).mono ?_; rintro e w1 ⟨rfl, hb⟩
    replace HR := hid (rowIs_below HR.out hb HR.out.lt)
    replace HB := hid (HB.out.trans (hb.mono HB.out.size))
    clear hb
    have HP := hid ((HM.out w1).mono fun e w' h => plainZ (z := (N : Int)) (L := N) rfl h)
    have hl := HR.out.lt
    clear HC0
    go_wp2_with fail
    refine HP.out.mono ?_
    rintro e wP ⟨F, hF, hbP, ⟨h64, base, an, cn, ab, cb, hbase, rfl, hMA⟩ | ⟨h64, rfl⟩⟩
    · have HF := hid hF
      have HMA := hid hMA
      clear hF hMA
      have hrP := rowIs_below HR.out hbP HR.out.lt
      have hzP := HB.out.trans (hbP.mono HB.out.size)
      have f0 := hrP.frozen 0
      have f1 := hrP.frozen 1
      have f2 := hrP.frozen 2
      have x0 := hrP.cell (i := 0) (by omega)
      have x1 := hrP.cell (i := 1) (by omega)
      have x2 := hrP.cell (i := 2) (by omega)
      have xl2 := hrP.lt
      have HC := hid (res_set hrP (.int .i64 (N : Nat)) (.slice an F.length cn) (.slice ab F.length cb))
      simp only [outF] at x0 x1 x2
      clear hrP hbP
      go_wp2_with fail
      have o0 := HC.out.c0
      have o1 := HC.out.c1
      have o2 := HC.out.c2
      exact bodyPost_ret (v := .tuple #[.agg #[.int .i64 (N : Nat), .slice an F.length cn, .slice ab F.length cb], .int .i64 0]) (by simp [results, Try.results49, go_sem, o0, o1, o2]) rfl (gen_ok R.out rfl HF.out hzP (by omega) (by omega) h64 HMA.out)
    · have HF := hid hF
      clear hF
      have hrP := rowIs_below HR.out hbP HR.out.lt
      have hzP := HB.out.trans (hbP.mono HB.out.size)
      have f0 := hrP.frozen 0
      have f1 := hrP.frozen 1
      have f2 := hrP.frozen 2
      have x0 := hrP.cell (i := 0) (by omega)
      have x1 := hrP.cell (i := 1) (by omega)
      have x2 := hrP.cell (i := 2) (by omega)
      have xl2 := hrP.lt
      have HC := hid (res_set hrP (.int .i64 0) (.slice none 0 0) (.slice none 0 0))
      simp only [outF] at x0 x1 x2
      clear hrP hbP
      go_wp2_with fail
      have o0 := HC.out.c0
      have o1 := HC.out.c1
      have o2 := HC.out.c2
      exact bodyPost_ret (v := .tuple #[.agg #[.int .i64 0, .slice none 0 0, .slice none 0 0], .int .i64 4]) (by simp [results, Try.results49, go_sem, o0, o1, o2]) rfl (gen_large R.out HF.out hzP (by omega) h64)
  · have R : Hid (cuE L a t = 1) := hid (by unfold cuE; rw [if_neg h0])
    rw [R.out] at hC
    have HC0 := hid hC
    clear h0 hC
    have HB := hid (below_alloc W (.cells #[.int .i64 0, .slice none 0 0, .slice none 0 0] 25))
    have HR := hid (PlO.start W 0 (fun _ => []) (fun _ => undef)).out
    go_enter Try.func49, Try.ntmps49
    go_wp2_with fail
    refine (HC0.out _).mono ?_; rintro e w1 ⟨rfl, hb⟩
    replace HR := hid (rowIs_below HR.out hb HR.out.lt)
    replace HB := hid (HB.out.trans (hb.mono HB.out.size))
    clear hb
    clear HC0
    have hrP := HR.out
    have hzP := HB.out
    have f0 := hrP.frozen 0
    have f1 := hrP.frozen 1
    have f2 := hrP.frozen 2
    have x0 := hrP.cell (i := 0) (by omega)
    have x1 := hrP.cell (i := 1) (by omega)
    have x2 := hrP.cell (i := 2) (by omega)
    have xl2 := hrP.lt
    have HC := hid (res_set hrP (.int .i64 0) (.slice none 0 0) (.slice none 0 0))
    simp only [outF] at x0 x1 x2
    clear hrP
    go_wp2_with fail
    have o0 := HC.out.c0
    have o1 := HC.out.c1
    have o2 := HC.out.c2
    exact bodyPost_ret (v := .tuple #[.agg #[.int .i64 0, .slice none 0 0, .slice none 0 0], .int .i64 1]) (by simp [results, Try.results49, go_sem, o0, o1, o2]) rfl (gen_err (by rw [R.out]; decide) R.out.symm hzP (by omega))
end Go.Proofs.Ytmllbemjcfkmjaa
