/- 'MenuPlains' returns true, whatever the machine. -/
import Derived.Test.YtmllbemjcfkmjaaCopy
import Derived.Test.YtmllbemjcfkmjaaRounded
import Derived.Test.YtmllbemjcfkmjaaFront
import Derived.Test.YtmllbemjcfkmjaaKnown
import Derived.Test.YtmllbemjcfkmjaaEqual
import Derived.Deep.DeepCutAuto
namespace Go.Proofs.Ytmllbemjcfkmjaa
open Go.RowKit Go.Maps
set_option linter.unusedSimpArgs false
set_option linter.unusedVariables false

/-! ### rows that lie in memory of their own -/
def RowsF (w : World) (B : Nat) (vn : Value) (n : Nat) : Prop :=
  ∃ Q, w.ownsRow B 33 1 vn n ((List.range n).map Q) ∧ ∀ k, k < n → ∃ g c l N f, Q k = .slice (some ⟨g, 0, none⟩) l c ∧ 0 < l ∧ B ≤ g ∧ w.rowIs g 3 N f ∧ 0 < N
theorem RowsF.below {w w' : World} {B n : Nat} {vn : Value} (h : RowsF w B vn n) (hb : Below w.heap.size w w') : RowsF w' B vn n := by
  obtain ⟨Q, h1, h2⟩ := h
  refine ⟨Q, own_below h1 hb, fun k hk => ?_⟩
  obtain ⟨g, c, l, N, f, e, h3, h4, h5, h6⟩ := h2 k hk
  exact ⟨g, c, l, N, f, e, h3, h4, rowIs_below h5 hb h5.lt, h6⟩
theorem RowsF.get {w : World} {B n : Nat} {vn : Value} (h : RowsF w B vn n) (i : Nat) (hi : i < n) (x : Value) :
    ∃ b0 cap g c l N f, vn = .slice (some ⟨b0, 0, none⟩) n cap ∧ b0 < w.heap.size ∧ w.cell? ⟨b0, i, none⟩ = some (.slice (some ⟨g, 0, none⟩) l c) ∧ 0 < l ∧ B ≤ g ∧ w.rowIs g 3 N f ∧ 0 < N ∧ RowsF (w.setCell ⟨g, 0, none⟩ x) B vn n := by
  obtain ⟨Q, h1, h2⟩ := h
  obtain ⟨b0, cap, rfl, hge, hlt⟩ := h1.form (by omega)
  obtain ⟨g, c, l, N, f, e, h3, h4, h5, h6⟩ := h2 i hi
  refine ⟨b0, cap, g, c, l, N, f, rfl, hlt, ?_, h3, h4, h5, h6, Q, own_set h1 h5 (by decide) 0 x, fun k hk => ?_⟩
  · rw [h1.cellAt i (by omega), ← e]
    simp [hi]
  · obtain ⟨g', c', l', N', f', e', k3, k4, k5, k6⟩ := h2 k hk
    by_cases hg : g' = g
    · subst hg
      exact ⟨g', c', l', N, _, e', k3, k4, h5.set 0 x, h6⟩
    · exact ⟨g', c', l', N', f', e', k3, k4, k5.setOther hg x, k6⟩
theorem RowsF.shape {w : World} {B n : Nat} {vn : Value} (h : RowsF w B vn n) : ∃ a cap, vn = .slice a n cap := by
  obtain ⟨Q, h1, _⟩ := h
  exact row_shape h1
theorem row_types {w : World} {b g t t' N N' : Nat} {f f' : Nat → Value} (h : w.rowIs b t N f) (h' : w.rowIs g t' N' f') (hne : t ≠ t') : b ≠ g := by
  rintro rfl
  obtain ⟨c, e, _⟩ := h
  obtain ⟨c', e', _⟩ := h'
  rw [e] at e'
  cases e'
  exact hne rfl
theorem own_row3 {w : World} {B n l : Nat} {v : Value} {xs : List Value} (h : w.ownsRow B 3 1 v l xs) (hl : 0 < l) : ∃ g c N f, v = .slice (some ⟨g, 0, none⟩) l c ∧ B ≤ g ∧ w.rowIs g 3 N f ∧ 0 < N := by
  rcases h.2 with ⟨_, h0⟩ | ⟨g, cap, cur, rfl, hb, hg, hn, hcm, hcs, htake⟩
  · omega
  · refine ⟨g, cap, cur.size, fun i => cur.getD i undef, rfl, hb, ⟨cur, hg, rfl, fun i hi => by simp [hi]⟩, by omega⟩
def GenR (W : World) (M : Mac) (E : Int) (e : Ending) (w' : World) : Prop :=
  ∃ an cn ab cb, e = .returned (.tuple #[.agg #[.int .i64 M.L, .slice an M.nx.length cn, .slice ab M.ac.length cb], .int .i64 E]) ∧ MacAt w' an cn ab cb M ∧ Below W.heap.size W w' ∧ RowsF w' W.heap.size (.slice an M.nx.length cn) M.nx.length
theorem rows_none (w : World) (B : Nat) : RowsF w B (.slice none 0 0) 0 := ⟨fun _ => undef, World.ownsRow_nil _ _ _ _, fun k hk => absurd hk (Nat.not_lt_zero k)⟩
theorem gen_rows {W w' : World} {E : Int} {L : Nat} {la : Lang} {e : Ending} (hL : E = 0 → 1 ≤ L) (h : GenPost W E L la e w') : GenR W (gnM E L la) (gnE E L la) e w' := by
  rcases h with ⟨h0, F, hF, hb, ⟨h64, base, vn, vb, hbase, rfl, hM⟩ | ⟨h64, rfl⟩⟩ | ⟨h0, hb, rfl⟩
  · have e1 := gnF_of hF
    obtain ⟨an, cn, ab, cb, rfl, rfl, hA⟩ := hM.mac
    have em : gnM E L la = macOf L F := by unfold gnM; rw [e1, if_pos ⟨h0, h64⟩]
    have ee : gnE E L la = 0 := by unfold gnE; rw [e1, if_pos h0, if_pos h64]
    rw [em, ee]
    refine ⟨an, cn, ab, cb, ?_, hA, hb, ?_⟩
    · rw [mac_nx, mac_acl]
      rfl
    · rw [mac_nx]
      obtain ⟨Q, h1, h2, _⟩ := hM
      refine ⟨Q, own_mono h1 hbase, fun k hk => ?_⟩
      obtain ⟨g, c, N, f, r1, r2, r3, r4⟩ := own_row3 (n := 0) (h2 k hk) (hL h0)
      exact ⟨g, c, L, N, f, r1, hL h0, by omega, r3, r4⟩
  · have e1 := gnF_of hF
    have em : gnM E L la = zeroM := by unfold gnM; rw [e1, if_neg (by omega)]
    have ee : gnE E L la = 4 := by unfold gnE; rw [e1, if_pos h0, if_neg (by omega)]
    rw [em, ee]
    exact ⟨none, 0, none, 0, rfl, zero_at _, hb, rows_none _ _⟩
  · have em : gnM E L la = zeroM := by unfold gnM; rw [if_neg (fun x => h0 x.1)]
    have ee : gnE E L la = E := by unfold gnE; rw [if_neg h0]
    rw [em, ee]
    exact ⟨none, 0, none, 0, rfl, zero_at _, hb, rows_none _ _⟩
/-- The plain form is its own plain form. -/
theorem plain_again {m : Mac} (h : gnE (valE m) m.L.toNat (langM m) = 0) (hF : IsForm (valE m) m.L.toNat (langM m) (gnM (valE m) m.L.toNat (langM m))) :
    gnE (valE (gnM (valE m) m.L.toNat (langM m))) (gnM (valE m) m.L.toNat (langM m)).L.toNat (langM (gnM (valE m) m.L.toNat (langM m))) = 0 ∧
    gnM (valE (gnM (valE m) m.L.toNat (langM m))) (gnM (valE m) m.L.toNat (langM m)).L.toNat (langM (gnM (valE m) m.L.toNat (langM m))) = gnM (valE m) m.L.toNat (langM m) := by
  have hm := valE_zero.1 hF.e
  have h1 := hm.l1
  have h6 := hm.l6
  have hp := hF.ok (by omega) (by omega)
  have hl := hF.lang (langM_good m)
  have hL := hF.mL
  rw [valE_ok hp, hl, hL, Int.toNat_natCast]
  rw [hF.e] at h ⊢
  exact ⟨h, rfl⟩

set_option maxRecDepth 100000 in
set_option maxHeartbeats 4000000 in
theorem lawPlains (W : World) (m : Mac) (a a2 : Option Addr) (cap cap2 : Nat) (hM : MacAt W a cap a2 cap2 m) :
    Calls Try.prog 3 #[.agg #[.int .i64 m.L, .slice a m.nx.length cap, .slice a2 m.ac.length cap2]] W fun e w' => e = .returned (.bool true) ∧ Below W.heap.size W w' := by
  have hb0 := below_alloc W (.cells #[.int .i64 m.L, .slice a m.nx.length cap, .slice a2 m.ac.length cap2] 25)
  have HMa := hid (hM.below hb0)
  have HB := hid hb0
  have HXa := hid (box_new W (.int .i64 m.L) (.slice a m.nx.length cap) (.slice a2 m.ac.length cap2) 25)
  have Hk := hid known_true
  have HA := hid (@plain_again m)
  have HG := hid (fun (V : World) (e : Ending) (w' : World) (h : GenPost V (valE m) m.L.toNat (langM m) e w') => gen_rows (fun h0 => by have := (valE_zero.1 h0).l1; omega) h)
  have HF := hid (fun (V : World) (e : Ending) (w' : World) (h : GenPost V (valE m) m.L.toNat (langM m) e w') (h0 : gnE (valE m) m.L.toNat (langM m) = 0) => (show IsForm (valE m) m.L.toNat (langM m) (gnM (valE m) m.L.toNat (langM m)) from by have g := gen_good h h0; exact ⟨g.e, fun h1 h6 => g.ok h1 h6, g.mL, fun hg => g.lang hg⟩))
  obtain ⟨p, hp⟩ : ∃ p, gnM (valE m) m.L.toNat (langM m) = p := ⟨_, rfl⟩
  obtain ⟨pe, hpe⟩ : ∃ p, gnE (valE m) m.L.toNat (langM m) = p := ⟨_, rfl⟩
  rw [hp, hpe] at HA HF
  have Hp := hid hp
  have Hpe := hid hpe
  have Hz : Hid (pe ≠ 0 → p = zeroM) := hid (fun h => by rw [← hp]; exact gnE_bad (by rw [hpe]; exact h))
  have HL := hid (Large_any m a a2 cap cap2 (W.alloc (.cells #[.int .i64 m.L, .slice a m.nx.length cap, .slice a2 m.ac.length cap2] 25)) HMa.out)
  clear hM hb0 hp hpe
  cases hL : lrgB m
  · rw [hL] at HL
    have HS := hid (lrg_of hL)
    clear hL
    go_enter Try.func3, Try.ntmps3
    go_wp2_with fail
    refine HL.out.mono ?_; rintro e w1 ⟨rfl, hb⟩
    clear HL
    replace HXa := hid (HXa.out.below hb)
    replace HMa := hid (HMa.out.below hb)
    replace HB := hid (HB.out.trans (hb.mono HB.out.size))
    clear hb
    have HC := hid (Copy_any m a a2 cap cap2 w1 HMa.out HS.out)
    have x0a := HXa.out.c0
    have x1a := HXa.out.c1
    have x2a := HXa.out.c2
    have xla := HXa.out.lt
    go_wp2_with fail
    refine HC.out.mono ?_
    rintro e w2 ⟨ao, co, bo, do_, rfl, hMo, hb⟩
    clear HC x0a x1a x2a xla
    replace HXa := hid (HXa.out.below hb)
    replace HMa := hid (HMa.out.below hb)
    replace HB := hid (HB.out.trans (hb.mono HB.out.size))
    clear hb
    have hb := below_alloc w2 (.cells #[.int .i64 m.L, .slice ao m.nx.length co, .slice bo m.ac.length do_] 25)
    replace HXa := hid (HXa.out.below hb)
    replace HMa := hid (HMa.out.below hb)
    replace HB := hid (HB.out.trans (hb.mono HB.out.size))
    have HXo := hid (box_new w2 (.int .i64 m.L) (.slice ao m.nx.length co) (.slice bo m.ac.length do_) 25)
    have HMo := hid (hMo.below hb)
    clear hMo hb
    have x0o := HXo.out.c0
    have x1o := HXo.out.c1
    have x2o := HXo.out.c2
    have xlo := HXo.out.lt
    go_wp2_with fail
    clear x0o x1o x2o xlo
    generalize w2.alloc (.cells #[.int .i64 m.L, .slice ao m.nx.length co, .slice bo m.ac.length do_] 25) = Wp at *
    have HXaP := hid HXa.out
    have HXoP := hid HXo.out
    have HMaP := hid HMa.out
    have HMoP := hid HMo.out
    have HBP := hid HB.out
    have hC0 := Plain_any m ao bo co do_ Wp HMo.out
    have HC := hid (hC0.mono fun e w h => And.intro (HG.out _ _ _ h) (HF.out _ _ _ h))
    rw [Hp.out, Hpe.out] at HC
    clear hC0
    refine HC.out.mono ?_
    rintro e w3 ⟨⟨anx, cnx, abx, cbx, rfl, hMx, hb, hR⟩, hI⟩
    have HI := hid hI
    clear HC hI
    replace HXa := hid (HXa.out.below hb)
    replace HXo := hid (HXo.out.below hb)
    replace HMa := hid (HMa.out.below hb)
    replace HMo := hid (HMo.out.below hb)
    replace HB := hid (HB.out.trans (hb.mono HB.out.size))
    have HBp := hid hb
    have HR := hid hR
    clear hR hb
    have hb := below_alloc w3 (.cells #[.int .i64 p.L, .slice anx p.nx.length cnx, .slice abx p.ac.length cbx] 25)
    replace HXa := hid (HXa.out.below hb)
    replace HXo := hid (HXo.out.below hb)
    replace HMa := hid (HMa.out.below hb)
    replace HMo := hid (HMo.out.below hb)
    replace HB := hid (HB.out.trans (hb.mono HB.out.size))
    replace HBp := hid (HBp.out.trans (hb.mono HBp.out.size))
    replace HR := hid (HR.out.below hb)
    have HXx := hid (box_new w3 (.int .i64 p.L) (.slice anx p.nx.length cnx) (.slice abx p.ac.length cbx) 25)
    have HMx := hid (hMx.below hb)
    have HT : Hid ((w3.alloc (.cells #[.int .i64 p.L, .slice anx p.nx.length cnx, .slice abx p.ac.length cbx] 25)).rowIs w3.heap.size 25 3 (outZ p.L (.slice anx p.nx.length cnx) (.slice abx p.ac.length cbx))) := hid (World.rowIs_alloc w3 #[.int .i64 p.L, .slice anx p.nx.length cnx, .slice abx p.ac.length cbx] 25 _ (outZ_at _ _ _))
    clear hMx hb
    have hC0 := (rPlain_any m a a2 cap cap2 (w3.alloc (.cells #[.int .i64 p.L, .slice anx p.nx.length cnx, .slice abx p.ac.length cbx] 25)) HMa.out).mono (fun e w h => gen_det h)
    rw [Hp.out, Hpe.out] at hC0
    have HC := hid hC0
    clear hC0
    have x0a := HXa.out.c0
    have x1a := HXa.out.c1
    have x2a := HXa.out.c2
    have xla := HXa.out.lt
    go_wp2_with fail
    refine HC.out.mono ?_
    rintro e w4 ⟨any, cny, aby, cby, rfl, hMy, hb⟩
    clear HC x0a x1a x2a xla
    replace HXa := hid (HXa.out.below hb)
    replace HXo := hid (HXo.out.below hb)
    replace HXx := hid (HXx.out.below hb)
    replace HMa := hid (HMa.out.below hb)
    replace HMo := hid (HMo.out.below hb)
    replace HMx := hid (HMx.out.below hb)
    replace HB := hid (HB.out.trans (hb.mono HB.out.size))
    replace HBp := hid (HBp.out.trans (hb.mono HBp.out.size))
    replace HR := hid (HR.out.below hb)
    replace HT := hid (rowIs_below HT.out hb HT.out.lt)
    clear hb
    have hb := below_alloc w4 (.cells #[.int .i64 (p).L, .slice any (p).nx.length cny, .slice aby (p).ac.length cby] 25)
    replace HXa := hid (HXa.out.below hb)
    replace HXo := hid (HXo.out.below hb)
    replace HXx := hid (HXx.out.below hb)
    replace HMa := hid (HMa.out.below hb)
    replace HMo := hid (HMo.out.below hb)
    replace HMx := hid (HMx.out.below hb)
    replace HB := hid (HB.out.trans (hb.mono HB.out.size))
    replace HBp := hid (HBp.out.trans (hb.mono HBp.out.size))
    replace HR := hid (HR.out.below hb)
    replace HT := hid (rowIs_below HT.out hb HT.out.lt)
    have HXy := hid (box_new w4 (.int .i64 (p).L) (.slice any (p).nx.length cny) (.slice aby (p).ac.length cby) 25)
    have HMy := hid (hMy.below hb)
    clear hMy hb
    have e1 : (pe != pe) = false := by simp
    have hC0 := Equal_any p p anx abx cnx cbx any aby cny cby (w4.alloc (.cells #[.int .i64 (p).L, .slice any (p).nx.length cny, .slice aby (p).ac.length cby] 25)) HMx.out HMy.out
    rw [eqM_self] at hC0
    have HC := hid hC0
    clear hC0
    have x0x := HXx.out.c0
    have x1x := HXx.out.c1
    have x2x := HXx.out.c2
    have xlx := HXx.out.lt
    have x0y := HXy.out.c0
    have x1y := HXy.out.c1
    have x2y := HXy.out.c2
    have xly := HXy.out.lt
    go_wp2_with fail
    refine HC.out.mono ?_
    rintro e w5 ⟨rfl, hb⟩
    clear HC x0x x1x x2x xlx x0y x1y x2y xly
    replace HXa := hid (HXa.out.below hb)
    replace HXo := hid (HXo.out.below hb)
    replace HXx := hid (HXx.out.below hb)
    replace HXy := hid (HXy.out.below hb)
    replace HMa := hid (HMa.out.below hb)
    replace HMo := hid (HMo.out.below hb)
    replace HMx := hid (HMx.out.below hb)
    replace HMy := hid (HMy.out.below hb)
    replace HB := hid (HB.out.trans (hb.mono HB.out.size))
    replace HBp := hid (HBp.out.trans (hb.mono HBp.out.size))
    replace HR := hid (HR.out.below hb)
    replace HT := hid (rowIs_below HT.out hb HT.out.lt)
    clear hb e1
    obtain ⟨q, hq⟩ : ∃ q, gnM (valE p) p.L.toNat (langM p) = q := ⟨_, rfl⟩
    obtain ⟨qe, hqe⟩ : ∃ q, gnE (valE p) p.L.toNat (langM p) = q := ⟨_, rfl⟩
    have Hq := hid hq
    have Hqe := hid hqe
    clear hq hqe
    have hC0 := (Plain_any p anx abx cnx cbx w5 HMx.out).mono (fun e w h => gen_det h)
    rw [Hq.out, Hqe.out] at hC0
    have HC := hid hC0
    clear hC0
    have x0x := HXx.out.c0
    have x1x := HXx.out.c1
    have x2x := HXx.out.c2
    have xlx := HXx.out.lt
    go_wp2_with fail
    refine HC.out.mono ?_
    rintro e w6 ⟨anu, cnu, abu, cbu, rfl, hMu, hb⟩
    clear HC x0x x1x x2x xlx
    replace HXa := hid (HXa.out.below hb)
    replace HXo := hid (HXo.out.below hb)
    replace HXx := hid (HXx.out.below hb)
    replace HXy := hid (HXy.out.below hb)
    replace HMa := hid (HMa.out.below hb)
    replace HMo := hid (HMo.out.below hb)
    replace HMx := hid (HMx.out.below hb)
    replace HMy := hid (HMy.out.below hb)
    replace HB := hid (HB.out.trans (hb.mono HB.out.size))
    replace HBp := hid (HBp.out.trans (hb.mono HBp.out.size))
    replace HR := hid (HR.out.below hb)
    replace HT := hid (rowIs_below HT.out hb HT.out.lt)
    clear hb
    have hb := below_alloc w6 (.cells #[.int .i64 (q).L, .slice anu (q).nx.length cnu, .slice abu (q).ac.length cbu] 25)
    replace HXa := hid (HXa.out.below hb)
    replace HXo := hid (HXo.out.below hb)
    replace HXx := hid (HXx.out.below hb)
    replace HXy := hid (HXy.out.below hb)
    replace HMa := hid (HMa.out.below hb)
    replace HMo := hid (HMo.out.below hb)
    replace HMx := hid (HMx.out.below hb)
    replace HMy := hid (HMy.out.below hb)
    replace HB := hid (HB.out.trans (hb.mono HB.out.size))
    replace HBp := hid (HBp.out.trans (hb.mono HBp.out.size))
    replace HR := hid (HR.out.below hb)
    replace HT := hid (rowIs_below HT.out hb HT.out.lt)
    have HXu := hid (box_new w6 (.int .i64 (q).L) (.slice anu (q).nx.length cnu) (.slice abu (q).ac.length cbu) 25)
    have HMu := hid (hMu.below hb)
    clear hMu hb
    by_cases h0 : pe = 0
    · have hn : p.nx.length ≤ 64 := ((HI.out h0).ok (by have := (valE_zero.1 (HI.out h0).e).l1; omega) (by have := (valE_zero.1 (HI.out h0).e).l6; omega)).n64
      have Hn := hid hn
      have hA := HA.out h0 (HI.out h0)
      rw [Hq.out, Hqe.out] at hA
      obtain ⟨rfl, rfl⟩ := hA
      subst h0
      clear hn
      have hC0 := Equal_any q q anu abu cnu cbu any aby cny cby (w6.alloc (.cells #[.int .i64 (q).L, .slice anu (q).nx.length cnu, .slice abu (q).ac.length cbu] 25)) HMu.out HMy.out
      rw [eqM_self] at hC0
      have HC := hid hC0
      clear hC0
      have x0u := HXu.out.c0
      have x1u := HXu.out.c1
      have x2u := HXu.out.c2
      have xlu := HXu.out.lt
      have x0y := HXy.out.c0
      have x1y := HXy.out.c1
      have x2y := HXy.out.c2
      have xly := HXy.out.lt
      go_wp2_with fail
      refine HC.out.mono ?_
      rintro e w7 ⟨rfl, hb⟩
      clear HC x0u x1u x2u xlu x0y x1y x2y xly
      replace HXa := hid (HXa.out.below hb)
      replace HXo := hid (HXo.out.below hb)
      replace HXx := hid (HXx.out.below hb)
      replace HXy := hid (HXy.out.below hb)
      replace HXu := hid (HXu.out.below hb)
      replace HMa := hid (HMa.out.below hb)
      replace HMo := hid (HMo.out.below hb)
      replace HMx := hid (HMx.out.below hb)
      replace HMy := hid (HMy.out.below hb)
      replace HMu := hid (HMu.out.below hb)
      replace HB := hid (HB.out.trans (hb.mono HB.out.size))
      replace HBp := hid (HBp.out.trans (hb.mono HBp.out.size))
      replace HR := hid (HR.out.below hb)
      replace HT := hid (rowIs_below HT.out hb HT.out.lt)
      clear hb HMa HMo HMx HMy HMu HXa HXo HXx HXy HXu HB
      have t1 := HT.out.cell (i := 1) (by omega)
      have tl := HT.out.lt
      simp only [outZ, if_true, if_false, show (1 : Nat) ≠ 0 by omega, ite_true, ite_false] at t1
      go_wp2_with fail
      clear t1 tl
      go_loopw [10] (fun v10 w' => ∃ (i : Nat), v10 = .int .i64 i ∧ i ≤ q.nx.length ∧ RowsF w' Wp.heap.size (.slice anx q.nx.length cnx) q.nx.length ∧ Below Wp.heap.size Wp w' ∧ w'.rowIs w3.heap.size 25 3 (outZ q.L (.slice anx q.nx.length cnx) (.slice abx q.ac.length cbx))) (fun v10 _ => q.nx.length - (intOf v10).toNat)
      case atStart => exact ⟨0, rfl, by omega, HR.out, HBp.out, HT.out⟩
      case round =>
        clear HR HBp HT
        obtain ⟨i, rfl, hi, hR, hb, hT⟩ := hrel
        have t1 := hT.cell (i := 1) (by omega)
        have tl := hT.lt
        simp only [outZ, if_true, if_false, show (1 : Nat) ≠ 0 by omega, ite_true, ite_false] at t1
        have hn64 := Hn.out
        by_cases hlt : i < q.nx.length
        · obtain ⟨b0, cp0, g, c, l, N, f, e0, h1, h2, h3, h4, h5, h6, h7⟩ := hR.get i hlt (.int .i64 (-1))
          cases e0
          have i2 : (i : Int) < (q.nx.length : Int) := by omega
          have i3 : (0 : Int) ≤ (i : Int) := by omega
          have i4 : (0 : Int) < (l : Int) := by omega
          have g0 := h5.cell (i := 0) h6
          have gf := h5.frozen 0
          have gl := h5.lt
          have H7 := hid h7
          have Hb7 := hid (hb.setCell (p := ⟨g, 0, none⟩) h4 (.int .i64 (-1)))
          have HT7 := hid (hT.setOther (a := ⟨g, 0, none⟩) (row_types hT h5 (by decide)) (.int .i64 (-1)))
          clear hR hb hT h3 h4 h5 h6 h7
          go_wp2_with fail
          go_roundw
          case rel => exact ⟨i + 1, by go_num, by omega, H7.out, Hb7.out, HT7.out⟩
          case measure => simp [intOf]; omega
        · have i2 : ¬ (i : Int) < (q.nx.length : Int) := by omega
          have HBn := hid (HBP.out.trans (hb.mono HBP.out.size))
          have HXa := hid (HXaP.out.below hb)
          have HXo := hid (HXoP.out.below hb)
          have HMa := hid (HMaP.out.below hb)
          have HMo := hid (HMoP.out.below hb)
          have hC0 := Equal_any m m ao bo co do_ a a2 cap cap2 wr HMo.out HMa.out
          rw [eqM_self] at hC0
          have HC := hid hC0
          clear hC0 hR hb hT
          have x0a := HXa.out.c0
          have x1a := HXa.out.c1
          have x2a := HXa.out.c2
          have xla := HXa.out.lt
          have x0o := HXo.out.c0
          have x1o := HXo.out.c1
          have x2o := HXo.out.c2
          have xlo := HXo.out.lt
          go_wp2_with fail
          refine HC.out.mono ?_
          rintro e w9 ⟨rfl, hb⟩
          have HB9 := hid (HBn.out.trans (hb.mono HBn.out.size))
          clear hb
          go_wp2_with fail
          refine (Hk.out _).mono ?_; rintro e wk ⟨rfl, hbk⟩
          have hz := HB9.out.trans (hbk.mono HB9.out.size)
          clear hbk
          go_wp2_with fail
          go_ret
          exact ⟨rfl, hz⟩
    · have d1 : (pe == 0) = false := beq_eq_false_iff_ne.2 h0
      have d2 : (pe != 0) = true := by rw [bne, d1]; rfl
      have Hn : Hid (p.nx.length ≤ 64) := hid (by rw [Hz.out h0]; exact Nat.zero_le _)
      clear HMa HMo HMx HMy HMu HXa HXo HXx HXy HXu HB
      have t1 := HT.out.cell (i := 1) (by omega)
      have tl := HT.out.lt
      simp only [outZ, if_true, if_false, show (1 : Nat) ≠ 0 by omega, ite_true, ite_false] at t1
      go_wp2_with fail
      clear t1 tl d1 d2
      go_loopw [10] (fun v10 w' => ∃ (i : Nat), v10 = .int .i64 i ∧ i ≤ p.nx.length ∧ RowsF w' Wp.heap.size (.slice anx p.nx.length cnx) p.nx.length ∧ Below Wp.heap.size Wp w' ∧ w'.rowIs w3.heap.size 25 3 (outZ p.L (.slice anx p.nx.length cnx) (.slice abx p.ac.length cbx))) (fun v10 _ => p.nx.length - (intOf v10).toNat)
      case atStart => exact ⟨0, rfl, by omega, HR.out, HBp.out, HT.out⟩
      case round =>
        clear HR HBp HT
        obtain ⟨i, rfl, hi, hR, hb, hT⟩ := hrel
        have t1 := hT.cell (i := 1) (by omega)
        have tl := hT.lt
        simp only [outZ, if_true, if_false, show (1 : Nat) ≠ 0 by omega, ite_true, ite_false] at t1
        have hn64 := Hn.out
        by_cases hlt : i < p.nx.length
        · obtain ⟨b0, cp0, g, c, l, N, f, e0, h1, h2, h3, h4, h5, h6, h7⟩ := hR.get i hlt (.int .i64 (-1))
          cases e0
          have i2 : (i : Int) < (p.nx.length : Int) := by omega
          have i3 : (0 : Int) ≤ (i : Int) := by omega
          have i4 : (0 : Int) < (l : Int) := by omega
          have g0 := h5.cell (i := 0) h6
          have gf := h5.frozen 0
          have gl := h5.lt
          have H7 := hid h7
          have Hb7 := hid (hb.setCell (p := ⟨g, 0, none⟩) h4 (.int .i64 (-1)))
          have HT7 := hid (hT.setOther (a := ⟨g, 0, none⟩) (row_types hT h5 (by decide)) (.int .i64 (-1)))
          clear hR hb hT h3 h4 h5 h6 h7
          go_wp2_with fail
          go_roundw
          case rel => exact ⟨i + 1, by go_num, by omega, H7.out, Hb7.out, HT7.out⟩
          case measure => simp [intOf]; omega
        · have i2 : ¬ (i : Int) < (p.nx.length : Int) := by omega
          have HBn := hid (HBP.out.trans (hb.mono HBP.out.size))
          have HXa := hid (HXaP.out.below hb)
          have HXo := hid (HXoP.out.below hb)
          have HMa := hid (HMaP.out.below hb)
          have HMo := hid (HMoP.out.below hb)
          have hC0 := Equal_any m m ao bo co do_ a a2 cap cap2 wr HMo.out HMa.out
          rw [eqM_self] at hC0
          have HC := hid hC0
          clear hC0 hR hb hT
          have x0a := HXa.out.c0
          have x1a := HXa.out.c1
          have x2a := HXa.out.c2
          have xla := HXa.out.lt
          have x0o := HXo.out.c0
          have x1o := HXo.out.c1
          have x2o := HXo.out.c2
          have xlo := HXo.out.lt
          go_wp2_with fail
          refine HC.out.mono ?_
          rintro e w9 ⟨rfl, hb⟩
          have HB9 := hid (HBn.out.trans (hb.mono HBn.out.size))
          clear hb
          go_wp2_with fail
          refine (Hk.out _).mono ?_; rintro e wk ⟨rfl, hbk⟩
          have hz := HB9.out.trans (hbk.mono HB9.out.size)
          clear hbk
          go_wp2_with fail
          go_ret
          exact ⟨rfl, hz⟩
  · rw [hL] at HL
    clear hL
    go_enter Try.func3, Try.ntmps3
    go_wp2_with fail
    refine HL.out.mono ?_; rintro e w1 ⟨rfl, hb⟩
    clear HL
    replace HXa := hid (HXa.out.below hb)
    replace HMa := hid (HMa.out.below hb)
    replace HB := hid (HB.out.trans (hb.mono HB.out.size))
    clear hb
    go_wp2_with fail
    refine (Hk.out _).mono ?_; rintro e wk ⟨rfl, hbk⟩
    have hz := HB.out.trans (hbk.mono HB.out.size)
    clear hbk
    go_wp2_with fail
    go_ret
    exact ⟨rfl, hz⟩
end Go.Proofs.Ytmllbemjcfkmjaa
