/- 'ShareGrows' returns true: the walk. -/
import Derived.Test.YthankdfjkmfokaaKnown
import Derived.Test.YthankdfjkmfokaaFairLaw
namespace Go.Proofs.Ythankdfjkmfokaa
open Go.RowKit
set_option linter.unusedSimpArgs false
set_option linter.unusedVariables false
theorem undrewNN {w w1 : World} {n : Nat} (h : Below (w.drewN n).heap.size (w.drewN n) w1) : Below w.heap.size w w1 := ⟨h.os, h.tape, h.output, h.size, h.block⟩
structure GrowFacts (xs : List Int) (kd : Int) (m : Nat) (A B : List Int) (c : Nat) : Prop where
  la : A.length = xs.length
  lb : B.length = xs.length
  ca : claR xs A kd = (c : Nat)
  gb : gvrR xs B kd = (c : Nat)
  bb : gvrB xs B kd = true
  ea : havE xs A kd = 0
  eb : havE xs B kd = 0
  cl : c < xs.length
  bd : ∀ i, i < xs.length → 0 ≤ nth A i ∧ nth A i ≤ 1000
  at' : ∀ i, nth B i = if i = c then nth A c + 1 else nth A i
theorem grow_facts {xs : List Int} {kd : Int} (hx : ExOK xs kd) (m : Nat) (hm : m < 1000) : GrowFacts xs kd m (giv kd xs m) (giv kd xs (m + 1)) (got kd xs m) := by
  have ho := hx.1
  have h1 := ho.l1
  have hA : HavOK xs (giv kd xs m) kd := ⟨hx, giv_ok ho m (by omega)⟩
  have hB : HavOK xs (giv kd xs (m + 1)) kd := ⟨hx, giv_ok ho (m + 1) (by omega)⟩
  have hl := giv_low kd ho m
  have g := gvr_yes hB (by rw [hl]; omega)
  exact ⟨giv_len .., giv_len .., claR_yes hA, by rw [g.1, hl], g.2, havE_yes hA, havE_yes hB, got_lt h1 m, fun i hi => by have := giv_bd (kd := kd) h1 m i hi; omega, fun i => giv_at kd h1 m i⟩
set_option maxRecDepth 100000 in
set_option maxHeartbeats 2000000 in
theorem lawGrows (W : World) (a : Option Addr) (xs : List Int) (cap : Nat) (hI : IntsAt W a xs) (hm : xs.length ≤ maxLen) (_hw : ∀ i, i < xs.length → (Lit.int .i64 (nth xs i)).wf = true) (n kd : Int) (_wn : (Lit.int .i64 n).wf = true) (_wk : (Lit.int .i64 kd).wf = true) :
    Calls Try.prog 11 #[.slice a xs.length cap, .agg #[.int .i64 n, .int .i64 kd]] W fun e w' => e = .returned (.bool true) ∧ Below W.heap.size W w' := by
  clear _hw _wn _wk
  have hbB : Below W.heap.size W (W.alloc (.cells #[.int .i64 n, .int .i64 kd] 24)) := below_alloc _ _
  have HL := hid (Long_any xs a cap (W.alloc (.cells #[.int .i64 n, .int .i64 kd] 24)) hm)
  by_cases h60 : 60 < xs.length
  · rw [decide_eq_true h60] at HL
    go_enter Try.func11, Try.ntmps11
    go_wp2_with fail
    refine HL.out.mono ?_; rintro e w1 ⟨rfl, rfl⟩
    go_wp2_with fail
    refine (known_true _).mono ?_; rintro e w' ⟨rfl, hb⟩
    go_wp2_with fail
    go_ret
    exact ⟨rfl, hbB.trans (hb.mono (by simp))⟩
  · rw [decide_eq_false h60] at HL
    by_cases hn0 : n < 0
    · have d1 : decide (n < 0) = true := decide_eq_true hn0
      go_enter Try.func11, Try.ntmps11
      go_wp2_with fail
      refine HL.out.mono ?_; rintro e w1 ⟨rfl, rfl⟩
      go_wp2_with fail
      refine (known_true _).mono ?_; rintro e w' ⟨rfl, hb⟩
      go_wp2_with fail
      go_ret
      exact ⟨rfl, hbB.trans (hb.mono (by simp))⟩
    · have d1 : decide (n < 0) = false := decide_eq_false hn0
      by_cases hn1 : 1000 ≤ n
      · have d2 : decide (1000 ≤ n) = true := decide_eq_true hn1
        go_enter Try.func11, Try.ntmps11
        go_wp2_with fail
        refine HL.out.mono ?_; rintro e w1 ⟨rfl, rfl⟩
        go_wp2_with fail
        refine (known_true _).mono ?_; rintro e w' ⟨rfl, hb⟩
        go_wp2_with fail
        go_ret
        exact ⟨rfl, hbB.trans (hb.mono (by simp))⟩
      · have d2 : decide (1000 ≤ n) = false := decide_eq_false hn1
        obtain ⟨m, rfl⟩ : ∃ m : Nat, n = m := ⟨n.toNat, by omega⟩
        have hm1 : m < 1000 := by omega
        have w1 : IntKind.i64.wrap ((m : Int) + 1) = ((m + 1 : Nat) : Int) := by rw [IntWalk.i64_in _ (by omega)]; omega
        have HDa := hid (fun W h => Divide_any xs a cap m kd W h hm)
        have HDb := hid (fun W h => Divide_any xs a cap (m + 1 : Nat) kd W h hm)
        have hx1 : xs.length ≤ 1000 := by omega
        by_cases hx : ExOK xs kd
        · have hOKa : DivOK xs kd m := ⟨hx, by unfold NumOK; omega⟩
          have hOKb : DivOK xs kd (m + 1 : Nat) := ⟨hx, by unfold NumOK; omega⟩
          rw [divR_nat hOKa, divE_yes hOKa] at HDa
          rw [divR_nat hOKb, divE_yes hOKb] at HDb
          have F := hid (grow_facts hx m hm1)
          have hal : (giv kd xs m).length ≤ maxLen := by rw [giv_len]; exact hm
          have hbl : (giv kd xs (m + 1)).length ≤ maxLen := by rw [giv_len]; exact hm
          clear hOKa hOKb hx
          generalize giv kd xs m = A at *
          generalize giv kd xs (m + 1) = B at *
          generalize got kd xs m = c at *
          have HCl := hid (fun (W : World) (a2 : Option Addr) (cap2 : Nat) (h1 : IntsAt W a xs) (h2 : IntsAt W a2 A) => Claimer_any xs A a a2 cap cap2 kd W h1 h2 hx1 hal)
          have HGv := hid (fun (W : World) (a2 : Option Addr) (cap2 : Nat) (h1 : IntsAt W a xs) (h2 : IntsAt W a2 B) => Giver_any xs B a a2 cap cap2 kd W h1 h2 hx1 hbl)
          rw [F.out.ca, F.out.ea] at HCl
          rw [F.out.gb, F.out.bb, F.out.eb] at HGv
          have hla := F.out.la
          have hlb := F.out.lb
          have hcl := F.out.cl
          rw [hla] at HCl
          rw [hlb] at HGv
          go_enter Try.func11, Try.ntmps11
          go_wp2_with fail
          refine HL.out.mono ?_; rintro e w1 ⟨rfl, rfl⟩
          go_wp2_with fail
          refine (HDa.out _ (hI.below hbB)).mono ?_; rintro e w1 ⟨a1, c1, hr1, h1, hb1, _, _⟩
          rw [hla] at hr1
          subst hr1
          have k0 : w1.cell? ⟨W.heap.size, 0, none⟩ = some (.int .i64 (m : Int)) := (hb1.cell (p := ⟨W.heap.size, 0, none⟩) (by simp)).trans (by simp)
          have k1 : w1.cell? ⟨W.heap.size, 1, none⟩ = some (.int .i64 kd) := (hb1.cell (p := ⟨W.heap.size, 1, none⟩) (by simp)).trans (by simp)
          have hbz1 := hbB.trans (hb1.mono hbB.size)
          have hs1 : W.heap.size < w1.heap.size := by have := hb1.size; simp at this; omega
          clear hb1 HL HDa
          go_wp2_with fail
          refine (HDb.out _ (hI.below hbz1)).mono ?_; rintro e w2 ⟨a2, c2, hr2, h2, hb2, _, _⟩
          rw [hlb] at hr2
          subst hr2
          have l1 := (hb2.cell (p := ⟨W.heap.size, 1, none⟩) hs1).trans k1
          have hbz2 := hbz1.trans (hb2.mono hbz1.size)
          have hs2 := Nat.lt_of_lt_of_le hs1 hb2.size
          have h12 := h1.below hb2
          clear k0 k1 h1 hb2 hbz1 hs1 HDb
          go_wp2_with fail
          refine (HCl.out _ a1 c1 (hI.below hbz2) h12).mono ?_; rintro e w3 ⟨rfl, hb3⟩
          have m1 := (hb3.cell (p := ⟨W.heap.size, 1, none⟩) hs2).trans l1
          have hbz3 := hbz2.trans (hb3.mono hbz2.size)
          have hs3 := Nat.lt_of_lt_of_le hs2 hb3.size
          have h13 := h12.below hb3
          have h23 := h2.below hb3
          clear l1 h12 h2 hb3 hbz2 hs2 HCl
          go_wp2_with fail
          refine (HGv.out _ a2 c2 (hI.below hbz3) h23).mono ?_; rintro e w4 ⟨rfl, hb4⟩
          have hbz4 := hbz3.trans (hb4.mono hbz3.size)
          have h14 := h13.below hb4
          have h24 := h23.below hb4
          clear m1 h13 h23 hb4 hbz3 hs3 HGv
          have e1 : decide ((c : Int) < 0) = false := decide_eq_false (by omega)
          have e2 : decide ((xs.length : Int) ≤ (c : Int)) = false := decide_eq_false (by omega)
          go_wp2_with fail
          go_loopw [14] (fun v14 w' => ∃ k t : Nat, k ≤ xs.length ∧ v14 = .int .i64 k ∧ w' = w4.drewN t) (fun v14 _ => xs.length - (intOf v14).toNat)
          case atStart => exact ⟨0, 0, by omega, rfl, rfl⟩
          case round =>
            obtain ⟨k, t, hk, rfl, rfl⟩ := hrel
            by_cases hlt : k < xs.length
            · obtain ⟨b, off, rfl, hbl1, x1⟩ := h14 k (by rw [hla]; exact hlt)
              obtain ⟨b2, off2, rfl, hbl2, x2⟩ := h24 k (by rw [hlb]; exact hlt)
              have hbd := F.out.bd k hlt
              have hat := F.out.at' k
              have i1 : (0 : Int) ≤ (k : Int) := by omega
              have i2 : (k : Int) < (xs.length : Int) := by omega
              by_cases hkc : k = c
              · subst hkc
                rw [if_pos rfl] at hat
                rw [hat] at x2
                clear hat
                have w2 : IntKind.i64.wrap (nth A k + 1) = nth A k + 1 := IntWalk.i64_in _ (by omega)
                go_wp2_with fail
                go_quiet (fail)
                go_wp2_with fail
                go_roundw
                case rel => exact ⟨k + 1, _, by omega, by go_num, rfl⟩
                case measure => simp [intOf]; omega
              · rw [if_neg hkc] at hat
                rw [hat] at x2
                clear hat
                have e3 : ((k : Int) == (c : Int)) = false := by simp; omega
                have e4 : ((k : Int) != (c : Int)) = true := by simp; omega
                go_wp2_with fail
                go_quiet (fail)
                go_wp2_with fail
                go_roundw
                case rel => exact ⟨k + 1, _, by omega, by go_num, rfl⟩
                case measure => simp [intOf]; omega
            · obtain rfl : k = xs.length := by omega
              go_wp2_with fail
              refine (known_true _).mono ?_; rintro e w' ⟨rfl, hb⟩
              go_wp2_with fail
              go_ret
              exact ⟨rfl, hbz4.trans ((undrewNN hb).mono hbz4.size)⟩
        · have hOKa : ¬ DivOK xs kd m := fun h => hx h.1
          have hOKb : ¬ DivOK xs kd (m + 1 : Nat) := fun h => hx h.1
          rw [divR_no hOKa, divE_no hOKa] at HDa
          rw [divR_no hOKb, divE_no hOKb] at HDb
          clear hOKa hOKb hx
          go_enter Try.func11, Try.ntmps11
          go_wp2_with fail
          refine HL.out.mono ?_; rintro e w1 ⟨rfl, rfl⟩
          go_wp2_with fail
          refine (HDa.out _ (hI.below hbB)).mono ?_; rintro e w1 ⟨a1, c1, rfl, h1, hb1, _, _⟩
          have k0 : w1.cell? ⟨W.heap.size, 0, none⟩ = some (.int .i64 (m : Int)) := (hb1.cell (p := ⟨W.heap.size, 0, none⟩) (by simp)).trans (by simp)
          have k1 : w1.cell? ⟨W.heap.size, 1, none⟩ = some (.int .i64 kd) := (hb1.cell (p := ⟨W.heap.size, 1, none⟩) (by simp)).trans (by simp)
          have hbz1 := hbB.trans (hb1.mono hbB.size)
          clear hb1 HL HDa h1
          go_wp2_with fail
          refine (HDb.out _ (hI.below hbz1)).mono ?_; rintro e w2 ⟨a2, c2, rfl, h2, hb2, _, _⟩
          have hbz2 := hbz1.trans (hb2.mono hbz1.size)
          clear k0 k1 h2 hb2 hbz1 HDb
          go_wp2_with fail
          refine (known_true _).mono ?_; rintro e w' ⟨rfl, hb⟩
          go_wp2_with fail
          go_ret
          exact ⟨rfl, hbz2.trans (hb.mono hbz2.size)⟩
end Go.Proofs.Ythankdfjkmfokaa
