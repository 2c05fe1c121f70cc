/- 'paired': of any two whole pairs what both have belongs to whole pairs. -/
import Derived.Test.YtphcgggohfbmfaaDoorMns
import Derived.Deep.DeepCutAuto
import Derived.ChangeKeysEq
namespace Go.Proofs.YtphcgggohfbmfaaDoor
open Go.RowKit Go.Maps
set_option linter.unusedSimpArgs false
set_option linter.unusedVariables false

def fv (x y : Bool) : Int := (if x then 1 else 0) + (if y then 2 else 0)
theorem fv_or1 : ∀ x y, bits BinOp.or IntKind.i64 (fv x y) 1 = fv true y := by decide +kernel
theorem fv_or2 : ∀ x y, bits BinOp.or IntKind.i64 (fv x y) 2 = fv x true := by decide +kernel
/-- The pair A is one of the first t. -/
def fA (cs : List (Nat × Nat)) (A : Nat × Nat) (t : Nat) : Bool := decide (A ∈ cs.take t)
theorem fA_zero (cs : List (Nat × Nat)) (A : Nat × Nat) : fA cs A 0 = false := by simp [fA]
theorem fA_succ (cs : List (Nat × Nat)) (A : Nat × Nat) (t : Nat) (h : t < cs.length) : fA cs A (t + 1) = (fA cs A t || decide (pth cs t = A)) := by
  unfold fA
  rw [List.take_succ_eq_append_getElem h]
  have e : pth cs t = cs[t] := by simp [pth, List.getD, h]
  rw [e, Bool.eq_iff_iff, Bool.or_eq_true, decide_eq_true_iff, decide_eq_true_iff, decide_eq_true_iff, List.mem_append, List.mem_singleton]
  exact ⟨fun x => x.imp id Eq.symm, fun x => x.imp id Eq.symm⟩
theorem fA_all {cs : List (Nat × Nat)} {A : Nat × Nat} (h : A ∈ cs) : fA cs A cs.length = true := by
  unfold fA; rw [List.take_length]; exact decide_eq_true h
theorem pair_eq (a b c e : Int) (w : World) : (Op.equalIn 10000 31 (.agg #[.int .i64 a, .int .i64 b]) (.agg #[.int .i64 c, .int .i64 e])).run Tryd.prog w = .ok (a == c && b == e) w := by
  obtain ⟨i0, hi0, hz0, hz1, hz2⟩ := info_parts info3
  have hpl : Tryd.prog.plainKey 3 = true := by kernel_rfl
  have hc : Tryd.prog.cellsOf 3 = 1 := by kernel_rfl
  have h1 := run_equalIn_array (P := Tryd.prog) w 9999 #[.int .i64 a, .int .i64 b] #[.int .i64 c, .int .i64 e] Tryd.underlying31 hi0
  rw [h1, hc]
  have p0 : ∀ x y : Int, (part 3 #[Value.int .i64 x, Value.int .i64 y] 0).run Tryd.prog w = .ok (.int .i64 x) w := fun x y => run_part_plain w hpl rfl
  have p1 : ∀ x y : Int, (part 3 #[Value.int .i64 x, Value.int .i64 y] 1).run Tryd.prog w = .ok (.int .i64 y) w := fun x y => run_part_plain w hpl rfl
  have q0 : ∀ x y : Int, (Op.equalIn 9999 3 (.int .i64 x) (.int .i64 y)).run Tryd.prog w = .ok (x == y) w := fun x y => run_equalIn_int w 9998 3 .i64 .i64 x y Tryd.underlying3
  show (Op.eqItems 9999 3 1 #[Value.int .i64 a, Value.int .i64 b] #[Value.int .i64 c, Value.int .i64 e] [0, 1]).run Tryd.prog w = _
  simp only [Op.eqItems, Sem.run_bind, Nat.zero_mul, Nat.one_mul, p0, p1, q0, Result.andThen_ok]
  cases ha : (a == c) <;> cases hb : (b == e) <;> simp [p1, q0] <;> simp_all
set_option maxRecDepth 100000 in
set_option maxHeartbeats 4000000 in
theorem paired_any (xs : List Int) (d : Nat) (hv : valE xs (d : Int) = 0) (cs : List (Nat × Nat)) (hcs : ∀ p, p ∈ cs ↔ Whole (rowN xs) xs.length d p.1 p.2) (a : Option Addr) (cap : Nat) (ap : Option Addr) (capp : Nat) (W : World)
    (hI : IntsAt W a xs) (hT : TabW W) (hP : PairsAt W ap cs) (hlen : cs.length ≤ 256) (p q : Nat × Nat) (hp : p ∈ cs) (hq : q ∈ cs) :
    Calls Tryd.prog 7 #[.slice a xs.length cap, .int .i64 (d : Nat), .slice ap cs.length capp, .agg #[natV p.1, natV p.2], .agg #[natV q.1, natV q.2]] W fun e w' => e = .returned (.bool true) ∧ Below W.heap.size W w' := by
  have hk := (val_ok hv).2
  rw [Int.toNat_natCast] at hk
  obtain ⟨c, m⟩ := p
  obtain ⟨c', m'⟩ := q
  have hW1 := (hcs _).1 hp
  have hW2 := (hcs _).1 hq
  simp only at hW1 hW2
  obtain ⟨hB1, hB2, hB3⟩ := whole_both hk.n8 hk.d8 hW1 hW2
  have hc1 : c < 2 ^ xs.length := by rw [hW1.etr]; exact etr_lt _ _ _
  have hc2 : c' < 2 ^ xs.length := by rw [hW2.etr]; exact etr_lt _ _ _
  have hm1 : m < 2 ^ d := by rw [hW1.eat]; exact eat_lt _ _ _
  have hm2 : m' < 2 ^ d := by rw [hW2.eat]; exact eat_lt _ _ _
  have h2n : 2 ^ xs.length ≤ 256 := by have := Nat.pow_le_pow_right (n := 2) (by omega) hk.n8; simpa using this
  have h2d : 2 ^ d ≤ 256 := by have := Nat.pow_le_pow_right (n := 2) (by omega) hk.d8; simpa using this
  have hbc := bits_and_nat c c' (by omega) (by omega)
  have hbm := bits_and_nat m m' (by omega) (by omega)
  have hcc : c &&& c' < 2 ^ xs.length := Nat.lt_of_le_of_lt Nat.and_le_left hc1
  have hmm : m &&& m' < 2 ^ d := Nat.lt_of_le_of_lt Nat.and_le_left hm1
  have HD := hid (fun w hb => dishes_any xs d (c &&& c') hv hcc a cap w (hI.below hb) (hT.below hT.lt hb hb.size))
  have HC := hid (fun w hb => children_any xs d (m &&& m') hv hmm a cap w (hI.below hb))
  have HA1 := hid (fA_all ((hcs (c &&& c', eatN (rowN xs) d (c &&& c'))).2 hB1))
  have HA2 := hid (fA_all ((hcs (etrN (rowN xs) (m &&& m') xs.length, m &&& m')).2 hB2))
  have HIf := hid hB3
  have HP := hid hP
  have hcm : c &&& c' ≤ c := Nat.and_le_left
  have hmm' : m &&& m' ≤ m' := Nat.and_le_right
  clear hk hv hW1 hW2 hB1 hB2 hB3 hcs hp hq hI hT hP hc1 hc2 hm1 hm2 h2n h2d hcc hmm
  generalize c &&& c' = cc at *
  generalize m &&& m' = mm at *
  generalize eatN (rowN xs) d cc = E1 at *
  generalize etrN (rowN xs) mm xs.length = E2 at *
  obtain ⟨V, hV⟩ : ∃ V, V = (W.alloc (.cells #[natV c, natV m] 31)).alloc (.cells #[natV c', natV m'] 31) := ⟨_, rfl⟩
  have bV : Below W.heap.size W V := by rw [hV]; exact ((Below.refl _ _).alloc (Nat.le_refl _) _).alloc (by simp) _
  have k0 : V.cell? ⟨W.heap.size, 0, none⟩ = some (natV c) := by rw [hV]; simp
  have k1 : V.cell? ⟨W.heap.size, 1, none⟩ = some (natV m) := by rw [hV]; simp
  have k2 : V.cell? ⟨W.heap.size + 1, 0, none⟩ = some (natV c') := by rw [hV]; simp
  have k3 : V.cell? ⟨W.heap.size + 1, 1, none⟩ = some (natV m') := by rw [hV]; simp
  have vs : V.heap.size = W.heap.size + 2 := by rw [hV]; simp
  unfold natV at *
  go_enter Tryd.func7, Tryd.ntmps7
  go_wp2_with fail
  rw [← hV]
  refine (HD.out V bV).mono ?_
  rintro e w1 ⟨rfl, hb⟩
  have hs1 := hb.size
  have l0 := (hb.cell (p := ⟨W.heap.size, 0, none⟩) (show W.heap.size < V.heap.size by omega)).trans k0
  have l1 := (hb.cell (p := ⟨W.heap.size, 1, none⟩) (show W.heap.size < V.heap.size by omega)).trans k1
  have l2 := (hb.cell (p := ⟨W.heap.size + 1, 0, none⟩) (show W.heap.size + 1 < V.heap.size by omega)).trans k2
  have l3 := (hb.cell (p := ⟨W.heap.size + 1, 1, none⟩) (show W.heap.size + 1 < V.heap.size by omega)).trans k3
  have HB1 := hid (bV.trans (hb.mono bV.size))
  have Hs1 : Hid (W.heap.size + 2 ≤ w1.heap.size) := hid (by omega)
  clear hb hs1 k0 k1 k2 k3 vs hV bV HD
  clear V
  go_wp2_with fail
  refine (HC.out w1 HB1.out).mono ?_
  rintro e w2 ⟨rfl, hb⟩
  have hs1 := Hs1.out
  have hs2 := hb.size
  have k0 := (hb.cell (p := ⟨W.heap.size, 0, none⟩) (show W.heap.size < w1.heap.size by omega)).trans l0
  have k1 := (hb.cell (p := ⟨W.heap.size, 1, none⟩) (show W.heap.size < w1.heap.size by omega)).trans l1
  have k2 := (hb.cell (p := ⟨W.heap.size + 1, 0, none⟩) (show W.heap.size + 1 < w1.heap.size by omega)).trans l2
  have k3 := (hb.cell (p := ⟨W.heap.size + 1, 1, none⟩) (show W.heap.size + 1 < w1.heap.size by omega)).trans l3
  have HB2 := hid (HB1.out.trans (hb.mono HB1.out.size))
  have Hs2 : Hid (W.heap.size + 2 ≤ w2.heap.size) := hid (by omega)
  clear hb hs1 hs2 l0 l1 l2 l3 HB1 Hs1 HC
  clear w1
  go_wp2_with fail
  go_cut [15, 16] from 47 to 60 (fun v15 v16 wx => ∃ H K : Nat, v15 = .pointer (some ⟨H, 0, none⟩) ∧ v16 = .pointer (some ⟨K, 0, none⟩) ∧ Hid (wx.cell? ⟨H, 0, none⟩ = some (.int .i64 (cc : Nat)) ∧ wx.cell? ⟨H, 1, none⟩ = some (.int .i64 (E1 : Nat)) ∧ wx.cell? ⟨K, 0, none⟩ = some (.int .i64 (E2 : Nat)) ∧ wx.cell? ⟨K, 1, none⟩ = some (.int .i64 (mm : Nat)) ∧ H < wx.heap.size ∧ K < wx.heap.size ∧ Below w2.heap.size w2 wx))
  case first =>
    have hs2 := Hs2.out
    have HV := hid (Below.refl w2.heap.size w2)
    clear HP HIf HA1 HA2 HB2 Hs2 hlen hcm hmm'
    generalize hb1 : W.heap.size + 1 = B1 at *
    generalize hb0 : W.heap.size = B0 at *
    have a0 : B0 < w2.heap.size := by omega
    have a1 : B1 < w2.heap.size := by omega
    have a2 : B0 < w2.heap.size + 1 := by omega
    have a3 : B1 < w2.heap.size + 1 := by omega
    have e0 : ¬ w2.heap.size = B0 := by omega
    have e1 : ¬ w2.heap.size = B1 := by omega
    have e2 : ¬ w2.heap.size + 1 = B0 := by omega
    have e3 : ¬ w2.heap.size + 1 = B1 := by omega
    clear hb0 hb1 hs2
    go_region
    · go_wp2_with fail
      go_meet
      exact ⟨_, _, rfl, rfl, hid ⟨by simp, by simp, by simp, by simp, by simp; omega, by simp, (((Below.refl _ _).alloc (Nat.le_refl _) _).alloc (by simp) _).drew⟩⟩
    · go_wp2_with fail
      go_meet
      exact ⟨_, _, rfl, rfl, hid ⟨by simp, by simp, by simp, by simp, by simp, by simp; omega, (((Below.refl _ _).alloc (Nat.le_refl _) _).alloc (by simp) _).drew⟩⟩
  case rest =>
    obtain ⟨H, K, rfl, rfl, HH⟩ := hcut
    obtain ⟨h0, h1, h2, h3, hH, hK, hb⟩ := HH.out
    clear HH
    have hs2 := Hs2.out
    have l0 := (hb.cell (p := ⟨W.heap.size, 0, none⟩) (show W.heap.size < w2.heap.size by omega)).trans k0
    have l1 := (hb.cell (p := ⟨W.heap.size, 1, none⟩) (show W.heap.size < w2.heap.size by omega)).trans k1
    have l2 := (hb.cell (p := ⟨W.heap.size + 1, 0, none⟩) (show W.heap.size + 1 < w2.heap.size by omega)).trans k2
    have l3 := (hb.cell (p := ⟨W.heap.size + 1, 1, none⟩) (show W.heap.size + 1 < w2.heap.size by omega)).trans k3
    have hbs := hb.size
    have HB3 := hid (HB2.out.trans (hb.mono HB2.out.size))
    have HH := hid (⟨h0, h1, h2, h3, hH, hK⟩ : wc.cell? ⟨H, 0, none⟩ = some (.int .i64 (cc : Nat)) ∧ wc.cell? ⟨H, 1, none⟩ = some (.int .i64 (E1 : Nat)) ∧ wc.cell? ⟨K, 0, none⟩ = some (.int .i64 (E2 : Nat)) ∧ wc.cell? ⟨K, 1, none⟩ = some (.int .i64 (mm : Nat)) ∧ H < wc.heap.size ∧ K < wc.heap.size)
    have HL := hid (⟨l0, l1, l2, l3, by omega⟩ : wc.cell? ⟨W.heap.size, 0, none⟩ = some (.int .i64 (c : Nat)) ∧ wc.cell? ⟨W.heap.size, 1, none⟩ = some (.int .i64 (m : Nat)) ∧ wc.cell? ⟨W.heap.size + 1, 0, none⟩ = some (.int .i64 (c' : Nat)) ∧ wc.cell? ⟨W.heap.size + 1, 1, none⟩ = some (.int .i64 (m' : Nat)) ∧ W.heap.size + 2 ≤ wc.heap.size)
    clear h0 h1 h2 h3 hH hK hb hs2 l0 l1 l2 l3 k0 k1 k2 k3 hbs HB2 Hs2
    clear w2
    go_wp2_with fail
    go_loopw [17, 18] (fun v17 v18 w' => ∃ t : Nat, t ≤ cs.length ∧ v18 = .int .i64 (t : Nat) ∧ v17 = .int .i64 (fv (fA cs (cc, E1) t) (fA cs (E2, mm) t)) ∧ Below wc.heap.size wc w') (fun _ v18 _ => cs.length - intOfV v18)
    case atStart => exact ⟨0, by omega, rfl, by rw [fA_zero, fA_zero]; rfl, Below.refl _ _⟩
    case round =>
      obtain ⟨t, ht, rfl, rfl, hb⟩ := hrel
      by_cases hlt : t < cs.length
      · have hbW := HB3.out.trans (hb.mono HB3.out.size)
        obtain ⟨b, off, rfl, hbl, c1, c2⟩ := HP.out.below hbW t hlt
        obtain ⟨h0, h1, h2, h3, hH, hK⟩ := HH.out
        have g0 := (hb.cell (p := ⟨H, 0, none⟩) hH).trans h0
        have g1 := (hb.cell (p := ⟨H, 1, none⟩) hH).trans h1
        have g2 := (hb.cell (p := ⟨K, 0, none⟩) hK).trans h2
        have g3 := (hb.cell (p := ⟨K, 1, none⟩) hK).trans h3
        have hS1 := hid (fA_succ cs (cc, E1) t hlt)
        have hS2 := hid (fA_succ cs (E2, mm) t hlt)
        have j1 : (0 : Int) ≤ (t : Int) := by omega
        have j2 : (t : Int) < (cs.length : Int) := by omega
        unfold natV at c1 c2
        generalize pth cs t = xy at *
        obtain ⟨x, y⟩ := xy
        simp only at c1 c2
        have hE1 : ∀ w : World, (Op.equalIn 10000 31 (.agg #[.int .i64 (x : Int), .int .i64 (y : Int)]) (.agg #[.int .i64 (cc : Int), .int .i64 (E1 : Int)])).run Tryd.prog w = .ok (decide ((x, y) = (cc, E1))) w := fun w => by
          rw [pair_eq]
          congr 1
          rw [Bool.eq_iff_iff, Bool.and_eq_true, beq_iff_eq, beq_iff_eq, decide_eq_true_iff, Prod.mk.injEq]
          omega
        have hE2 : ∀ w : World, (Op.equalIn 10000 31 (.agg #[.int .i64 (x : Int), .int .i64 (y : Int)]) (.agg #[.int .i64 (E2 : Int), .int .i64 (mm : Int)])).run Tryd.prog w = .ok (decide ((x, y) = (E2, mm))) w := fun w => by
          rw [pair_eq]
          congr 1
          rw [Bool.eq_iff_iff, Bool.and_eq_true, beq_iff_eq, beq_iff_eq, decide_eq_true_iff, Prod.mk.injEq]
          omega
        have hgd : Tryd.prog.eqGuardType Tryd.prog.depth 31 = false := by kernel_rfl
        generalize decide ((x, y) = (cc, E1)) = B1 at *
        generalize decide ((x, y) = (E2, mm)) = B2 at *
        generalize fA cs (cc, E1) t = F1 at *
        generalize fA cs (E2, mm) t = F2 at *
        have Hb := hid hb
        have Hlt := hid hlt
        clear hb hlt hbW h0 h1 h2 h3 hH hK HH HL HA1 HA2 HIf HB3 hbl
        have o1 := fv_or1 F1 F2
        have o2 := fv_or2 F1 F2
        have o3 := fv_or2 true F2
        cases B1
        · cases B2
          · go_wp2_with fail
            go_quiet (fail)
            go_wp2_with fail
            go_quiet (fail)
            go_wp2_with fail
            go_roundw
            case rel => exact ⟨t + 1, Hlt.out, by go_num, by rw [hS1.out, hS2.out]; simp only [Bool.or_true, Bool.or_false], below_drewN Hb.out _⟩
            case measure => have := Hlt.out; simp [intOfV] <;> omega
          · go_wp2_with fail
            go_quiet (fail)
            go_wp2_with fail
            go_quiet (fail)
            go_wp2_with fail
            go_roundw
            case rel => exact ⟨t + 1, Hlt.out, by go_num, by rw [hS1.out, hS2.out]; simp only [Bool.or_true, Bool.or_false], below_drewN Hb.out _⟩
            case measure => have := Hlt.out; simp [intOfV] <;> omega
        · cases B2
          · go_wp2_with fail
            go_quiet (fail)
            go_wp2_with fail
            go_quiet (fail)
            go_wp2_with fail
            go_roundw
            case rel => exact ⟨t + 1, Hlt.out, by go_num, by rw [hS1.out, hS2.out]; simp only [Bool.or_true, Bool.or_false], below_drewN Hb.out _⟩
            case measure => have := Hlt.out; simp [intOfV] <;> omega
          · go_wp2_with fail
            go_quiet (fail)
            go_wp2_with fail
            go_quiet (fail)
            go_wp2_with fail
            go_roundw
            case rel => exact ⟨t + 1, Hlt.out, by go_num, by rw [hS1.out, hS2.out]; simp only [Bool.or_true, Bool.or_false], below_drewN Hb.out _⟩
            case measure => have := Hlt.out; simp [intOfV] <;> omega
      · have ht2 : t = cs.length := by omega
        have hF1 : fA cs (cc, E1) t = true := by rw [ht2]; exact HA1.out
        have hF2 : fA cs (E2, mm) t = true := by rw [ht2]; exact HA2.out
        rw [hF1, hF2]
        have hf3 : fv true true = 3 := by decide
        rw [hf3]
        have hbW := hid (HB3.out.trans (hb.mono HB3.out.size))
        obtain ⟨l0, l1, l2, l3, hl⟩ := HL.out
        have g0 := (hb.cell (p := ⟨W.heap.size, 0, none⟩) (show W.heap.size < wc.heap.size by omega)).trans l0
        have g1 := (hb.cell (p := ⟨W.heap.size, 1, none⟩) (show W.heap.size < wc.heap.size by omega)).trans l1
        have g2 := (hb.cell (p := ⟨W.heap.size + 1, 0, none⟩) (show W.heap.size + 1 < wc.heap.size by omega)).trans l2
        have g3 := (hb.cell (p := ⟨W.heap.size + 1, 1, none⟩) (show W.heap.size + 1 < wc.heap.size by omega)).trans l3
        have j2 : ¬ (t : Int) < (cs.length : Int) := by omega
        clear hb l0 l1 l2 l3 hl HL HH HB3 HA1 HA2 hF1 hF2 hlt ht ht2 hf3 hcm hmm'
        have HIf2 := HIf.out
        have hq : ((((cc : Nat) : Int) == (c : Int)) == (((mm : Nat) : Int) == (m' : Int))) = true := by
          by_cases h : cc = c
          · rw [h, HIf2.1 h]; simp
          · have h2 : ¬ mm = m' := fun x => h (HIf2.2 x)
            have e1 : (((cc : Nat) : Int) == (c : Int)) = false := by simp; omega
            have e2 : (((mm : Nat) : Int) == (m' : Int)) = false := by simp; omega
            rw [e1, e2]; rfl
        clear HIf HIf2
        go_wp2_with fail
        go_ret
        exact ⟨rfl, hbW.out⟩
end Go.Proofs.YtphcgggohfbmfaaDoor
