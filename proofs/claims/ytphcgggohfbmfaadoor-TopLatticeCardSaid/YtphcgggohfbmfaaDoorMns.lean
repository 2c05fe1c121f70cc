/- 'Menus': the smallest sets that feed every child, in memory. -/
import Derived.Test.YtphcgggohfbmfaaDoorPrs
namespace Go.Proofs.YtphcgggohfbmfaaDoor
open Go.RowKit Go.Maps
set_option linter.unusedSimpArgs false
set_option linter.unusedVariables false

theorem butN_pow (m j : Nat) (hm : m < 256) (hj : j < 8) : butN m (2 ^ j) = m &&& (255 - 2 ^ j) := by
  have hp : 2 ^ j < 256 := by have := Nat.pow_lt_pow_right (a := 2) (by omega) hj; simpa using this
  refine eq_bits fun k => ?_
  rw [but_N m (2 ^ j) k hm hp, Nat.testBit_and, Bool.and_eq_true, but_bit j k hj, Nat.testBit_two_pow, decide_eq_true_iff]
  constructor
  · rintro ⟨h1, h2⟩; exact ⟨h1, bit_lt (k := 8) hm h1, fun e => h2 e.symm⟩
  · rintro ⟨h1, _, h2⟩; exact ⟨h1, fun e => h2 e.symm⟩
/-- Of the first t members each is needed. -/
def lsT (R : Nat → Nat) (n m t : Nat) : Bool := ((mems m).take t).all fun j => !feedN R n (m &&& (255 - 2 ^ j))
theorem lsT_zero (R : Nat → Nat) (n m : Nat) : lsT R n m 0 = true := rfl
theorem lsT_succ (R : Nat → Nat) (n m t : Nat) (h : t < (mems m).length) : lsT R n m (t + 1) = (lsT R n m t && !feedN R n (m &&& (255 - 2 ^ (mems m)[t]))) := by
  unfold lsT
  rw [List.take_succ_eq_append_getElem h, List.all_append]
  simp
theorem lsT_all (R : Nat → Nat) (n m : Nat) : lsT R n m (mems m).length = (mems m).all fun j => !feedN R n (m &&& (255 - 2 ^ j)) := by
  unfold lsT; rw [List.take_length]
theorem least_no {R : Nat → Nat} {n m : Nat} (h : feedN R n m = false) : leastN R n m = false := by unfold leastN; rw [h]; rfl
theorem least_ls {R : Nat → Nat} {n m : Nat} (h : feedN R n m = true) : leastN R n m = lsT R n m (mems m).length := by unfold leastN; rw [h, lsT_all]; rfl
theorem menusN_le (R : Nat → Nat) (n k : Nat) : (menusN R n k).length ≤ k := by
  unfold menusN
  have := List.length_filter_le (leastN R n) (List.range k)
  simpa using this
theorem menusN_yes {R : Nat → Nat} {n k : Nat} (h : leastN R n k = true) : (menusN R n k).map natV ++ [natV k] = (menusN R n (k + 1)).map natV ∧ (menusN R n (k + 1)).length = (menusN R n k).length + 1 := by
  rw [menusN_succ, if_pos h]
  exact ⟨by simp, by simp⟩
theorem menusN_no {R : Nat → Nat} {n k : Nat} (h : leastN R n k = false) : menusN R n (k + 1) = menusN R n k := by
  rw [menusN_succ, if_neg (by rw [h]; decide)]
set_option maxRecDepth 100000 in
set_option maxHeartbeats 4000000 in
theorem menus_any (xs : List Int) (d : Nat) (hv : valE xs (d : Int) = 0) (a : Option Addr) (cap : Nat) (W : World) (hI : IntsAt W a xs) (hT : TabW W) :
    Calls Tryd.prog 4 #[.slice a xs.length cap, .int .i64 (d : Nat)] W fun e w' => ∃ v, e = .returned (.tuple #[v, .int .i64 0]) ∧ w'.ownsRow W.heap.size 3 1 v (menusN (rowN xs) xs.length (2 ^ d)).length ((menusN (rowN xs) xs.length (2 ^ d)).map natV) ∧ Below W.heap.size W w' := by
  have hk := (val_ok hv).2
  rw [Int.toNat_natCast] at hk
  have hV := val_any xs (d : Int) a cap W hI
  rw [hv] at hV
  have HV := hid hV
  have HFd := hid (fun m (hm : m < 256) w hb => feeds_any xs d m hk hm a cap w (hI.below hb))
  have HLi := hid (fun m (hm : m < 256) w hb => list_any m hm w (hT.below hT.lt hb hb.size))
  have hsh := shl_nat d hk.d8
  have hN256 : 2 ^ d ≤ 256 := by have := Nat.pow_le_pow_right (n := 2) (by omega) hk.d8; simpa using this
  obtain ⟨i0, hi0, hz0, hz1, hz2⟩ := info_parts info3
  have hd0 : (0 : Int) ≤ (d : Int) := by omega
  generalize hNN : 2 ^ d = N at *
  have hsh2 : wrap64 ((2 : Int) ^ min d 64) = ((N : Nat) : Int) := by rw [show min d 64 = d by have := hk.d8; omega]; exact hsh
  clear hk hv hV hI hT hNN hsh
  generalize hRR : rowN xs = R at *
  go_enter Tryd.func4, Tryd.ntmps4
  go_wp2_with fail
  refine HV.out.mono ?_
  rintro e w1 ⟨rfl, hb⟩
  have HB1 := hid hb
  clear hb HV
  go_wp2_with fail
  rw [hsh2]
  clear hsh2
  go_loopw [7, 8, 9, 11, 20] (fun v7 v8 v9 v11 v20 w' => ∃ (k : Nat), v20 = .int .i64 (k : Nat) ∧ k ≤ N ∧ w'.ownsRow W.heap.size 3 1 v7 (menusN R xs.length k).length ((menusN R xs.length k).map natV) ∧ Below W.heap.size W w') (fun _ _ _ _ v20 _ => N - intOfV v20)
  case atStart => exact ⟨0, rfl, by omega, World.ownsRow_nil _ _ _ _, HB1.out⟩
  case round =>
    obtain ⟨k, rfl, hk, ho, hb⟩ := hrel
    by_cases hlt : k < N
    · have hll := menusN_le R xs.length k
      have HC1 := hid (HFd.out k (by omega) wr hb)
      have HC2 := hid (HLi.out k (by omega))
      have hY := hid (menusN_yes (R := R) (n := xs.length) (k := k))
      have hNo := hid (menusN_no (R := R) (n := xs.length) (k := k))
      have hL0 := hid (least_no (R := R) (n := xs.length) (m := k))
      have hL1 := hid (least_ls (R := R) (n := xs.length) (m := k))
      have hLs := hid (lsT_succ R xs.length k)
      have h2n := hid (butN_pow k)
      have i3 : (k : Int) < (N : Int) := by omega
      have hk256 : k < 256 := by omega
      obtain ⟨a3, k3, e3⟩ := row_shape ho
      subst e3
      have HO := hid ho
      have HB := hid hb
      have Hlt := hid hlt
      clear ho hb hlt hk
      go_wp2_with fail
      refine HC1.out.mono ?_
      rintro e w2 ⟨rfl, hb2⟩
      have HO2 := hid (own_below HO.out hb2)
      have HB2 := hid (HB.out.trans (hb2.mono HB.out.size))
      clear hb2 HC1 HO HB
      by_cases hf : feedN R xs.length k = true
      · rw [hf]
        have hL1 := hid (hL1.out hf)
        clear hL0
        go_wp2_with fail
        refine (HC2.out w2 HB2.out).mono ?_
        rintro e w3 ⟨v, rfl, hoL, hb3⟩
        have HO3 := hid (own_below HO2.out hb3)
        have HB3 := hid (HB2.out.trans (hb3.mono HB2.out.size))
        have em : (mems k).map natV = ((mems k).map fun i => ((i : Nat) : Int)).map (Value.int .i64) := by simp [natV, Function.comp_def]
        have el : (mems k).length = ((mems k).map fun i => ((i : Nat) : Int)).length := by simp
        rw [em, el] at hoL
        obtain ⟨a4, k4, rfl, hI4, _, _⟩ := own_ints hoL
        rw [← el]
        have HI4 := hid hI4
        have Hel := hid el
        have hl8 := mems_le k
        clear hb3 HC2 HO2 HB2 hoL em el hI4
        go_wp2_with fail
        obtain ⟨wo, hwo⟩ : ∃ wo, wo = wr := ⟨_, rfl⟩
        subst hwo
        go_loopw [9, 11, 30] (fun v9 v11 v30 w' => ∃ (t : Nat), v30 = .int .i64 (t : Nat) ∧ t ≤ (mems k).length ∧ v9 = .bool (lsT R xs.length k t) ∧ Below w3.heap.size w3 w') (fun _ _ v30 _ => (mems k).length - intOfV v30)
        case atStart => exact ⟨0, rfl, by omega, by rw [lsT_zero], Below.refl _ _⟩
        case round =>
          obtain ⟨t, rfl, ht, rfl, hb⟩ := hrel
          by_cases hlt2 : t < (mems k).length
          · obtain ⟨i, hi⟩ : ∃ i, (mems k)[t] = i := ⟨_, rfl⟩
            have hmem := mem_mems.1 (hi ▸ List.getElem_mem hlt2 : i ∈ mems k)
            obtain ⟨b4, o4, rfl, hb4, c4⟩ := HI4.out.below hb t (by rw [← Hel.out]; exact hlt2)
            have e4 : nth ((mems k).map fun i => ((i : Nat) : Int)) t = ((i : Nat) : Int) := by simp [nth, List.getD, hlt2, hi]
            rw [e4] at c4
            have hS := hLs.out t hlt2
            rw [hi, ← h2n.out i hk256 hmem.1] at hS
            have hi8 := hmem.1
            have hsh := shl_nat i (by omega)
            have hp8 : 2 ^ i < 256 := by have := Nat.pow_lt_pow_right (a := 2) (by omega) hi8; simpa using this
            have hbut0 := bits_but_nat k (2 ^ i) hk256 hp8
            have hbut : bits BinOp.andNot IntKind.i64 (k : Int) ((2 : Int) ^ i) = ((butN k (2 ^ i) : Nat) : Int) := by rw [← hbut0]; simp
            have hbl := butN_le k (2 ^ i)
            have HBr := hid (HB3.out.trans (hb.mono HB3.out.size))
            have HFC := hid (HFd.out (butN k (2 ^ i)) (by omega) wr HBr.out)
            have i1 : (0 : Int) ≤ (i : Int) := by omega
            have j1 : (0 : Int) ≤ (t : Int) := by omega
            have j2 : (t : Int) < ((mems k).length : Int) := by omega
            have Hbb := hid hb
            have HS := hid hS
            have Hlt2 := hid hlt2
            clear hi hmem e4 hb hS hlt2 hL1 hY hNo hbl hbut0
            generalize lsT R xs.length k t = B at *
            cases B
            · clear HFC
              go_wp2_with fail
              go_roundw
              case rel => exact ⟨t + 1, by go_num, Hlt2.out, by rw [HS.out]; rfl, Hbb.out⟩
              case measure => have := Hlt2.out; simp [intOfV] <;> omega
            · generalize butN k (2 ^ i) = q at *
              go_wp2_with fail
              refine HFC.out.mono ?_
              rintro e w4 ⟨rfl, hb5⟩
              have HB5 := hid (Hbb.out.trans (hb5.mono Hbb.out.size))
              have HS2 : Hid (lsT R xs.length k (t + 1) = !feedN R xs.length q) := hid HS.out
              clear hb5 HFC HS
              generalize feedN R xs.length q = B2 at *
              go_wp2_with fail
              go_roundw
              case rel => exact ⟨t + 1, by go_num, Hlt2.out, by rw [HS2.out], HB5.out⟩
              case measure => have := Hlt2.out; simp [intOfV] <;> omega
          · have ht2 : t = (mems k).length := by omega
            have HQ : Hid (leastN R xs.length k = lsT R xs.length k t) := hid (by rw [hL1.out, ht2])
            have HO4 := hid (own_below HO3.out hb)
            have HB4 := hid (HB3.out.trans (hb.mono HB3.out.size))
            have j2 : ¬ (t : Int) < ((mems k).length : Int) := by omega
            clear ht2 hb hL1 HO3 HB3 HI4 hlt2 ht
            generalize lsT R xs.length k t = B at *
            cases B
            · have hNo := hid (hNo.out HQ.out)
              have HO5 : Hid (wr.ownsRow W.heap.size 3 1 (.slice a3 (menusN R xs.length k).length k3) (menusN R xs.length (k + 1)).length ((menusN R xs.length (k + 1)).map natV)) := hid (by rw [hNo.out]; exact HO4.out)
              clear hNo HO4 hY
              generalize (menusN R xs.length k).length = L at *
              go_wp2_with fail
              go_roundw
              case rel => exact ⟨k + 1, by go_num, Hlt.out, HO5.out, HB4.out⟩
              case measure => have := Hlt.out; simp [intOfV] <;> omega
            · have hY := hid (hY.out HQ.out)
              clear hNo HQ
              generalize menusN R xs.length k = L at *
              have hs3 := HB4.out.size
              go_wp2_with (at_builtin; go_loud (refine wpList_append_own_at (o := ⟨some 49, _, _, _, _, _⟩) _ rfl _ _ 22 rfl W.heap.size 3 i0 (.int .i64 0) 1 8 Tryd.underlying22 hi0 hz0 hz1 hz2 rfl (by decide) _ _ _ rfl (HO4.out.alloc _) ⟨wr.heap.size, 0, none⟩ 1 1 [natV k] rfl rfl (news_one wr (natV k) 3).out (by simp [Value.oneCell', natV]) (by unfold maxLen; omega) (by omega) (by simp; omega) ?_); intro v' w6 hown6 hgrow6 _ _)
              have hb6 : Below W.heap.size W w6 := (HB4.out.alloc hs3 _).grown hgrow6 (by simp; omega) fun j hj => (HO4.out.lt j hj).1
              have ho6 : w6.ownsRow W.heap.size 3 1 v' (menusN R xs.length (k + 1)).length ((menusN R xs.length (k + 1)).map natV) := by
                rw [hY.out.2, ← hY.out.1]; exact hown6
              have HB6 := hid hb6
              have HO6 := hid ho6
              clear hown6 hgrow6 hb6 ho6 HO4 HB4 hY
              go_roundw
              case rel => exact ⟨k + 1, by go_num, Hlt.out, HO6.out, HB6.out⟩
              case measure => have := Hlt.out; simp [intOfV] <;> omega
      · have hf0 : feedN R xs.length k = false := by simpa using hf
        have hNo := hid (hNo.out (hL0.out hf0))
        have HO5 : Hid (w2.ownsRow W.heap.size 3 1 (.slice a3 (menusN R xs.length k).length k3) (menusN R xs.length (k + 1)).length ((menusN R xs.length (k + 1)).map natV)) := hid (by rw [hNo.out]; exact HO2.out)
        rw [hf0]
        clear hNo HO2 hY hL1 hL0 hf hf0 hLs
        generalize (menusN R xs.length k).length = L at *
        go_wp2_with fail
        go_roundw
        case rel => exact ⟨k + 1, by go_num, Hlt.out, HO5.out, HB2.out⟩
        case measure => have := Hlt.out; simp [intOfV] <;> omega
    · have hkN : k = N := by omega
      rw [hkN] at ho
      have HO := hid ho
      have HB := hid hb
      have i3 : ¬ (k : Int) < (N : Int) := by omega
      clear ho hb hkN
      go_wp2_with fail
      go_ret2
      exact ⟨_, rfl, HO.out, HB.out⟩
end Go.Proofs.YtphcgggohfbmfaaDoor
