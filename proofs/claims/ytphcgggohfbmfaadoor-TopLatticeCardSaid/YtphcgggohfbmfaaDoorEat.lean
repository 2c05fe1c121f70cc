/- What all children of a set can eat; who can eat all of a set. -/
import Derived.Test.YtphcgggohfbmfaaDoorList
namespace Go.Proofs.YtphcgggohfbmfaaDoor
open Go.RowKit Go.Maps
set_option linter.unusedSimpArgs false
set_option linter.unusedVariables false

def rowN (xs : List Int) (i : Nat) : Nat := (nth xs i).toNat
theorem fold_lt (R : Nat → Nat) (d : Nat) (hd : d ≤ 8) (l : List Nat) : l.foldl (fun m i => m &&& R i) (2 ^ d - 1) < 256 := by
  refine Nat.lt_of_lt_of_le (lt_bits (k := d) fun j h => ?_) (by have := Nat.pow_le_pow_right (n := 2) (by omega) hd; simpa using this)
  have := ((foldl_and R j l _).1 h).1
  rw [Nat.testBit_two_pow_sub_one] at this
  simpa using this
structure TblOK (xs : List Int) (d : Nat) : Prop where
  n8 : xs.length ≤ 8
  d8 : d ≤ 8
  el : ∀ i, i < xs.length → 0 ≤ nth xs i ∧ nth xs i < (2 ^ d : Nat)
set_option maxRecDepth 100000 in
set_option maxHeartbeats 2000000 in
theorem eaten_any (xs : List Int) (d c : Nat) (hk : TblOK xs d) (hc : c < 2 ^ xs.length) (a : Option Addr) (cap : Nat) (W : World) (hI : IntsAt W a xs) (hT : TabW W) :
    Calls Tryd.prog 11 #[.slice a xs.length cap, .int .i64 (d : Nat), .int .i64 (c : Nat)] W fun e w' => e = .returned (.int .i64 (eatN (rowN xs) d c : Nat)) ∧ Below W.heap.size W w' := by
  have HK := hid hk
  have HI := hid hI
  have Hc := hid hc
  have hc8 : c < 256 := Nat.lt_of_lt_of_le hc (by have := Nat.pow_le_pow_right (n := 2) (by omega) hk.n8; simpa using this)
  have HL := hid (list_any c hc8 W hT)
  have d8 := hk.d8
  have hd0 : (0 : Int) ≤ (d : Int) := by omega
  clear hT hI hc hk
  go_enter Tryd.func11, Tryd.ntmps11
  go_wp2_with fail
  have hp : wrap64 (wrap64 ((2 : Int) ^ d) - 1) = ((2 ^ d - 1 : Nat) : Int) := by
    have key : ∀ d : Fin 9, wrap64 (wrap64 ((2 : Int) ^ d.1) - 1) = ((2 ^ d.1 - 1 : Nat) : Int) := by decide +kernel
    exact key ⟨d, by omega⟩
  rw [hp]
  clear hp
  generalize wrap64 ((2 : Int) ^ d) = z at *
  refine HL.out.mono ?_
  rintro e w1 ⟨v, rfl, ho, hb⟩
  have em : (mems c).map natV = ((mems c).map fun i => ((i : Nat) : Int)).map (Value.int .i64) := by simp [natV, Function.comp_def]
  have el : (mems c).length = ((mems c).map fun i => ((i : Nat) : Int)).length := by simp
  rw [em, el] at ho
  obtain ⟨a4, k4, rfl, hI4, _, _⟩ := own_ints ho
  rw [← el]
  have HI4 := hid hI4
  have HI1 := hid (HI.out.below hb)
  have HB := hid hb
  have Hel := hid el
  have hl8 := mems_le c
  clear ho hb em el hI4 HL
  go_wp2_with fail
  go_loopw [7, 9, 16] (fun v7 v9 v16 w' => ∃ (j : Nat), v16 = .int .i64 (j : Nat) ∧ j ≤ (mems c).length ∧ v7 = natV (((mems c).take j).foldl (fun m i => m &&& rowN xs i) (2 ^ d - 1)) ∧ Below w1.heap.size w1 w') (fun _ _ v16 _ => (mems c).length - intOfV v16)
  case atStart => exact ⟨0, rfl, by omega, rfl, Below.refl _ _⟩
  case round =>
    obtain ⟨j, rfl, hj, rfl, hb⟩ := hrel
    by_cases hlt : j < (mems c).length
    · obtain ⟨i, hi⟩ : ∃ i, (mems c)[j] = i := ⟨_, rfl⟩
      have hmem := mem_mems.1 (hi ▸ List.getElem_mem hlt : i ∈ mems c)
      have hix : i < xs.length := bit_lt Hc.out hmem.2
      have hv := HK.out.el i hix
      have hpow : 2 ^ d ≤ 256 := by have := Nat.pow_le_pow_right (n := 2) (by omega) d8; simpa using this
      obtain ⟨b4, o4, rfl, hb4, c4⟩ := HI4.out.below hb j (by rw [← Hel.out]; exact hlt)
      obtain ⟨b1, o1, rfl, hb1, c1⟩ := HI1.out.below hb i hix
      have e4 : nth ((mems c).map fun i => ((i : Nat) : Int)) j = ((i : Nat) : Int) := by simp [nth, List.getD, hlt, hi]
      rw [e4] at c4
      have e1 : nth xs i = ((rowN xs i : Nat) : Int) := by unfold rowN; omega
      rw [e1] at c1
      have hr8 : rowN xs i < 256 := by omega
      have hf := fold_lt (rowN xs) d d8 ((mems c).take j)
      have hS : Hid (((mems c).take (j + 1)).foldl (fun m i => m &&& rowN xs i) (2 ^ d - 1) = ((mems c).take j).foldl (fun m i => m &&& rowN xs i) (2 ^ d - 1) &&& rowN xs i) := hid (by
        rw [List.take_succ_eq_append_getElem hlt, List.foldl_append, hi]; rfl)
      have hband := bits_and_nat (((mems c).take j).foldl (fun m i => m &&& rowN xs i) (2 ^ d - 1)) (rowN xs i) (by omega) (by omega)
      have i1 : (0 : Int) ≤ (i : Int) := by omega
      have i2 : (i : Int) < (xs.length : Int) := by omega
      have i3 : (0 : Int) ≤ (j : Int) := by omega
      have i4 : (j : Int) < ((mems c).length : Int) := by omega
      have HBr := hid hb
      have Hlt := hid hlt
      clear hi hmem hix hv e4 e1 hb hf hlt
      generalize ((mems c).take j).foldl (fun m i => m &&& rowN xs i) (2 ^ d - 1) = M at *
      generalize rowN xs i = r at *
      unfold natV
      go_wp2_with fail
      go_roundw
      case rel => exact ⟨j + 1, by go_num, Hlt.out, by rw [hS.out], HBr.out⟩
      case measure => have := Hlt.out; simp [intOfV] <;> omega
    · have hj2 : j = (mems c).length := by omega
      have HE : Hid (((mems c).take j).foldl (fun m i => m &&& rowN xs i) (2 ^ d - 1) = eatN (rowN xs) d c) := hid (by rw [hj2, List.take_length]; rfl)
      have i4 : ¬ (j : Int) < ((mems c).length : Int) := by omega
      have HBr := hid (HB.out.trans (hb.mono HB.out.size))
      clear hj2 hb
      generalize ((mems c).take j).foldl (fun m i => m &&& rowN xs i) (2 ^ d - 1) = M at *
      unfold natV
      go_wp2_with fail
      go_ret
      exact ⟨by rw [← HE.out]; rfl, HBr.out⟩
end Go.Proofs.YtphcgggohfbmfaaDoor
