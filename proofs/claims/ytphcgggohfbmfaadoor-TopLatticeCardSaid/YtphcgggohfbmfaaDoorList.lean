/- The members of a set as a list. -/
import Derived.Test.YtphcgggohfbmfaaDoorTz
import Derived.Test.YtphcgggohfbmfaaDoorQuietB
namespace Go.Proofs.YtphcgggohfbmfaaDoor
open Go.RowKit Go.Maps
set_option linter.unusedSimpArgs false
set_option linter.unusedVariables false

structure TabW (w : World) : Prop where
  lt : 1 < w.heap.size
  tab : Tab64 w
theorem TabW.below {w w' : World} {B : Nat} (h : TabW w) (hB : 1 < B) (hb : Below B w w') (hs : B ≤ w'.heap.size) : TabW w' :=
  ⟨by omega, fun j hj => (hb.cell (p := ⟨1, j, none⟩) hB).trans (h.tab j hj)⟩
def natV (i : Nat) : Value := .int .i64 (i : Nat)
theorem bits_and_nat (a b : Nat) (ha : a < 9223372036854775808) (hb : b < 9223372036854775808) : bits .and .i64 (a : Int) (b : Int) = ((a &&& b : Nat) : Int) := by
  have hx : a &&& b ≤ a := Nat.and_le_left
  have h1 : (BitVec.ofInt 64 (a : Int)).toNat = a := by
    rw [BitVec.ofInt_natCast, BitVec.toNat_ofNat]; exact Nat.mod_eq_of_lt (by omega)
  have h2 : (BitVec.ofInt 64 (b : Int)).toNat = b := by
    rw [BitVec.ofInt_natCast, BitVec.toNat_ofNat]; exact Nat.mod_eq_of_lt (by omega)
  show IntKind.i64.wrap ((BitVec.ofInt 64 (a : Int) &&& BitVec.ofInt 64 (b : Int)).toNat : Int) = _
  rw [BitVec.toNat_and, h1, h2, IntKind.wrap_i64]
  omega
theorem bits_or_nat (a b : Nat) (ha : a < 256) (hb : b < 256) : bits .or .i64 (a : Int) (b : Int) = ((a ||| b : Nat) : Int) := by
  have hx : a ||| b < 2 ^ 8 := Nat.or_lt_two_pow (by omega) (by omega)
  have h1 : (BitVec.ofInt 64 (a : Int)).toNat = a := by
    rw [BitVec.ofInt_natCast, BitVec.toNat_ofNat]; exact Nat.mod_eq_of_lt (by omega)
  have h2 : (BitVec.ofInt 64 (b : Int)).toNat = b := by
    rw [BitVec.ofInt_natCast, BitVec.toNat_ofNat]; exact Nat.mod_eq_of_lt (by omega)
  show IntKind.i64.wrap ((BitVec.ofInt 64 (a : Int) ||| BitVec.ofInt 64 (b : Int)).toNat : Int) = _
  rw [BitVec.toNat_or, h1, h2, IntKind.wrap_i64]
  omega
theorem news_one (w : World) (x : Value) (e : TypeId) : Hid (∀ t u, ([x])[t]? = some u → (w.alloc (.cells #[x] e)).cell? ((⟨w.heap.size, 0, none⟩ : Addr).add t) = some u) := by
  have := World.news_of_block (cs := #[x]) (t := e) (fr := (0, 0)) (heap_alloc_new w (.cells #[x] e))
  exact hid (by simpa using this)
theorem row_shape {w : World} {B n z : Nat} {e : TypeId} {v : Value} {xs : List Value} (h : w.ownsRow B e z v n xs) : ∃ a cap, v = .slice a n cap := by
  rcases h.2 with ⟨rfl, rfl⟩ | ⟨g, cap, cur, rfl, _⟩
  · exact ⟨_, _, rfl⟩
  · exact ⟨_, _, rfl⟩
theorem mems_le (m : Nat) : (mems m).length ≤ 8 := by
  have := List.length_filter_le (fun i => m.testBit i) (List.range 8)
  simpa [mems] using this
def intOfV (v : Value) : Nat := match v with | .int _ x => x.toNat | _ => 0
set_option maxRecDepth 100000 in
set_option maxHeartbeats 2000000 in
theorem list_any (m : Nat) (hm : m < 256) (W : World) (hT : TabW W) :
    Calls Tryd.prog 10 #[.int .i64 (m : Nat)] W fun e w' => ∃ v, e = .returned v ∧ w'.ownsRow W.heap.size 3 1 v (mems m).length ((mems m).map natV) ∧ Below W.heap.size W w' := by
  have HT := hid hT
  have HM := hid hm
  clear hT hm
  obtain ⟨i0, hi0, hz0, hz1, hz2⟩ := info_parts info3
  go_enter Tryd.func10, Tryd.ntmps10
  go_wp2_with fail
  go_loopw [0, 3] (fun v0 v3 w' => ∃ (c : Nat) (l : List Nat), v0 = .int .i64 (c : Nat) ∧ c < 256 ∧ Hid (mems m = l ++ mems c) ∧ Below W.heap.size W w' ∧ w'.ownsRow W.heap.size 3 1 v3 l.length (l.map natV)) (fun v0 _ _ => intOfV v0)
  case atStart => exact ⟨m, [], rfl, HM.out, hid rfl, Below.refl _ _, World.ownsRow_nil _ _ _ _⟩
  case round =>
    obtain ⟨c, l, rfl, hc, HL, hb, ho⟩ := hrel
    by_cases h0 : c = 0
    · subst h0
      have ho' : wr.ownsRow W.heap.size 3 1 u3 (mems m).length ((mems m).map natV) := by
        rw [HL.out, show mems 0 = [] by decide, List.append_nil]; exact ho
      have HO := hid ho'
      have HB := hid hb
      clear ho ho' hb
      go_wp2_with fail
      go_ret
      exact ⟨_, rfl, HO.out, HB.out⟩
    · obtain ⟨t8, tb, tm, tlt⟩ := ctz_small ⟨c, hc⟩ h0
      simp only at t8 tb tm tlt
      have hl8 : l.length ≤ 8 := by have h := congrArg List.length HL.out; rw [List.length_append] at h; have := mems_le m; omega
      have HC := hid (tz_any c (by omega) h0 wr (HT.out.below HT.out.lt hb hb.size).tab)
      have hconv : IntKind.u64.wrap (c : Int) = (c : Int) := by rw [IntKind.wrap_u64]; omega
      have hband : bits BinOp.and IntKind.i64 (c : Int) ((c : Int) - 1) = ((c &&& (c - 1) : Nat) : Int) := by
        rw [← bits_and_nat c (c - 1) (by omega) (by omega)]
        congr 1
        omega
      have hne : ((c : Int) == 0) = false := by simp; omega
      have HL2 : Hid (mems m = (l ++ [Lib.ctz 64 c]) ++ mems (c &&& (c - 1))) := hid (by rw [HL.out, tm]; simp)
      have HO := hid ho
      have HB := hid hb
      have Hlt := hid tlt
      have hs := hb.size
      obtain ⟨a3, k3, e3⟩ := row_shape ho
      subst e3
      generalize Lib.ctz 64 c = t at *
      clear ho hb tb tm tlt HL h0
      generalize c &&& (c - 1) = c2 at *
      go_wp2_with fail
      refine HC.out.mono ?_
      rintro e w1 ⟨rfl, hw1⟩
      rw [hw1]
      clear HC hw1 w1
      go_wp2_with (at_builtin; go_loud (refine wpList_append_own_at (o := ⟨some 15, _, _, _, _, _⟩) _ rfl _ _ 22 rfl W.heap.size 3 i0 (.int .i64 0) 1 8 Tryd.underlying22 hi0 hz0 hz1 hz2 rfl (by decide) _ _ _ rfl (HO.out.alloc _) ⟨wr.heap.size, 0, none⟩ 1 1 [natV t] rfl rfl (news_one wr (natV t) 3).out (by simp [Value.oneCell', natV]) (by unfold maxLen; omega) (by omega) (by simp; omega) ?_); intro v' w6 hown6 hgrow6 _ _)
      have hb6 : Below W.heap.size W w6 := (HB.out.alloc HB.out.size _).grown hgrow6 (by simp; omega) fun k hk => (HO.out.lt k hk).1
      have ho6 : w6.ownsRow W.heap.size 3 1 v' (l ++ [t]).length ((l ++ [t]).map natV) := by
        rw [List.length_append, List.map_append]; exact hown6
      have HB6 := hid hb6
      have HO6 := hid ho6
      clear hown6 hgrow6 hb6 ho6 HO HB
      go_wp2_with fail
      go_roundw
      case rel => exact ⟨c2, l ++ [t], rfl, by have := Hlt.out; omega, HL2, HB6.out, HO6.out⟩
      case measure => have := Hlt.out; simp [intOfV]; omega
end Go.Proofs.YtphcgggohfbmfaaDoor
