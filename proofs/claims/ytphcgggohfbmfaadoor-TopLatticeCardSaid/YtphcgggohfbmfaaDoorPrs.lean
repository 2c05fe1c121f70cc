/- 'Pairs': all whole pairs of a table, in memory. -/
import Derived.Test.YtphcgggohfbmfaaDoorAsk
namespace Go.Proofs.YtphcgggohfbmfaaDoor
open Go.RowKit Go.Maps
set_option linter.unusedSimpArgs false
set_option linter.unusedVariables false

def pth (cs : List (Nat × Nat)) (i : Nat) : Nat × Nat := cs.getD i (0, 0)
def flatP : List (Nat × Nat) → List Value
  | [] => []
  | c :: r => natV c.1 :: natV c.2 :: flatP r
theorem flatP_len (cs : List (Nat × Nat)) : (flatP cs).length = cs.length * 2 := by
  induction cs with
  | nil => rfl
  | cons c r ih => simp only [flatP, List.length_cons, ih]; omega
theorem flatP_app (cs ds : List (Nat × Nat)) : flatP (cs ++ ds) = flatP cs ++ flatP ds := by
  induction cs with
  | nil => rfl
  | cons c r ih => simp only [List.cons_append, flatP, ih]
theorem flatP_at (cs : List (Nat × Nat)) : ∀ i, i < cs.length → (flatP cs)[i * 2]? = some (natV (pth cs i).1) ∧ (flatP cs)[i * 2 + 1]? = some (natV (pth cs i).2) := by
  induction cs with
  | nil => intro i hi; simp at hi
  | cons c r ih =>
    intro i hi
    cases i with
    | zero => exact ⟨rfl, rfl⟩
    | succ i =>
      have h := ih i (by simpa using hi)
      have e0 : (i + 1) * 2 = i * 2 + 1 + 1 := by omega
      have e1 : (i + 1) * 2 + 1 = i * 2 + 1 + 1 + 1 := by omega
      rw [e1, e0]
      simp only [flatP, List.getElem?_cons_succ]
      exact h
/-- The slice at a holds the pairs cs. -/
def PairsAt (w : World) (a : Option Addr) (cs : List (Nat × Nat)) : Prop :=
  ∀ i, i < cs.length → ∃ b off, a = some ⟨b, off, none⟩ ∧ b < w.heap.size ∧ w.cell? ⟨b, off + i * 2, none⟩ = some (natV (pth cs i).1) ∧ w.cell? ⟨b, off + i * 2 + 1, none⟩ = some (natV (pth cs i).2)
theorem PairsAt.below {w w' : World} {a : Option Addr} {cs : List (Nat × Nat)} (h : PairsAt w a cs) (hb : Below w.heap.size w w') : PairsAt w' a cs := by
  intro i hi
  obtain ⟨b, off, e, hlt, h1, h2⟩ := h i hi
  exact ⟨b, off, e, Nat.lt_of_lt_of_le hlt hb.size, by rw [hb.cell (p := ⟨b, off + i * 2, none⟩) hlt]; exact h1, by rw [hb.cell (p := ⟨b, off + i * 2 + 1, none⟩) hlt]; exact h2⟩
theorem own_pairs {w : World} {B : Nat} {v : Value} {cs : List (Nat × Nat)} (h : w.ownsRow B 31 2 v cs.length (flatP cs)) : ∃ a cap, v = .slice a cs.length cap ∧ PairsAt w a cs := by
  obtain ⟨_, h2⟩ := h
  rcases h2 with ⟨rfl, h0⟩ | ⟨gb, cap, cur, rfl, hb, hg, hn, hcm, hcs, htake⟩
  · exact ⟨none, 0, by rw [h0], fun i hi => by omega⟩
  · refine ⟨some ⟨gb, 0, none⟩, cap, rfl, fun i hi => ⟨gb, 0, rfl, (Array.getElem?_eq_some_iff.1 hg).1, ?_⟩⟩
    have key : ∀ j, j < cs.length * 2 → w.cell? ⟨gb, 0 + j, none⟩ = (flatP cs)[j]? := by
      intro j hj
      rw [cell_of_row w gb (0 + j) cur 31 (0, 0) hg, Nat.zero_add]
      have e : (cur.toList.take (cs.length * 2))[j]? = (flatP cs)[j]? := by rw [htake]
      rw [List.getElem?_take, if_pos (by omega)] at e
      rw [← Array.getElem?_toList, e]
    obtain ⟨f0, f1⟩ := flatP_at cs i hi
    have k0 := key (i * 2) (by omega)
    have k1 := key (i * 2 + 1) (by omega)
    rw [f0] at k0
    rw [f1] at k1
    exact ⟨k0, by simpa [Nat.add_assoc] using k1⟩
theorem info31 : (Tryd.prog.info? 31).map (fun i => (i.zero, i.size, i.bytes)) = some (some (.agg #[.int .i64 0, .int .i64 0]), 2, 16) := by kernel_rfl
theorem pairsN_le (R : Nat → Nat) (n d k : Nat) : (pairsN R n d k).length ≤ k := by
  unfold pairsN
  have := List.length_filter_le (fun c => etrN R (eatN R d c) n == c) (List.range k)
  simpa using this
theorem pairsN_yes {R : Nat → Nat} {n d k : Nat} (h : etrN R (eatN R d k) n = k) : flatP (pairsN R n d k) ++ [natV k, natV (eatN R d k)] = flatP (pairsN R n d (k + 1)) ∧ (pairsN R n d (k + 1)).length = (pairsN R n d k).length + 1 := by
  rw [pairsN_succ, if_pos h, flatP_app]
  exact ⟨rfl, by simp⟩
theorem pairsN_no {R : Nat → Nat} {n d k : Nat} (h : etrN R (eatN R d k) n ≠ k) : pairsN R n d (k + 1) = pairsN R n d k := by
  rw [pairsN_succ, if_neg h]
theorem news_two (w : World) (x y : Value) (e : TypeId) : Hid (∀ t u, ([x, y])[t]? = some u → (w.alloc (.cells #[x, y] e)).cell? ((⟨w.heap.size, 0, none⟩ : Addr).add t) = some u) := by
  have := World.news_of_block (cs := #[x, y]) (t := e) (fr := (0, 0)) (heap_alloc_new w (.cells #[x, y] e))
  exact hid (by simpa using this)
set_option maxRecDepth 100000 in
/-- 'Pairs' of a table that is wrong. -/
theorem pairs_err (xs : List Int) (D : Int) (hv : valE xs D ≠ 0) (a : Option Addr) (cap : Nat) (W : World) (hI : IntsAt W a xs) :
    Calls Tryd.prog 6 #[.slice a xs.length cap, .int .i64 D] W fun e w' => e = .returned (.tuple #[.slice none 0 0, .int .i64 (valE xs D)]) ∧ Below W.heap.size W w' := by
  have HV := hid (val_any xs D a cap W hI)
  have hne : (valE xs D == 0) = false := by simpa using hv
  clear hI hv
  generalize valE xs D = E at *
  go_enter Tryd.func6, Tryd.ntmps6
  go_wp2_with fail
  refine HV.out.mono ?_
  rintro e w1 ⟨rfl, hb⟩
  have HZ := hid hb
  clear hb HV
  go_wp2_with fail
  go_ret2
  exact ⟨rfl, HZ.out⟩
set_option maxRecDepth 100000 in
set_option maxHeartbeats 2000000 in
theorem pairs_any (xs : List Int) (d : Nat) (hv : valE xs (d : Int) = 0) (a : Option Addr) (cap : Nat) (W : World) (hI : IntsAt W a xs) (hT : TabW W) :
    Calls Tryd.prog 6 #[.slice a xs.length cap, .int .i64 (d : Nat)] W fun e w' => ∃ v, e = .returned (.tuple #[v, .int .i64 0]) ∧ w'.ownsRow W.heap.size 31 2 v (pairsN (rowN xs) xs.length d (2 ^ xs.length)).length (flatP (pairsN (rowN xs) xs.length d (2 ^ xs.length))) ∧ Below W.heap.size W w' := by
  have hk := (val_ok hv).2
  rw [Int.toNat_natCast] at hk
  have hV := val_any xs (d : Int) a cap W hI
  rw [hv] at hV
  have HV := hid hV
  have hn8 := hk.n8
  have HEat := hid (fun c (hc : c < 2 ^ xs.length) w hb => eaten_any xs d c hk hc a cap w (hI.below hb) (hT.below hT.lt hb hb.size))
  have HEtr := hid (fun m (hm : m < 256) w hb => eaters_any xs d m hk hm a cap w (hI.below hb))
  have h2d : 2 ^ d ≤ 256 := by have := Nat.pow_le_pow_right (n := 2) (by omega) hk.d8; simpa using this
  have hlt8 := hid (fun c => Nat.lt_of_lt_of_le (eat_lt (rowN xs) d c) h2d)
  have hsh := shl_nat xs.length hn8
  have hmin : min xs.length 64 = xs.length := by omega
  have hN : Hid ((2 : Int) ^ xs.length = ((2 ^ xs.length : Nat) : Int)) := hid (by simp)
  have hN256 : 2 ^ xs.length ≤ 256 := by have := Nat.pow_le_pow_right (n := 2) (by omega) hn8; simpa using this
  obtain ⟨i0, hi0, hz0, hz1, hz2⟩ := info_parts info31
  have hsh2 : wrap64 ((2 : Int) ^ min xs.length 64) = ((2 ^ xs.length : Nat) : Int) := by rw [hmin, hsh]
  clear hk hv hV hI hT h2d hsh hmin hn8
  generalize hNN : 2 ^ xs.length = N at *
  generalize hRR : rowN xs = R at *
  clear hNN
  go_enter Tryd.func6, Tryd.ntmps6
  go_wp2_with fail
  refine HV.out.mono ?_
  rintro e w1 ⟨rfl, hb⟩
  have HB1 := hid hb
  clear hb HV
  go_wp2_with fail
  rw [hsh2]
  clear hsh2
  go_loopw [7, 8, 9, 19] (fun v7 v8 v9 v19 w' => ∃ (k : Nat), v19 = .int .i64 (k : Nat) ∧ k ≤ N ∧ w'.ownsRow W.heap.size 31 2 v7 (pairsN R xs.length d k).length (flatP (pairsN R xs.length d k)) ∧ Below W.heap.size W w') (fun _ _ _ v19 _ => N - intOfV v19)
  case atStart => exact ⟨0, rfl, by omega, World.ownsRow_nil _ _ _ _, HB1.out⟩
  case round =>
    obtain ⟨k, rfl, hk, ho, hb⟩ := hrel
    by_cases hlt : k < N
    · have hll := pairsN_le R xs.length d k
      have HC1 := hid (HEat.out k hlt wr hb)
      have HC2 := hid (HEtr.out (eatN R d k) (hlt8.out k))
      have hY := hid (pairsN_yes (R := R) (n := xs.length) (d := d) (k := k))
      have hNo := hid (pairsN_no (R := R) (n := xs.length) (d := d) (k := k))
      have i3 : (k : Int) < (N : Int) := by omega
      obtain ⟨a3, k3, e3⟩ := row_shape ho
      subst e3
      have HO := hid ho
      have HB := hid hb
      have Hlt := hid hlt
      clear ho hb hlt
      generalize eatN R d k = M at *
      go_wp2_with fail
      refine HC1.out.mono ?_
      rintro e w2 ⟨rfl, hb2⟩
      have HO2 := hid (own_below HO.out hb2)
      have HB2 := hid (HB.out.trans (hb2.mono HB.out.size))
      clear hb2 HC1 HO HB
      go_wp2_with fail
      refine (HC2.out w2 HB2.out).mono ?_
      rintro e w3 ⟨rfl, hb3⟩
      have HO3 := hid (own_below HO2.out hb3)
      have HB3 := hid (HB2.out.trans (hb3.mono HB2.out.size))
      clear hb3 HC2 HO2 HB2
      by_cases hq : etrN R M xs.length = k
      · have hY := hid (hY.out hq)
        rw [hq]
        clear hNo hq
        generalize pairsN R xs.length d k = L at *
        have hs3 := HB3.out.size
        go_wp2_with (at_builtin; go_loud (refine wpList_append_own_at (o := ⟨some 36, _, _, _, _, _⟩) _ rfl _ _ 27 rfl W.heap.size 31 i0 (.agg #[.int .i64 0, .int .i64 0]) 2 16 Tryd.underlying27 hi0 hz0 hz1 hz2 rfl (by decide) _ _ _ rfl (HO3.out.alloc _) ⟨w3.heap.size, 0, none⟩ 1 1 [natV k, natV M] rfl rfl (news_two w3 (natV k) (natV M) 31).out (by simp [Value.oneCell', natV]) (by unfold maxLen; omega) (by omega) (by simp; omega) ?_); intro v' w6 hown6 hgrow6 _ _)
        have hb6 : Below W.heap.size W w6 := (HB3.out.alloc hs3 _).grown hgrow6 (by simp; omega) fun j hj => (HO3.out.lt j hj).1
        have ho6 : w6.ownsRow W.heap.size 31 2 v' (pairsN R xs.length d (k + 1)).length (flatP (pairsN R xs.length d (k + 1))) := by
          rw [hY.out.2, ← hY.out.1]; exact hown6
        have HB6 := hid hb6
        have HO6 := hid ho6
        clear hown6 hgrow6 hb6 ho6 HO3 HB3 hY
        go_roundw
        case rel => exact ⟨k + 1, by go_num, Hlt.out, HO6.out, HB6.out⟩
        case measure => have := Hlt.out; simp [intOfV] <;> omega
      · have hNo := hid (hNo.out hq)
        have hne : (((etrN R M xs.length : Nat) : Int) == (k : Int)) = false := by simp; omega
        have HO4 : Hid (w3.ownsRow W.heap.size 31 2 (.slice a3 (pairsN R xs.length d k).length k3) (pairsN R xs.length d (k + 1)).length (flatP (pairsN R xs.length d (k + 1)))) := hid (by rw [hNo.out]; exact HO3.out)
        clear hY hq HO3
        generalize etrN R M xs.length = q at *
        generalize (pairsN R xs.length d k).length = L at *
        go_wp2_with fail
        go_roundw
        case rel => exact ⟨k + 1, by go_num, Hlt.out, HO4.out, HB3.out⟩
        case measure => have := Hlt.out; simp [intOfV] <;> omega
    · have hkN : k = N := by omega
      rw [hkN] at ho
      have HO := hid ho
      have HB := hid hb
      have i3 : ¬ (k : Int) < (N : Int) := by omega
      clear ho hb hkN
      go_wp2_with fail
      go_ret2
      exact ⟨_, rfl, HO.out, HB.out⟩
end Go.Proofs.YtphcgggohfbmfaaDoor
