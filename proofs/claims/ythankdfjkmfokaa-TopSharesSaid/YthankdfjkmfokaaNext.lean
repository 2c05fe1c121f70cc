/- The claims of schools in memory; 'next', 'last': what they return. -/
import Derived.Test.YthankdfjkmfokaaAsk
import Derived.Deep.RegionHeld3
namespace Go.Proofs.Ythankdfjkmfokaa
open Go.RowKit
set_option linter.unusedSimpArgs false
set_option linter.unusedVariables false

structure Cl where
  v : Int
  a : Int
  i : Int
def cth (cs : List Cl) (i : Nat) : Cl := cs.getD i ⟨0, 0, 0⟩
def flat : List Cl → List Value
  | [] => []
  | c :: r => .int .i64 c.v :: .int .i64 c.a :: .int .i64 c.i :: flat r
theorem flat_len (cs : List Cl) : (flat cs).length = cs.length * 3 := by
  induction cs with
  | nil => rfl
  | cons c r ih => simp only [flat, List.length_cons, ih]; omega
theorem flat_app (cs ds : List Cl) : flat (cs ++ ds) = flat cs ++ flat ds := by
  induction cs with
  | nil => rfl
  | cons c r ih => simp only [List.cons_append, flat, ih]
theorem flat_at (cs : List Cl) : ∀ i, i < cs.length → (flat cs)[i * 3]? = some (.int .i64 (cth cs i).v) ∧ (flat cs)[i * 3 + 1]? = some (.int .i64 (cth cs i).a) ∧ (flat cs)[i * 3 + 2]? = some (.int .i64 (cth cs i).i) := by
  induction cs with
  | nil => intro i hi; simp at hi
  | cons c r ih =>
    intro i hi
    cases i with
    | zero => exact ⟨rfl, rfl, rfl⟩
    | succ i =>
      have h := ih i (by simpa using hi)
      have e0 : (i + 1) * 3 = i * 3 + 1 + 1 + 1 := by omega
      have e1 : (i + 1) * 3 + 1 = i * 3 + 1 + 1 + 1 + 1 := by omega
      have e2 : (i + 1) * 3 + 2 = i * 3 + 2 + 1 + 1 + 1 := by omega
      rw [e1, e2, e0]
      simp only [flat, List.getElem?_cons_succ]
      exact h
theorem flat_one (cs : List Cl) : ∀ u ∈ flat cs, u.oneCell' = true := by
  induction cs with
  | nil => intro u hu; simp [flat] at hu
  | cons c r ih =>
    intro u hu
    simp only [flat, List.mem_cons] at hu
    rcases hu with rfl | rfl | rfl | hu
    · rfl
    · rfl
    · rfl
    · exact ih u hu
/-- The slice at a holds the claims cs. -/
def ClaimsAt (w : World) (a : Option Addr) (cs : List Cl) : Prop :=
  ∀ i, i < cs.length → ∃ b off, a = some ⟨b, off, none⟩ ∧ b < w.heap.size ∧ w.cell? ⟨b, off + i * 3, none⟩ = some (.int .i64 (cth cs i).v) ∧ w.cell? ⟨b, off + i * 3 + 1, none⟩ = some (.int .i64 (cth cs i).a) ∧ w.cell? ⟨b, off + i * 3 + 2, none⟩ = some (.int .i64 (cth cs i).i)
theorem ClaimsAt.below {w w' : World} {a : Option Addr} {cs : List Cl} (h : ClaimsAt w a cs) (hb : Below w.heap.size w w') : ClaimsAt w' a cs := by
  intro i hi
  obtain ⟨b, off, e, hlt, h1, h2, h3⟩ := h i hi
  exact ⟨b, off, e, Nat.lt_of_lt_of_le hlt hb.size, by rw [hb.cell (p := ⟨b, off + i * 3, none⟩) hlt]; exact h1, by rw [hb.cell (p := ⟨b, off + i * 3 + 1, none⟩) hlt]; exact h2, by rw [hb.cell (p := ⟨b, off + i * 3 + 2, none⟩) hlt]; exact h3⟩
theorem own_claims {w : World} {B : Nat} {v : Value} {cs : List Cl} (h : w.ownsRow B 83 3 v cs.length (flat cs)) : ∃ a cap, v = .slice a cs.length cap ∧ ClaimsAt w a cs ∧ cs.length ≤ cap ∧ cap ≤ maxLen := by
  obtain ⟨_, h2⟩ := h
  rcases h2 with ⟨rfl, h0⟩ | ⟨gb, cap, cur, rfl, hb, hg, hn, hcm, hcs, htake⟩
  · exact ⟨none, 0, by rw [h0], fun i hi => by omega, by omega, Nat.zero_le _⟩
  · refine ⟨some ⟨gb, 0, none⟩, cap, rfl, fun i hi => ⟨gb, 0, rfl, (Array.getElem?_eq_some_iff.1 hg).1, ?_⟩, hn, hcm⟩
    have key : ∀ j, j < cs.length * 3 → w.cell? ⟨gb, 0 + j, none⟩ = (flat cs)[j]? := by
      intro j hj
      rw [cell_of_row w gb (0 + j) cur 83 (0, 0) hg, Nat.zero_add]
      have e : (cur.toList.take (cs.length * 3))[j]? = (flat cs)[j]? := by rw [htake]
      rw [List.getElem?_take, if_pos (by omega)] at e
      rw [← Array.getElem?_toList, e]
    obtain ⟨f0, f1, f2⟩ := flat_at cs i hi
    have k0 := key (i * 3) (by omega)
    have k1 := key (i * 3 + 1) (by omega)
    have k2 := key (i * 3 + 2) (by omega)
    rw [f0] at k0
    rw [f1] at k1
    rw [f2] at k2
    exact ⟨k0, by simpa [Nat.add_assoc] using k1, by simpa [Nat.add_assoc] using k2⟩
def ClaimsPost (cs : List Cl) (W : World) (e : Ending) (w' : World) : Prop :=
  ∃ a cap, e = .returned (.slice a cs.length cap) ∧ ClaimsAt w' a cs ∧ Below W.heap.size W w'
theorem info83 : (Try.prog.info? 83).map (fun i => (i.zero, i.size, i.bytes)) = some (some (.agg #[.int .i64 0, .int .i64 0, .int .i64 0]), 3, 24) := by kernel_rfl
def nextC (kd : Int) (xs ms : List Int) (i : Nat) : Cl := ⟨nth xs i, stp kd (nth ms i), i⟩
def nextL (kd : Int) (xs ms : List Int) (k : Nat) : List Cl := (List.range k).map (nextC kd xs ms)
theorem nextL_len (kd : Int) (xs ms : List Int) (k : Nat) : (nextL kd xs ms k).length = k := by simp [nextL]
theorem nextL_succ (kd : Int) (xs ms : List Int) (k : Nat) : flat (nextL kd xs ms k) ++ [.int .i64 (nth xs k), .int .i64 (stp kd (nth ms k)), .int .i64 k] = flat (nextL kd xs ms (k + 1)) := by
  unfold nextL; rw [List.range_succ, List.map_append, flat_app]; rfl
theorem nextL_at (kd : Int) (xs ms : List Int) (k i : Nat) (h : i < k) : cth (nextL kd xs ms k) i = nextC kd xs ms i := by simp [cth, nextL, List.getD, h]
def lastC (kd : Int) (xs ms : List Int) (i : Nat) : Cl := ⟨nth xs i, stp kd (nth ms i - 1), i⟩
def lastL (kd : Int) (xs ms : List Int) (k : Nat) : List Cl := ((List.range k).filter fun i => decide (0 < nth ms i)).map (lastC kd xs ms)
theorem lastL_len (kd : Int) (xs ms : List Int) (k : Nat) : (lastL kd xs ms k).length ≤ k := by
  unfold lastL
  have := List.length_filter_le (fun i => decide (0 < nth ms i)) (List.range k)
  simpa using this
theorem lastL_yes (kd : Int) (xs ms : List Int) (k : Nat) (h : 0 < nth ms k) : flat (lastL kd xs ms k) ++ [.int .i64 (nth xs k), .int .i64 (stp kd (nth ms k - 1)), .int .i64 k] = flat (lastL kd xs ms (k + 1)) ∧ (lastL kd xs ms (k + 1)).length = (lastL kd xs ms k).length + 1 := by
  unfold lastL
  rw [List.range_succ, List.filter_append, List.map_append, flat_app]
  simp [List.filter_cons, h, flat, lastC]
theorem lastL_no (kd : Int) (xs ms : List Int) (k : Nat) (h : ¬ 0 < nth ms k) : lastL kd xs ms (k + 1) = lastL kd xs ms k := by
  unfold lastL
  rw [List.range_succ, List.filter_append, List.map_append]
  simp [List.filter_cons, h]
theorem clos92 (m : Int) (W : World) (h0 : 0 ≤ m) (h1 : m ≤ 1000) : Calls Try.prog 92 #[.int .i64 m] W fun e w' => e = .returned (.int .i64 (stp 0 m)) ∧ W = w' := by
  go_enter Try.func92, Try.ntmps92
  go_wp2_with fail
  go_ret
  exact ⟨rfl, rfl⟩
theorem clos93 (m : Int) (W : World) (h0 : 0 ≤ m) (h1 : m ≤ 1000) : Calls Try.prog 93 #[.int .i64 m] W fun e w' => e = .returned (.int .i64 (stp 1 m)) ∧ W = w' := by
  go_enter Try.func93, Try.ntmps93
  go_wp2_with fail
  go_ret
  exact ⟨rfl, rfl⟩
theorem clos94 (m : Int) (W : World) (h0 : 0 ≤ m) (h1 : m ≤ 1000) : Calls Try.prog 94 #[.int .i64 m] W fun e w' => e = .returned (.int .i64 (stp 2 m)) ∧ W = w' := by
  go_enter Try.func94, Try.ntmps94
  go_wp2_with fail
  go_ret
  exact ⟨rfl, rfl⟩
theorem keep2c {w w1 : World} {row : Option Nat} {H b o : Nat} {u v : Value} (hg : w.grownBy w1 row) (h1 : row ≠ some H) (h2 : row ≠ some b) (h : w.cell? ⟨H, 0, none⟩ = some u ∧ w.cell? ⟨b, o, none⟩ = some v ∧ H < w.heap.size ∧ b < w.heap.size) :
    w1.cell? ⟨H, 0, none⟩ = some u ∧ w1.cell? ⟨b, o, none⟩ = some v ∧ H < w1.heap.size ∧ b < w1.heap.size :=
  ⟨hg.cell h.1 (fun e => h1 e.symm), hg.cell h.2.1 (fun e => h2 e.symm), Nat.lt_of_lt_of_le h.2.2.1 hg.size, Nat.lt_of_lt_of_le h.2.2.2 hg.size⟩

set_option maxRecDepth 100000 in
set_option maxHeartbeats 2000000 in
theorem next0 (xs ms : List Int) (a a2 : Option Addr) (cap cap2 : Nat) (W : World) (h1 : IntsAt W a xs) (h2 : IntsAt W a2 ms) (ho : OrdOK xs) (hm : MealsOK xs ms) :
    Calls Try.prog 65 #[.agg #[.func (.func 92) #[] #[], .int .i64 1], .slice a xs.length cap, .slice a2 ms.length cap2] W (ClaimsPost (nextL 0 xs ms xs.length) W) := by
  obtain ⟨i0, hi0, hz0, hz1, hz2⟩ := info_parts info83
  have hl8 := ho.l8
  have Hlen := hid hm.len
  have Hel := hid hm.el
  have hbox : Below W.heap.size W (W.alloc (.cells #[.func (.func 92) #[] #[], .int .i64 1] 66)) := below_alloc _ _
  clear hm ho
  go_enter Try.func65, Try.ntmps65
  go_wp2_with fail
  go_loopw [7, 12] (fun v7 v12 w' => ∃ k : Nat, k ≤ xs.length ∧ v12 = .int .i64 k ∧ w'.ownsRow (W.heap.size + 1) 83 3 v7 k (flat (nextL 0 xs ms k)) ∧ Below (W.heap.size + 1) (W.alloc (.cells #[.func (.func 92) #[] #[], .int .i64 1] 66)) w') (fun _ v12 _ => xs.length - (intOf v12).toNat)
  case atStart => exact ⟨0, by omega, rfl, World.ownsRow_nil _ _ _ _, Below.refl _ _⟩
  case round =>
    obtain ⟨k, hk, rfl, hown, hb⟩ := hrel
    have hb' : Below (W.alloc (.cells #[.func (.func 92) #[] #[], .int .i64 1] 66)).heap.size (W.alloc (.cells #[.func (.func 92) #[] #[], .int .i64 1] 66)) wr := hb.mono (by simp)
    by_cases hlt : k < xs.length
    · obtain ⟨b, off, rfl, hbl, c1⟩ := ((h1.below hbox).below hb') k hlt
      have hkm : k < ms.length := by rw [Hlen.out]; exact hlt
      have hel := Hel.out k hkm
      obtain ⟨b2, off2, rfl, hbl2, c2⟩ := ((h2.below hbox).below hb') k hkm
      have k0 : wr.cell? ⟨W.heap.size, 0, none⟩ = some (.func (.func 92) #[] #[]) := (hb'.cell (p := ⟨W.heap.size, 0, none⟩) (by simp)).trans (by simp)
      have hsz : W.heap.size < wr.heap.size := by have := hb'.size; simp at this; omega
      have HS := hid (nextL_succ 0 xs ms k)
      have hk0 : (0 : Int) ≤ (k : Int) := by omega
      have hk1 : (k : Int) < (ms.length : Int) := by omega
      have Hne1 : Hid (u7.ownBlock ≠ some W.heap.size) := hid fun e => by have := (hown.lt _ e).1; omega
      have Hne2 : Hid (u7.ownBlock ≠ some b2) := hid fun e => by
        have h3 := (hown.lt _ e).1
        obtain ⟨b', off', e', hlt', _⟩ := h2 k hkm
        cases e'
        omega
      have hc := clos92 (nth ms k) wr.drew hel.1 hel.2
      have Hc := hid hc
      clear hc
      go_wp2_with fail
      go_region_held3 (fun w' => w'.cell? ⟨W.heap.size, 0, none⟩ = some (.func (.func 92) #[] #[]) ∧ w'.cell? ⟨b2, off2 + k, none⟩ = some (.int .i64 (nth ms k)) ∧ W.heap.size < w'.heap.size ∧ b2 < w'.heap.size) (first | exact ⟨k0, c2, hsz, hbl2⟩ | exact keep2c hgrow Hne1.out Hne2.out (by assumption) | exact keep2c (row := none) (World.grownBy_alloc _ _ none) (fun h => by cases h) (fun h => by cases h) (by assumption) | assumption) (first | (go_at_call 92; refine Hc.out.mono ?_; rintro e w2 ⟨rfl, rfl⟩) | (refine step_append_own (by rfl) _ _ _ (by rfl) (W.heap.size + 1) 83 i0 (.agg #[.int .i64 0, .int .i64 0, .int .i64 0]) 3 24 Try.underlying80 hi0 hz0 hz1 hz2 rfl (by omega) u7 k (flat (nextL 0 xs ms k)) (by rfl) (hown.drew.alloc _) ⟨wr.heap.size, 0, none⟩ 1 1 [.int .i64 (nth xs k), .int .i64 (stp 0 (nth ms k)), .int .i64 k] (by rfl) (by rfl) (World.news_of_block (cs := #[.int .i64 (nth xs k), .int .i64 (stp 0 (nth ms k)), .int .i64 k]) (t := 83) (fr := (0, 0)) (heap_alloc_new wr.drew _)) (by simp [Value.oneCell']) (by unfold maxLen; omega) (by omega) (by simp; omega) ?_; intro v' w3 hown1 hgrow))
      rw [HS.out] at hown1
      have G : wr.grownBy w3 u7.ownBlock := World.grownBy.trans (World.grownBy.trans (but_drew (World.grownBy.refl wr _)) (World.grownBy_alloc _ _ _)) hgrow
      have hb3 : Below (W.heap.size + 1) (W.alloc (.cells #[.func (.func 92) #[] #[], .int .i64 1] 66)) w3 := hb.grown G (by omega) fun j hj => (hown.lt j hj).1
      clear G hgrow hown hb hb' c1 c2 k0 Hc
      go_wp2_with fail
      go_roundw
      case rel => exact ⟨k + 1, by omega, by go_num, hown1, hb3⟩
      case measure => simp [intOf]; omega
    · obtain rfl : k = xs.length := by omega
      have hown' : wr.ownsRow (W.heap.size + 1) 83 3 u7 (nextL 0 xs ms xs.length).length (flat (nextL 0 xs ms xs.length)) := by rw [nextL_len]; exact hown
      obtain ⟨a3, c3, rfl, h3, h4, h5⟩ := own_claims hown'
      go_wp2_with fail
      go_ret
      exact ⟨a3, c3, rfl, h3, hbox.trans (hb'.mono (by simp))⟩

set_option maxRecDepth 100000 in
set_option maxHeartbeats 2000000 in
theorem next1 (xs ms : List Int) (a a2 : Option Addr) (cap cap2 : Nat) (W : World) (h1 : IntsAt W a xs) (h2 : IntsAt W a2 ms) (ho : OrdOK xs) (hm : MealsOK xs ms) :
    Calls Try.prog 65 #[.agg #[.func (.func 93) #[] #[], .int .i64 2], .slice a xs.length cap, .slice a2 ms.length cap2] W (ClaimsPost (nextL 1 xs ms xs.length) W) := by
  obtain ⟨i0, hi0, hz0, hz1, hz2⟩ := info_parts info83
  have hl8 := ho.l8
  have Hlen := hid hm.len
  have Hel := hid hm.el
  have hbox : Below W.heap.size W (W.alloc (.cells #[.func (.func 93) #[] #[], .int .i64 2] 66)) := below_alloc _ _
  clear hm ho
  go_enter Try.func65, Try.ntmps65
  go_wp2_with fail
  go_loopw [7, 12] (fun v7 v12 w' => ∃ k : Nat, k ≤ xs.length ∧ v12 = .int .i64 k ∧ w'.ownsRow (W.heap.size + 1) 83 3 v7 k (flat (nextL 1 xs ms k)) ∧ Below (W.heap.size + 1) (W.alloc (.cells #[.func (.func 93) #[] #[], .int .i64 2] 66)) w') (fun _ v12 _ => xs.length - (intOf v12).toNat)
  case atStart => exact ⟨0, by omega, rfl, World.ownsRow_nil _ _ _ _, Below.refl _ _⟩
  case round =>
    obtain ⟨k, hk, rfl, hown, hb⟩ := hrel
    have hb' : Below (W.alloc (.cells #[.func (.func 93) #[] #[], .int .i64 2] 66)).heap.size (W.alloc (.cells #[.func (.func 93) #[] #[], .int .i64 2] 66)) wr := hb.mono (by simp)
    by_cases hlt : k < xs.length
    · obtain ⟨b, off, rfl, hbl, c1⟩ := ((h1.below hbox).below hb') k hlt
      have hkm : k < ms.length := by rw [Hlen.out]; exact hlt
      have hel := Hel.out k hkm
      obtain ⟨b2, off2, rfl, hbl2, c2⟩ := ((h2.below hbox).below hb') k hkm
      have k0 : wr.cell? ⟨W.heap.size, 0, none⟩ = some (.func (.func 93) #[] #[]) := (hb'.cell (p := ⟨W.heap.size, 0, none⟩) (by simp)).trans (by simp)
      have hsz : W.heap.size < wr.heap.size := by have := hb'.size; simp at this; omega
      have HS := hid (nextL_succ 1 xs ms k)
      have hk0 : (0 : Int) ≤ (k : Int) := by omega
      have hk1 : (k : Int) < (ms.length : Int) := by omega
      have Hne1 : Hid (u7.ownBlock ≠ some W.heap.size) := hid fun e => by have := (hown.lt _ e).1; omega
      have Hne2 : Hid (u7.ownBlock ≠ some b2) := hid fun e => by
        have h3 := (hown.lt _ e).1
        obtain ⟨b', off', e', hlt', _⟩ := h2 k hkm
        cases e'
        omega
      have hc := clos93 (nth ms k) wr.drew hel.1 hel.2
      have Hc := hid hc
      clear hc
      go_wp2_with fail
      go_region_held3 (fun w' => w'.cell? ⟨W.heap.size, 0, none⟩ = some (.func (.func 93) #[] #[]) ∧ w'.cell? ⟨b2, off2 + k, none⟩ = some (.int .i64 (nth ms k)) ∧ W.heap.size < w'.heap.size ∧ b2 < w'.heap.size) (first | exact ⟨k0, c2, hsz, hbl2⟩ | exact keep2c hgrow Hne1.out Hne2.out (by assumption) | exact keep2c (row := none) (World.grownBy_alloc _ _ none) (fun h => by cases h) (fun h => by cases h) (by assumption) | assumption) (first | (go_at_call 93; refine Hc.out.mono ?_; rintro e w2 ⟨rfl, rfl⟩) | (refine step_append_own (by rfl) _ _ _ (by rfl) (W.heap.size + 1) 83 i0 (.agg #[.int .i64 0, .int .i64 0, .int .i64 0]) 3 24 Try.underlying80 hi0 hz0 hz1 hz2 rfl (by omega) u7 k (flat (nextL 1 xs ms k)) (by rfl) (hown.drew.alloc _) ⟨wr.heap.size, 0, none⟩ 1 1 [.int .i64 (nth xs k), .int .i64 (stp 1 (nth ms k)), .int .i64 k] (by rfl) (by rfl) (World.news_of_block (cs := #[.int .i64 (nth xs k), .int .i64 (stp 1 (nth ms k)), .int .i64 k]) (t := 83) (fr := (0, 0)) (heap_alloc_new wr.drew _)) (by simp [Value.oneCell']) (by unfold maxLen; omega) (by omega) (by simp; omega) ?_; intro v' w3 hown1 hgrow))
      rw [HS.out] at hown1
      have G : wr.grownBy w3 u7.ownBlock := World.grownBy.trans (World.grownBy.trans (but_drew (World.grownBy.refl wr _)) (World.grownBy_alloc _ _ _)) hgrow
      have hb3 : Below (W.heap.size + 1) (W.alloc (.cells #[.func (.func 93) #[] #[], .int .i64 2] 66)) w3 := hb.grown G (by omega) fun j hj => (hown.lt j hj).1
      clear G hgrow hown hb hb' c1 c2 k0 Hc
      go_wp2_with fail
      go_roundw
      case rel => exact ⟨k + 1, by omega, by go_num, hown1, hb3⟩
      case measure => simp [intOf]; omega
    · obtain rfl : k = xs.length := by omega
      have hown' : wr.ownsRow (W.heap.size + 1) 83 3 u7 (nextL 1 xs ms xs.length).length (flat (nextL 1 xs ms xs.length)) := by rw [nextL_len]; exact hown
      obtain ⟨a3, c3, rfl, h3, h4, h5⟩ := own_claims hown'
      go_wp2_with fail
      go_ret
      exact ⟨a3, c3, rfl, h3, hbox.trans (hb'.mono (by simp))⟩

set_option maxRecDepth 100000 in
set_option maxHeartbeats 2000000 in
theorem next2 (xs ms : List Int) (a a2 : Option Addr) (cap cap2 : Nat) (W : World) (h1 : IntsAt W a xs) (h2 : IntsAt W a2 ms) (ho : OrdOK xs) (hm : MealsOK xs ms) :
    Calls Try.prog 65 #[.agg #[.func (.func 94) #[] #[], .int .i64 1], .slice a xs.length cap, .slice a2 ms.length cap2] W (ClaimsPost (nextL 2 xs ms xs.length) W) := by
  obtain ⟨i0, hi0, hz0, hz1, hz2⟩ := info_parts info83
  have hl8 := ho.l8
  have Hlen := hid hm.len
  have Hel := hid hm.el
  have hbox : Below W.heap.size W (W.alloc (.cells #[.func (.func 94) #[] #[], .int .i64 1] 66)) := below_alloc _ _
  clear hm ho
  go_enter Try.func65, Try.ntmps65
  go_wp2_with fail
  go_loopw [7, 12] (fun v7 v12 w' => ∃ k : Nat, k ≤ xs.length ∧ v12 = .int .i64 k ∧ w'.ownsRow (W.heap.size + 1) 83 3 v7 k (flat (nextL 2 xs ms k)) ∧ Below (W.heap.size + 1) (W.alloc (.cells #[.func (.func 94) #[] #[], .int .i64 1] 66)) w') (fun _ v12 _ => xs.length - (intOf v12).toNat)
  case atStart => exact ⟨0, by omega, rfl, World.ownsRow_nil _ _ _ _, Below.refl _ _⟩
  case round =>
    obtain ⟨k, hk, rfl, hown, hb⟩ := hrel
    have hb' : Below (W.alloc (.cells #[.func (.func 94) #[] #[], .int .i64 1] 66)).heap.size (W.alloc (.cells #[.func (.func 94) #[] #[], .int .i64 1] 66)) wr := hb.mono (by simp)
    by_cases hlt : k < xs.length
    · obtain ⟨b, off, rfl, hbl, c1⟩ := ((h1.below hbox).below hb') k hlt
      have hkm : k < ms.length := by rw [Hlen.out]; exact hlt
      have hel := Hel.out k hkm
      obtain ⟨b2, off2, rfl, hbl2, c2⟩ := ((h2.below hbox).below hb') k hkm
      have k0 : wr.cell? ⟨W.heap.size, 0, none⟩ = some (.func (.func 94) #[] #[]) := (hb'.cell (p := ⟨W.heap.size, 0, none⟩) (by simp)).trans (by simp)
      have hsz : W.heap.size < wr.heap.size := by have := hb'.size; simp at this; omega
      have HS := hid (nextL_succ 2 xs ms k)
      have hk0 : (0 : Int) ≤ (k : Int) := by omega
      have hk1 : (k : Int) < (ms.length : Int) := by omega
      have Hne1 : Hid (u7.ownBlock ≠ some W.heap.size) := hid fun e => by have := (hown.lt _ e).1; omega
      have Hne2 : Hid (u7.ownBlock ≠ some b2) := hid fun e => by
        have h3 := (hown.lt _ e).1
        obtain ⟨b', off', e', hlt', _⟩ := h2 k hkm
        cases e'
        omega
      have hc := clos94 (nth ms k) wr.drew hel.1 hel.2
      have Hc := hid hc
      clear hc
      go_wp2_with fail
      go_region_held3 (fun w' => w'.cell? ⟨W.heap.size, 0, none⟩ = some (.func (.func 94) #[] #[]) ∧ w'.cell? ⟨b2, off2 + k, none⟩ = some (.int .i64 (nth ms k)) ∧ W.heap.size < w'.heap.size ∧ b2 < w'.heap.size) (first | exact ⟨k0, c2, hsz, hbl2⟩ | exact keep2c hgrow Hne1.out Hne2.out (by assumption) | exact keep2c (row := none) (World.grownBy_alloc _ _ none) (fun h => by cases h) (fun h => by cases h) (by assumption) | assumption) (first | (go_at_call 94; refine Hc.out.mono ?_; rintro e w2 ⟨rfl, rfl⟩) | (refine step_append_own (by rfl) _ _ _ (by rfl) (W.heap.size + 1) 83 i0 (.agg #[.int .i64 0, .int .i64 0, .int .i64 0]) 3 24 Try.underlying80 hi0 hz0 hz1 hz2 rfl (by omega) u7 k (flat (nextL 2 xs ms k)) (by rfl) (hown.drew.alloc _) ⟨wr.heap.size, 0, none⟩ 1 1 [.int .i64 (nth xs k), .int .i64 (stp 2 (nth ms k)), .int .i64 k] (by rfl) (by rfl) (World.news_of_block (cs := #[.int .i64 (nth xs k), .int .i64 (stp 2 (nth ms k)), .int .i64 k]) (t := 83) (fr := (0, 0)) (heap_alloc_new wr.drew _)) (by simp [Value.oneCell']) (by unfold maxLen; omega) (by omega) (by simp; omega) ?_; intro v' w3 hown1 hgrow))
      rw [HS.out] at hown1
      have G : wr.grownBy w3 u7.ownBlock := World.grownBy.trans (World.grownBy.trans (but_drew (World.grownBy.refl wr _)) (World.grownBy_alloc _ _ _)) hgrow
      have hb3 : Below (W.heap.size + 1) (W.alloc (.cells #[.func (.func 94) #[] #[], .int .i64 1] 66)) w3 := hb.grown G (by omega) fun j hj => (hown.lt j hj).1
      clear G hgrow hown hb hb' c1 c2 k0 Hc
      go_wp2_with fail
      go_roundw
      case rel => exact ⟨k + 1, by omega, by go_num, hown1, hb3⟩
      case measure => simp [intOf]; omega
    · obtain rfl : k = xs.length := by omega
      have hown' : wr.ownsRow (W.heap.size + 1) 83 3 u7 (nextL 2 xs ms xs.length).length (flat (nextL 2 xs ms xs.length)) := by rw [nextL_len]; exact hown
      obtain ⟨a3, c3, rfl, h3, h4, h5⟩ := own_claims hown'
      go_wp2_with fail
      go_ret
      exact ⟨a3, c3, rfl, h3, hbox.trans (hb'.mono (by simp))⟩
end Go.Proofs.Ythankdfjkmfokaa
