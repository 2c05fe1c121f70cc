/- 'slices.Clone', 'slices.Grow' and 'slices.Concat' at lists of numbers: what they return. -/
import Derived.Test.YtmllbemjcfkmjaaFirstCmp
import Derived.Laws.OwnMore
import Derived.Lib.AppendZeros
import Derived.Lib.SliceRun
import Derived.Deep.AppendLies
import Derived.Maps.AppendAt
namespace Go.Proofs.Ytmllbemjcfkmjaa
open Go.RowKit Go.Maps
set_option linter.unusedSimpArgs false
set_option linter.unusedVariables false
theorem run_app_src {P : Program} {w : World} (base : Nat) (t ty e : TypeId) (i : TypeInfo) (z : Value) (bytes : Nat) (ht : P.underlying t = some (.slice e)) (hi : P.info? e = some i) (hz : i.zero = some z)
    (hsize : i.size = 1) (hby : i.bytes = bytes) (hzs : z.cells.size = 1)
    (v : Value) (n : Nat) (xs : List Value) (hown : w.ownsRow base e 1 v n xs)
    (ra : Option Addr) (m c : Nat) (news : List Value) (hl : news.length = m) (hnews : 0 < m → ∃ b off, ra = some ⟨b, off, none⟩ ∧ ∀ j u, news[j]? = some u → w.cell? ⟨b, off + j, none⟩ = some u) (h1 : ∀ u ∈ news, u.oneCell' = true)
    (h63 : n + m ≤ maxLen) (hbytes : (n + m) * bytes ≤ 140737488355328) (hbase : base ≤ w.heap.size) :
    ∃ v' w', (Builtin.append_ #[t, t] ty #[v, .slice ra m c]).run P w = .ok v' w' ∧ w'.ownsRow base e 1 v' (n + m) (xs ++ news) ∧ w.grownBy w' v.ownBlock ∧ (v'.ownBlock = v.ownBlock ∨ v'.ownBlock = some w.heap.size) := by
  cases ra with
  | none =>
    have hm : m = 0 := by
      by_cases h : 0 < m
      · obtain ⟨b, off, e, _⟩ := hnews h; cases e
      · omega
    subst hm
    have hn : news = [] := List.eq_nil_of_length_eq_zero hl
    subst hn
    refine ⟨v, w, ?_, by simpa using hown, World.grownBy.refl _ _, .inl rfl⟩
    rcases hown.2 with ⟨rfl, rfl⟩ | ⟨g, cap, cur, rfl, _, _, hnc, _⟩
    · simp [Builtin.append_, run_underlying ht, sizeOf, typeInfo, hi, Builtin.lenOf, Builtin.firstCells]
    · simp [Builtin.append_, run_underlying ht, sizeOf, typeInfo, hi, Builtin.lenOf, Builtin.firstCells, hnc, storeCells]
  | some ad =>
    have hc : ∀ j u, news[j]? = some u → w.cell? (ad.add j) = some u := by
      intro j u hu
      have hj : j < news.length := (List.getElem?_eq_some_iff.1 hu).1
      obtain ⟨b, off, e, h⟩ := hnews (by omega)
      cases e
      rw [add_plain0]
      exact h j u hu
    obtain ⟨v', w', hr, h2, h3, _, h5⟩ := run_append_own_at (P := P) w base t ty e i z 1 bytes ht hi hz hsize hby hzs (by omega) v n xs hown ad m c news (by omega) hc h1 h63 hbytes hbase
    exact ⟨v', w', hr, h2, h3, h5⟩
theorem wp_app_src {P : Program} {w : World} {o : Oper} {a : Act} {K : Act → World → Prop} {Q : Exit → Act → World → Prop} (s x : Operand) (t : TypeId)
    (ho : o.op = .call { callee := .builtin .append, args := #[s, x], argTypes := #[t, t] })
    (base : Nat) (e : TypeId) (i : TypeInfo) (z : Value) (bytes : Nat) (ht : P.underlying t = some (.slice e)) (hi : P.info? e = some i) (hz : i.zero = some z)
    (hsize : i.size = 1) (hby : i.bytes = bytes) (hzs : z.cells.size = 1)
    (v : Value) (n : Nat) (xs : List Value) (hs : a.eval s = v) (hown : w.ownsRow base e 1 v n xs)
    (ra : Option Addr) (m c : Nat) (news : List Value) (hx : a.eval x = .slice ra m c) (hl : news.length = m) (hnews : 0 < m → ∃ b off, ra = some ⟨b, off, none⟩ ∧ ∀ j u, news[j]? = some u → w.cell? ⟨b, off + j, none⟩ = some u) (h1 : ∀ u ∈ news, u.oneCell' = true)
    (h63 : n + m ≤ maxLen) (hbytes : (n + m) * bytes ≤ 140737488355328) (hbase : base ≤ w.heap.size)
    (h : ∀ v' w', w'.ownsRow base e 1 v' (n + m) (xs ++ news) → w.grownBy w' v.ownBlock → (v'.ownBlock = v.ownBlock ∨ v'.ownBlock = some w.heap.size) → K (a.put o.dst v') w') : Oper.wp P o a w K Q := by
  obtain ⟨v', w', hr, h2, h3, h5⟩ := run_app_src (P := P) (w := w) base t o.type e i z bytes ht hi hz hsize hby hzs v n xs hown ra m c news hl hnews h1 h63 hbytes hbase
  unfold Oper.wp execOp
  simp only [ho, resolve, invoke, builtin, Sem.run_bind, Sem.run_pure, Result.andThen_ok, List.map_toArray, List.map_cons, List.map_nil, hs, hx, hr]
  exact h v' w' h2 h3 h5
theorem ints_src1 {w : World} {ra : Option Addr} {xs : List Int} (h : IntsAt w ra xs) : 0 < xs.length → ∃ b off, ra = some ⟨b, off, none⟩ ∧ ∀ j u, (xs.map (Value.int .i64))[j]? = some u → w.cell? ⟨b, off + j, none⟩ = some u := by
  intro h0
  obtain ⟨b, off, e, _, _⟩ := h 0 h0
  refine ⟨b, off, e, fun j u hu => ?_⟩
  have hj : j < xs.length := by have := (List.getElem?_eq_some_iff.1 hu).1; simpa using this
  obtain ⟨b', off', e', _, hc⟩ := h j hj
  rw [e] at e'
  cases e'
  rw [hc]
  simp [hj] at hu
  rw [← hu]
  simp [nth, List.getD, hj]

theorem wpList_app_src {P : Program} {w : World} {ops : Array Oper} {rest : List Oper} {o : Oper} {a : Act} {Q : Exit → Act → World → Prop} (hgd : o.guard = none) (s x : Operand) (t : TypeId)
    (ho : o.op = .call { callee := .builtin .append, args := #[s, x], argTypes := #[t, t] })
    (base : Nat) (e : TypeId) (i : TypeInfo) (z : Value) (bytes : Nat) (ht : P.underlying t = some (.slice e)) (hi : P.info? e = some i) (hz : i.zero = some z)
    (hsize : i.size = 1) (hby : i.bytes = bytes) (hzs : z.cells.size = 1)
    (v : Value) (n : Nat) (xs : List Value) (hs : a.eval s = v) (hown : w.ownsRow base e 1 v n xs)
    (ra : Option Addr) (m c : Nat) (news : List Value) (hx : a.eval x = .slice ra m c) (hl : news.length = m) (hnews : 0 < m → ∃ b off, ra = some ⟨b, off, none⟩ ∧ ∀ j u, news[j]? = some u → w.cell? ⟨b, off + j, none⟩ = some u) (h1 : ∀ u ∈ news, u.oneCell' = true)
    (h63 : n + m ≤ maxLen) (hbytes : (n + m) * bytes ≤ 140737488355328) (hbase : base ≤ w.heap.size)
    (h : ∀ v' w', w'.ownsRow base e 1 v' (n + m) (xs ++ news) → w.grownBy w' v.ownBlock → (v'.ownBlock = v.ownBlock ∨ v'.ownBlock = some w.heap.size) → wpList P ops Q rest (a.put o.dst v') w') : wpList P ops Q (o :: rest) a w :=
  wpList_plain hgd fun _ hK => wp_app_src s x t ho base e i z bytes ht hi hz hsize hby hzs v n xs hs hown ra m c news hx hl hnews h1 h63 hbytes hbase fun v' w' h2 h3 h4 => hK _ _ (h v' w' h2 h3 h4)

set_option maxHeartbeats 1000000 in
theorem clone100_any (xs : List Int) (a : Option Addr) (cap : Nat) (W : World) (hI : IntsAt W a xs) (hl : xs.length ≤ 40) :
    Calls Try.prog 100 #[.slice a xs.length cap] W (IntsBack xs W) := by
  obtain ⟨i0, hi0, hz0, hz1, hz2⟩ := info_parts info3
  cases a with
  | none =>
    have h0 : xs = [] := by
      cases xs with
      | nil => rfl
      | cons x xs => obtain ⟨b, off, e, _⟩ := hI 0 (by simp); cases e
    subst h0
    have hn := Lib.run_eql_slice_nil (P := Try.prog) W 33 3 none 0 cap 0 0 Try.underlying33
    go_enter Try.func100, Try.ntmps100
    go_wp2_with fail
    go_ret
    exact ⟨none, 0, rfl, fun i hi => absurd hi (Nat.not_lt_zero i), Below.refl _ _, Nat.le_refl _, Nat.zero_le _⟩
  | some ad =>
    have hn := Lib.run_eql_slice_nil (P := Try.prog) W 33 3 (some ad) xs.length cap 0 0 Try.underlying33
    have hEm := World.ownsRow_lit (base := W.heap.size) (e := 3) (size := 1) W #[] 0 (Nat.le_refl _) (by unfold maxLen; omega) rfl
    have HEm := hid hEm
    have HI := hid (hI.below (below_alloc W (.cells #[] 3)))
    clear hEm
    go_enter Try.func100, Try.ntmps100
    go_wp2_with (at_builtin; go_loud (refine wpList_app_src rfl _ _ _ rfl W.heap.size 3 i0 (.int .i64 0) 8 Try.underlying33 hi0 hz0 hz1 hz2 rfl _ 0 [] rfl HEm.out (some ad) xs.length cap (xs.map (Value.int .i64)) rfl (by simp) (ints_src1 HI.out) (ints_one _) (by unfold maxLen; omega) (by omega) (by simp) ?_); intro v' w1 hown hgrow hat)
    rw [Nat.zero_add, List.nil_append] at hown
    have hb := (below_alloc W (.cells #[] 3)).grown hgrow (by simp) (fun g hg => by have hg' : some W.heap.size = some g := hg; cases hg'; exact Nat.le_refl _)
    clear hgrow hat
    obtain ⟨a3, c3, rfl, h3, h4, h5⟩ := own_ints hown
    go_ret
    exact ⟨a3, c3, rfl, h3, hb, h4, h5⟩

set_option maxRecDepth 100000 in
/-- 'slices.Grow' of nothing. -/
theorem grow118_any (n : Nat) (h1 : 1 ≤ n) (hn : n ≤ 40) (W : World) :
    Calls Try.prog 118 #[.slice none 0 0, .int .i64 n] W fun e w' => ∃ cap, e = .returned (.slice (some ⟨W.heap.size, 0, none⟩) 0 cap) ∧ w'.ownsRow W.heap.size 3 1 (.slice (some ⟨W.heap.size, 0, none⟩) 0 cap) 0 [] ∧ Below W.heap.size W w' := by
  obtain ⟨i0, hi0, hz0, hz1, hz2⟩ := info_parts info3
  have i1 : ¬ (n : Int) < 0 := by omega
  have i2 : (0 : Int) < (n : Int) := by omega
  have hge := grownCap_ge W n 0 3
  have hcm := grownCap_le_maxLen W n 0 3 (by unfold maxLen; omega)
  have hrun := fun ty => Lib.run_append_nil_zeros (P := Try.prog) W 33 3 ty 3 i0 (.int .i64 0) .i64 .i64 Try.underlying33 Try.underlying3 hi0 hz0 n h1 (by rw [hz1]; omega) (by omega) (by rw [hz2]; omega)
  have hown := World.ownsRow_made (base := W.heap.size) (e := 3) (size := 1) W.drew (Builtin.zeroCells (Value.int IntKind.i64 0).cells n ++ Builtin.zeroCells (Value.int IntKind.i64 0).cells (grownCap W n 0 3 - n)) (grownCap W n 0 3) (Nat.le_refl _) hcm (by simp [size_zeroCells, Value.cells]; omega)
  have hb : Below W.heap.size W (W.drew.alloc (.cells (Builtin.zeroCells (Value.int IntKind.i64 0).cells n ++ Builtin.zeroCells (Value.int IntKind.i64 0).cells (grownCap W n 0 3 - n)) 3)) := ((Below.refl _ _).drew).alloc (Nat.le_refl _) _
  have HR := hid hrun
  have HO := hid hown
  have HB := hid hb
  clear hrun hown hb
  generalize grownCap W n 0 3 = cap at *
  go_enter Try.func118, Try.ntmps118
  go_wp2_with (at_builtin; refine Lib.wpList_append_run _ rfl _ _ _ _ rfl _ _ rfl rfl _ _ (HR.out _) ?_)
  go_ret
  exact ⟨cap, rfl, HO.out, HB.out⟩

def catS (xs ys : List Int) (k : Nat) : List Int := if k = 0 then [] else if k = 1 then xs else xs ++ ys
set_option maxRecDepth 100000 in
set_option maxHeartbeats 2000000 in
theorem concat_any (xs ys : List Int) (n1 n2 : Nat) (e1 : xs.length = n1) (e2 : ys.length = n2) (ax ay : Option Addr) (cx cy b : Nat) (W : World) (hX : IntsAt W ax xs) (hY : IntsAt W ay ys) (hb : b < W.heap.size)
    (c0 : W.cell? ⟨b, 0, none⟩ = some (.slice ax n1 cx)) (c1 : W.cell? ⟨b, 1, none⟩ = some (.slice ay n2 cy)) (h1 : 1 ≤ n1 + n2) (hn : n1 + n2 ≤ 40) :
    Calls Try.prog 101 #[.slice (some ⟨b, 0, none⟩) 2 2] W (IntsBack (xs ++ ys) W) := by
  obtain ⟨i0, hi0, hz0, hz1, hz2⟩ := info_parts info3
  have HX := hid hX
  have HY := hid hY
  have HG := hid (fun w => grow118_any (n1 + n2) h1 hn w)
  have E1 := hid e1
  have E2 := hid e2
  clear hX hY e1 e2
  go_enter Try.func101, Try.ntmps101
  go_wp2_with fail
  go_loopw [3, 5, 11] (fun v3 v5 v11 w' => ∃ k : Nat, k ≤ 2 ∧ v11 = .int .i64 k ∧ v3 = .int .i64 ((if k = 0 then 0 else if k = 1 then n1 else n1 + n2 : Nat) : Int) ∧ w' = W) (fun _ _ v11 _ => 2 - (intOf v11).toNat)
  case atStart => exact ⟨0, by omega, rfl, rfl, rfl⟩
  case round =>
    obtain ⟨k, hk, rfl, rfl, rfl⟩ := hrel
    have : k = 0 ∨ k = 1 ∨ k = 2 := by omega
    rcases this with rfl | rfl | rfl
    · have j1 : ¬ (n1 : Int) < 0 := by omega
      go_wp2_with fail
      go_roundw
      case rel => exact ⟨1, by omega, by simp⟩
      case measure => simp [intOf]
    · have j1 : ¬ ((n1 : Int) + (n2 : Int)) < 0 := by omega
      go_wp2_with fail
      go_roundw
      case rel => exact ⟨2, by omega, by simp⟩
      case measure => simp [intOf]
    · go_wp2_with fail
      refine (HG.out _).mono ?_
      rintro e w1 ⟨cap, rfl, hown, hb1⟩
      obtain ⟨wo, hwo⟩ : ∃ wo, wo = wr := ⟨_, rfl⟩
      subst hwo
      have HB := hid hb1
      have HO := hid hown
      have hbs := hb1.size
      have c0' := (hb1.cell (p := ⟨b, 0, none⟩) hb).trans c0
      have c1' := (hb1.cell (p := ⟨b, 1, none⟩) hb).trans c1
      have hb' : b < w1.heap.size := by omega
      clear hown hb1
      go_wp2_with fail
      go_loopw [6, 8, 27] (fun v6 v8 v27 w' => ∃ k : Nat, k ≤ 2 ∧ v27 = .int .i64 k ∧ w'.ownsRow wo.heap.size 3 1 v6 (catS xs ys k).length ((catS xs ys k).map (Value.int .i64)) ∧ Below wo.heap.size wo w') (fun _ _ v27 _ => 2 - (intOf v27).toNat)
      case atStart => exact ⟨0, by omega, rfl, HO.out, HB.out⟩
      case round =>
        clear HB HO
        obtain ⟨k, hk, rfl, hown, hbw⟩ := hrel
        have : k = 0 ∨ k = 1 ∨ k = 2 := by omega
        have HBw := hid hbw
        have HI1 := hid (HX.out.below hbw)
        have HI2 := hid (HY.out.below hbw)
        have hs2 := hbw.size
        have q0 := (hbw.cell (p := ⟨b, 0, none⟩) hb).trans c0
        have q1 := (hbw.cell (p := ⟨b, 1, none⟩) hb).trans c1
        have hb2 : b < wr.heap.size := by omega
        clear hbw c0 c1 c0' c1'
        rcases this with rfl | rfl | rfl
        · go_wp2_with (at_builtin; go_loud (refine wpList_app_src rfl _ _ _ rfl wo.heap.size 3 i0 (.int .i64 0) 8 Try.underlying33 hi0 hz0 hz1 hz2 rfl _ 0 [] rfl hown ax n1 cx (xs.map (Value.int .i64)) rfl (by rw [List.length_map]; exact E1.out) (by rw [← E1.out]; exact ints_src1 HI1.out) (ints_one _) (by unfold maxLen; omega) (by omega) (by omega) ?_); intro v' w2 hown2 hgrow2 hat2)
          have hb2 : Below wo.heap.size wo w2 := HBw.out.grown hgrow2 (by omega) fun g hg => (hown.lt g hg).1
          have H2 := hid hb2
          clear hgrow2 hat2 hb2
          go_wp2_with fail
          go_roundw
          case rel => exact ⟨1, by omega, by go_num, by simpa [catS, E1.out] using hown2, H2.out⟩
          case measure => simp [intOf]
        · have hownA := hown
          rw [show catS xs ys 1 = xs from rfl, E1.out] at hownA
          clear hown
          have hown := hownA
          clear hownA
          go_wp2_with (at_builtin; go_loud (refine wpList_app_src rfl _ _ _ rfl wo.heap.size 3 i0 (.int .i64 0) 8 Try.underlying33 hi0 hz0 hz1 hz2 rfl _ n1 (xs.map (Value.int .i64)) rfl hown ay n2 cy (ys.map (Value.int .i64)) rfl (by rw [List.length_map]; exact E2.out) (by rw [← E2.out]; exact ints_src1 HI2.out) (ints_one _) (by unfold maxLen; omega) (by omega) (by omega) ?_); intro v' w2 hown2 hgrow2 hat2)
          have hb2 : Below wo.heap.size wo w2 := HBw.out.grown hgrow2 (by omega) fun g hg => (hown.lt g hg).1
          have H2 := hid hb2
          clear hgrow2 hat2 hb2
          go_wp2_with fail
          go_roundw
          case rel => exact ⟨2, by omega, by go_num, by simpa [catS, E1.out, E2.out] using hown2, H2.out⟩
          case measure => simp [intOf]
        · have hown' : wr.ownsRow wo.heap.size 3 1 _ (xs ++ ys).length ((xs ++ ys).map (Value.int .i64)) := hown
          clear hown
          obtain ⟨a3, c3, e3, h3, h4, h5⟩ := own_ints hown'
          clear hown'
          subst e3
          go_wp2_with fail
          go_ret
          exact ⟨a3, c3, rfl, h3, HBw.out, h4, h5⟩
end Go.Proofs.Ytmllbemjcfkmjaa
