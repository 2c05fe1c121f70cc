/- The machine of the pairs of states: plainly, and as the document's product writes it. -/
import Derived.Test.YtmllbemjcfkmjaaDocWalk
import Derived.Deep.DeepCutAuto
namespace Go.Proofs.Ytmllbemjcfkmjaa
open Go.RowKit Go.Maps
set_option linter.unusedSimpArgs false
set_option linter.unusedVariables false

/-! ### the machine of a list of states that is closed -/
def prodM (L : Int) (step : Int → Nat → Int) (ac : Int → Bool) (S : List Int) : Mac := ⟨L, (List.range S.length).map fun j => rowA L.toNat step S j, S.map ac⟩
section
variable {L : Int} {step : Int → Nat → Int} {ac : Int → Bool} {S : List Int}
theorem prod_n : (prodM L step ac S).nx.length = S.length := by simp [prodM]
theorem prod_acl : (prodM L step ac S).ac.length = S.length := by simp [prodM]
theorem prod_row {j : Nat} (hj : j < S.length) : rowOf (prodM L step ac S) j = rowA L.toNat step S j := by simp [rowOf, prodM, List.getD, hj]
theorem rowA_len (L : Nat) (step : Int → Nat → Int) (S : List Int) (j : Nat) : (rowA L step S j).length = L := by simp [rowA]
theorem rowA_nth (L : Nat) (step : Int → Nat → Int) (S : List Int) (j a : Nat) (ha : a < L) : nth (rowA L step S j) a = (nxA step S j a : Nat) := by simp [nth, rowA, List.getD, ha]
theorem prod_big (h1 : 1 ≤ L) (h6 : L ≤ 6) (hE : EndOK L.toNat step S) (h5 : S.length ≤ 5000) : MacB (prodM L step ac S) := by
  refine ⟨h1, h6, by rw [prod_n]; exact hE.pos, by rw [prod_n]; exact h5, by rw [prod_n, prod_acl], fun j hj => ?_, fun j hj a ha => ?_⟩
  · rw [prod_n] at hj
    rw [prod_row hj, rowA_len]
    show (L.toNat : Int) = L
    omega
  · rw [prod_n] at hj ⊢
    rw [prod_row hj] at ha ⊢
    rw [rowA_len] at ha
    rw [rowA_nth _ _ _ _ _ ha]
    have := nxA_lt hE j a hj ha
    omega
theorem prod_lang (hE : EndOK L.toNat step S) (w : List Nat) : ∀ i, i < S.length → langA L.toNat (stepM (prodM L step ac S)) (accM (prodM L step ac S)) w (i : Int) = langA L.toNat step ac w (S.getD i 0) := by
  induction w with
  | nil =>
    intro i hi
    show (S.map ac).getD (i : Int).toNat false = ac (S.getD i 0)
    rw [Int.toNat_natCast]
    simp [List.getD, hi]
  | cons a w ih =>
    intro i hi
    simp only [langA]
    by_cases ha : a < L.toNat
    · have e : stepM (prodM L step ac S) (i : Int) a = ((nxA step S i a : Nat) : Int) := by
        unfold stepM
        rw [Int.toNat_natCast, prod_row hi, rowA_nth _ _ _ _ _ ha]
      rw [e, ih _ (nxA_lt hE i a hi ha), nxA_get hE i a hi ha]
    · simp [ha]
theorem prod_la (hE : EndOK L.toNat step S) : lgM (prodM L step ac S) 0 = laA L.toNat step ac 0 := by
  funext w
  have := prod_lang (ac := ac) hE w 0 hE.pos
  rw [hE.z] at this
  exact this
end
theorem raw_le {L : Nat} {step : Int → Nat → Int} {n : Int} (h : AutoOK L step 0 n) (hn : n ≤ 5000) (i : Nat) : (raw L step i).length ≤ 5000 := by
  have := pigeon (bfs_nodup (stepsA L step) 0 i) (raw_in h i)
  unfold raw at *
  omega
theorem PlO.mac {U w : World} {L : Nat} {n : Nat} {bs : List Bool} {vn vb : Value} {Q : Nat → Value} {step : Int → Nat → Int} {ac : Int → Bool} {S : List Int} {z : Int} (hz : z.toNat = L) (hn : n = S.length) (hbs : bs = S.map ac) (h : PlO U L n (fun j => rowA L step S j) bs vn vb Q w) (h1 : 1 ≤ n) :
    ∃ a cap a2 cap2, vn = .slice a n cap ∧ vb = .slice a2 n cap2 ∧ MacAt w a cap a2 cap2 (prodM z step ac S) := by
  subst hn hbs hz
  have h3 := h.ac
  have e3 : (S.map ac).length = S.length := by simp
  obtain ⟨a2, cap2, rfl, hB, b1, b2⟩ := own_bools h3
  rcases h.nx.2 with ⟨rfl, h0⟩ | ⟨gb, cap, cur, rfl, hb, hg, hn, hcm, hcs, htake⟩
  · omega
  · refine ⟨some ⟨gb, 0, none⟩, cap, a2, cap2, rfl, by rw [e3], ⟨by rw [prod_n]; omega, hcm, b1, b2, hB, fun j hj => ?_⟩⟩
    rw [prod_n] at hj
    have hr : w.ownsRow _ 3 1 (Q j) _ ((rowA z.toNat step S j).map (Value.int .i64)) := h.rs j hj
    rw [prod_row hj]
    have hl := rowA_len z.toNat step S j
    generalize rowA z.toNat step S j = xs at hr hl ⊢
    rw [← hl] at hr
    obtain ⟨ra, rc, er, hI, r1, r2⟩ := own_ints hr
    refine ⟨gb, 0, rfl, (Array.getElem?_eq_some_iff.1 hg).1, ra, rc, ?_, r1, r2, hI⟩
    rw [cell_of_row w gb (0 + j) cur 33 (0, 0) hg, Nat.zero_add]
    have e : (cur.toList.take (S.length * 1))[j]? = ((List.range S.length).map Q)[j]? := by rw [htake]
    rw [List.getElem?_take, if_pos (by omega)] at e
    rw [← Array.getElem?_toList, e]
    simp [hj, er]
/-! ### laws on regions -/
theorem wp_append_own_at {P : Program} {w : World} {o : Oper} {a : Act} {K : Act → World → Prop} {Q : Exit → Act → World → Prop} (s x : Operand) (t : TypeId)
    (ho : o.op = .call { callee := .builtin .append, args := #[s, x], argTypes := #[t, t] })
    (base : Nat) (e : TypeId) (i : TypeInfo) (z : Value) (size bytes : Nat) (ht : P.underlying t = some (.slice e)) (hi : P.info? e = some i) (hz : i.zero = some z)
    (hsize : i.size = size) (hby : i.bytes = bytes) (hzs : z.cells.size = size) (hsz : 0 < size)
    (v : Value) (n : Nat) (xs : List Value) (hs : a.eval s = v) (hown : w.ownsRow base e size v n xs)
    (ad : Addr) (m c : Nat) (news : List Value) (hx : a.eval x = .slice (some ad) m c) (hl : news.length = m * size) (hnews : ∀ j u, news[j]? = some u → w.cell? (ad.add j) = some u) (h1 : ∀ u ∈ news, u.oneCell' = true)
    (h63 : n + m ≤ maxLen) (hbytes : (n + m) * bytes ≤ 140737488355328) (hbase : base ≤ w.heap.size)
    (h : ∀ v' w', w'.ownsRow base e size v' (n + m) (xs ++ news) → w.grownBy w' v.ownBlock → (v'.ownBlock = v.ownBlock ∨ v'.ownBlock = some w.heap.size) → K (a.put o.dst v') w') : Oper.wp P o a w K Q := by
  obtain ⟨v', w', hr, h2, h3, h4, h5⟩ := run_append_own_at (P := P) w base t o.type e i z size bytes ht hi hz hsize hby hzs hsz v n xs hown ad m c news hl hnews h1 h63 hbytes hbase
  unfold Oper.wp execOp
  simp only [ho, resolve, invoke, builtin, Sem.run_bind, Sem.run_pure, Result.andThen_ok, List.map_toArray, List.map_cons, List.map_nil, hs, hx, hr]
  exact h v' w' h2 h3 h5
theorem but_two {P : Program} {ops : Array Oper} {Q : Exit → Act → World → Prop} {md : Region.Mode} {S : World → Prop} {k i j : Nat} {n : Nat} {l : Array Bool} {a : Act} {w : World} (hr : Region.ready md ops l = [i, j])
    (h : wpOp P ops Q i (fun a' w' => (i ≠ k → S w') ∧ anyBut P md ops Q S k n (l.setIfInBounds i true) a' w') a w)
    (h' : wpOp P ops Q j (fun a' w' => (j ≠ k → S w') ∧ anyBut P md ops Q S k n (l.setIfInBounds j true) a' w') a w) :
    anyBut P md ops Q S k (n + 1) l a w := by
  unfold anyBut
  refine ⟨fun h0 => by rw [hr] at h0; exact absurd h0 (by simp), fun x hx => ?_⟩
  rw [hr] at hx
  rcases List.mem_cons.1 hx with e | hx
  · subst e; exact h
  · rw [List.mem_singleton.1 hx]; exact h'
/-! ### the pairs in memory -/
structure PairsAt (w : World) (bo : Nat) (K : Int) (S : List Int) : Prop where
  lt : bo < w.heap.size
  c0 : ∀ j, j < S.length → w.cell? ⟨bo, j * 3, none⟩ = some (.int .i64 (S.getD j 0 / K))
  c1 : ∀ j, j < S.length → w.cell? ⟨bo, j * 3 + 1, none⟩ = some (.int .i64 (S.getD j 0 % K))
theorem PairsAt.below {w w' : World} {bo : Nat} {K : Int} {S : List Int} (h : PairsAt w bo K S) (hb : Below w.heap.size w w') : PairsAt w' bo K S :=
  ⟨Nat.lt_of_lt_of_le h.lt hb.size, fun j hj => (hb.cell (p := ⟨bo, j * 3, none⟩) h.lt).trans (h.c0 j hj), fun j hj => (hb.cell (p := ⟨bo, j * 3 + 1, none⟩) h.lt).trans (h.c1 j hj)⟩
theorem WkI.pairs {V w : World} {mb : Nat} {K : Int} {S Sm : List Int} {Wd : List (List Int)} {v : Value} {R : Nat → Value} (h : WkI V mb K S Sm Wd v R w) (hp : 1 ≤ S.length) : ∃ bo cap, v = .slice (some ⟨bo, 0, none⟩) S.length cap ∧ PairsAt w bo K S := by
  obtain ⟨bo, cap, rfl, h1, _, _⟩ := h.cells (i := 0) hp
  refine ⟨bo, cap, rfl, h1, fun j hj => ?_, fun j hj => ?_⟩
  · obtain ⟨bo', cap', e, _, _, c0, _⟩ := h.cells hj
    cases e; exact c0
  · obtain ⟨bo', cap', e, _, _, _, c1, _⟩ := h.cells hj
    cases e; exact c1
def bn (b : Bool) : Nat := if b then 1 else 0
theorem bn_lt (b : Bool) : bn b < 2 := by cases b <;> decide
theorem bit_any (b : Bool) (W : World) : Calls Try.prog 111 #[.bool b] W fun e w' => e = .returned (.int .i64 (bn b : Nat)) ∧ W = w' := by
  cases b
  · go_enter Try.func111, Try.ntmps111
    go_wp2_with fail
    go_ret
    exact ⟨rfl, rfl⟩
  · go_enter Try.func111, Try.ntmps111
    go_wp2_with fail
    go_ret
    exact ⟨rfl, rfl⟩
/-- The four cells of a table. -/
structure TableAt (w : World) (H : Nat) (f : Bool → Bool → Bool) : Prop where
  lt : H < w.heap.size
  c : ∀ x y : Bool, w.cell? ⟨H, bn x * 2 + bn y, none⟩ = some (.bool (f x y))
theorem TableAt.below {w w' : World} {H : Nat} {f : Bool → Bool → Bool} (h : TableAt w H f) (hb : Below w.heap.size w w') : TableAt w' H f :=
  ⟨Nat.lt_of_lt_of_le h.lt hb.size, fun x y => (hb.cell (p := ⟨H, bn x * 2 + bn y, none⟩) h.lt).trans (h.c x y)⟩
theorem tab_new (w : World) (f : Bool → Bool → Bool) : TableAt (w.alloc (.cells #[.bool (f false false), .bool (f false true), .bool (f true false), .bool (f true true)] 89)) w.heap.size f := by
  refine ⟨by simp, fun x y => ?_⟩
  cases x <;> cases y <;> simp [bn]

/-- What stands when the pairs lie in the list: the machines, the table, the result's cells and the pairs. -/
structure ProdAt (H : Nat) (m k : Mac) (f : Bool → Bool → Bool) (a a2 : Option Addr) (cap cap2 : Nat) (b b2 : Option Addr) (dap dap2 : Nat) (bo : Nat) (S : List Int) (w : World) : Prop where
  x : BoxAt H w (.int .i64 m.L) (.slice a m.nx.length cap) (.slice a2 m.ac.length cap2)
  y : BoxAt (H + 1) w (.int .i64 k.L) (.slice b k.nx.length dap) (.slice b2 k.ac.length dap2)
  t : TableAt w (H + 2) f
  r : w.rowIs (H + 3) 25 3 (outF 0 (.slice none 0 0) (.slice none 0 0))
  mm : MacAt w a cap a2 cap2 m
  kk : MacAt w b dap b2 dap2 k
  p : PairsAt w bo k.nx.length S
theorem nodup_take {S : List Int} (h : S.Nodup) {i : Nat} (hi : i < S.length) : S.getD i 0 ∉ S.take i := by
  intro hm
  obtain ⟨j, hj, e⟩ := List.mem_iff_getElem.1 hm
  have hj' : j < i := by simp at hj; omega
  have h1 : S[j]? = some (S.getD i 0) := by
    rw [List.getElem_take] at e
    rw [← e]
    exact List.getElem?_eq_getElem _
  have h2 : S[i]? = some (S.getD i 0) := by simp [List.getD, hi]
  have := (idx_get h h1).symm.trans (idx_get h h2)
  omega
theorem take_snoc {S : List Int} {i : Nat} (hi : i < S.length) : S.take (i + 1) = S.take i ++ [S.getD i 0] := by
  rw [List.take_succ_eq_append_getElem hi]
  simp [List.getD, hi]
theorem wf_small (n : Nat) (h : n ≤ 5000) : (Lit.int .i64 (n : Int)).wf = true := by
  simp only [Lit.wf, Bool.and_eq_true, decide_eq_true_eq]
  exact ⟨by show (-9223372036854775808 : Int) ≤ _; omega, by show _ ≤ (9223372036854775807 : Int); omega⟩
theorem rowA_take {L : Nat} {step : Int → Nat → Int} {S : List Int} {j c : Nat} (hc : c < L) : ((rowA L step S j).take c).map (Value.int .i64) ++ [.int .i64 (idx S (step (S.getD j 0) c) : Nat)] = ((rowA L step S j).take (c + 1)).map (Value.int .i64) := by
  rw [List.take_succ_eq_append_getElem (by rw [rowA_len]; exact hc), List.map_append]
  simp [rowA, nxA]
theorem acc_take {S : List Int} {ac : Int → Bool} {j : Nat} (hj : j < S.length) : (S.take (j + 1)).map ac = (S.take j).map ac ++ [ac (S.getD j 0)] := by
  rw [take_snoc hj, List.map_append]
  rfl
theorem ProdAt.below {H : Nat} {m k : Mac} {f : Bool → Bool → Bool} {a a2 : Option Addr} {cap cap2 : Nat} {b b2 : Option Addr} {dap dap2 : Nat} {bo : Nat} {S : List Int} {w w' : World} (h : ProdAt H m k f a a2 cap cap2 b b2 dap dap2 bo S w) (hb : Below w.heap.size w w') : ProdAt H m k f a a2 cap cap2 b b2 dap dap2 bo S w' :=
  ⟨h.x.below hb, h.y.below hb, h.t.below hb, rowIs_below h.r hb h.r.lt, h.mm.below hb, h.kk.below hb, h.p.below hb⟩

set_option maxRecDepth 100000 in
set_option maxHeartbeats 4000000 in
theorem product_any (f : Bool → Bool → Bool) (m k : Mac) (a a2 : Option Addr) (cap cap2 : Nat) (b b2 : Option Addr) (dap dap2 : Nat) (W : World) (hM : MacAt W a cap a2 cap2 m) (hK : MacAt W b dap b2 dap2 k) :
    Calls Try.prog 80 #[.agg #[.int .i64 m.L, .slice a m.nx.length cap, .slice a2 m.ac.length cap2], .agg #[.int .i64 k.L, .slice b k.nx.length dap, .slice b2 k.ac.length dap2], .agg #[.bool (f false false), .bool (f false true), .bool (f true false), .bool (f true true)]] W (GenPost W (paiE m k) m.L.toNat (jnL f m k)) := by
  have hb1 := below_alloc W (.cells #[.int .i64 m.L, .slice a m.nx.length cap, .slice a2 m.ac.length cap2] 25)
  have hb2 := hb1.alloc hb1.size (.cells #[.int .i64 k.L, .slice b k.nx.length dap, .slice b2 k.ac.length dap2] 25)
  have hb3 := hb2.alloc hb2.size (.cells #[.bool (f false false), .bool (f false true), .bool (f true false), .bool (f true true)] 89)
  have hb4 := hb3.alloc hb3.size (.cells #[.int .i64 0, .slice none 0 0, .slice none 0 0] 25)
  have s1 : (W.alloc (.cells #[.int .i64 m.L, .slice a m.nx.length cap, .slice a2 m.ac.length cap2] 25)).heap.size = W.heap.size + 1 := by simp
  have s2 : ((W.alloc (.cells #[.int .i64 m.L, .slice a m.nx.length cap, .slice a2 m.ac.length cap2] 25)).alloc (.cells #[.int .i64 k.L, .slice b k.nx.length dap, .slice b2 k.ac.length dap2] 25)).heap.size = W.heap.size + 2 := by simp
  have s3 : (((W.alloc (.cells #[.int .i64 m.L, .slice a m.nx.length cap, .slice a2 m.ac.length cap2] 25)).alloc (.cells #[.int .i64 k.L, .slice b k.nx.length dap, .slice b2 k.ac.length dap2] 25)).alloc (.cells #[.bool (f false false), .bool (f false true), .bool (f true false), .bool (f true true)] 89)).heap.size = W.heap.size + 3 := by simp
  have s4 : ((((W.alloc (.cells #[.int .i64 m.L, .slice a m.nx.length cap, .slice a2 m.ac.length cap2] 25)).alloc (.cells #[.int .i64 k.L, .slice b k.nx.length dap, .slice b2 k.ac.length dap2] 25)).alloc (.cells #[.bool (f false false), .bool (f false true), .bool (f true false), .bool (f true true)] 89)).alloc (.cells #[.int .i64 0, .slice none 0 0, .slice none 0 0] 25)).heap.size = W.heap.size + 4 := by simp
  have hc2 := below_alloc (W.alloc (.cells #[.int .i64 m.L, .slice a m.nx.length cap, .slice a2 m.ac.length cap2] 25)) (.cells #[.int .i64 k.L, .slice b k.nx.length dap, .slice b2 k.ac.length dap2] 25)
  have hc3 := below_alloc ((W.alloc (.cells #[.int .i64 m.L, .slice a m.nx.length cap, .slice a2 m.ac.length cap2] 25)).alloc (.cells #[.int .i64 k.L, .slice b k.nx.length dap, .slice b2 k.ac.length dap2] 25)) (.cells #[.bool (f false false), .bool (f false true), .bool (f true false), .bool (f true true)] 89)
  have hc4 := below_alloc (((W.alloc (.cells #[.int .i64 m.L, .slice a m.nx.length cap, .slice a2 m.ac.length cap2] 25)).alloc (.cells #[.int .i64 k.L, .slice b k.nx.length dap, .slice b2 k.ac.length dap2] 25)).alloc (.cells #[.bool (f false false), .bool (f false true), .bool (f true false), .bool (f true true)] 89)) (.cells #[.int .i64 0, .slice none 0 0, .slice none 0 0] 25)
  have hX := (((box_new W (.int .i64 m.L) (.slice a m.nx.length cap) (.slice a2 m.ac.length cap2) 25).below hc2).below hc3).below hc4
  have hY := ((box_new (W.alloc (.cells #[.int .i64 m.L, .slice a m.nx.length cap, .slice a2 m.ac.length cap2] 25)) (.int .i64 k.L) (.slice b k.nx.length dap) (.slice b2 k.ac.length dap2) 25).below hc3).below hc4
  have hT := (tab_new ((W.alloc (.cells #[.int .i64 m.L, .slice a m.nx.length cap, .slice a2 m.ac.length cap2] 25)).alloc (.cells #[.int .i64 k.L, .slice b k.nx.length dap, .slice b2 k.ac.length dap2] 25)) f).below hc4
  have hR := res_cells (w := (((W.alloc (.cells #[.int .i64 m.L, .slice a m.nx.length cap, .slice a2 m.ac.length cap2] 25)).alloc (.cells #[.int .i64 k.L, .slice b k.nx.length dap, .slice b2 k.ac.length dap2] 25)).alloc (.cells #[.bool (f false false), .bool (f false true), .bool (f true false), .bool (f true true)] 89))) (w1 := ((((W.alloc (.cells #[.int .i64 m.L, .slice a m.nx.length cap, .slice a2 m.ac.length cap2] 25)).alloc (.cells #[.int .i64 k.L, .slice b k.nx.length dap, .slice b2 k.ac.length dap2] 25)).alloc (.cells #[.bool (f false false), .bool (f false true), .bool (f true false), .bool (f true true)] 89)).alloc (.cells #[.int .i64 0, .slice none 0 0, .slice none 0 0] 25))) (Below.refl _ _) rfl
  rw [s1] at hY
  rw [s2] at hT
  rw [s3] at hR
  have HX := hid hX
  have HY := hid hY
  have HT := hid hT
  have HR := hid hR
  have HB := hid hb4
  have HM := hid (hM.below hb4)
  have HK := hid (hK.below hb4)
  have Hs4 := hid s4
  have HC := hid (rpair_any m k a a2 cap cap2 b b2 dap dap2 ((((W.alloc (.cells #[.int .i64 m.L, .slice a m.nx.length cap, .slice a2 m.ac.length cap2] 25)).alloc (.cells #[.int .i64 k.L, .slice b k.nx.length dap, .slice b2 k.ac.length dap2] 25)).alloc (.cells #[.bool (f false false), .bool (f false true), .bool (f true false), .bool (f true true)] 89)).alloc (.cells #[.int .i64 0, .slice none 0 0, .slice none 0 0] 25)) (hM.below hb4) (hK.below hb4))
  clear hb1 hb2 hb3 hb4 s1 s2 s3 s4 hc2 hc3 hc4 hX hY hT hR hM hK
  obtain ⟨i0, hi0, hz0, hz1, hz2⟩ := info_parts info3
  obtain ⟨i3, hi3, hy0, hy1, hy2⟩ := info_parts info33
  obtain ⟨i4, hi4, hw0, hw1, hw2⟩ := info_parts info4
  go_enter Try.func80, Try.ntmps80
  go_wp2_with fail
  refine HC.out.mono ?_
  rintro e w1 ⟨rfl, hb⟩
  clear HC
  replace HX := hid (HX.out.below hb)
  replace HY := hid (HY.out.below hb)
  replace HT := hid (HT.out.below hb)
  replace HR := hid (rowIs_below HR.out hb HR.out.lt)
  replace HM := hid (HM.out.below hb)
  replace HK := hid (HK.out.below hb)
  replace HB := hid (HB.out.trans (hb.mono HB.out.size))
  have hs1 : W.heap.size + 4 ≤ w1.heap.size := by have := hb.size; rw [Hs4.out] at this; exact this
  clear hb Hs4
  have x0 := HX.out.c0
  have x1 := HX.out.c1
  have x2 := HX.out.c2
  have xl := HX.out.lt
  have y0 := HY.out.c0
  have y1 := HY.out.c1
  have y2 := HY.out.c2
  have yl := HY.out.lt
  by_cases hv : paiE m k = 0
  · have HP := hid (paiE_zero.1 hv)
    have Hv0 := hid hv
    have d1 : (paiE m k == 0) = true := by rw [hv]; rfl
    have d2 : (paiE m k != 0) = false := by rw [bne, d1]; rfl
    have HC := hid (walk_any m k a a2 cap cap2 b b2 dap dap2 w1 HM.out HK.out HP.out.1 HP.out.2.1 HP.out.2.2)
    clear hv
    go_wp2_with fail
    refine HC.out.mono ?_
    rintro e X ⟨i0', v, R, V, mb, hle, _, hI, rfl, hVw, hb⟩
    clear HC d1 d2 x0 x1 x2 xl y0 y1 y2 yl
    have HA := hid (jn_auto HP.out.1 HP.out.2.1 HP.out.2.2)
    have hE := raw_end HA.out i0' (by omega)
    have hn5 := raw_le HA.out (by have := HP.out.1.n64; have := HP.out.2.1.n64; have h1 : (m.nx.length * k.nx.length : Int) ≤ 64 * 64 := Int.mul_le_mul (by omega) (by omega) (by omega) (by omega); omega) i0'
    have hin := raw_in HA.out i0'
    obtain ⟨bo, co, rfl, hPA⟩ := hI.pairs (raw_pos i0')
    generalize raw m.L.toNat (jnS m k) i0' = S at *
    have HPr := hid (ProdAt.mk (HX.out.below hb) (HY.out.below hb) (HT.out.below hb) (rowIs_below HR.out hb HR.out.lt) (HM.out.below hb) (HK.out.below hb) hPA)
    replace HB := hid (HB.out.trans (hb.mono HB.out.size))
    have HE := hid hE
    have Hin := hid hin
    have hsX : W.heap.size + 4 ≤ X.heap.size := by have := hb.size; omega
    have HM0 := hid (mapOf_new Try.prog 102 X)
    clear hI hb hle hE hin hPA HX HY HT HR HM HK hVw hs1
    have hmm := @run_makeMap Try.prog
    go_wp2_with fail
    clear hmm
    go_loopw [11] (fun v11 w' => ∃ (i : Nat), v11 = .int .i64 i ∧ i ≤ S.length ∧ Below X.heap.size X w' ∧ MapOf Try.prog 102 w' X.heap.size i (gE (pairV k.nx.length) (S.take i))) (fun v11 _ => 5100 - (intOf v11).toNat)
    case atStart => exact ⟨0, rfl, by omega, below_alloc X _, HM0.out⟩
    case round =>
      clear HM0
      obtain ⟨i, rfl, hi, hbX, hMp⟩ := hrel
      have hPr := HPr.out.below hbX
      by_cases hlt : i < S.length
      · obtain ⟨sn, tn, hn⟩ := next_pair HP.out.1 HP.out.2.1 HP.out.2.2 (Hin.out (S.getD i 0) (by simp [List.getD, hlt])).1 (Hin.out (S.getD i 0) (by simp [List.getD, hlt])).2 0 (by have := HP.out.1.l1; omega)
        have p0 := hPr.p.c0 i hlt
        have p1 := hPr.p.c1 i hlt
        rw [hn.q] at p0
        rw [hn.r] at p1
        have pl := hPr.p.lt
        have hpv : pairV k.nx.length (S.getD i 0) = .agg #[.int .i64 (sn : Nat), .int .i64 (tn : Nat)] := by unfold pairV; rw [hn.q, hn.r]
        have h64 := HP.out.1.n64
        have h64' := HP.out.2.1.n64
        have hK1 : (0 : Int) < (k.nx.length : Int) := by have := HP.out.2.1.n1; omega
        obtain ⟨l, hl⟩ := key102 (wf_small sn (by have := hn.lm; omega)) (wf_small tn (by have := hn.lk; omega))
        have hno := gE_no (enc := pairV k.nx.length) (D := fun _ => True) (pairV_inj hK1) (fun _ _ => trivial) trivial (nodup_take HE.out.nd hlt)
        have H20 : Hid (wr.drew.cell? ⟨bo, i * 3, none⟩ = some (.int .i64 (sn : Nat)) ∧ wr.drew.cell? ⟨bo, i * 3 + 1, none⟩ = some (.int .i64 (tn : Nat))) := hid ⟨p0, p1⟩
        have hd : Below wr.heap.size wr wr.drew := (Below.refl _ _).drew
        have hbZ := hbX.trans (hd.mono hbX.size)
        obtain ⟨w2, hrun2, hM2, hg2, hz2'⟩ := (hMp.below hd hMp.lt).insert law102 Try.underlying119 (v := .int .i64 (i : Nat)) hl (hpv ▸ hno)
        have hM3 := hM2.congr (g' := gE (pairV k.nx.length) (S.take (i + 1))) (fun y => by
          rw [take_snoc hlt, ← gE_new (D := fun _ => True) (pairV_inj hK1) (fun _ _ => trivial) trivial (nodup_take HE.out.nd hlt) y, hpv, List.length_take, Nat.min_eq_left (Nat.le_of_lt hlt)])
        have hb2 := hbZ.grown hg2 hbZ.size fun k hk => by cases hk; exact Nat.le_refl _
        have HM3 := hid hM3
        have Hb2 := hid hb2
        have i2 : (i : Int) < (S.length : Int) := by omega
        have i3 : (0 : Int) ≤ (i : Int) := by omega
        clear hPr hMp hbX hbZ hno hl hpv hn hM2 hg2 hM3 hb2 hz2' p0 p1 pl h64 h64' hK1 hd
        go_wp2_with fail
        refine wp_region_but_d (fun w' => w'.cell? ⟨bo, i * 3, none⟩ = some (.int .i64 (sn : Nat)) ∧ w'.cell? ⟨bo, i * 3 + 1, none⟩ = some (.int .i64 (tn : Nat))) 13 (by kernel_rfl) ?_
        intro Z0 hZ0
        rw [← hZ0] at H20 hrun2
        clear hZ0
        refine but_take (i := 0) (v := (.map (some X.heap.size))) rfl (by kernel_rfl) (by kernel_rfl) (by kernel_rfl) (by kernel_rfl) (fun _ _ _ h => h) (Or.inl ⟨by rfl, ?hy⟩) H20.out ?_
        case hy => intro w hSw; (try dsimp only at hSw); go_simp
        try simp only [Act.put, List.setIfInBounds_toArray, List.set_cons_zero, List.set_cons_succ]
        refine but_take (i := 1) (v := (.slice (some ⟨bo, 0, none⟩) S.length co)) rfl (by kernel_rfl) (by kernel_rfl) (by kernel_rfl) (by kernel_rfl) (fun _ _ _ h => h) (Or.inl ⟨by rfl, ?hy⟩) H20.out ?_
        case hy => intro w hSw; (try dsimp only at hSw); go_simp
        try simp only [Act.put, List.setIfInBounds_toArray, List.set_cons_zero, List.set_cons_succ]
        refine but_take (i := 2) (v := (.int .i64 (i : Nat))) rfl (by kernel_rfl) (by kernel_rfl) (by kernel_rfl) (by kernel_rfl) (fun _ _ _ h => h) (Or.inl ⟨by rfl, ?hy⟩) H20.out ?_
        case hy => intro w hSw; (try dsimp only at hSw); go_simp
        try simp only [Act.put, List.setIfInBounds_toArray, List.set_cons_zero, List.set_cons_succ]
        refine but_take (i := 3) (v := (.pointer (some ⟨bo, i * 3, none⟩))) rfl (by kernel_rfl) (by kernel_rfl) (by kernel_rfl) (by kernel_rfl) (fun _ _ _ h => h) (Or.inl ⟨by rfl, ?hy⟩) H20.out ?_
        case hy => intro w hSw; (try dsimp only at hSw); go_simp
        try simp only [Act.put, List.setIfInBounds_toArray, List.set_cons_zero, List.set_cons_succ]
        refine but_take (i := 4) (v := (.pointer (some ⟨bo, i * 3, none⟩))) rfl (by kernel_rfl) (by kernel_rfl) (by kernel_rfl) (by kernel_rfl) (fun _ _ _ h => h) (Or.inl ⟨by rfl, ?hy⟩) H20.out ?_
        case hy => intro w hSw; (try dsimp only at hSw); go_simp
        try simp only [Act.put, List.setIfInBounds_toArray, List.set_cons_zero, List.set_cons_succ]
        refine but_take (i := 5) (v := (.int .i64 (sn : Nat))) rfl (by kernel_rfl) (by kernel_rfl) (by kernel_rfl) (by kernel_rfl) (fun _ _ _ h => h) (Or.inl ⟨by rfl, ?hy⟩) H20.out ?_
        case hy => intro w hSw; (try dsimp only at hSw); go_simp
        try simp only [Act.put, List.setIfInBounds_toArray, List.set_cons_zero, List.set_cons_succ]
        refine but_take (i := 6) (v := (.slice (some ⟨bo, 0, none⟩) S.length co)) rfl (by kernel_rfl) (by kernel_rfl) (by kernel_rfl) (by kernel_rfl) (fun _ _ _ h => h) (Or.inl ⟨by rfl, ?hy⟩) H20.out ?_
        case hy => intro w hSw; (try dsimp only at hSw); go_simp
        try simp only [Act.put, List.setIfInBounds_toArray, List.set_cons_zero, List.set_cons_succ]
        refine but_take (i := 7) (v := (.int .i64 (i : Nat))) rfl (by kernel_rfl) (by kernel_rfl) (by kernel_rfl) (by kernel_rfl) (fun _ _ _ h => h) (Or.inl ⟨by rfl, ?hy⟩) H20.out ?_
        case hy => intro w hSw; (try dsimp only at hSw); go_simp
        try simp only [Act.put, List.setIfInBounds_toArray, List.set_cons_zero, List.set_cons_succ]
        refine but_take (i := 8) (v := (.pointer (some ⟨bo, i * 3, none⟩))) rfl (by kernel_rfl) (by kernel_rfl) (by kernel_rfl) (by kernel_rfl) (fun _ _ _ h => h) (Or.inl ⟨by rfl, ?hy⟩) H20.out ?_
        case hy => intro w hSw; (try dsimp only at hSw); go_simp
        try simp only [Act.put, List.setIfInBounds_toArray, List.set_cons_zero, List.set_cons_succ]
        refine but_take (i := 9) (v := (.pointer (some ⟨bo, i * 3 + 1, none⟩))) rfl (by kernel_rfl) (by kernel_rfl) (by kernel_rfl) (by kernel_rfl) (fun _ _ _ h => h) (Or.inl ⟨by rfl, ?hy⟩) H20.out ?_
        case hy => intro w hSw; (try dsimp only at hSw); go_simp
        try simp only [Act.put, List.setIfInBounds_toArray, List.set_cons_zero, List.set_cons_succ]
        refine but_take (i := 10) (v := (.int .i64 (tn : Nat))) rfl (by kernel_rfl) (by kernel_rfl) (by kernel_rfl) (by kernel_rfl) (fun _ _ _ h => h) (Or.inl ⟨by rfl, ?hy⟩) H20.out ?_
        case hy => intro w hSw; (try dsimp only at hSw); go_simp
        try simp only [Act.put, List.setIfInBounds_toArray, List.set_cons_zero, List.set_cons_succ]
        refine but_take (i := 11) (v := (.agg #[.int .i64 (sn : Nat), .int .i64 (tn : Nat)])) rfl (by kernel_rfl) (by kernel_rfl) (by kernel_rfl) (by kernel_rfl) (fun _ _ _ h => h) (Or.inl ⟨by rfl, ?hy⟩) H20.out ?_
        case hy => intro w hSw; (try dsimp only at hSw); go_simp
        try simp only [Act.put, List.setIfInBounds_toArray, List.set_cons_zero, List.set_cons_succ]
        refine but_take (i := 12) (v := (.int .i64 (i : Nat))) rfl (by kernel_rfl) (by kernel_rfl) (by kernel_rfl) (by kernel_rfl) (fun _ _ _ h => h) (Or.inl ⟨by rfl, ?hy⟩) H20.out ?_
        case hy => intro w hSw; (try dsimp only at hSw); go_simp
        try simp only [Act.put, List.setIfInBounds_toArray, List.set_cons_zero, List.set_cons_succ]
        refine but_one (i := 13) (by kernel_rfl) ?_
        refine wpOp_one rfl (by rfl) (fun K hK => ?_)
        go_simp
        refine hK _ _ ⟨fun h => absurd rfl h, but_done (by kernel_rfl) ?_ _⟩
        clear hK K
        try simp only [Act.put, List.setIfInBounds_toArray, List.set_cons_zero, List.set_cons_succ]
        clear H20 hrun2
        go_wp2_with fail
        go_roundw
        case rel => exact ⟨i + 1, by go_num, by omega, Hb2.out, HM3.out⟩
        case measure => simp [intOf]; omega
      · have i2 : ¬ (i : Int) < (S.length : Int) := by omega
        obtain rfl : i = S.length := by omega
        rw [List.take_length] at hMp
        have HPU := hid hPr
        have HMU := hid hMp
        have HBU := hid (HB.out.trans (hbX.mono (by omega)))
        have hsU : W.heap.size + 4 ≤ wr.heap.size := by have := hbX.size; omega
        have x0 := hPr.x.c0
        have xl := hPr.x.lt
        have HO := hid (PlO.start wr m.L.toNat (fun j => rowA m.L.toNat (jnS m k) S j) (fun _ => undef))
        have hbL : ((m.L.toNat : Nat) : Int) = m.L := by have := HP.out.1.l1; omega
        have hO0 := HO.out
        rw [hbL] at hO0
        have HO := hid hO0
        have HL := hid hbL
        have hK1 : (0 : Int) < (k.nx.length : Int) := by have := HP.out.2.1.n1; omega
        have HK1 := hid hK1
        have hL6 := HP.out.1.l6
        clear hPr hMp HPr HB hbX hO0 hK1 hbL
        go_wp2_with fail
        clear x0 xl i2 hi hlt
        generalize wr = U at *
        generalize U.alloc (.cells #[.int .i64 m.L, .slice none 0 0, .slice none 0 0] 25) = w5 at *
        go_loopw [13, 14, 15] (fun v13 v14 v15 w' => ∃ (j : Nat) (vn vb : Value) (Q : Nat → Value), v13 = .int .i64 j ∧ j ≤ S.length ∧ PlO U m.L.toNat j (fun j => rowA m.L.toNat (jnS m k) S j) ((S.take j).map (jnA f m k)) vn vb Q w') (fun v13 _ _ _ => 5100 - (intOf v13).toNat)
        case atStart => exact ⟨0, _, _, _, rfl, by omega, HO.out⟩
        case round =>
          clear HO
          obtain ⟨j, vn, vb, Q, rfl, hj, hO⟩ := hrel
          have hPr := HPU.out.below hO.bl
          have x0 := hPr.x.c0
          have xl := hPr.x.lt
          by_cases hlt : j < S.length
          · have i2 : (j : Int) < (S.length : Int) := by omega
            have HO := hid hO
            have Hj := hid hlt
            clear hO hPr
            go_wp2_with fail
            clear x0 xl
            go_loopw [14, 15] (fun v14 v15 w' => ∃ (c : Nat), v15 = .int .i64 c ∧ c ≤ m.L.toNat ∧ PlR U m.L.toNat j (fun j => rowA m.L.toNat (jnS m k) S j) ((S.take j).map (jnA f m k)) vn vb v14 Q c ((rowA m.L.toNat (jnS m k) S j).take c) w') (fun _ v15 _ => m.L.toNat - (intOf v15).toNat)
            case atStart => exact ⟨0, rfl, by omega, HO.out.fresh⟩
            case round =>
              clear HO
              obtain ⟨c, rfl, hc, hR⟩ := hrel
              have hPr := HPU.out.below hR.O.bl
              have x0 := hPr.x.c0
              have xl := hPr.x.lt
              obtain ⟨a8, k8, e8⟩ := row_shape hR.own
              subst e8
              clear hPr
              by_cases hlc : c < m.L.toNat
              · obtain ⟨sn, tn, hn⟩ := next_pair HP.out.1 HP.out.2.1 HP.out.2.2 (Hin.out (S.getD j 0) (by simp [List.getD, hlt])).1 (Hin.out (S.getD j 0) (by simp [List.getD, hlt])).2 c hlc
                have hPu := HPU.out
                obtain ⟨b1, o1, rfl, hb1, ra, rc, q0, _, _, hIA⟩ := hPu.mm.nx sn hn.lm
                obtain ⟨b3, o3, rfl, hb3, rb, rd, q3, _, _, hIB⟩ := hPu.kk.nx tn hn.lk
                obtain ⟨br, or, rfl, hbr, cr⟩ := hIA c (by have := hn.rm; omega)
                obtain ⟨bs, os, rfl, hbs, cs⟩ := hIB c (by have := hn.rk; omega)
                have p0 := hPu.p.c0 j hlt
                have p1 := hPu.p.c1 j hlt
                rw [hn.q] at p0
                rw [hn.r] at p1
                have hd := HE.out.cl j hlt c hlc
                obtain ⟨l, hl⟩ := key102 hn.wm hn.wk
                have hpv : pairV k.nx.length (jnS m k (S.getD j 0) c) = .agg #[.int .i64 (nth (rowOf m sn) c), .int .i64 (nth (rowOf k tn) c)] := by unfold pairV; rw [hn.dq, hn.dr]
                have hgy := gE_yes (enc := pairV k.nx.length) (D := fun _ => True) (pairV_inj HK1.out) (fun _ _ => trivial) hd
                rw [hpv] at hgy
                have HT := hid (rowA_take (step := jnS m k) (S := S) (j := j) hlc)
                have hxl := idx_lt hd
                have i3 : (0 : Int) ≤ (c : Int) := by omega
                have i4 : (c : Int) < ((rowOf m sn).length : Int) := by have := hn.rm; omega
                have i5 : (c : Int) < ((rowOf k tn).length : Int) := by have := hn.rk; omega
                have i6 : (0 : Int) ≤ (sn : Int) := by omega
                have i7 : (sn : Int) < (m.nx.length : Int) := by have := hn.lm; omega
                have i8' : (0 : Int) ≤ (tn : Int) := by omega
                have i9 : (tn : Int) < (k.nx.length : Int) := by have := hn.lk; omega
                have i10 : (c : Int) < m.L := by omega
                have i11 : (0 : Int) ≤ (j : Int) := by omega
                clear hn hpv hd hIA hIB
                generalize idx S (jnS m k (S.getD j 0) c) = x at *
                generalize nth (rowOf m sn) c = tv at *
                generalize nth (rowOf k tn) c = uv at *
                generalize (rowOf m sn).length = lm at *
                generalize (rowOf k tn).length = lk at *
                have HS : Hid (∀ w', Below U.heap.size U w' → w'.cell? ⟨W.heap.size, 1, none⟩ = some (.slice (some ⟨b1, o1, none⟩) m.nx.length cap) ∧ w'.cell? ⟨W.heap.size + 1, 1, none⟩ = some (.slice (some ⟨b3, o3, none⟩) k.nx.length dap) ∧ w'.cell? ⟨bo, j * 3, none⟩ = some (.int .i64 (sn : Nat)) ∧ w'.cell? ⟨bo, j * 3 + 1, none⟩ = some (.int .i64 (tn : Nat)) ∧ w'.cell? ⟨b1, o1 + sn, none⟩ = some (.slice (some ⟨br, or, none⟩) lm rc) ∧ w'.cell? ⟨br, or + c, none⟩ = some (.int .i64 tv) ∧ w'.cell? ⟨b3, o3 + tn, none⟩ = some (.slice (some ⟨bs, os, none⟩) lk rd) ∧ w'.cell? ⟨bs, os + c, none⟩ = some (.int .i64 uv) ∧ (Instr.lookup 119 (.map (some X.heap.size)) (.agg #[.int .i64 tv, .int .i64 uv]) false).run Try.prog w' = .ok (.int .i64 (x : Nat)) w') := hid (fun w' hb => ⟨(hb.cell (p := ⟨W.heap.size, 1, none⟩) hPu.x.lt).trans hPu.x.c1, (hb.cell (p := ⟨W.heap.size + 1, 1, none⟩) hPu.y.lt).trans hPu.y.c1, (hb.cell (p := ⟨bo, j * 3, none⟩) hPu.p.lt).trans p0, (hb.cell (p := ⟨bo, j * 3 + 1, none⟩) hPu.p.lt).trans p1, (hb.cell (p := ⟨b1, o1 + sn, none⟩) hb1).trans q0, (hb.cell (p := ⟨br, or + c, none⟩) hbr).trans cr, (hb.cell (p := ⟨b3, o3 + tn, none⟩) hb3).trans q3, (hb.cell (p := ⟨bs, os + c, none⟩) hbs).trans cs, by
                  have := (HMU.out.below hb HMU.out.lt).look_yes law102 Try.underlying119 hl hgy false
                  simpa using this⟩)
                have hd : Below wr.heap.size wr wr.drew := (Below.refl _ _).drew
                have HR6 := hid (hR.below hd)
                have H20 : Hid (wr.drew.cell? ⟨W.heap.size, 1, none⟩ = some (.slice (some ⟨b1, o1, none⟩) m.nx.length cap) ∧ wr.drew.cell? ⟨W.heap.size + 1, 1, none⟩ = some (.slice (some ⟨b3, o3, none⟩) k.nx.length dap) ∧ wr.drew.cell? ⟨bo, j * 3, none⟩ = some (.int .i64 (sn : Nat)) ∧ wr.drew.cell? ⟨bo, j * 3 + 1, none⟩ = some (.int .i64 (tn : Nat)) ∧ wr.drew.cell? ⟨b1, o1 + sn, none⟩ = some (.slice (some ⟨br, or, none⟩) lm rc) ∧ wr.drew.cell? ⟨br, or + c, none⟩ = some (.int .i64 tv) ∧ wr.drew.cell? ⟨b3, o3 + tn, none⟩ = some (.slice (some ⟨bs, os, none⟩) lk rd) ∧ wr.drew.cell? ⟨bs, os + c, none⟩ = some (.int .i64 uv) ∧ (Instr.lookup 119 (.map (some X.heap.size)) (.agg #[.int .i64 tv, .int .i64 uv]) false).run Try.prog wr.drew = .ok (.int .i64 (x : Nat)) wr.drew) := hid (HS.out _ HR6.out.O.bl)
                have Hlc := hid hlc
                clear hPu p0 p1 q0 q3 cr cs hb1 hb3 hbr hbs hl hgy hR hd hlc
                go_wp2_with fail
                clear x0 xl
                refine wp_region_but_d (fun w' => w'.cell? ⟨W.heap.size, 1, none⟩ = some (.slice (some ⟨b1, o1, none⟩) m.nx.length cap) ∧ w'.cell? ⟨W.heap.size + 1, 1, none⟩ = some (.slice (some ⟨b3, o3, none⟩) k.nx.length dap) ∧ w'.cell? ⟨bo, j * 3, none⟩ = some (.int .i64 (sn : Nat)) ∧ w'.cell? ⟨bo, j * 3 + 1, none⟩ = some (.int .i64 (tn : Nat)) ∧ w'.cell? ⟨b1, o1 + sn, none⟩ = some (.slice (some ⟨br, or, none⟩) lm rc) ∧ w'.cell? ⟨br, or + c, none⟩ = some (.int .i64 tv) ∧ w'.cell? ⟨b3, o3 + tn, none⟩ = some (.slice (some ⟨bs, os, none⟩) lk rd) ∧ w'.cell? ⟨bs, os + c, none⟩ = some (.int .i64 uv) ∧ (Instr.lookup 119 (.map (some X.heap.size)) (.agg #[.int .i64 tv, .int .i64 uv]) false).run Try.prog w' = .ok (.int .i64 (x : Nat)) w') 30 (by kernel_rfl) ?_
                intro Z0 hZ0
                rw [← hZ0] at H20 HR6
                clear hZ0
                generalize wr = wold at *
                refine but_take (i := 0) (v := (.slice a8 c k8)) rfl (by kernel_rfl) (by kernel_rfl) (by kernel_rfl) (by kernel_rfl) (fun _ _ _ h => h) (Or.inl ⟨by rfl, ?hy⟩) H20.out ?_
                case hy => intro w hSw; (try dsimp only at hSw); go_simp
                try simp only [Act.put, List.setIfInBounds_toArray, List.set_cons_zero, List.set_cons_succ]
                refine but_take (i := 1) (v := (.map (some X.heap.size))) rfl (by kernel_rfl) (by kernel_rfl) (by kernel_rfl) (by kernel_rfl) (fun _ _ _ h => h) (Or.inl ⟨by rfl, ?hy⟩) H20.out ?_
                case hy => intro w hSw; (try dsimp only at hSw); go_simp
                try simp only [Act.put, List.setIfInBounds_toArray, List.set_cons_zero, List.set_cons_succ]
                refine but_take (i := 2) (v := (.pointer (some ⟨W.heap.size, 1, none⟩))) rfl (by kernel_rfl) (by kernel_rfl) (by kernel_rfl) (by kernel_rfl) (fun _ _ _ h => h) (Or.inl ⟨by rfl, ?hy⟩) H20.out ?_
                case hy => intro w hSw; (try dsimp only at hSw); go_simp
                try simp only [Act.put, List.setIfInBounds_toArray, List.set_cons_zero, List.set_cons_succ]
                refine but_take (i := 3) (v := (.slice (some ⟨b1, o1, none⟩) m.nx.length cap)) rfl (by kernel_rfl) (by kernel_rfl) (by kernel_rfl) (by kernel_rfl) (fun _ _ _ h => h) (Or.inl ⟨by rfl, ?hy⟩) H20.out ?_
                case hy => intro w hSw; (try dsimp only at hSw); go_simp
                try simp only [Act.put, List.setIfInBounds_toArray, List.set_cons_zero, List.set_cons_succ]
                refine but_take (i := 4) (v := (.slice (some ⟨bo, 0, none⟩) S.length co)) rfl (by kernel_rfl) (by kernel_rfl) (by kernel_rfl) (by kernel_rfl) (fun _ _ _ h => h) (Or.inl ⟨by rfl, ?hy⟩) H20.out ?_
                case hy => intro w hSw; (try dsimp only at hSw); go_simp
                try simp only [Act.put, List.setIfInBounds_toArray, List.set_cons_zero, List.set_cons_succ]
                refine but_take (i := 5) (v := (.int .i64 (j : Nat))) rfl (by kernel_rfl) (by kernel_rfl) (by kernel_rfl) (by kernel_rfl) (fun _ _ _ h => h) (Or.inl ⟨by rfl, ?hy⟩) H20.out ?_
                case hy => intro w hSw; (try dsimp only at hSw); go_simp
                try simp only [Act.put, List.setIfInBounds_toArray, List.set_cons_zero, List.set_cons_succ]
                refine but_take (i := 6) (v := (.pointer (some ⟨bo, j * 3, none⟩))) rfl (by kernel_rfl) (by kernel_rfl) (by kernel_rfl) (by kernel_rfl) (fun _ _ _ h => h) (Or.inl ⟨by rfl, ?hy⟩) H20.out ?_
                case hy => intro w hSw; (try dsimp only at hSw); go_simp
                try simp only [Act.put, List.setIfInBounds_toArray, List.set_cons_zero, List.set_cons_succ]
                refine but_take (i := 7) (v := (.pointer (some ⟨bo, j * 3, none⟩))) rfl (by kernel_rfl) (by kernel_rfl) (by kernel_rfl) (by kernel_rfl) (fun _ _ _ h => h) (Or.inl ⟨by rfl, ?hy⟩) H20.out ?_
                case hy => intro w hSw; (try dsimp only at hSw); go_simp
                try simp only [Act.put, List.setIfInBounds_toArray, List.set_cons_zero, List.set_cons_succ]
                refine but_take (i := 8) (v := (.int .i64 (sn : Nat))) rfl (by kernel_rfl) (by kernel_rfl) (by kernel_rfl) (by kernel_rfl) (fun _ _ _ h => h) (Or.inl ⟨by rfl, ?hy⟩) H20.out ?_
                case hy => intro w hSw; (try dsimp only at hSw); go_simp
                try simp only [Act.put, List.setIfInBounds_toArray, List.set_cons_zero, List.set_cons_succ]
                refine but_take (i := 9) (v := (.pointer (some ⟨b1, o1 + sn, none⟩))) rfl (by kernel_rfl) (by kernel_rfl) (by kernel_rfl) (by kernel_rfl) (fun _ _ _ h => h) (Or.inl ⟨by rfl, ?hy⟩) H20.out ?_
                case hy => intro w hSw; (try dsimp only at hSw); go_simp
                try simp only [Act.put, List.setIfInBounds_toArray, List.set_cons_zero, List.set_cons_succ]
                refine but_take (i := 10) (v := (.slice (some ⟨br, or, none⟩) lm rc)) rfl (by kernel_rfl) (by kernel_rfl) (by kernel_rfl) (by kernel_rfl) (fun _ _ _ h => h) (Or.inl ⟨by rfl, ?hy⟩) H20.out ?_
                case hy => intro w hSw; (try dsimp only at hSw); go_simp
                try simp only [Act.put, List.setIfInBounds_toArray, List.set_cons_zero, List.set_cons_succ]
                refine but_take (i := 11) (v := (.int .i64 (c : Nat))) rfl (by kernel_rfl) (by kernel_rfl) (by kernel_rfl) (by kernel_rfl) (fun _ _ _ h => h) (Or.inl ⟨by rfl, ?hy⟩) H20.out ?_
                case hy => intro w hSw; (try dsimp only at hSw); go_simp
                try simp only [Act.put, List.setIfInBounds_toArray, List.set_cons_zero, List.set_cons_succ]
                refine but_take (i := 12) (v := (.pointer (some ⟨br, or + c, none⟩))) rfl (by kernel_rfl) (by kernel_rfl) (by kernel_rfl) (by kernel_rfl) (fun _ _ _ h => h) (Or.inl ⟨by rfl, ?hy⟩) H20.out ?_
                case hy => intro w hSw; (try dsimp only at hSw); go_simp
                try simp only [Act.put, List.setIfInBounds_toArray, List.set_cons_zero, List.set_cons_succ]
                refine but_take (i := 13) (v := (.int .i64 tv)) rfl (by kernel_rfl) (by kernel_rfl) (by kernel_rfl) (by kernel_rfl) (fun _ _ _ h => h) (Or.inl ⟨by rfl, ?hy⟩) H20.out ?_
                case hy => intro w hSw; (try dsimp only at hSw); go_simp
                try simp only [Act.put, List.setIfInBounds_toArray, List.set_cons_zero, List.set_cons_succ]
                refine but_take (i := 14) (v := (.pointer (some ⟨W.heap.size + 1, 1, none⟩))) rfl (by kernel_rfl) (by kernel_rfl) (by kernel_rfl) (by kernel_rfl) (fun _ _ _ h => h) (Or.inl ⟨by rfl, ?hy⟩) H20.out ?_
                case hy => intro w hSw; (try dsimp only at hSw); go_simp
                try simp only [Act.put, List.setIfInBounds_toArray, List.set_cons_zero, List.set_cons_succ]
                refine but_take (i := 15) (v := (.slice (some ⟨b3, o3, none⟩) k.nx.length dap)) rfl (by kernel_rfl) (by kernel_rfl) (by kernel_rfl) (by kernel_rfl) (fun _ _ _ h => h) (Or.inl ⟨by rfl, ?hy⟩) H20.out ?_
                case hy => intro w hSw; (try dsimp only at hSw); go_simp
                try simp only [Act.put, List.setIfInBounds_toArray, List.set_cons_zero, List.set_cons_succ]
                refine but_take (i := 16) (v := (.slice (some ⟨bo, 0, none⟩) S.length co)) rfl (by kernel_rfl) (by kernel_rfl) (by kernel_rfl) (by kernel_rfl) (fun _ _ _ h => h) (Or.inl ⟨by rfl, ?hy⟩) H20.out ?_
                case hy => intro w hSw; (try dsimp only at hSw); go_simp
                try simp only [Act.put, List.setIfInBounds_toArray, List.set_cons_zero, List.set_cons_succ]
                refine but_take (i := 17) (v := (.int .i64 (j : Nat))) rfl (by kernel_rfl) (by kernel_rfl) (by kernel_rfl) (by kernel_rfl) (fun _ _ _ h => h) (Or.inl ⟨by rfl, ?hy⟩) H20.out ?_
                case hy => intro w hSw; (try dsimp only at hSw); go_simp
                try simp only [Act.put, List.setIfInBounds_toArray, List.set_cons_zero, List.set_cons_succ]
                refine but_take (i := 18) (v := (.pointer (some ⟨bo, j * 3, none⟩))) rfl (by kernel_rfl) (by kernel_rfl) (by kernel_rfl) (by kernel_rfl) (fun _ _ _ h => h) (Or.inl ⟨by rfl, ?hy⟩) H20.out ?_
                case hy => intro w hSw; (try dsimp only at hSw); go_simp
                try simp only [Act.put, List.setIfInBounds_toArray, List.set_cons_zero, List.set_cons_succ]
                refine but_take (i := 19) (v := (.pointer (some ⟨bo, j * 3 + 1, none⟩))) rfl (by kernel_rfl) (by kernel_rfl) (by kernel_rfl) (by kernel_rfl) (fun _ _ _ h => h) (Or.inl ⟨by rfl, ?hy⟩) H20.out ?_
                case hy => intro w hSw; (try dsimp only at hSw); go_simp
                try simp only [Act.put, List.setIfInBounds_toArray, List.set_cons_zero, List.set_cons_succ]
                refine but_take (i := 20) (v := (.int .i64 (tn : Nat))) rfl (by kernel_rfl) (by kernel_rfl) (by kernel_rfl) (by kernel_rfl) (fun _ _ _ h => h) (Or.inl ⟨by rfl, ?hy⟩) H20.out ?_
                case hy => intro w hSw; (try dsimp only at hSw); go_simp
                try simp only [Act.put, List.setIfInBounds_toArray, List.set_cons_zero, List.set_cons_succ]
                refine but_take (i := 21) (v := (.pointer (some ⟨b3, o3 + tn, none⟩))) rfl (by kernel_rfl) (by kernel_rfl) (by kernel_rfl) (by kernel_rfl) (fun _ _ _ h => h) (Or.inl ⟨by rfl, ?hy⟩) H20.out ?_
                case hy => intro w hSw; (try dsimp only at hSw); go_simp
                try simp only [Act.put, List.setIfInBounds_toArray, List.set_cons_zero, List.set_cons_succ]
                refine but_take (i := 22) (v := (.slice (some ⟨bs, os, none⟩) lk rd)) rfl (by kernel_rfl) (by kernel_rfl) (by kernel_rfl) (by kernel_rfl) (fun _ _ _ h => h) (Or.inl ⟨by rfl, ?hy⟩) H20.out ?_
                case hy => intro w hSw; (try dsimp only at hSw); go_simp
                try simp only [Act.put, List.setIfInBounds_toArray, List.set_cons_zero, List.set_cons_succ]
                refine but_take (i := 23) (v := (.int .i64 (c : Nat))) rfl (by kernel_rfl) (by kernel_rfl) (by kernel_rfl) (by kernel_rfl) (fun _ _ _ h => h) (Or.inl ⟨by rfl, ?hy⟩) H20.out ?_
                case hy => intro w hSw; (try dsimp only at hSw); go_simp
                try simp only [Act.put, List.setIfInBounds_toArray, List.set_cons_zero, List.set_cons_succ]
                refine but_take (i := 24) (v := (.pointer (some ⟨bs, os + c, none⟩))) rfl (by kernel_rfl) (by kernel_rfl) (by kernel_rfl) (by kernel_rfl) (fun _ _ _ h => h) (Or.inl ⟨by rfl, ?hy⟩) H20.out ?_
                case hy => intro w hSw; (try dsimp only at hSw); go_simp
                try simp only [Act.put, List.setIfInBounds_toArray, List.set_cons_zero, List.set_cons_succ]
                refine but_take (i := 25) (v := (.int .i64 uv)) rfl (by kernel_rfl) (by kernel_rfl) (by kernel_rfl) (by kernel_rfl) (fun _ _ _ h => h) (Or.inl ⟨by rfl, ?hy⟩) H20.out ?_
                case hy => intro w hSw; (try dsimp only at hSw); go_simp
                try simp only [Act.put, List.setIfInBounds_toArray, List.set_cons_zero, List.set_cons_succ]
                refine but_take (i := 26) (v := (.agg #[.int .i64 tv, .int .i64 uv])) rfl (by kernel_rfl) (by kernel_rfl) (by kernel_rfl) (by kernel_rfl) (fun _ _ _ h => h) (Or.inl ⟨by rfl, ?hy⟩) H20.out ?_
                case hy => intro w hSw; (try dsimp only at hSw); go_simp
                try simp only [Act.put, List.setIfInBounds_toArray, List.set_cons_zero, List.set_cons_succ]
                refine but_take (i := 27) (v := (.int .i64 (x : Nat))) rfl (by kernel_rfl) (by kernel_rfl) (by kernel_rfl) (by kernel_rfl) (fun _ _ _ h => h) (Or.inl ⟨by rfl, ?hy⟩) H20.out ?_
                case hy => intro w hSw; (try dsimp only at hSw); go_simp
                try simp only [Act.put, List.setIfInBounds_toArray, List.set_cons_zero, List.set_cons_succ]
                have H21 : Hid ((Z0.alloc (.cells #[.int .i64 (x : Nat)] 3)).cell? ⟨W.heap.size, 1, none⟩ = some (.slice (some ⟨b1, o1, none⟩) m.nx.length cap) ∧ (Z0.alloc (.cells #[.int .i64 (x : Nat)] 3)).cell? ⟨W.heap.size + 1, 1, none⟩ = some (.slice (some ⟨b3, o3, none⟩) k.nx.length dap) ∧ (Z0.alloc (.cells #[.int .i64 (x : Nat)] 3)).cell? ⟨bo, j * 3, none⟩ = some (.int .i64 (sn : Nat)) ∧ (Z0.alloc (.cells #[.int .i64 (x : Nat)] 3)).cell? ⟨bo, j * 3 + 1, none⟩ = some (.int .i64 (tn : Nat)) ∧ (Z0.alloc (.cells #[.int .i64 (x : Nat)] 3)).cell? ⟨b1, o1 + sn, none⟩ = some (.slice (some ⟨br, or, none⟩) lm rc) ∧ (Z0.alloc (.cells #[.int .i64 (x : Nat)] 3)).cell? ⟨br, or + c, none⟩ = some (.int .i64 tv) ∧ (Z0.alloc (.cells #[.int .i64 (x : Nat)] 3)).cell? ⟨b3, o3 + tn, none⟩ = some (.slice (some ⟨bs, os, none⟩) lk rd) ∧ (Z0.alloc (.cells #[.int .i64 (x : Nat)] 3)).cell? ⟨bs, os + c, none⟩ = some (.int .i64 uv) ∧ (Instr.lookup 119 (.map (some X.heap.size)) (.agg #[.int .i64 tv, .int .i64 uv]) false).run Try.prog (Z0.alloc (.cells #[.int .i64 (x : Nat)] 3)) = .ok (.int .i64 (x : Nat)) (Z0.alloc (.cells #[.int .i64 (x : Nat)] 3))) := hid (HS.out _ (HR6.out.O.bl.alloc HR6.out.O.bl.size _))
                refine but_one (i := 28) (by kernel_rfl) ?_
                refine wpOp_one rfl (by rfl) (fun K hK => ?_)
                go_simp
                refine hK _ _ ⟨fun _ => H21.out, ?_⟩
                clear hK K
                try simp only [Act.put, List.setIfInBounds_toArray, List.set_cons_zero, List.set_cons_succ]
                refine but_one (i := 29) (by kernel_rfl) ?_
                refine wpOp_one rfl (by rfl) (fun K hK => ?_)
                refine wp_append_own_at _ _ _ (by rfl) (U.heap.size + 1) 3 i0 (.int .i64 0) 1 8 Try.underlying33 hi0 hz0 hz1 hz2 rfl (by omega) (.slice a8 c k8) c _ (by rfl) (HR6.out.own.alloc _) ⟨Z0.heap.size, 0, none⟩ 1 1 [.int .i64 (x : Nat)] (by rfl) (by rfl) (World.news_of_block (cs := #[.int .i64 (x : Nat)]) (t := 3) (fr := (0, 0)) (heap_alloc_new Z0 _)) (by simp [Value.oneCell']) (by unfold maxLen; omega) (by omega) (by have := HR6.out.O.bl.size; simp; omega) ?_
                intro v8 w8 hown8 hgrow8 hat8
                rw [HT.out] at hown8
                have hR8 := HR6.out.push hgrow8 hown8 hat8
                refine hK _ _ ⟨fun _ => HS.out _ hR8.O.bl, ?_⟩
                clear hK K H20 H21
                have HR8 := hid hR8
                clear hR8 hown8 hgrow8 hat8 HR6
                try simp only [Act.put, List.setIfInBounds_toArray, List.set_cons_zero, List.set_cons_succ]
                refine but_one (i := 30) (by kernel_rfl) ?_
                refine wpOp_one rfl (by rfl) (fun K hK => ?_)
                go_simp
                refine hK _ _ ⟨fun h => absurd rfl h, but_done (by kernel_rfl) ?_ _⟩
                clear hK K
                try simp only [Act.put, List.setIfInBounds_toArray, List.set_cons_zero, List.set_cons_succ]
                go_wp2_with fail
                go_roundw
                case rel => exact ⟨c + 1, by go_num, Hlc.out, HR8.out⟩
                case measure => have := Hlc.out; simp [intOf]; omega
              · obtain rfl : c = m.L.toNat := by omega
                rw [List.take_of_length_le (l := rowA m.L.toNat (jnS m k) S j) (by rw [rowA_len]; exact Nat.le_refl _)] at hR
                obtain ⟨an, kn, en⟩ := row_shape hR.O.nx
                obtain ⟨ab, kb, eb⟩ := row_shape hR.O.ac
                subst en eb
                have hbl : ((S.take j).map (jnA f m k)).length = j := by simp; omega
                have Hbs := hid (acc_take (ac := jnA f m k) hlt)
                have o1 := hR.O.out.cell (i := 1) (by omega)
                have hltO := hR.O.out.lt
                simp only [outF, if_true, if_false, show (1 : Nat) ≠ 0 by omega, ite_true, ite_false] at o1
                generalize (S.take j).map (jnA f m k) = bs at *
                obtain rfl : bs.length = j := hbl
                have HR := hid hR
                have hVw := hR.O.bl.size
                have i10 : ¬ ((m.L.toNat : Nat) : Int) < m.L := by omega
                have hj5 : bs.length < 5000 := by omega
                clear hR
                go_wp2_with (at_builtin; go_loud (refine wpList_append_own_at (o := ⟨some 95, _, _, _, _, _⟩) _ rfl _ _ 22 rfl (U.heap.size + 1) 33 i3 (.slice none 0 0) 1 24 Try.underlying22 hi3 hy0 hy1 hy2 rfl (by decide) _ _ _ rfl (HR.out.O.nx.alloc _) ⟨wr.heap.size, 0, none⟩ 1 1 [.slice a8 m.L.toNat k8] rfl rfl (news_one wr (.slice a8 m.L.toNat k8) 33).out (by simp [Value.oneCell']) (by unfold maxLen; omega) (by omega) (by simp; omega) ?_); intro vn' w3 hown3 hgrow3 hj1 hj2; clear hj1 hj2; obtain ⟨an', kn', en'⟩ := row_shape hown3; subst en'; have ho3 := out_grown HR.out.O.out HR.out.O.nx hgrow3; have o3 := (ho3.cell (i := 1) (by omega)); have y3 := (ho3.frozen 1); have l3 := ho3.lt; simp only [outF, if_true, if_false, show (1 : Nat) ≠ 0 by omega, ite_true, ite_false] at o3; clear ho3 o1)
                have hO2 := HR.out.close hgrow3 hown3
                clear HR hgrow3 hown3 o3 y3 l3 x0 xl hltO hVw
                generalize w3.setCell ⟨U.heap.size, 1, none⟩ (.slice an' (bs.length + 1) kn') = w6 at *
                obtain ⟨sn, tn, hn⟩ := next_pair HP.out.1 HP.out.2.1 HP.out.2.2 (Hin.out (S.getD bs.length 0) (by simp [List.getD, Hj.out])).1 (Hin.out (S.getD bs.length 0) (by simp [List.getD, Hj.out])).2 0 (by have := HP.out.1.l1; omega)
                have hPu := HPU.out
                obtain ⟨ba, oa, rfl, hba, c2⟩ := hPu.mm.ac sn (by rw [HP.out.1.ac]; exact hn.lm)
                obtain ⟨bb, ob, rfl, hbb, c4⟩ := hPu.kk.ac tn (by rw [HP.out.2.1.ac]; exact hn.lk)
                have p0 := hPu.p.c0 bs.length Hj.out
                have p1 := hPu.p.c1 bs.length Hj.out
                rw [hn.q] at p0
                rw [hn.r] at p1
                have hfa : jnA f m k (S.getD bs.length 0) = f (m.ac.getD sn false) (k.ac.getD tn false) := by
                  unfold jnA
                  rw [hn.q, hn.r]
                  unfold accM
                  rw [Int.toNat_natCast, Int.toNat_natCast]
                have ht := hPu.t.c (m.ac.getD sn false) (k.ac.getD tn false)
                have hp2 := bn_lt (m.ac.getD sn false)
                have hq2 := bn_lt (k.ac.getD tn false)
                have i6 : (0 : Int) ≤ (sn : Int) := by omega
                have i7 : (sn : Int) < (m.ac.length : Int) := by have := hn.lm; rw [HP.out.1.ac]; omega
                have i8' : (0 : Int) ≤ (tn : Int) := by omega
                have i9 : (tn : Int) < (k.ac.length : Int) := by have := hn.lk; rw [HP.out.2.1.ac]; omega
                have i11 : (0 : Int) ≤ (bs.length : Int) := by omega
                have i12 : (bs.length : Int) < (S.length : Int) := by omega
                have HCp := hid (fun w => bit_any (m.ac.getD sn false) w)
                have HCq := hid (fun w => bit_any (k.ac.getD tn false) w)
                rw [hfa] at Hbs
                clear hfa
                generalize m.ac.getD sn false = bp at *
                generalize k.ac.getD tn false = bq at *
                have i13 : (0 : Int) ≤ (bn bp : Int) := by omega
                have i14 : (bn bp : Int) < 2 := by omega
                have i15 : (0 : Int) ≤ (bn bq : Int) := by omega
                have i16 : (bn bq : Int) < 2 := by omega
                generalize hfv : f bp bq = fv at *
                generalize bn bp = pn at *
                generalize bn bq = qn at *
                have HS : Hid (∀ w', Below U.heap.size U w' → w'.cell? ⟨W.heap.size, 2, none⟩ = some (.slice (some ⟨ba, oa, none⟩) m.ac.length cap2) ∧ w'.cell? ⟨W.heap.size + 1, 2, none⟩ = some (.slice (some ⟨bb, ob, none⟩) k.ac.length dap2) ∧ w'.cell? ⟨bo, bs.length * 3, none⟩ = some (.int .i64 (sn : Nat)) ∧ w'.cell? ⟨bo, bs.length * 3 + 1, none⟩ = some (.int .i64 (tn : Nat)) ∧ w'.cell? ⟨ba, oa + sn, none⟩ = some (.bool bp) ∧ w'.cell? ⟨bb, ob + tn, none⟩ = some (.bool bq) ∧ w'.cell? ⟨W.heap.size + 2, pn * 2 + qn, none⟩ = some (.bool fv)) := hid (fun w' hb => ⟨(hb.cell (p := ⟨W.heap.size, 2, none⟩) hPu.x.lt).trans hPu.x.c2, (hb.cell (p := ⟨W.heap.size + 1, 2, none⟩) hPu.y.lt).trans hPu.y.c2, (hb.cell (p := ⟨bo, bs.length * 3, none⟩) hPu.p.lt).trans p0, (hb.cell (p := ⟨bo, bs.length * 3 + 1, none⟩) hPu.p.lt).trans p1, (hb.cell (p := ⟨ba, oa + sn, none⟩) hba).trans c2, (hb.cell (p := ⟨bb, ob + tn, none⟩) hbb).trans c4, (hb.cell (p := ⟨W.heap.size + 2, pn * 2 + qn, none⟩) hPu.t.lt).trans ht⟩)
                have hd : Below w6.heap.size w6 w6.drew := (Below.refl _ _).drew
                have HO6 := hid (hO2.below hd)
                have HO2c : Hid (∀ w' : World, w'.rowIs U.heap.size 25 3 (outF m.L.toNat (.slice an' (bs.length + 1) kn') (.slice ab bs.length kb)) → w'.cell? ⟨U.heap.size, 2, none⟩ = some (.slice ab bs.length kb)) := hid (fun w' h => by
                  have := h.cell (i := 2) (by omega)
                  simpa [outF] using this)
                have H20 : Hid (w6.drew.cell? ⟨U.heap.size, 2, none⟩ = some (.slice ab bs.length kb) ∧ w6.drew.cell? ⟨W.heap.size, 2, none⟩ = some (.slice (some ⟨ba, oa, none⟩) m.ac.length cap2) ∧ w6.drew.cell? ⟨W.heap.size + 1, 2, none⟩ = some (.slice (some ⟨bb, ob, none⟩) k.ac.length dap2) ∧ w6.drew.cell? ⟨bo, bs.length * 3, none⟩ = some (.int .i64 (sn : Nat)) ∧ w6.drew.cell? ⟨bo, bs.length * 3 + 1, none⟩ = some (.int .i64 (tn : Nat)) ∧ w6.drew.cell? ⟨ba, oa + sn, none⟩ = some (.bool bp) ∧ w6.drew.cell? ⟨bb, ob + tn, none⟩ = some (.bool bq) ∧ w6.drew.cell? ⟨W.heap.size + 2, pn * 2 + qn, none⟩ = some (.bool fv)) := hid ⟨HO2c.out _ HO6.out.out, HS.out _ HO6.out.bl⟩
                clear hPu p0 p1 hba hbb c2 c4 ht hn hO2 hd
                refine wp_region_but_d (fun w' => w'.cell? ⟨U.heap.size, 2, none⟩ = some (.slice ab bs.length kb) ∧ w'.cell? ⟨W.heap.size, 2, none⟩ = some (.slice (some ⟨ba, oa, none⟩) m.ac.length cap2) ∧ w'.cell? ⟨W.heap.size + 1, 2, none⟩ = some (.slice (some ⟨bb, ob, none⟩) k.ac.length dap2) ∧ w'.cell? ⟨bo, bs.length * 3, none⟩ = some (.int .i64 (sn : Nat)) ∧ w'.cell? ⟨bo, bs.length * 3 + 1, none⟩ = some (.int .i64 (tn : Nat)) ∧ w'.cell? ⟨ba, oa + sn, none⟩ = some (.bool bp) ∧ w'.cell? ⟨bb, ob + tn, none⟩ = some (.bool bq) ∧ w'.cell? ⟨W.heap.size + 2, pn * 2 + qn, none⟩ = some (.bool fv)) 28 (by kernel_rfl) ?_
                intro Z0 hZ0
                rw [← hZ0] at H20 HO6
                clear hZ0
                generalize w6 = wold at *
                refine but_take (i := 0) (v := (.pointer (some ⟨U.heap.size, 2, none⟩))) rfl (by kernel_rfl) (by kernel_rfl) (by kernel_rfl) (by kernel_rfl) (fun _ _ _ h => h) (Or.inl ⟨by rfl, ?hy⟩) H20.out ?_
                case hy => intro w hSw; (try dsimp only at hSw); go_simp
                try simp only [Act.put, List.setIfInBounds_toArray, List.set_cons_zero, List.set_cons_succ]
                refine but_take (i := 1) (v := (.slice ab bs.length kb)) rfl (by kernel_rfl) (by kernel_rfl) (by kernel_rfl) (by kernel_rfl) (fun _ _ _ h => h) (Or.inl ⟨by rfl, ?hy⟩) H20.out ?_
                case hy => intro w hSw; (try dsimp only at hSw); go_simp
                try simp only [Act.put, List.setIfInBounds_toArray, List.set_cons_zero, List.set_cons_succ]
                refine but_take (i := 2) (v := (.pointer (some ⟨W.heap.size, 2, none⟩))) rfl (by kernel_rfl) (by kernel_rfl) (by kernel_rfl) (by kernel_rfl) (fun _ _ _ h => h) (Or.inl ⟨by rfl, ?hy⟩) H20.out ?_
                case hy => intro w hSw; (try dsimp only at hSw); go_simp
                try simp only [Act.put, List.setIfInBounds_toArray, List.set_cons_zero, List.set_cons_succ]
                refine but_take (i := 3) (v := (.slice (some ⟨ba, oa, none⟩) m.ac.length cap2)) rfl (by kernel_rfl) (by kernel_rfl) (by kernel_rfl) (by kernel_rfl) (fun _ _ _ h => h) (Or.inl ⟨by rfl, ?hy⟩) H20.out ?_
                case hy => intro w hSw; (try dsimp only at hSw); go_simp
                try simp only [Act.put, List.setIfInBounds_toArray, List.set_cons_zero, List.set_cons_succ]
                refine but_take (i := 4) (v := (.slice (some ⟨bo, 0, none⟩) S.length co)) rfl (by kernel_rfl) (by kernel_rfl) (by kernel_rfl) (by kernel_rfl) (fun _ _ _ h => h) (Or.inl ⟨by rfl, ?hy⟩) H20.out ?_
                case hy => intro w hSw; (try dsimp only at hSw); go_simp
                try simp only [Act.put, List.setIfInBounds_toArray, List.set_cons_zero, List.set_cons_succ]
                refine but_take (i := 5) (v := (.int .i64 (bs.length : Nat))) rfl (by kernel_rfl) (by kernel_rfl) (by kernel_rfl) (by kernel_rfl) (fun _ _ _ h => h) (Or.inl ⟨by rfl, ?hy⟩) H20.out ?_
                case hy => intro w hSw; (try dsimp only at hSw); go_simp
                try simp only [Act.put, List.setIfInBounds_toArray, List.set_cons_zero, List.set_cons_succ]
                refine but_take (i := 6) (v := (.pointer (some ⟨bo, bs.length * 3, none⟩))) rfl (by kernel_rfl) (by kernel_rfl) (by kernel_rfl) (by kernel_rfl) (fun _ _ _ h => h) (Or.inl ⟨by rfl, ?hy⟩) H20.out ?_
                case hy => intro w hSw; (try dsimp only at hSw); go_simp
                try simp only [Act.put, List.setIfInBounds_toArray, List.set_cons_zero, List.set_cons_succ]
                refine but_take (i := 7) (v := (.pointer (some ⟨bo, bs.length * 3, none⟩))) rfl (by kernel_rfl) (by kernel_rfl) (by kernel_rfl) (by kernel_rfl) (fun _ _ _ h => h) (Or.inl ⟨by rfl, ?hy⟩) H20.out ?_
                case hy => intro w hSw; (try dsimp only at hSw); go_simp
                try simp only [Act.put, List.setIfInBounds_toArray, List.set_cons_zero, List.set_cons_succ]
                refine but_take (i := 8) (v := (.int .i64 (sn : Nat))) rfl (by kernel_rfl) (by kernel_rfl) (by kernel_rfl) (by kernel_rfl) (fun _ _ _ h => h) (Or.inl ⟨by rfl, ?hy⟩) H20.out ?_
                case hy => intro w hSw; (try dsimp only at hSw); go_simp
                try simp only [Act.put, List.setIfInBounds_toArray, List.set_cons_zero, List.set_cons_succ]
                refine but_take (i := 9) (v := (.pointer (some ⟨ba, oa + sn, none⟩))) rfl (by kernel_rfl) (by kernel_rfl) (by kernel_rfl) (by kernel_rfl) (fun _ _ _ h => h) (Or.inl ⟨by rfl, ?hy⟩) H20.out ?_
                case hy => intro w hSw; (try dsimp only at hSw); go_simp
                try simp only [Act.put, List.setIfInBounds_toArray, List.set_cons_zero, List.set_cons_succ]
                refine but_take (i := 10) (v := (.bool bp)) rfl (by kernel_rfl) (by kernel_rfl) (by kernel_rfl) (by kernel_rfl) (fun _ _ _ h => h) (Or.inl ⟨by rfl, ?hy⟩) H20.out ?_
                case hy => intro w hSw; (try dsimp only at hSw); go_simp
                try simp only [Act.put, List.setIfInBounds_toArray, List.set_cons_zero, List.set_cons_succ]
                refine but_take (i := 12) (v := (.pointer (some ⟨W.heap.size + 1, 2, none⟩))) rfl (by kernel_rfl) (by kernel_rfl) (by kernel_rfl) (by kernel_rfl) (fun _ _ _ h => h) (Or.inl ⟨by rfl, ?hy⟩) H20.out ?_
                case hy => intro w hSw; (try dsimp only at hSw); go_simp
                try simp only [Act.put, List.setIfInBounds_toArray, List.set_cons_zero, List.set_cons_succ]
                refine but_take (i := 13) (v := (.slice (some ⟨bb, ob, none⟩) k.ac.length dap2)) rfl (by kernel_rfl) (by kernel_rfl) (by kernel_rfl) (by kernel_rfl) (fun _ _ _ h => h) (Or.inl ⟨by rfl, ?hy⟩) H20.out ?_
                case hy => intro w hSw; (try dsimp only at hSw); go_simp
                try simp only [Act.put, List.setIfInBounds_toArray, List.set_cons_zero, List.set_cons_succ]
                refine but_take (i := 14) (v := (.slice (some ⟨bo, 0, none⟩) S.length co)) rfl (by kernel_rfl) (by kernel_rfl) (by kernel_rfl) (by kernel_rfl) (fun _ _ _ h => h) (Or.inl ⟨by rfl, ?hy⟩) H20.out ?_
                case hy => intro w hSw; (try dsimp only at hSw); go_simp
                try simp only [Act.put, List.setIfInBounds_toArray, List.set_cons_zero, List.set_cons_succ]
                refine but_take (i := 15) (v := (.int .i64 (bs.length : Nat))) rfl (by kernel_rfl) (by kernel_rfl) (by kernel_rfl) (by kernel_rfl) (fun _ _ _ h => h) (Or.inl ⟨by rfl, ?hy⟩) H20.out ?_
                case hy => intro w hSw; (try dsimp only at hSw); go_simp
                try simp only [Act.put, List.setIfInBounds_toArray, List.set_cons_zero, List.set_cons_succ]
                refine but_take (i := 16) (v := (.pointer (some ⟨bo, bs.length * 3, none⟩))) rfl (by kernel_rfl) (by kernel_rfl) (by kernel_rfl) (by kernel_rfl) (fun _ _ _ h => h) (Or.inl ⟨by rfl, ?hy⟩) H20.out ?_
                case hy => intro w hSw; (try dsimp only at hSw); go_simp
                try simp only [Act.put, List.setIfInBounds_toArray, List.set_cons_zero, List.set_cons_succ]
                refine but_take (i := 17) (v := (.pointer (some ⟨bo, bs.length * 3 + 1, none⟩))) rfl (by kernel_rfl) (by kernel_rfl) (by kernel_rfl) (by kernel_rfl) (fun _ _ _ h => h) (Or.inl ⟨by rfl, ?hy⟩) H20.out ?_
                case hy => intro w hSw; (try dsimp only at hSw); go_simp
                try simp only [Act.put, List.setIfInBounds_toArray, List.set_cons_zero, List.set_cons_succ]
                refine but_take (i := 18) (v := (.int .i64 (tn : Nat))) rfl (by kernel_rfl) (by kernel_rfl) (by kernel_rfl) (by kernel_rfl) (fun _ _ _ h => h) (Or.inl ⟨by rfl, ?hy⟩) H20.out ?_
                case hy => intro w hSw; (try dsimp only at hSw); go_simp
                try simp only [Act.put, List.setIfInBounds_toArray, List.set_cons_zero, List.set_cons_succ]
                refine but_take (i := 19) (v := (.pointer (some ⟨bb, ob + tn, none⟩))) rfl (by kernel_rfl) (by kernel_rfl) (by kernel_rfl) (by kernel_rfl) (fun _ _ _ h => h) (Or.inl ⟨by rfl, ?hy⟩) H20.out ?_
                case hy => intro w hSw; (try dsimp only at hSw); go_simp
                try simp only [Act.put, List.setIfInBounds_toArray, List.set_cons_zero, List.set_cons_succ]
                refine but_take (i := 20) (v := (.bool bq)) rfl (by kernel_rfl) (by kernel_rfl) (by kernel_rfl) (by kernel_rfl) (fun _ _ _ h => h) (Or.inl ⟨by rfl, ?hy⟩) H20.out ?_
                case hy => intro w hSw; (try dsimp only at hSw); go_simp
                try simp only [Act.put, List.setIfInBounds_toArray, List.set_cons_zero, List.set_cons_succ]
                refine but_one (i := 11) (by kernel_rfl) ?_
                refine wpOp_one rfl (by rfl) (fun K hK => ?_)
                go_simp
                refine (HCp.out Z0).mono ?_
                rintro e w9 ⟨rfl, rfl⟩
                try dsimp only
                refine hK _ _ ⟨fun _ => H20.out, ?_⟩
                clear hK K
                try simp only [Act.put, List.setIfInBounds_toArray, List.set_cons_zero, List.set_cons_succ]
                refine but_take (i := 22) (v := (.pointer (some ⟨W.heap.size + 2, pn * 2, none⟩))) rfl (by kernel_rfl) (by kernel_rfl) (by kernel_rfl) (by kernel_rfl) (fun _ _ _ h => h) (Or.inl ⟨by rfl, ?hy⟩) H20.out ?_
                case hy => intro w hSw; (try dsimp only at hSw); go_simp
                try simp only [Act.put, List.setIfInBounds_toArray, List.set_cons_zero, List.set_cons_succ]
                refine but_one (i := 21) (by kernel_rfl) ?_
                refine wpOp_one rfl (by rfl) (fun K hK => ?_)
                go_simp
                refine (HCq.out Z0).mono ?_
                rintro e w9 ⟨rfl, rfl⟩
                try dsimp only
                refine hK _ _ ⟨fun _ => H20.out, ?_⟩
                clear hK K
                try simp only [Act.put, List.setIfInBounds_toArray, List.set_cons_zero, List.set_cons_succ]
                refine but_take (i := 23) (v := (.pointer (some ⟨W.heap.size + 2, pn * 2 + qn, none⟩))) rfl (by kernel_rfl) (by kernel_rfl) (by kernel_rfl) (by kernel_rfl) (fun _ _ _ h => h) (Or.inl ⟨by rfl, ?hy⟩) H20.out ?_
                case hy => intro w hSw; (try dsimp only at hSw); go_simp
                try simp only [Act.put, List.setIfInBounds_toArray, List.set_cons_zero, List.set_cons_succ]
                refine but_take (i := 24) (v := (.bool fv)) rfl (by kernel_rfl) (by kernel_rfl) (by kernel_rfl) (by kernel_rfl) (fun _ _ _ h => h) (Or.inl ⟨by rfl, ?hy⟩) H20.out ?_
                case hy => intro w hSw; (try dsimp only at hSw); go_simp
                try simp only [Act.put, List.setIfInBounds_toArray, List.set_cons_zero, List.set_cons_succ]
                have H21 : Hid ((Z0.alloc (.cells #[.bool fv] 4)).cell? ⟨U.heap.size, 2, none⟩ = some (.slice ab bs.length kb) ∧ (Z0.alloc (.cells #[.bool fv] 4)).cell? ⟨W.heap.size, 2, none⟩ = some (.slice (some ⟨ba, oa, none⟩) m.ac.length cap2) ∧ (Z0.alloc (.cells #[.bool fv] 4)).cell? ⟨W.heap.size + 1, 2, none⟩ = some (.slice (some ⟨bb, ob, none⟩) k.ac.length dap2) ∧ (Z0.alloc (.cells #[.bool fv] 4)).cell? ⟨bo, bs.length * 3, none⟩ = some (.int .i64 (sn : Nat)) ∧ (Z0.alloc (.cells #[.bool fv] 4)).cell? ⟨bo, bs.length * 3 + 1, none⟩ = some (.int .i64 (tn : Nat)) ∧ (Z0.alloc (.cells #[.bool fv] 4)).cell? ⟨ba, oa + sn, none⟩ = some (.bool bp) ∧ (Z0.alloc (.cells #[.bool fv] 4)).cell? ⟨bb, ob + tn, none⟩ = some (.bool bq) ∧ (Z0.alloc (.cells #[.bool fv] 4)).cell? ⟨W.heap.size + 2, pn * 2 + qn, none⟩ = some (.bool fv)) := hid ⟨HO2c.out _ (HO6.out.out.alloc _), HS.out _ (HO6.out.bl.alloc HO6.out.bl.size _)⟩
                refine but_one (i := 25) (by kernel_rfl) ?_
                refine wpOp_one rfl (by rfl) (fun K hK => ?_)
                go_simp
                refine hK _ _ ⟨fun _ => H21.out, ?_⟩
                clear hK K
                try simp only [Act.put, List.setIfInBounds_toArray, List.set_cons_zero, List.set_cons_succ]
                refine but_one (i := 26) (by kernel_rfl) ?_
                refine wpOp_one rfl (by rfl) (fun K hK => ?_)
                refine wp_append_own_at _ _ _ (by rfl) (U.heap.size + 1) 4 i4 (.bool false) 1 1 Try.underlying23 hi4 hw0 hw1 hw2 rfl (by omega) (.slice ab bs.length kb) bs.length _ (by rfl) (HO6.out.ac.alloc _) ⟨Z0.heap.size, 0, none⟩ 1 1 [.bool fv] (by rfl) (by rfl) (World.news_of_block (cs := #[.bool fv]) (t := 4) (fr := (0, 0)) (heap_alloc_new Z0 _)) (by simp [Value.oneCell']) (by unfold maxLen; omega) (by omega) (by have := HO6.out.bl.size; simp; omega) ?_
                intro v8 w8 hown8 hgrow8 hat8
                obtain ⟨a9, k9, e9⟩ := row_shape hown8
                subst e9
                have ho8 := out_grown HO6.out.out HO6.out.ac hgrow8
                have o8 := HO2c.out _ ho8
                have y8 := ho8.frozen 2
                have l8 := ho8.lt
                have hO3 := HO6.out.accept fv hgrow8 hown8
                have HO3 := hid hO3
                refine hK _ _ ⟨fun _ => ⟨o8, HS.out _ (bl_out HO6.out.bl HO6.out.ac hgrow8)⟩, ?_⟩
                clear hK K hO3 ho8 H20 H21
                try simp only [Act.put, List.setIfInBounds_toArray, List.set_cons_zero, List.set_cons_succ]
                refine but_one (i := 27) (by kernel_rfl) ?_
                refine wpOp_one rfl (by rfl) (fun K hK => ?_)
                go_simp
                refine hK _ _ ⟨fun _ => ⟨o8, HS.out _ (bl_out HO6.out.bl HO6.out.ac hgrow8)⟩, ?_⟩
                clear hK K
                try simp only [Act.put, List.setIfInBounds_toArray, List.set_cons_zero, List.set_cons_succ]
                refine but_one (i := 28) (by kernel_rfl) ?_
                refine wpOp_one rfl (by rfl) (fun K hK => ?_)
                go_simp
                refine hK _ _ ⟨fun h => absurd rfl h, but_done (by kernel_rfl) ?_ _⟩
                clear hK K
                try simp only [Act.put, List.setIfInBounds_toArray, List.set_cons_zero, List.set_cons_succ]
                rw [← Hbs.out] at HO3
                clear hown8 hgrow8 hat8 o8 y8 l8 HO6
                go_wp2_with fail
                go_roundw
                case rel => exact ⟨bs.length + 1, _, _, _, by go_num, by omega, HO3.out⟩
                case measure => simp [intOf]; omega
          · obtain rfl : j = S.length := by omega
            rw [List.take_length] at hO
            have i2 : ¬ (S.length : Int) < (S.length : Int) := by omega
            have hr := hPr.r
            have o0 := hO.out.cell (i := 0) (by omega)
            have o1 := hO.out.cell (i := 1) (by omega)
            have o2 := hO.out.cell (i := 2) (by omega)
            have ol := hO.out.lt
            simp only [outF, if_true, if_false, show (1 : Nat) ≠ 0 by omega, show (2 : Nat) ≠ 0 by omega, show (2 : Nat) ≠ 1 by omega, ite_true, ite_false] at o0 o1 o2
            rw [HL.out] at o0
            obtain ⟨an, cn, ab, cb, rfl, rfl, hMP⟩ := hO.mac (z := m.L) rfl rfl rfl HE.out.pos
            have hC0 := told_any _ an ab cn cb wr hMP (prod_big HP.out.1.l1 HP.out.1.l6 HE.out hn5)
            rw [prod_n, prod_acl, prod_la HE.out] at hC0
            have Hz := hid HL.out.symm
            have HC := hid (hC0.mono fun e w' h => plainZ (z := m.L) (L := m.L.toNat) Hz.out h)
            have hzb := HBU.out.trans (hO.bl.mono (by omega))
            have HZb := hid hzb
            have Hr := hid hr
            have hzs := hO.bl.size
            clear hO hPr hr hMP hC0 hzb
            go_wp2_with fail
            refine HC.out.mono ?_
            rintro e wP ⟨F, hF, hbP, ⟨h64, base, an', cn', ab', cb', hbase, rfl, hMA⟩ | ⟨h64, rfl⟩⟩
            · have HF := hid hF
              have HMA := hid hMA
              have hrP := rowIs_below Hr.out hbP Hr.out.lt
              have hzP := HZb.out.trans (hbP.mono HZb.out.size)
              clear hF hMA HC o0 o1 o2 ol x0 xl hbP
              have f0 := hrP.frozen 0
              have f1 := hrP.frozen 1
              have f2 := hrP.frozen 2
              have x0 := hrP.cell (i := 0) (by omega)
              have x1 := hrP.cell (i := 1) (by omega)
              have x2 := hrP.cell (i := 2) (by omega)
              have xl2 := hrP.lt
              have HC := hid (res_set hrP (.int .i64 m.L) (.slice an' F.length cn') (.slice ab' F.length cb'))
              simp only [outF] at x0 x1 x2
              clear hrP
              go_wp2_with fail
              have o0 := HC.out.c0
              have o1 := HC.out.c1
              have o2 := HC.out.c2
              exact bodyPost_ret (v := .tuple #[.agg #[.int .i64 m.L, .slice an' F.length cn', .slice ab' F.length cb'], .int .i64 0]) (by simp [results, Try.results80, go_sem, o0, o1, o2]) rfl (gen_ok Hv0.out Hz.out HF.out hzP (by omega) (by omega) h64 HMA.out)
            · have HF := hid hF
              have hrP := rowIs_below Hr.out hbP Hr.out.lt
              have hzP := HZb.out.trans (hbP.mono HZb.out.size)
              clear hF HC o0 o1 o2 ol x0 xl hbP
              have f0 := hrP.frozen 0
              have f1 := hrP.frozen 1
              have f2 := hrP.frozen 2
              have x0 := hrP.cell (i := 0) (by omega)
              have x1 := hrP.cell (i := 1) (by omega)
              have x2 := hrP.cell (i := 2) (by omega)
              have xl2 := hrP.lt
              have HC := hid (res_set hrP (.int .i64 0) (.slice none 0 0) (.slice none 0 0))
              simp only [outF] at x0 x1 x2
              clear hrP
              go_wp2_with fail
              have o0 := HC.out.c0
              have o1 := HC.out.c1
              have o2 := HC.out.c2
              exact bodyPost_ret (v := .tuple #[.agg #[.int .i64 0, .slice none 0 0, .slice none 0 0], .int .i64 4]) (by simp [results, Try.results80, go_sem, o0, o1, o2]) rfl (gen_large Hv0.out HF.out hzP (by omega) h64)
  · have d1 : (paiE m k == 0) = false := beq_eq_false_iff_ne.2 hv
    have d2 : (paiE m k != 0) = true := by rw [bne, d1]; rfl
    have Hv0 := hid hv
    have hr := HR.out
    clear hv
    have f0 := hr.frozen 0
    have f1 := hr.frozen 1
    have f2 := hr.frozen 2
    have x0 := hr.cell (i := 0) (by omega)
    have x1 := hr.cell (i := 1) (by omega)
    have x2 := hr.cell (i := 2) (by omega)
    have xl2 := hr.lt
    have HC := hid (res_set hr (.int .i64 0) (.slice none 0 0) (.slice none 0 0))
    simp only [outF] at x0 x1 x2
    clear hr
    go_wp2_with fail
    have o0 := HC.out.c0
    have o1 := HC.out.c1
    have o2 := HC.out.c2
    exact bodyPost_ret (v := .tuple #[.agg #[.int .i64 0, .slice none 0 0, .slice none 0 0], .int .i64 (paiE m k)]) (by simp [results, Try.results80, go_sem, o0, o1, o2]) rfl (gen_err Hv0.out rfl HB.out (by omega))
end Go.Proofs.Ytmllbemjcfkmjaa
