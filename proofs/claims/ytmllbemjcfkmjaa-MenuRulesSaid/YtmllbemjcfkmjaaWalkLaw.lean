/- The words that lead to the pairs of states, in the order of finding; plainly, and what the document's walk keeps in memory. -/
import Derived.Test.YtmllbemjcfkmjaaEqual
import Derived.Test.YtmllbemjcfkmjaaGenOne
import Derived.Laws.AppendOwnNone
import Derived.Deep.AppendLies
namespace Go.Proofs.Ytmllbemjcfkmjaa
open Go.RowKit Go.Maps
set_option linter.unusedSimpArgs false
set_option linter.unusedVariables false

section
variable (L : Nat) (step : Int → Nat → Int)
/-- The words behind the letters below c of state i: one for each state found. -/
def extW (i : Nat) (base : List (List Int)) : Nat → List (List Int)
  | 0 => base
  | c + 1 => if step ((raw L step i).getD i 0) c ∈ part L step i c then extW i base c else extW i base c ++ [base.getD i [] ++ [(c : Int)]]
def rawW : Nat → List (List Int)
  | 0 => [[]]
  | i + 1 => if i < (raw L step i).length then extW L step i (rawW i) L else rawW i
variable {L step}
theorem extW_len (i : Nat) (base : List (List Int)) (h : base.length = (raw L step i).length) (c : Nat) : (extW L step i base c).length = (part L step i c).length := by
  induction c with
  | zero => exact h
  | succ c ih =>
    rw [extW]
    split
    · rename_i hm; rw [ih, part_old L step i c hm]
    · rename_i hm; rw [(part_fresh L step i c hm).1]; simp [ih]
theorem raw_stop {i : Nat} (h : ¬ i < (raw L step i).length) : raw L step (i + 1) = raw L step i := by
  unfold raw at *
  exact bfs_stop _ _ _ (by omega)
theorem rawW_len (i : Nat) : (rawW L step i).length = (raw L step i).length := by
  induction i with
  | zero => rfl
  | succ i ih =>
    rw [rawW]
    split
    · rename_i h; rw [extW_len i _ ih, part_all i h]
    · rename_i h; rw [ih, raw_stop h]
theorem extW_pre (i : Nat) (base : List (List Int)) (c : Nat) : base <+: extW L step i base c := by
  induction c with
  | zero => exact List.prefix_refl _
  | succ c ih =>
    rw [extW]
    split
    · exact ih
    · exact ih.trans (List.prefix_append _ _)
theorem extW_word (hL : L ≤ 6) (i : Nat) (base : List (List Int)) (hb : ∀ w, w ∈ base → w.length ≤ i ∧ ∀ x, x ∈ w → 0 ≤ x ∧ x < (L : Int)) (c : Nat) (hc : c ≤ L) : ∀ w, w ∈ extW L step i base c → w.length ≤ i + 1 ∧ ∀ x, x ∈ w → 0 ≤ x ∧ x < (L : Int) := by
  induction c with
  | zero => intro w hw; exact ⟨by have := (hb w hw).1; omega, (hb w hw).2⟩
  | succ c ih =>
    intro w hw
    rw [extW] at hw
    split at hw
    · exact ih (by omega) w hw
    · rcases List.mem_append.1 hw with hw | hw
      · exact ih (by omega) w hw
      · rw [List.mem_singleton.1 hw]
        have h0 : (base.getD i []).length ≤ i ∧ ∀ x, x ∈ base.getD i [] → 0 ≤ x ∧ x < (L : Int) := by
          by_cases hi : i < base.length
          · have e : base.getD i [] = base[i] := by simp [List.getD, hi]
            rw [e]
            exact hb _ (List.getElem_mem hi)
          · have e : base.getD i [] = [] := by simp [List.getD, Nat.not_lt.1 hi]
            rw [e]
            exact ⟨Nat.zero_le _, fun x hx => by cases hx⟩
        refine ⟨by rw [List.length_append, List.length_singleton]; omega, fun x hx => ?_⟩
        rcases List.mem_append.1 hx with hx | hx
        · exact h0.2 x hx
        · rw [List.mem_singleton.1 hx]; omega
theorem rawW_word (hL : L ≤ 6) (i : Nat) : ∀ w, w ∈ rawW L step i → w.length ≤ i ∧ ∀ x, x ∈ w → 0 ≤ x ∧ x < (L : Int) := by
  induction i with
  | zero => intro w hw; rw [show rawW L step 0 = [[]] from rfl] at hw; rw [List.mem_singleton.1 hw]; exact ⟨Nat.le_refl _, fun x hx => by cases hx⟩
  | succ i ih =>
    intro w hw
    rw [rawW] at hw
    split at hw
    · exact extW_word hL i _ ih L (Nat.le_refl _) w hw
    · exact ⟨by have := (ih w hw).1; omega, (ih w hw).2⟩
theorem rawW_pre (i : Nat) : rawW L step i <+: rawW L step (i + 1) := by
  rw [rawW]
  split
  · exact extW_pre i _ L
  · exact List.prefix_refl _
end

/-! ### pairs as keys -/
def pairV (K : Int) (c : Int) : Value := .agg #[.int .i64 (c / K), .int .i64 (c % K)]
theorem pairV_inj {K : Int} (hK : 0 < K) : ∀ a b : Int, True → True → pairV K a = pairV K b → a = b := by
  intro a b _ _ h
  unfold pairV at h
  simp only [Value.agg.injEq, Array.mk.injEq, List.cons.injEq, Value.int.injEq, true_and, and_true] at h
  have h1 := Int.mul_ediv_add_emod a K
  have h2 := Int.mul_ediv_add_emod b K
  rw [h.1, h.2] at h1
  omega
open Classical in
noncomputable def gS (K : Int) (S : List Int) (y : Value) : Option Value := if ∃ c, c ∈ S ∧ pairV K c = y then some (.bool true) else none
theorem gS_yes {K : Int} {S : List Int} {c : Int} (h : c ∈ S) : gS K S (pairV K c) = some (.bool true) := by unfold gS; rw [if_pos ⟨c, h, rfl⟩]
theorem gS_no {K : Int} (hK : 0 < K) {S : List Int} {c : Int} (h : c ∉ S) : gS K S (pairV K c) = none := by
  unfold gS
  rw [if_neg]
  rintro ⟨d, hd, e⟩
  exact h (pairV_inj hK d c trivial trivial e ▸ hd)
open Classical in
theorem gS_new {K : Int} {S : List Int} {c : Int} (y : Value) : (if y = pairV K c then some (.bool true) else gS K S y) = gS K (S ++ [c]) y := by
  unfold gS
  by_cases e : y = pairV K c
  · rw [if_pos e, if_pos ⟨c, by simp, e.symm⟩]
  · rw [if_neg e]
    by_cases h : ∃ d, d ∈ S ∧ pairV K d = y
    · obtain ⟨d, hd, hy⟩ := h
      rw [if_pos ⟨d, hd, hy⟩, if_pos ⟨d, by simp [hd], hy⟩]
    · rw [if_neg h, if_neg]
      rintro ⟨d, hd, hy⟩
      rcases List.mem_append.1 hd with hd | hd
      · exact h ⟨d, hd, hy⟩
      · rw [List.mem_singleton.1 hd] at hy; exact e hy.symm
theorem wide102 : (match Try.prog.underlying 102 with | some (.array _ _) | some (.struct _) => true | _ => false) = true := by rw [Try.underlying102]
set_option maxRecDepth 100000 in
theorem law102 : Keyed Try.prog 102 := Keyed.of_law (deep_law_laid laid_out (m := 3) (by omega) (of_decide_eq_true (by kernel_rfl)) (by kernel_rfl) wide102)
theorem cells102 : Try.prog.cellsOf 102 = 2 := by kernel_rfl
theorem ktype102 : Try.prog.keyType 102 = true := by kernel_rfl
theorem key102 {x y : Int} (hx : (Lit.int .i64 x).wf = true) (hy : (Lit.int .i64 y).wf = true) : ∃ l, keyOf Try.prog 102 (.agg #[.int .i64 x, .int .i64 y]) = some l := by
  obtain ⟨n, hn⟩ := types_size
  have hf : (Value.agg #[.int .i64 x, .int .i64 y]).formed Try.prog 102 = true := by simp [Value.formed, Try.underlying102, cells102]
  have e : (List.range 2).mapM (fun i => Try.prog.keyLits (n + 2 + 1) 3 (([Value.int .i64 x, .int .i64 y].drop (i * 1)).take 1)) = some [[.int .i64 x], [.int .i64 y]] := by
    have hr : List.range 2 = [0, 1] := by decide
    rw [hr]
    simp [List.mapM_cons, lits3, hx, hy]
  have hgoal : Try.prog.keyLits (n + 3 + 1) 102 (Value.agg #[.int .i64 x, .int .i64 y]).cells.toList = some [.int .i64 x, .int .i64 y] := by
    have hv : (Value.agg #[.int .i64 x, .int .i64 y]).cells.toList = [.int .i64 x, .int .i64 y] := rfl
    rw [hv, show n + 3 + 1 = (n + 2 + 1) + 1 from rfl]
    unfold Program.keyLits
    rw [Try.underlying102]
    show (if [Value.int .i64 x, .int .i64 y].length = Try.prog.cellsOf 102 then _ else _) = _
    rw [if_pos (by rw [cells102]; rfl), cells3, e]
    rfl
  refine ⟨.string (keyBytes [.int .i64 x, .int .i64 y]), ?_⟩
  unfold keyOf
  rw [Try.underlying102, ktype102, hf, hn]
  simp only [Bool.and_self, if_true]
  rw [hgoal]
  rfl

/-! ### the walk's list -/
def atV (K : Int) (c : Int) (wv : Value) : List Value := [.int .i64 (c / K), .int .i64 (c % K), wv]
def rowsV (K : Int) (S : List Int) (R : Nat → Value) : List Value := (List.range S.length).flatMap fun j => atV K (S.getD j 0) (R j)
theorem rowsV_snoc (K : Int) (S : List Int) (R : Nat → Value) (c : Int) (wv : Value) : rowsV K (S ++ [c]) (fun j => if j = S.length then wv else R j) = rowsV K S R ++ atV K c wv := by
  unfold rowsV
  rw [List.length_append, List.length_singleton, List.range_succ, List.flatMap_append]
  congr 1
  · rw [List.flatMap_def, List.flatMap_def]
    congr 1
    refine List.map_congr_left fun j hj => ?_
    have hj := List.mem_range.1 hj
    show atV K ((S ++ [c]).getD j 0) (if j = S.length then wv else R j) = _
    rw [if_neg (by omega)]
    congr 1
    simp [List.getD, List.getElem?_append, hj]
  · simp [List.getD]
theorem rowsV_get (K : Int) (S : List Int) (R : Nat → Value) (j : Nat) (hj : j < S.length) (r : Nat) (hr : r < 3) : (rowsV K S R)[j * 3 + r]? = (atV K (S.getD j 0) (R j))[r]? := by
  have key : ∀ n, n ≤ S.length → j < n → ((List.range n).flatMap fun j => atV K (S.getD j 0) (R j))[j * 3 + r]? = (atV K (S.getD j 0) (R j))[r]? ∧ ((List.range n).flatMap fun j => atV K (S.getD j 0) (R j)).length = n * 3 := by
    intro n
    induction n with
    | zero => intro _ h; omega
    | succ n ih =>
      intro hn hjn
      rw [List.range_succ, List.flatMap_append]
      have hl : ((List.range n).flatMap fun j => atV K (S.getD j 0) (R j)).length = n * 3 := by
        clear ih hn hjn
        induction n with
        | zero => rfl
        | succ n ih => rw [List.range_succ, List.flatMap_append, List.length_append, ih]; simp [atV]; omega
      refine ⟨?_, by rw [List.length_append, hl]; simp [atV]; omega⟩
      by_cases h : j < n
      · rw [List.getElem?_append_left (by rw [hl]; omega)]
        exact (ih (by omega) h).1
      · obtain rfl : j = n := by omega
        rw [List.getElem?_append_right (by rw [hl]; omega), hl]
        simp
  exact (key S.length (Nat.le_refl _) hj).1
/-- The pairs S with their words Wd in the list; the pairs Sm are seen. -/
structure WkI (V : World) (mb : Nat) (K : Int) (S Sm : List Int) (Wd : List (List Int)) (v : Value) (R : Nat → Value) (w : World) : Prop where
  bl : Below V.heap.size V w
  gm : V.heap.size ≤ mb
  map : MapOf Try.prog 102 w mb Sm.length (gS K Sm)
  out : w.ownsRow V.heap.size 108 3 v S.length (rowsV K S R)
  len : Wd.length = S.length
  wd : ∀ j, j < S.length → w.ownsRow V.heap.size 3 1 (R j) (Wd.getD j []).length ((Wd.getD j []).map (Value.int .i64))
section
variable {V w w' : World} {mb n m : Nat} {K : Int} {S Sm S' : List Int} {Wd : List (List Int)} {v v' u : Value} {R : Nat → Value} {o : Obj} {xs ys : List Value} {e e' z z' B : Nat}
theorem own_typesG (h : w.ownsRow B e z u n xs) (h' : w.ownsRow B e' z' v m ys) (hne : e ≠ e') : Apart v u := by
  intro g h1 h2
  rcases h.2 with ⟨rfl, _⟩ | ⟨q, cap, cur, rfl, _, hg, _⟩
  · simp [Value.ownBlock] at h2
  · rcases h'.2 with ⟨rfl, _⟩ | ⟨q', cap', cur', rfl, _, hg', _⟩
    · simp [Value.ownBlock] at h1
    · simp [Value.ownBlock] at h1 h2
      subst h1
      subst h2
      rw [hg] at hg'
      cases hg'
      exact hne rfl
theorem own_belowG (h : w.ownsRow B e z u n xs) (hb : Below w.heap.size w w') : w'.ownsRow B e z u n xs := h.kept (grown_of hb) (by
  cases hv : u.ownBlock with
  | none => exact .inl rfl
  | some g => exact .inr (by simp))
theorem own_mapG {mb k t : Nat} {g : Value → Option Value} (h : w.ownsRow B e z u n xs) (hm : MapOf Try.prog t w mb k g) (hg : w.grownBy w' (some mb)) : w'.ownsRow B e z u n xs := h.kept hg (.inr (hm.own_ne h))
theorem WkI.below (h : WkI V mb K S Sm Wd v R w) (hb : Below w.heap.size w w') : WkI V mb K S Sm Wd v R w' :=
  ⟨h.bl.trans (hb.mono h.bl.size), h.gm, h.map.below hb h.map.lt, own_belowG h.out hb, h.len, fun j hj => own_belowG (h.wd j hj) hb⟩
theorem WkI.insert (h : WkI V mb K S Sm Wd v R w) (hg : w.grownBy w' (some mb)) (hm : MapOf Try.prog 102 w' mb S'.length (gS K S')) : WkI V mb K S S' Wd v R w' :=
  ⟨h.bl.grown hg h.bl.size fun k hk => by cases hk; exact h.gm, h.gm, hm, own_mapG h.out h.map hg, h.len, fun j hj => own_mapG (h.wd j hj) h.map hg⟩
theorem WkI.push (h : WkI V mb K S Sm Wd v R w) (c : Int) (x : List Int) (wv : Value) (hw : w.ownsRow V.heap.size 3 1 wv x.length (x.map (Value.int .i64))) (hg : (w.alloc o).grownBy w' v.ownBlock) (ho : w'.ownsRow V.heap.size 108 3 v' (S.length + 1) (rowsV K S R ++ atV K c wv)) :
    WkI V mb K (S ++ [c]) Sm (Wd ++ [x]) v' (fun j => if j = S.length then wv else R j) w' := by
  refine ⟨(h.bl.alloc h.bl.size o).grown hg (by have := h.bl.size; simp; omega) fun k hk => (h.out.lt k hk).1, h.gm, mapH_kept h.map h.out hg, ?_, by simp [h.len], fun j hj => ?_⟩
  · rw [rowsV_snoc]
    simpa using ho
  · by_cases e : j = S.length
    · have e2 : (Wd ++ [x]).getD j [] = x := by rw [e, ← h.len]; simp [List.getD]
      simp only [e, if_true]
      rw [← e, e2]
      exact (hw.alloc o).kept hg (own_typesG hw h.out (by decide)).ne
    · have hj' : j < S.length := by simp at hj; omega
      have e2 : (Wd ++ [x]).getD j [] = Wd.getD j [] := by simp [List.getD, List.getElem?_append, h.len, hj']
      simp only [e, if_false]
      rw [e2]
      exact ((h.wd j hj').alloc o).kept hg (own_typesG (h.wd j hj') h.out (by decide)).ne
where
  mapH_kept {k : Nat} {g : Value → Option Value} (h : MapOf Try.prog 102 w mb k g) (ho : w.ownsRow V.heap.size 108 3 v S.length (rowsV K S R)) (hg : (w.alloc o).grownBy w' v.ownBlock) : MapOf Try.prog 102 w' mb k g :=
    (h.grown (World.grownBy_alloc w o none) (by simp)).grown hg (h.own_ne ho)
theorem WkI.setCell (h : WkI V mb K S Sm Wd v R w) {b : Nat} {g : Nat → Value} (hr : w.rowIs b 108 3 g) (hb : V.heap.size ≤ b) (hm : b ≠ mb) (hv : v.ownBlock ≠ some b) (i : Nat) (x : Value) : WkI V mb K S Sm Wd v R (w.setCell ⟨b, i, none⟩ x) :=
  ⟨h.bl.setCell hb x, h.gm, h.map.of_block (Below.heap_setCell w ⟨b, i, none⟩ x mb (fun e => hm e.symm)),
   h.out.kept (but_store (World.grownBy.refl _ (some b)) i x) (by
    cases hv' : v.ownBlock with
    | none => exact .inl rfl
    | some g => exact .inr (by rw [← hv']; exact hv)), h.len, fun j hj => own_set (h.wd j hj) hr (by decide) i x⟩
theorem start0 (w : World) (B : Nat) (j : Nat) (hj : j < ([0] : List Int).length) : w.ownsRow B 3 1 (.slice none 0 0) (([[]] : List (List Int)).getD j []).length ((([[]] : List (List Int)).getD j []).map (Value.int .i64)) := by
  have hj0 : j < 1 := hj
  obtain rfl : j = 0 := by omega
  exact World.ownsRow_nil _ _ _ _
theorem WkI.start {w4 : World} {K : Int} (hK : 0 < K) (hM : MapOf Try.prog 102 w4 V.heap.size 1 (gS K [0])) (hg : (V.alloc (.map #[] 0)).grownBy w4 (some V.heap.size)) (hz : w4.heap.size = V.heap.size + 1) :
    WkI V V.heap.size K [0] [0] [[]] (.slice (some ⟨V.heap.size + 1, 0, none⟩) 1 1) (fun _ => .slice none 0 0) (w4.alloc (.cells #[.int .i64 0, .int .i64 0, .slice none 0 0] 108)) := by
  have hb4 : Below V.heap.size V w4 := (below_alloc V _).grown hg (by simp) fun k hk => by cases hk; exact Nat.le_refl _
  refine ⟨hb4.alloc hb4.size _, Nat.le_refl _, hM.grown (World.grownBy_alloc w4 _ none) (by simp), ?_, rfl, fun j hj => start0 _ _ j hj⟩
  have h5 := World.ownsRow_lit (base := V.heap.size) (e := 108) (size := 3) w4 #[.int .i64 0, .int .i64 0, .slice none 0 0] 1 (by omega) (by unfold maxLen; omega) rfl
  rw [hz] at h5
  have e : rowsV K [0] (fun _ => .slice none 0 0) = [.int .i64 0, .int .i64 0, .slice none 0 0] := by simp [rowsV, atV]
  rw [e]
  exact h5
theorem WkI.cells (h : WkI V mb K S Sm Wd v R w) {i : Nat} (hi : i < S.length) : ∃ b cap, v = .slice (some ⟨b, 0, none⟩) S.length cap ∧ b < w.heap.size ∧ V.heap.size ≤ b ∧ w.cell? ⟨b, i * 3, none⟩ = some (.int .i64 (S.getD i 0 / K)) ∧ w.cell? ⟨b, i * 3 + 1, none⟩ = some (.int .i64 (S.getD i 0 % K)) ∧ w.cell? ⟨b, i * 3 + 2, none⟩ = some (R i) := by
  obtain ⟨g, cap, rfl, hge, hlt⟩ := h.out.form (by omega)
  refine ⟨g, cap, rfl, hlt, hge, ?_, ?_, ?_⟩
  · rw [h.out.cellAt (i * 3) (by omega)]
    exact (rowsV_get K S R i hi 0 (by omega)).trans rfl
  · rw [h.out.cellAt (i * 3 + 1) (by omega)]
    exact (rowsV_get K S R i hi 1 (by omega)).trans rfl
  · rw [h.out.cellAt (i * 3 + 2) (by omega)]
    exact (rowsV_get K S R i hi 2 (by omega)).trans rfl
end
/-- 'append' of a row that the call owns, nil or not. -/
theorem wpList_append_row {P : Program} {w : World} {ops : Array Oper} {rest : List Oper} {o : Oper} {a : Act} {Q : Exit → Act → World → Prop} (hgd : o.guard = none) (s x : Operand) (t : TypeId)
    (ho : o.op = .call { callee := .builtin .append, args := #[s, x], argTypes := #[t, t] })
    (base : Nat) (e : TypeId) (i : TypeInfo) (z : Value) (bytes : Nat) (ht : P.underlying t = some (.slice e)) (hi : P.info? e = some i) (hz : i.zero = some z)
    (hsize : i.size = 1) (hby : i.bytes = bytes) (hzs : z.cells.size = 1)
    (v : Value) (n : Nat) (xs : List Value) (hs : a.eval s = v) (hown : w.ownsRow base e 1 v n xs)
    (u : Value) (m B : Nat) (news : List Value) (hx : a.eval x = u) (hu : w.ownsRow B e 1 u m news) (h1 : ∀ u ∈ news, u.oneCell' = true)
    (h63 : n + m ≤ maxLen) (hbytes : (n + m) * bytes ≤ 140737488355328) (hbase : base ≤ w.heap.size)
    (h : ∀ v' w', w'.ownsRow base e 1 v' (n + m) (xs ++ news) → w.grownBy w' v.ownBlock → (v'.ownBlock = v.ownBlock ∨ v'.ownBlock = some w.heap.size) → wpList P ops Q rest (a.put o.dst v') w') : wpList P ops Q (o :: rest) a w := by
  by_cases hm : 0 < m
  · obtain ⟨g, cap, rfl, _, _⟩ := hu.form hm
    have hl : news.length = m * 1 := hu.1
    refine wpList_append_own_at _ hgd s x t ho base e i z 1 bytes ht hi hz hsize hby hzs (by omega) v n xs hs hown ⟨g, 0, none⟩ m cap news hx hl (fun j y hj => ?_) h1 h63 hbytes hbase ?_
    · have hjl : j < m * 1 := by have := (List.getElem?_eq_some_iff.1 hj).1; omega
      rw [show (⟨g, 0, none⟩ : Addr).add j = ⟨g, j, none⟩ by unfold Addr.add; split <;> simp_all]
      rw [hu.cellAt j hjl]
      exact hj
    · intro v' w' h2 h3 _ h5
      exact h v' w' h2 h3 h5
  · obtain rfl : m = 0 := by omega
    have hn : news = [] := List.eq_nil_of_length_eq_zero (by have := hu.1; omega)
    subst hn
    rcases hu.2 with ⟨rfl, _⟩ | ⟨g, cap, cur, rfl, _⟩
    · refine wpList_append_own_none hgd s x t ho base e i 1 ht hi v n xs hs hown hx ?_
      exact h v w (by simpa using hown) (World.grownBy.refl _ _) (.inl rfl)
    · refine wpList_append_own_at _ hgd s x t ho base e i z 1 bytes ht hi hz hsize hby hzs (by omega) v n xs hs hown ⟨g, 0, none⟩ 0 cap [] hx rfl (fun j y hj => by cases hj) (fun y hy => by cases hy) h63 hbytes hbase ?_
      intro v' w' h2 h3 _ h5
      exact h v' w' h2 h3 h5
end Go.Proofs.Ytmllbemjcfkmjaa
