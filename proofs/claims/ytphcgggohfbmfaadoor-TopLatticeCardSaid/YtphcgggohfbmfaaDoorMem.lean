/- Laws on memory that a call makes for itself, and that all texts of this seat use: a new row, whatever its length. -/
import Derived.Test.YtphcgggohfbmfaaDoorBase
import Derived.Deep.OwnRows
import Derived.RegionTactic
import Derived.BigRegion
import Derived.BigQuiet
import Derived.Deep.QuietTactic
import Derived.Maps.AppendAt
import Derived.Deep.AppendLies
import Derived.WalkSpells
namespace Go.Proofs.YtphcgggohfbmfaaDoor
open Go.RowKit

theorem info3 : (Tryd.prog.info? 3).map (fun i => (i.zero, i.size, i.bytes)) = some (some (.int .i64 0), 1, 8) := by kernel_rfl
theorem below_alloc (w : World) (o : Obj) : Below w.heap.size w (w.alloc o) := (Below.refl _ _).alloc (Nat.le_refl _) _
/-- 'make([]T, n)', n a variable, T of one cell: what is known of the world behind it. -/
theorem wpList_make_int {P : Program} (w : World) {ops : Array Oper} {rest : List Oper} {o : Oper} {a : Act} {Q : Exit → Act → World → Prop}
    (hg : o.guard = none) (l c : Operand) (t : TypeId) (hop : o.op = Op.makeSlice t l c)
    (e : TypeId) (z : Value) (bytes : Nat) (ht : P.underlying t = some (.slice e)) (hinfo : (P.info? e).map (fun i => (i.zero, i.size, i.bytes)) = some (some z, 1, bytes)) (hz1 : z.cells = #[z])
    (kl kc : IntKind) (L C : Int) (n : Nat) (hl : a.eval l = .int kl L) (hc : a.eval c = .int kc C) (hL : L = (n : Int)) (hC : C = (n : Int)) (hbytes : bytes * n ≤ 281474976710656) (h63 : n ≤ 9223372036854775807)
    (hK : ∀ w', w'.rowIs w.heap.size e n (fun _ => z) → w'.heap.size = w.heap.size + 1 → Below w.heap.size w w' → wpList P ops Q rest (a.put o.dst (.slice (some ⟨w.heap.size, 0, none⟩) n n)) w') :
    wpList P ops Q (o :: rest) a w := by
  refine wpList_plain hg fun K hK' => ?_
  have hrun := run_make_row' (P := P) t e z bytes ht hinfo hz1 kl kc n hbytes h63 w
  subst hL
  subst hC
  unfold Oper.wp
  simp [execOp, hop, hl, hc, hrun, Result.andThen]
  exact hK' _ _ (hK _ (World.rowIs_made w z n e) (by simp) (below_alloc _ _))
theorem rowIs_below {w w' : World} {b : Nat} {t : TypeId} {n : Nat} {f : Nat → Value} (h : w.rowIs b t n f) {B : Nat} (hb : Below B w w') (hB : b < B) : w'.rowIs b t n f := h.of_block (hb.block b hB)
theorem keep2 {w w' w1 : World} {u v : Value} (h : w'.cell? ⟨w.heap.size, 0, none⟩ = some u ∧ w'.cell? ⟨w.heap.size, 1, none⟩ = some v ∧ w.heap.size < w'.heap.size ∧ Below w.heap.size w w') (hb : Below w'.heap.size w' w1) :
    w1.cell? ⟨w.heap.size, 0, none⟩ = some u ∧ w1.cell? ⟨w.heap.size, 1, none⟩ = some v ∧ w.heap.size < w1.heap.size ∧ Below w.heap.size w w1 :=
  ⟨by rw [hb.cell (p := ⟨w.heap.size, 0, none⟩) h.2.2.1]; exact h.1, by rw [hb.cell (p := ⟨w.heap.size, 1, none⟩) h.2.2.1]; exact h.2.1, Nat.lt_of_lt_of_le h.2.2.1 hb.size, h.2.2.2.trans (hb.mono (Nat.le_of_lt h.2.2.1))⟩
theorem keep2_new {W w1 : World} {u v : Value} {t : TypeId} (hb : Below (W.alloc (.cells #[u, v] t)).heap.size (W.alloc (.cells #[u, v] t)) w1) :
    w1.cell? ⟨W.heap.size, 0, none⟩ = some u ∧ w1.cell? ⟨W.heap.size, 1, none⟩ = some v ∧ W.heap.size < w1.heap.size ∧ Below W.heap.size W w1 :=
  keep2 ⟨by simp, by simp, by simp, below_alloc _ _⟩ hb
theorem but_drewN {a w : World} {row : Option Nat} (h : a.grownBy w row) (n : Nat) : a.grownBy (w.drewN n) row := ⟨h.os, h.tape, h.output, h.size, h.block⟩
theorem but_drew {a w : World} {row : Option Nat} (h : a.grownBy w row) : a.grownBy w.drew row := ⟨h.os, h.tape, h.output, h.size, h.block⟩
theorem but_below {a w w' : World} {row : Option Nat} (h : a.grownBy w row) (hb : Below w.heap.size w w') : a.grownBy w' row :=
  ⟨hb.os.trans h.os, hb.tape.trans h.tape, hb.output.trans h.output, Nat.le_trans h.size hb.size, fun k hk hne => (hb.block k (Nat.lt_of_lt_of_le hk h.size)).trans (h.block k hk hne)⟩
theorem but_store {a w : World} {g : Nat} (h : a.grownBy w (some g)) (i : Nat) (u : Value) : a.grownBy (w.setCell ⟨g, i, none⟩ u) (some g) :=
  ⟨h.os, h.tape, h.output, by simpa [World.setCell] using h.size, fun k hk hne => (Below.heap_setCell w ⟨g, i, none⟩ u k (fun e => hne (by rw [e]))).trans (h.block k hk hne)⟩
theorem but_cell {a w : World} {g : Nat} (h : a.grownBy w (some g)) (p : Addr) (hlt : p.block < a.heap.size) (hne : p.block ≠ g) : w.cell? p = a.cell? p :=
  World.cell?_of_block (w := a) (h.block p.block hlt (fun e => hne (by injection e)))
theorem own_mono {w : World} {B B' : Nat} {e : TypeId} {size : Nat} {v : Value} {n : Nat} {xs : List Value} (h : w.ownsRow B e size v n xs) (hB : B' ≤ B) : w.ownsRow B' e size v n xs := by
  refine ⟨h.1, ?_⟩
  rcases h.2 with h2 | ⟨g, cap, cur, hv, hg, r⟩
  · exact .inl h2
  · exact .inr ⟨g, cap, cur, hv, Nat.le_trans hB hg, r⟩
theorem undrew {w w1 : World} (h : Below w.drew.heap.size w.drew w1) : Below w.heap.size w w1 := ⟨h.os, h.tape, h.output, h.size, h.block⟩
theorem own_below {w w1 : World} {B : Nat} {e : TypeId} {size : Nat} {v : Value} {n : Nat} {xs : List Value} (h : w.ownsRow B e size v n xs) (hb : Below w.heap.size w w1) : w1.ownsRow B e size v n xs :=
  h.kept (but_below (World.grownBy.refl _ none) hb) (by cases v.ownBlock <;> simp)
theorem own_ints {w : World} {B : Nat} {t : TypeId} {v : Value} {xs : List Int} (h : w.ownsRow B t 1 v xs.length (xs.map (Value.int .i64))) : ∃ a cap, v = .slice a xs.length cap ∧ IntsAt w a xs ∧ xs.length ≤ cap ∧ cap ≤ maxLen := by
  obtain ⟨_, h2⟩ := h
  rcases h2 with ⟨rfl, h0⟩ | ⟨gb, cap, cur, rfl, hb, hg, hn, hcm, hcs, htake⟩
  · refine ⟨none, 0, by rw [h0], fun i hi => by omega, by omega, Nat.zero_le _⟩
  · refine ⟨some ⟨gb, 0, none⟩, cap, rfl, fun i hi => ⟨gb, 0, rfl, (Array.getElem?_eq_some_iff.1 hg).1, ?_⟩, hn, hcm⟩
    rw [cell_of_row w gb (0 + i) cur t (0, 0) hg, Nat.zero_add]
    have e : (cur.toList.take (xs.length * 1))[i]? = (xs.map (Value.int .i64))[i]? := by rw [htake]
    rw [List.getElem?_take, if_pos (by omega)] at e
    rw [← Array.getElem?_toList, e]
    simp [nth, List.getD, hi]
theorem add_plain0 (b off i : Nat) : (⟨b, off, none⟩ : Addr).add i = ⟨b, off + i, none⟩ := by unfold Addr.add; split <;> simp_all
theorem IntsAt.cells0 {w : World} {b off : Nat} {xs : List Int} (h : IntsAt w (some ⟨b, off, none⟩) xs) (i : Nat) (hi : i < xs.length) : w.cell? ⟨b, off + i, none⟩ = some (.int .i64 (nth xs i)) := by
  obtain ⟨b', off', e, _, hc⟩ := h i hi
  cases e
  exact hc
theorem ints_news {w : World} {b off : Nat} {xs : List Int} (h : IntsAt w (some ⟨b, off, none⟩) xs) : ∀ j u, (xs.map (Value.int .i64))[j]? = some u → w.cell? ((⟨b, off, none⟩ : Addr).add j) = some u := by
  intro j u hu
  rw [add_plain0]
  have hj : j < xs.length := by
    have := (List.getElem?_eq_some_iff.1 hu).1
    simpa using this
  rw [h.cells0 j hj]
  simp [hj] at hu
  rw [← hu]
  simp [nth, List.getD, hj]
theorem ints_one (xs : List Int) : ∀ u ∈ xs.map (Value.int .i64), u.oneCell' = true := by
  intro u hu
  obtain ⟨z, _, rfl⟩ := List.mem_map.1 hu
  rfl
def IntsBack (xs : List Int) (W : World) (e : Ending) (w' : World) : Prop :=
  ∃ a cap, e = .returned (.slice a xs.length cap) ∧ IntsAt w' a xs ∧ Below W.heap.size W w' ∧ xs.length ≤ cap ∧ cap ≤ maxLen
def IntsE (xs : List Int) (E : Int) (W : World) (e : Ending) (w' : World) : Prop :=
  ∃ a cap, e = .returned (.tuple #[.slice a xs.length cap, .int .i64 E]) ∧ IntsAt w' a xs ∧ Below W.heap.size W w' ∧ xs.length ≤ cap ∧ cap ≤ maxLen
theorem keepC {w w1 : World} {row : Option Nat} {b o : Nat} {v : Value} (hg : w.grownBy w1 row) (h2 : row ≠ some b) (h : w.cell? ⟨b, o, none⟩ = some v ∧ b < w.heap.size) : w1.cell? ⟨b, o, none⟩ = some v ∧ b < w1.heap.size :=
  ⟨hg.cell h.1 (fun e => h2 e.symm), Nat.lt_of_lt_of_le h.2 hg.size⟩
theorem step_append_own {P : Program} {w : World} {ops : Array Oper} {o : Oper} {a : Act} {K : Act → World → Prop} {Q : Exit → Act → World → Prop} {E : Prop} (hgd : o.guard = none) (s x : Operand) (t : TypeId)
    (ho : o.op = .call { callee := .builtin .append, args := #[s, x], argTypes := #[t, t] })
    (base : Nat) (e : TypeId) (i : TypeInfo) (z : Value) (size bytes : Nat) (ht : P.underlying t = some (.slice e)) (hi : P.info? e = some i) (hz : i.zero = some z)
    (hsize : i.size = size) (hby : i.bytes = bytes) (hzs : z.cells.size = size) (hsz : 0 < size)
    (v : Value) (n : Nat) (xs : List Value) (hs : a.eval s = v) (hown : w.ownsRow base e size v n xs)
    (ad : Addr) (m c : Nat) (news : List Value) (hx : a.eval x = .slice (some ad) m c) (hl : news.length = m * size) (hnews : ∀ j u, news[j]? = some u → w.cell? (ad.add j) = some u) (h1 : ∀ u ∈ news, u.oneCell' = true)
    (h63 : n + m ≤ maxLen) (hbytes : (n + m) * bytes ≤ 140737488355328) (hbase : base ≤ w.heap.size)
    (h : ∀ v' w', w'.ownsRow base e size v' (n + m) (xs ++ news) → w.grownBy w' v.ownBlock → K (a.put o.dst v') w') :
    if Region.wanted o (yielded ops a.tmps) = true then Oper.wp P o a w K Q else E := by
  have hw : Region.wanted o (yielded ops a.tmps) = true := by simp [Region.wanted, hgd]
  rw [if_pos hw]
  obtain ⟨v', w', hrun, h2, h3, _, _⟩ := run_append_own_at (P := P) w base t o.type e i z size bytes ht hi hz hsize hby hzs hsz v n xs hown ad m c news hl hnews h1 h63 hbytes hbase
  unfold Oper.wp execOp
  simp only [ho, resolve, invoke, builtin, Sem.run_bind, Sem.run_pure, Result.andThen_ok, List.map_toArray, List.map_cons, List.map_nil, hs, hx, hrun]
  exact h v' w' h2 h3

theorem rowIs_drewN {w : World} {b : Nat} {t : TypeId} {n : Nat} {f : Nat → Value} (h : w.rowIs b t n f) (k : Nat) : (w.drewN k).rowIs b t n f := h
theorem ints_row {w : World} {B n : Nat} {F : Nat → Int} {xs : List Int} (h : w.rowIs B 3 n (fun i => .int .i64 (F i))) (hF : ∀ i, i < xs.length → F i = nth xs i) (hn : xs.length ≤ n) : IntsAt w (some ⟨B, 0, none⟩) xs := by
  intro i hi
  refine ⟨B, 0, rfl, h.lt, ?_⟩
  rw [Nat.zero_add, h.cell (i := i) (by omega), hF i hi]
theorem results_tmp4 {fn : Func} {t u v x : Tmp} (h : fn.results = #[.tmp t, .tmp u, .tmp v, .tmp x]) (tmps : Array Value) (P : Program) (w : World) :
    (results fn tmps).run P w = .ok (.tuple #[tmps.getD t undef, tmps.getD u undef, tmps.getD v undef, tmps.getD x undef]) w := by simp [results, h]
end Go.Proofs.YtphcgggohfbmfaaDoor
