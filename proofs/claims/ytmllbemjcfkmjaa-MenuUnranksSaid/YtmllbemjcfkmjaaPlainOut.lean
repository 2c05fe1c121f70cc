/- Texts of the menu seat in one: Base, Mem, StillSt, QuietB, BfsLaw, ClassLaw, AutoLaw, MapOf, PlainMem, PlainInv, PlainMid, LastFree, PlainOut. -/
import Derived.Test.YtmllbemjcfkmjaaProg
import Derived.WalkKit
import Derived.WalkLawsBesides
import Derived.Handy
import Derived.Deep.OwnRows
import Derived.RegionTactic
import Derived.BigRegion
import Derived.BigQuiet
import Derived.Deep.QuietTactic
import Derived.Maps.AppendAt
import Derived.Deep.AppendLies
import Derived.WalkSpells
import Derived.StillTailTactics
import Derived.Lib.QuietBelow
import Derived.Maps.OwnSet
import Derived.Laws.IdiomStrings
import Derived.OrdersHeld
/- What a slice of ints holds; sums; small laws that all texts of this seat use. -/
namespace Go.Proofs.Ytmllbemjcfkmjaa
open Go.RowKit

theorem hid {p : Prop} (h : p) : Hid p := h
def nth (xs : List Int) (i : Nat) : Int := xs.getD i 0
/-- The slice at a (its length is the list's) holds the numbers xs. -/
def IntsAt (w : World) (a : Option Addr) (xs : List Int) : Prop :=
  ∀ i, i < xs.length → ∃ b off, a = some ⟨b, off, none⟩ ∧ b < w.heap.size ∧ w.cell? ⟨b, off + i, none⟩ = some (.int .i64 (nth xs i))
theorem IntsAt.below {w w' : World} {a : Option Addr} {xs : List Int} (h : IntsAt w a xs) (hb : Below w.heap.size w w') : IntsAt w' a xs := by
  intro i hi
  obtain ⟨b, off, e, hlt, hc⟩ := h i hi
  exact ⟨b, off, e, Nat.lt_of_lt_of_le hlt hb.size, by rw [hb.cell (p := ⟨b, off + i, none⟩) hlt]; exact hc⟩
theorem intsAt_alloc (w : World) (xs : List Int) (t : TypeId) : IntsAt (w.alloc (.cells (xs.map (Value.int .i64)).toArray t)) (some ⟨w.heap.size, 0, none⟩) xs := by
  intro i hi
  refine ⟨w.heap.size, 0, rfl, by simp, ?_⟩
  rw [cell_of_row _ w.heap.size (0 + i) _ t (0, 0) (heap_alloc_new w _)]
  simp [nth, List.getD, hi]
def sumTo (f : Nat → Int) : Nat → Int
  | 0 => 0
  | k + 1 => sumTo f k + f k
theorem sumTo_bd (f : Nat → Int) (M : Int) (k : Nat) (h : ∀ d, d < k → 0 ≤ f d ∧ f d ≤ M) : 0 ≤ sumTo f k ∧ sumTo f k ≤ k * M := by
  induction k with
  | zero => simp [sumTo]
  | succ k ih =>
    have h1 := ih fun d hd => h d (by omega)
    have h2 := h k (by omega)
    simp only [sumTo]
    have e : ((k + 1 : Nat) : Int) * M = k * M + M := by push_cast; rw [Int.add_mul]; omega
    rw [e]; omega
theorem sumTo_congr (f g : Nat → Int) (k : Nat) (h : ∀ d, d < k → f d = g d) : sumTo f k = sumTo g k := by
  induction k with
  | zero => rfl
  | succ k ih => simp only [sumTo]; rw [ih fun d hd => h d (by omega), h k (by omega)]
theorem mul_bd {a b A B : Int} (h1 : 0 ≤ a) (h2 : a ≤ A) (h3 : 0 ≤ b) (h4 : b ≤ B) : 0 ≤ a * b ∧ a * b ≤ A * B :=
  ⟨Int.mul_nonneg h1 h3, Int.le_trans (Int.mul_le_mul_of_nonneg_right h2 h3) (Int.mul_le_mul_of_nonneg_left h4 (by omega))⟩
theorem w64 {x : Int} (h1 : -4611686018427387904 ≤ x) (h2 : x ≤ 4611686018427387904) : wrap64 x = x := by unfold wrap64; omega
theorem ret_int {k : IntKind} {a b : Int} (h : a = b) : Ending.returned (.int k a) = .returned (.int k b) := by rw [h]
end Go.Proofs.Ytmllbemjcfkmjaa
/- Laws on memory that a call makes for itself, and that all texts of this seat use: a new row, whatever its length. -/
namespace Go.Proofs.Ytmllbemjcfkmjaa
open Go.RowKit

theorem info3 : (Try.prog.info? 3).map (fun i => (i.zero, i.size, i.bytes)) = some (some (.int .i64 0), 1, 8) := by kernel_rfl
theorem below_alloc (w : World) (o : Obj) : Below w.heap.size w (w.alloc o) := (Below.refl _ _).alloc (Nat.le_refl _) _
/-- 'make([]T, n)', n a variable, T of one cell: what is known of the world behind it. -/
theorem wpList_make_int {P : Program} (w : World) {ops : Array Oper} {rest : List Oper} {o : Oper} {a : Act} {Q : Exit → Act → World → Prop}
    (hg : o.guard = none) (l c : Operand) (t : TypeId) (hop : o.op = Op.makeSlice t l c)
    (e : TypeId) (z : Value) (bytes : Nat) (ht : P.underlying t = some (.slice e)) (hinfo : (P.info? e).map (fun i => (i.zero, i.size, i.bytes)) = some (some z, 1, bytes)) (hz1 : z.cells = #[z])
    (kl kc : IntKind) (L C : Int) (n : Nat) (hl : a.eval l = .int kl L) (hc : a.eval c = .int kc C) (hL : L = (n : Int)) (hC : C = (n : Int)) (hbytes : bytes * n ≤ 281474976710656) (h63 : n ≤ 9223372036854775807)
    (hK : ∀ w', w'.rowIs w.heap.size e n (fun _ => z) → w'.heap.size = w.heap.size + 1 → Below w.heap.size w w' → wpList P ops Q rest (a.put o.dst (.slice (some ⟨w.heap.size, 0, none⟩) n n)) w') :
    wpList P ops Q (o :: rest) a w := by
  refine wpList_plain hg fun K hK' => ?_
  have hrun := run_make_row' (P := P) t e z bytes ht hinfo hz1 kl kc n hbytes h63 w
  subst hL
  subst hC
  unfold Oper.wp
  simp [execOp, hop, hl, hc, hrun, Result.andThen]
  exact hK' _ _ (hK _ (World.rowIs_made w z n e) (by simp) (below_alloc _ _))
theorem rowIs_below {w w' : World} {b : Nat} {t : TypeId} {n : Nat} {f : Nat → Value} (h : w.rowIs b t n f) {B : Nat} (hb : Below B w w') (hB : b < B) : w'.rowIs b t n f := h.of_block (hb.block b hB)
theorem keep2 {w w' w1 : World} {u v : Value} (h : w'.cell? ⟨w.heap.size, 0, none⟩ = some u ∧ w'.cell? ⟨w.heap.size, 1, none⟩ = some v ∧ w.heap.size < w'.heap.size ∧ Below w.heap.size w w') (hb : Below w'.heap.size w' w1) :
    w1.cell? ⟨w.heap.size, 0, none⟩ = some u ∧ w1.cell? ⟨w.heap.size, 1, none⟩ = some v ∧ w.heap.size < w1.heap.size ∧ Below w.heap.size w w1 :=
  ⟨by rw [hb.cell (p := ⟨w.heap.size, 0, none⟩) h.2.2.1]; exact h.1, by rw [hb.cell (p := ⟨w.heap.size, 1, none⟩) h.2.2.1]; exact h.2.1, Nat.lt_of_lt_of_le h.2.2.1 hb.size, h.2.2.2.trans (hb.mono (Nat.le_of_lt h.2.2.1))⟩
theorem keep2_new {W w1 : World} {u v : Value} {t : TypeId} (hb : Below (W.alloc (.cells #[u, v] t)).heap.size (W.alloc (.cells #[u, v] t)) w1) :
    w1.cell? ⟨W.heap.size, 0, none⟩ = some u ∧ w1.cell? ⟨W.heap.size, 1, none⟩ = some v ∧ W.heap.size < w1.heap.size ∧ Below W.heap.size W w1 :=
  keep2 ⟨by simp, by simp, by simp, below_alloc _ _⟩ hb
theorem but_drewN {a w : World} {row : Option Nat} (h : a.grownBy w row) (n : Nat) : a.grownBy (w.drewN n) row := ⟨h.os, h.tape, h.output, h.size, h.block⟩
theorem but_drew {a w : World} {row : Option Nat} (h : a.grownBy w row) : a.grownBy w.drew row := ⟨h.os, h.tape, h.output, h.size, h.block⟩
theorem but_below {a w w' : World} {row : Option Nat} (h : a.grownBy w row) (hb : Below w.heap.size w w') : a.grownBy w' row :=
  ⟨hb.os.trans h.os, hb.tape.trans h.tape, hb.output.trans h.output, Nat.le_trans h.size hb.size, fun k hk hne => (hb.block k (Nat.lt_of_lt_of_le hk h.size)).trans (h.block k hk hne)⟩
theorem but_store {a w : World} {g : Nat} (h : a.grownBy w (some g)) (i : Nat) (u : Value) : a.grownBy (w.setCell ⟨g, i, none⟩ u) (some g) :=
  ⟨h.os, h.tape, h.output, by simpa [World.setCell] using h.size, fun k hk hne => (Below.heap_setCell w ⟨g, i, none⟩ u k (fun e => hne (by rw [e]))).trans (h.block k hk hne)⟩
theorem but_cell {a w : World} {g : Nat} (h : a.grownBy w (some g)) (p : Addr) (hlt : p.block < a.heap.size) (hne : p.block ≠ g) : w.cell? p = a.cell? p :=
  World.cell?_of_block (w := a) (h.block p.block hlt (fun e => hne (by injection e)))
theorem own_mono {w : World} {B B' : Nat} {e : TypeId} {size : Nat} {v : Value} {n : Nat} {xs : List Value} (h : w.ownsRow B e size v n xs) (hB : B' ≤ B) : w.ownsRow B' e size v n xs := by
  refine ⟨h.1, ?_⟩
  rcases h.2 with h2 | ⟨g, cap, cur, hv, hg, r⟩
  · exact .inl h2
  · exact .inr ⟨g, cap, cur, hv, Nat.le_trans hB hg, r⟩
theorem undrew {w w1 : World} (h : Below w.drew.heap.size w.drew w1) : Below w.heap.size w w1 := ⟨h.os, h.tape, h.output, h.size, h.block⟩
theorem own_below {w w1 : World} {B : Nat} {e : TypeId} {size : Nat} {v : Value} {n : Nat} {xs : List Value} (h : w.ownsRow B e size v n xs) (hb : Below w.heap.size w w1) : w1.ownsRow B e size v n xs :=
  h.kept (but_below (World.grownBy.refl _ none) hb) (by cases v.ownBlock <;> simp)
theorem own_ints {w : World} {B : Nat} {t : TypeId} {v : Value} {xs : List Int} (h : w.ownsRow B t 1 v xs.length (xs.map (Value.int .i64))) : ∃ a cap, v = .slice a xs.length cap ∧ IntsAt w a xs ∧ xs.length ≤ cap ∧ cap ≤ maxLen := by
  obtain ⟨_, h2⟩ := h
  rcases h2 with ⟨rfl, h0⟩ | ⟨gb, cap, cur, rfl, hb, hg, hn, hcm, hcs, htake⟩
  · refine ⟨none, 0, by rw [h0], fun i hi => by omega, by omega, Nat.zero_le _⟩
  · refine ⟨some ⟨gb, 0, none⟩, cap, rfl, fun i hi => ⟨gb, 0, rfl, (Array.getElem?_eq_some_iff.1 hg).1, ?_⟩, hn, hcm⟩
    rw [cell_of_row w gb (0 + i) cur t (0, 0) hg, Nat.zero_add]
    have e : (cur.toList.take (xs.length * 1))[i]? = (xs.map (Value.int .i64))[i]? := by rw [htake]
    rw [List.getElem?_take, if_pos (by omega)] at e
    rw [← Array.getElem?_toList, e]
    simp [nth, List.getD, hi]
theorem add_plain0 (b off i : Nat) : (⟨b, off, none⟩ : Addr).add i = ⟨b, off + i, none⟩ := by unfold Addr.add; split <;> simp_all
theorem IntsAt.cells0 {w : World} {b off : Nat} {xs : List Int} (h : IntsAt w (some ⟨b, off, none⟩) xs) (i : Nat) (hi : i < xs.length) : w.cell? ⟨b, off + i, none⟩ = some (.int .i64 (nth xs i)) := by
  obtain ⟨b', off', e, _, hc⟩ := h i hi
  cases e
  exact hc
theorem ints_news {w : World} {b off : Nat} {xs : List Int} (h : IntsAt w (some ⟨b, off, none⟩) xs) : ∀ j u, (xs.map (Value.int .i64))[j]? = some u → w.cell? ((⟨b, off, none⟩ : Addr).add j) = some u := by
  intro j u hu
  rw [add_plain0]
  have hj : j < xs.length := by
    have := (List.getElem?_eq_some_iff.1 hu).1
    simpa using this
  rw [h.cells0 j hj]
  simp [hj] at hu
  rw [← hu]
  simp [nth, List.getD, hj]
theorem ints_one (xs : List Int) : ∀ u ∈ xs.map (Value.int .i64), u.oneCell' = true := by
  intro u hu
  obtain ⟨z, _, rfl⟩ := List.mem_map.1 hu
  rfl
def IntsBack (xs : List Int) (W : World) (e : Ending) (w' : World) : Prop :=
  ∃ a cap, e = .returned (.slice a xs.length cap) ∧ IntsAt w' a xs ∧ Below W.heap.size W w' ∧ xs.length ≤ cap ∧ cap ≤ maxLen
def IntsE (xs : List Int) (E : Int) (W : World) (e : Ending) (w' : World) : Prop :=
  ∃ a cap, e = .returned (.tuple #[.slice a xs.length cap, .int .i64 E]) ∧ IntsAt w' a xs ∧ Below W.heap.size W w' ∧ xs.length ≤ cap ∧ cap ≤ maxLen
theorem keepC {w w1 : World} {row : Option Nat} {b o : Nat} {v : Value} (hg : w.grownBy w1 row) (h2 : row ≠ some b) (h : w.cell? ⟨b, o, none⟩ = some v ∧ b < w.heap.size) : w1.cell? ⟨b, o, none⟩ = some v ∧ b < w1.heap.size :=
  ⟨hg.cell h.1 (fun e => h2 e.symm), Nat.lt_of_lt_of_le h.2 hg.size⟩
theorem step_append_own {P : Program} {w : World} {ops : Array Oper} {o : Oper} {a : Act} {K : Act → World → Prop} {Q : Exit → Act → World → Prop} {E : Prop} (hgd : o.guard = none) (s x : Operand) (t : TypeId)
    (ho : o.op = .call { callee := .builtin .append, args := #[s, x], argTypes := #[t, t] })
    (base : Nat) (e : TypeId) (i : TypeInfo) (z : Value) (size bytes : Nat) (ht : P.underlying t = some (.slice e)) (hi : P.info? e = some i) (hz : i.zero = some z)
    (hsize : i.size = size) (hby : i.bytes = bytes) (hzs : z.cells.size = size) (hsz : 0 < size)
    (v : Value) (n : Nat) (xs : List Value) (hs : a.eval s = v) (hown : w.ownsRow base e size v n xs)
    (ad : Addr) (m c : Nat) (news : List Value) (hx : a.eval x = .slice (some ad) m c) (hl : news.length = m * size) (hnews : ∀ j u, news[j]? = some u → w.cell? (ad.add j) = some u) (h1 : ∀ u ∈ news, u.oneCell' = true)
    (h63 : n + m ≤ maxLen) (hbytes : (n + m) * bytes ≤ 140737488355328) (hbase : base ≤ w.heap.size)
    (h : ∀ v' w', w'.ownsRow base e size v' (n + m) (xs ++ news) → w.grownBy w' v.ownBlock → K (a.put o.dst v') w') :
    if Region.wanted o (yielded ops a.tmps) = true then Oper.wp P o a w K Q else E := by
  have hw : Region.wanted o (yielded ops a.tmps) = true := by simp [Region.wanted, hgd]
  rw [if_pos hw]
  obtain ⟨v', w', hrun, h2, h3, _, _⟩ := run_append_own_at (P := P) w base t o.type e i z size bytes ht hi hz hsize hby hzs hsz v n xs hown ad m c news hl hnews h1 h63 hbytes hbase
  unfold Oper.wp execOp
  simp only [ho, resolve, invoke, builtin, Sem.run_bind, Sem.run_pure, Result.andThen_ok, List.map_toArray, List.map_cons, List.map_nil, hs, hx, hrun]
  exact h v' w' h2 h3

theorem rowIs_drewN {w : World} {b : Nat} {t : TypeId} {n : Nat} {f : Nat → Value} (h : w.rowIs b t n f) (k : Nat) : (w.drewN k).rowIs b t n f := h
theorem ints_row {w : World} {B n : Nat} {F : Nat → Int} {xs : List Int} (h : w.rowIs B 3 n (fun i => .int .i64 (F i))) (hF : ∀ i, i < xs.length → F i = nth xs i) (hn : xs.length ≤ n) : IntsAt w (some ⟨B, 0, none⟩) xs := by
  intro i hi
  refine ⟨B, 0, rfl, h.lt, ?_⟩
  rw [Nat.zero_add, h.cell (i := i) (by omega), hF i hi]
theorem results_tmp4 {fn : Func} {t u v x : Tmp} (h : fn.results = #[.tmp t, .tmp u, .tmp v, .tmp x]) (tmps : Array Value) (P : Program) (w : World) :
    (results fn tmps).run P w = .ok (.tuple #[tmps.getD t undef, tmps.getD u undef, tmps.getD v undef, tmps.getD x undef]) w := by simp [results, h]
end Go.Proofs.Ytmllbemjcfkmjaa
/- A region's head that only reads, walked in the text's order, guards and all: the goal wrapped so that it is not unfolded. -/
namespace Go.Proofs.Ytmllbemjcfkmjaa
variable {P : Program} {ops : Array Oper} {w : World} {Q : Act → Prop} {a : Act} {o : Oper} {rest : List Oper}
structure St (P : Program) (ops : Array Oper) (w : World) (Q : Act → Prop) (l : List Oper) (a : Act) : Prop where
  out : wpStill P ops w Q l a
theorem st_nil (h : Q a) : St P ops w Q [] a := ⟨wpStill_nil h⟩
theorem st_want (hw : Region.wanted o (yielded ops a.tmps) = true) (h : ∀ K : Act → Prop, (∀ a, St P ops w Q rest a → K a) → o.still P a w K) : St P ops w Q (o :: rest) a :=
  ⟨wpStill_step fun K hK => by rw [if_pos hw]; exact h K fun a ha => hK a ha.out⟩
theorem st_skip (hw : Region.wanted o (yielded ops a.tmps) = false) (h : St P ops w Q rest (a.put o.dst undef)) : St P ops w Q (o :: rest) a :=
  ⟨wpStill_step fun K hK => by rw [if_neg (by rw [hw]; exact Bool.false_ne_true)]; exact hK _ h.out⟩
end Go.Proofs.Ytmllbemjcfkmjaa
/- A region that draws its order, whose operations read and whose callees may make memory: walked once, guards and all, the goal wrapped so that it is not unfolded. -/
namespace Go.Proofs.Ytmllbemjcfkmjaa
open Go.RowKit Go.Sort
variable {P : Program} {ops : Array Oper} {C : World → Prop} {Q : Act → Prop} {a : Act} {o : Oper} {rest : List Oper}
structure Qt (P : Program) (ops : Array Oper) (C : World → Prop) (Q : Act → Prop) (l : List Oper) (a : Act) : Prop where
  out : wpQuiet P ops C Q l a
theorem qt_nil (h : Q a) : Qt P ops C Q [] a := ⟨wpQuiet_nil h⟩
theorem qt_want (hw : Region.wanted o (yielded ops a.tmps) = true) (h : ∀ K : Act → Prop, (∀ a, Qt P ops C Q rest a → K a) → o.quiet P a C K) : Qt P ops C Q (o :: rest) a :=
  ⟨wpQuiet_step fun K hK => by rw [if_pos hw]; exact h K fun a ha => hK a ha.out⟩
theorem qt_skip (hw : Region.wanted o (yielded ops a.tmps) = false) (h : Qt P ops C Q rest (a.put o.dst undef)) : Qt P ops C Q (o :: rest) a :=
  ⟨wpQuiet_step fun K hK => by rw [if_neg (by rw [hw]; exact Bool.false_ne_true)]; exact hK _ h.out⟩
theorem regrown_same {f : FuncId} {args : Array Value} {w : World} {d : Nat} {os : Array Obj} {v : Value}
    (h : Calls P f args (grow (redrawn w d) os) fun e w' => e = .returned v ∧ grow (redrawn w d) os = w') : Calls P f args (grow (redrawn w d) os) fun e w'' => e = .returned v ∧ ∃ p : Regrown, w'' = grow (redrawn w p.d) p.os :=
  h.mono fun _ _ ⟨he, hb⟩ => ⟨he, ⟨d, os⟩, hb.symm⟩
theorem ints_regrown {w : World} {x : Option Addr} {xs : List Int} (h : IntsAt w x xs) (d : Nat) (os : Array Obj) : IntsAt (grow (redrawn w d) os) x xs := h.below (below_regrown w d os)
end Go.Proofs.Ytmllbemjcfkmjaa
/- What is found in the order of its finding, and names by first places; plainly. -/
namespace Go.Proofs.Ytmllbemjcfkmjaa
set_option linter.unusedSimpArgs false
set_option linter.unusedVariables false
set_option linter.unusedSectionVars false

section
variable {α β : Type} [DecidableEq α] [DecidableEq β]
def vis (S : List α) (x : α) : List α := if x ∈ S then S else S ++ [x]
def visL (S : List α) : List α → List α
  | [] => S
  | x :: l => visL (vis S x) l
def nub (l : List α) : List α := visL [] l
def idx : List α → α → Nat
  | [], _ => 0
  | y :: t, x => if y = x then 0 else idx t x + 1
theorem vis_mem (S : List α) (x : α) (h : x ∈ S) : vis S x = S := by rw [vis, if_pos h]
theorem vis_new (S : List α) (x : α) (h : x ∉ S) : vis S x = S ++ [x] := by rw [vis, if_neg h]
theorem mem_vis {S : List α} {x y : α} : y ∈ vis S x ↔ y ∈ S ∨ y = x := by
  by_cases h : x ∈ S
  · rw [vis_mem S x h]
    exact ⟨.inl, fun h' => h'.elim id fun e => e ▸ h⟩
  · rw [vis_new S x h]; simp
theorem mem_visL {l : List α} : ∀ {S : List α} {y : α}, y ∈ visL S l ↔ y ∈ S ∨ y ∈ l := by
  induction l with
  | nil => intro S y; simp [visL]
  | cons x l ih =>
    intro S y
    rw [visL, ih, mem_vis, List.mem_cons]
    exact or_assoc
theorem visL_append (S l m : List α) : visL S (l ++ m) = visL (visL S l) m := by
  induction l generalizing S with
  | nil => rfl
  | cons x l ih => simp only [List.cons_append, visL]; exact ih _
theorem visL_snoc (S l : List α) (x : α) : visL S (l ++ [x]) = vis (visL S l) x := by rw [visL_append]; rfl
theorem visL_sub (S l : List α) (h : ∀ x, x ∈ l → x ∈ S) : visL S l = S := by
  induction l with
  | nil => rfl
  | cons x l ih => rw [visL, vis_mem S x (h x (by simp))]; exact ih fun y hy => h y (by simp [hy])
theorem vis_pre (S : List α) (x : α) : S <+: vis S x := by
  by_cases h : x ∈ S
  · rw [vis_mem S x h]; exact List.prefix_refl _
  · rw [vis_new S x h]; exact List.prefix_append _ _
theorem visL_pre (S l : List α) : S <+: visL S l := by
  induction l generalizing S with
  | nil => exact List.prefix_refl _
  | cons x l ih => exact (vis_pre S x).trans (ih _)
theorem vis_nodup {S : List α} (h : S.Nodup) (x : α) : (vis S x).Nodup := by
  by_cases hx : x ∈ S
  · rw [vis_mem S x hx]; exact h
  · rw [vis_new S x hx, List.nodup_append]
    refine ⟨h, by simp, ?_⟩
    intro a ha b hb e
    simp at hb
    subst hb
    exact hx (e ▸ ha)
theorem visL_nodup {S : List α} (h : S.Nodup) (l : List α) : (visL S l).Nodup := by
  induction l generalizing S with
  | nil => exact h
  | cons x l ih => exact ih (vis_nodup h x)
theorem nub_nodup (l : List α) : (nub l).Nodup := visL_nodup (by simp) l
theorem mem_nub {l : List α} {x : α} : x ∈ nub l ↔ x ∈ l := by unfold nub; rw [mem_visL]; simp
theorem nub_snoc (l : List α) (x : α) : nub (l ++ [x]) = vis (nub l) x := visL_snoc _ _ _
theorem idx_lt {S : List α} {x : α} (h : x ∈ S) : idx S x < S.length := by
  induction S with
  | nil => cases h
  | cons y t ih =>
    simp only [idx, List.length_cons]
    split
    · omega
    · rename_i hne
      have := ih ((List.mem_cons.1 h).resolve_left fun e => hne e.symm)
      omega
theorem get_idx {S : List α} {x : α} (h : x ∈ S) : S[idx S x]? = some x := by
  induction S with
  | nil => cases h
  | cons y t ih =>
    simp only [idx]
    split
    · rename_i e; simp [e]
    · rename_i hne
      simpa using ih ((List.mem_cons.1 h).resolve_left fun e => hne e.symm)
theorem idx_app_mem {S T : List α} {x : α} (h : x ∈ S) : idx (S ++ T) x = idx S x := by
  induction S with
  | nil => cases h
  | cons y t ih =>
    simp only [List.cons_append, idx]
    split
    · rfl
    · rename_i hne
      rw [ih ((List.mem_cons.1 h).resolve_left fun e => hne e.symm)]
theorem idx_app_new {S : List α} {x : α} (h : x ∉ S) : idx (S ++ [x]) x = S.length := by
  induction S with
  | nil => simp [idx]
  | cons y t ih =>
    simp only [List.cons_append, idx]
    rw [if_neg fun e => h (by simp [e]), ih fun h' => h (by simp [h'])]
    rfl
theorem idx_pre {S T : List α} {x : α} (hp : S <+: T) (h : x ∈ S) : idx T x = idx S x := by
  obtain ⟨r, rfl⟩ := hp
  exact idx_app_mem h
theorem idx_inj {S : List α} {x y : α} (hx : x ∈ S) (hy : y ∈ S) (h : idx S x = idx S y) : x = y := by
  have h1 := get_idx hx
  have h2 := get_idx hy
  rw [h] at h1
  rw [h1] at h2
  exact Option.some.inj h2
theorem idx_get {S : List α} (hn : S.Nodup) {i : Nat} {x : α} (h : S[i]? = some x) : idx S x = i := by
  obtain ⟨hi, e⟩ := List.getElem?_eq_some_iff.1 h
  have hx : x ∈ S := e ▸ List.getElem_mem hi
  have h1 := get_idx hx
  obtain ⟨hj, e2⟩ := List.getElem?_eq_some_iff.1 h1
  have hp := List.pairwise_iff_getElem.1 hn
  by_cases h1 : idx S x < i
  · exact absurd (by rw [e2, e]) (hp _ _ hj hi h1)
  · by_cases h2 : i < idx S x
    · exact absurd (by rw [e2, e]) (hp _ _ hi hj h2)
    · omega
theorem pre_get {S T : List α} (hp : S <+: T) {i : Nat} {x : α} (h : S[i]? = some x) : T[i]? = some x := by
  obtain ⟨r, rfl⟩ := hp
  have hi := (List.getElem?_eq_some_iff.1 h).1
  rw [List.getElem?_append_left hi]
  exact h
theorem pre_get' {S T : List α} (hp : S <+: T) {i : Nat} (h : i < S.length) : T[i]? = S[i]? := by
  rw [List.getElem?_eq_getElem h]
  exact pre_get hp (List.getElem?_eq_getElem h)

/-! ### the order of finding -/
def bfs (succ : α → List α) (s0 : α) : Nat → List α
  | 0 => [s0]
  | i + 1 => match (bfs succ s0 i)[i]? with
    | none => bfs succ s0 i
    | some s => visL (bfs succ s0 i) (succ s)
variable (succ : α → List α) (s0 : α)
theorem bfs_stop (i : Nat) (h : (bfs succ s0 i).length ≤ i) : bfs succ s0 (i + 1) = bfs succ s0 i := by
  have e : (bfs succ s0 i)[i]? = none := List.getElem?_eq_none h
  simp only [bfs, e]
theorem bfs_step (i : Nat) (s : α) (h : (bfs succ s0 i)[i]? = some s) : bfs succ s0 (i + 1) = visL (bfs succ s0 i) (succ s) := by
  simp only [bfs, h]
theorem bfs_pre1 (i : Nat) : bfs succ s0 i <+: bfs succ s0 (i + 1) := by
  cases e : (bfs succ s0 i)[i]? with
  | none => rw [bfs_stop succ s0 i (List.getElem?_eq_none_iff.1 e)]; exact List.prefix_refl _
  | some s => rw [bfs_step succ s0 i s e]; exact visL_pre _ _
theorem bfs_pre {i j : Nat} (h : i ≤ j) : bfs succ s0 i <+: bfs succ s0 j := by
  induction j with
  | zero => have : i = 0 := by omega
            subst this; exact List.prefix_refl _
  | succ j ih =>
    by_cases e : i = j + 1
    · subst e; exact List.prefix_refl _
    · exact (ih (by omega)).trans (bfs_pre1 succ s0 j)
theorem bfs_done {i j : Nat} (h : (bfs succ s0 i).length ≤ i) (hj : i ≤ j) : bfs succ s0 j = bfs succ s0 i := by
  induction j with
  | zero => have : i = 0 := by omega
            subst this; rfl
  | succ j ih =>
    by_cases e : i = j + 1
    · subst e; rfl
    · have ih := ih (by omega)
      rw [bfs_stop succ s0 j (by rw [ih]; omega), ih]
theorem bfs_nodup (i : Nat) : (bfs succ s0 i).Nodup := by
  induction i with
  | zero => simp [bfs]
  | succ i ih =>
    cases e : (bfs succ s0 i)[i]? with
    | none => rw [bfs_stop succ s0 i (List.getElem?_eq_none_iff.1 e)]; exact ih
    | some s => rw [bfs_step succ s0 i s e]; exact visL_nodup ih _
theorem bfs_first (i : Nat) : (bfs succ s0 i)[0]? = some s0 := pre_get (bfs_pre succ s0 (Nat.zero_le i)) (by simp [bfs])
theorem bfs_closed (i k : Nat) (hk : k < i) (s : α) (h : (bfs succ s0 i)[k]? = some s) : ∀ y, y ∈ succ s → y ∈ bfs succ s0 i := by
  intro y hy
  have hp := bfs_pre succ s0 (show k + 1 ≤ i by omega)
  refine List.IsPrefix.subset hp ?_
  by_cases hkl : k < (bfs succ s0 k).length
  · have e : (bfs succ s0 k)[k]? = some s := by rw [← pre_get' (bfs_pre succ s0 (show k ≤ i by omega)) hkl]; exact h
    rw [bfs_step succ s0 k s e, mem_visL]
    exact .inr hy
  · have := bfs_done succ s0 (i := k) (j := i) (by omega) (by omega)
    rw [this, List.getElem?_eq_none (by omega)] at h
    cases h
theorem bfs_in (D : α → Prop) (h0 : D s0) (hs : ∀ s, D s → ∀ y, y ∈ succ s → D y) (i : Nat) : ∀ x, x ∈ bfs succ s0 i → D x := by
  induction i with
  | zero => intro x hx; simp [bfs] at hx; exact hx ▸ h0
  | succ i ih =>
    cases e : (bfs succ s0 i)[i]? with
    | none => rw [bfs_stop succ s0 i (List.getElem?_eq_none_iff.1 e)]; exact ih
    | some s =>
      rw [bfs_step succ s0 i s e]
      intro x hx
      rcases mem_visL.1 hx with h | h
      · exact ih x h
      · exact hs s (ih s (List.mem_of_getElem? e)) x h
/-- F is all that is found, in the order of its finding. -/
def Found (F : List α) : Prop := ∃ i, F = bfs succ s0 i ∧ F.length ≤ i
theorem found_unique {F G : List α} (h1 : Found succ s0 F) (h2 : Found succ s0 G) : F = G := by
  obtain ⟨i, rfl, hi⟩ := h1
  obtain ⟨j, rfl, hj⟩ := h2
  by_cases h : i ≤ j
  · exact (bfs_done succ s0 hi h).symm
  · exact bfs_done succ s0 hj (by omega)
end

section
variable {α β : Type} [DecidableEq α] [DecidableEq β]
theorem nub_vis (f : α → β) (S : List α) (x : α) : nub ((vis S x).map f) = vis (nub (S.map f)) (f x) := by
  by_cases h : x ∈ S
  · rw [vis_mem S x h, vis_mem _ _ (mem_nub.2 (List.mem_map_of_mem h))]
  · rw [vis_new S x h, List.map_append]
    exact nub_snoc _ _
theorem nub_visL (f : α → β) (l : List α) : ∀ S : List α, nub ((visL S l).map f) = visL (nub (S.map f)) (l.map f) := by
  induction l with
  | nil => intro S; rfl
  | cons x l ih => intro S; rw [visL, ih, nub_vis]; rfl
/-- The labels of what is found, each once, are what is found among the labels. -/
theorem bfs_label (f : α → β) (succ : α → List α) (succ' : β → List β) (s0 : α) (hs : ∀ i s, (bfs succ s0 i)[i]? = some s → succ' (f s) = (succ s).map f) (hs2 : ∀ i s, s ∈ bfs succ s0 i → succ' (f s) = (succ s).map f) (i : Nat) (hi : i ≤ (bfs succ s0 i).length) :
    nub ((bfs succ s0 i).map f) = bfs succ' (f s0) (nub (((bfs succ s0 i).take i).map f)).length := by
  induction i with
  | zero => simp [bfs, nub, visL, vis]
  | succ i ih =>
    have hil : i < (bfs succ s0 i).length := by
      by_cases h : i < (bfs succ s0 i).length
      · exact h
      · have := bfs_stop succ s0 i (by omega)
        rw [this] at hi
        omega
    have ih := ih (by omega)
    have e : (bfs succ s0 i)[i]? = some (bfs succ s0 i)[i] := List.getElem?_eq_getElem hil
    have st := bfs_step succ s0 i _ e
    have hp := bfs_pre1 succ s0 i
    have tk : (bfs succ s0 (i + 1)).take (i + 1) = (bfs succ s0 i).take i ++ [(bfs succ s0 i)[i]] := by
      obtain ⟨r, hr⟩ := hp
      rw [← hr, List.take_append_of_le_length (by omega), List.take_succ_eq_append_getElem hil]
    have hsm := hs2 i _ (List.getElem_mem hil)
    rw [tk, List.map_append, List.map_cons, List.map_nil, nub_snoc, st, nub_visL, ih, ← hsm]
    generalize hx : (bfs succ s0 i)[i] = x at *
    generalize hT : nub (((bfs succ s0 i).take i).map f) = T at *
    by_cases hm : f x ∈ T
    · rw [vis_mem _ _ hm]
      refine visL_sub _ _ fun y hy => ?_
      rw [← ih]
      rw [← hT] at hm
      obtain ⟨z, hz, hfz⟩ := List.mem_map.1 (mem_nub.1 hm)
      obtain ⟨k, hk, hk2⟩ := List.getElem_of_mem hz
      have hk3 : k < i := by simp at hk; omega
      have hzk : (bfs succ s0 i)[k]? = some z := by
        rw [List.getElem_take] at hk2
        rw [← hk2]
        exact List.getElem?_eq_getElem (by omega)
      have hcl := bfs_closed succ s0 i k hk3 z hzk
      have hsz := hs2 i z (List.mem_of_getElem? hzk)
      rw [← hfz, hsz] at hy
      obtain ⟨u, hu, rfl⟩ := List.mem_map.1 hy
      exact mem_nub.2 (List.mem_map_of_mem (hcl u hu))
    · rw [vis_new _ _ hm, List.length_append]
      have ek : (bfs succ' (f s0) T.length)[T.length]? = some (f x) := by
        rw [← ih]
        have e2 : bfs succ s0 i = (bfs succ s0 i).take i ++ (x :: (bfs succ s0 i).drop (i + 1)) := by
          rw [← hx, List.getElem_cons_drop, List.take_append_drop]
        rw [e2, List.map_append, List.map_cons]
        have e3 : nub (((bfs succ s0 i).take i).map f ++ f x :: ((bfs succ s0 i).drop (i + 1)).map f) = visL (T ++ [f x]) (((bfs succ s0 i).drop (i + 1)).map f) := by
          unfold nub at hT ⊢
          rw [visL_append, hT, visL, vis_new _ _ hm]
        rw [e3]
        exact pre_get (visL_pre _ _) (by simp)
      exact (bfs_step succ' (f s0) T.length (f x) ek).symm
theorem found_label (f : α → β) (succ : α → List α) (succ' : β → List β) (s0 : α) {F : List α} (hF : Found succ s0 F) (hs : ∀ s, s ∈ F → succ' (f s) = (succ s).map f) : Found succ' (f s0) (nub (F.map f)) := by
  obtain ⟨i, rfl, hi⟩ := hF
  -- the first round behind which nothing is left
  have key : ∀ n i, i ≤ n → (bfs succ s0 i).length ≤ i → ∃ j, j ≤ (bfs succ s0 j).length ∧ (bfs succ s0 j).length ≤ j ∧ bfs succ s0 j = bfs succ s0 i := by
    intro n
    induction n with
    | zero =>
      intro i h0 hi
      have : i = 0 := by omega
      subst this
      simp [bfs] at hi
    | succ n ih =>
      intro i h0 hi
      by_cases e : i ≤ (bfs succ s0 i).length
      · exact ⟨i, e, hi, rfl⟩
      · obtain ⟨k, rfl⟩ : ∃ k, i = k + 1 := ⟨i - 1, by omega⟩
        have hk : (bfs succ s0 k).length ≤ k := by
          have hp := (bfs_pre1 succ s0 k).length_le
          omega
        obtain ⟨j, h1, h2, h3⟩ := ih k (by omega) hk
        exact ⟨j, h1, h2, h3.trans (bfs_stop succ s0 k hk).symm⟩
  obtain ⟨j, h1, h2, h3⟩ := key i i (Nat.le_refl _) hi
  rw [← h3] at hs ⊢
  have hm := bfs_label f succ succ' s0 (fun k s h => ?_) (fun k s h => ?_) j h1
  · refine ⟨_, hm, ?_⟩
    rw [List.take_of_length_le h2]
    exact Nat.le_refl _
  all_goals
    refine hs s ?_
    by_cases hkj : k ≤ j
    · exact List.IsPrefix.subset (bfs_pre succ s0 hkj) (by first | exact h | exact List.mem_of_getElem? h)
    · rw [bfs_done succ s0 h2 (show j ≤ k by omega)] at h
      first | exact h | exact List.mem_of_getElem? h
/-- Names by first places hang on who is like whom alone. -/
def nubN (h : Nat → α) (n : Nat) : List α := nub ((List.range n).map h)
theorem nubN_succ (h : Nat → α) (n : Nat) : nubN h (n + 1) = vis (nubN h n) (h n) := by
  unfold nubN
  rw [List.range_succ, List.map_append]
  exact nub_snoc _ _
theorem mem_nubN (h : Nat → α) (n : Nat) (x : α) : x ∈ nubN h n ↔ ∃ i, i < n ∧ h i = x := by
  unfold nubN
  rw [mem_nub]
  simp
theorem nubN_pre (h : Nat → α) {m n : Nat} (hmn : m ≤ n) : nubN h m <+: nubN h n := by
  induction n with
  | zero => have : m = 0 := by omega
            subst this; exact List.prefix_refl _
  | succ n ih =>
    by_cases e : m = n + 1
    · subst e; exact List.prefix_refl _
    · rw [nubN_succ]; exact (ih (by omega)).trans (vis_pre _ _)
theorem nubN_le (h : Nat → α) (n : Nat) : (nubN h n).length ≤ n := by
  induction n with
  | zero => simp [nubN, nub, visL]
  | succ n ih =>
    rw [nubN_succ]
    by_cases e : h n ∈ nubN h n
    · rw [vis_mem _ _ e]; omega
    · rw [vis_new _ _ e, List.length_append]; simp; omega
def cname (h : Nat → α) (n i : Nat) : Nat := idx (nubN h n) (h i)
theorem cname_lt (h : Nat → α) {n i : Nat} (hi : i < n) : cname h n i < (nubN h n).length := idx_lt ((mem_nubN h n _).2 ⟨i, hi, rfl⟩)
theorem cname_eq (h : Nat → α) {n i j : Nat} (hi : i < n) (hj : j < n) : cname h n i = cname h n j ↔ h i = h j :=
  ⟨fun e => idx_inj ((mem_nubN h n _).2 ⟨i, hi, rfl⟩) ((mem_nubN h n _).2 ⟨j, hj, rfl⟩) e, fun e => by unfold cname; rw [e]⟩
theorem cname_more (h : Nat → α) {m n i : Nat} (hi : i < m) (hmn : m ≤ n) : cname h n i = cname h m i := idx_pre (nubN_pre h hmn) ((mem_nubN h m _).2 ⟨i, hi, rfl⟩)
theorem nub_alike (h : Nat → α) (g : Nat → β) (n : Nat) (hg : ∀ i j, i < n → j < n → (h i = h j ↔ g i = g j)) : (nubN h n).length = (nubN g n).length ∧ ∀ i, i < n → cname h n i = cname g n i := by
  induction n with
  | zero => exact ⟨rfl, fun i hi => absurd hi (Nat.not_lt_zero i)⟩
  | succ n ih =>
    obtain ⟨h1, h2⟩ := ih fun i j hi hj => hg i j (by omega) (by omega)
    have old : ∀ i, i < n → cname h (n + 1) i = cname g (n + 1) i := fun i hi => by
      rw [cname_more h hi (Nat.le_succ n), cname_more g hi (Nat.le_succ n)]; exact h2 i hi
    by_cases e : h n ∈ nubN h n
    · obtain ⟨k, hk, he⟩ := (mem_nubN h n _).1 e
      have ge : g k = g n := (hg k n (by omega) (by omega)).1 he
      have e2 : g n ∈ nubN g n := (mem_nubN g n _).2 ⟨k, hk, ge⟩
      refine ⟨by rw [nubN_succ, nubN_succ, vis_mem _ _ e, vis_mem _ _ e2]; exact h1, fun i hi => ?_⟩
      by_cases hin : i = n
      · subst hin
        rw [← (cname_eq h (show k < i + 1 by omega) (show i < i + 1 by omega)).2 he, ← (cname_eq g (show k < i + 1 by omega) (show i < i + 1 by omega)).2 ge]
        exact old k hk
      · exact old i (by omega)
    · have e2 : g n ∉ nubN g n := fun hm => by
        obtain ⟨k, hk, he⟩ := (mem_nubN g n _).1 hm
        exact e ((mem_nubN h n _).2 ⟨k, hk, (hg k n (by omega) (by omega)).2 he⟩)
      refine ⟨by rw [nubN_succ, nubN_succ, vis_new _ _ e, vis_new _ _ e2, List.length_append, List.length_append, h1]; rfl, fun i hi => ?_⟩
      by_cases hin : i = n
      · subst hin
        unfold cname
        rw [nubN_succ, nubN_succ, vis_new _ _ e, vis_new _ _ e2, idx_app_new e, idx_app_new e2, h1]
      · exact old i (by omega)
/-- A finer parting has no fewer parts; if it has as many, it is no finer. -/
theorem nub_finer (h : Nat → α) (g : Nat → β) (n : Nat) (hg : ∀ i j, i < n → j < n → h i = h j → g i = g j) :
    (nubN g n).length ≤ (nubN h n).length ∧ ((nubN g n).length = (nubN h n).length → ∀ i j, i < n → j < n → g i = g j → h i = h j) := by
  induction n with
  | zero => exact ⟨Nat.le_refl _, fun _ i j hi => absurd hi (Nat.not_lt_zero i)⟩
  | succ n ih =>
    obtain ⟨h1, h2⟩ := ih fun i j hi hj => hg i j (by omega) (by omega)
    by_cases e : h n ∈ nubN h n
    · obtain ⟨k, hk, he⟩ := (mem_nubN h n _).1 e
      have ge : g k = g n := hg k n (by omega) (by omega) he
      have e2 : g n ∈ nubN g n := (mem_nubN g n _).2 ⟨k, hk, ge⟩
      rw [nubN_succ, nubN_succ, vis_mem _ _ e, vis_mem _ _ e2]
      refine ⟨h1, fun heq => ?_⟩
      have h2 := h2 heq
      have toN : ∀ i, i < n → g i = g n → h i = h n := fun i hi hgi => (h2 i k hi hk (hgi.trans ge.symm)).trans he
      intro i j hi hj hgij
      by_cases hin : i = n
      · by_cases hjn : j = n
        · rw [hin, hjn]
        · subst hin; exact (toN j (by omega) hgij.symm).symm
      · by_cases hjn : j = n
        · subst hjn; exact toN i (by omega) hgij
        · exact h2 i j (by omega) (by omega) hgij
    · rw [nubN_succ h, vis_new _ _ e, List.length_append]
      by_cases e2 : g n ∈ nubN g n
      · rw [nubN_succ g, vis_mem _ _ e2]
        refine ⟨by simp; omega, fun heq => ?_⟩
        simp at heq
        omega
      · rw [nubN_succ g, vis_new _ _ e2, List.length_append]
        refine ⟨by simp; omega, fun heq => ?_⟩
        have h2 := h2 (by simp at heq; omega)
        have no : ∀ i, i < n → g i ≠ g n := fun i hi hh => e2 ((mem_nubN g n _).2 ⟨i, hi, hh⟩)
        intro i j hi hj hgij
        by_cases hin : i = n
        · by_cases hjn : j = n
          · rw [hin, hjn]
          · subst hin; exact absurd hgij.symm (no j (by omega))
        · by_cases hjn : j = n
          · subst hjn; exact absurd hgij (no i (by omega))
          · exact h2 i j (by omega) (by omega) hgij
end
end Go.Proofs.Ytmllbemjcfkmjaa
/- States put into classes until nothing parts them: they have the same class exactly if they have the same language; plainly. -/
namespace Go.Proofs.Ytmllbemjcfkmjaa
set_option linter.unusedSimpArgs false
set_option linter.unusedVariables false
set_option linter.unusedSectionVars false

def Lang : Type := List Nat → Bool
noncomputable instance langDec : DecidableEq Lang := fun a b => Classical.propDecidable (a = b)
def deriv (l : Lang) (a : Nat) : Lang := fun w => l (a :: w)
noncomputable def succL (L : Nat) (l : Lang) : List Lang := (List.range L).map (deriv l)
/-- The machine of a language: its parts in the order of their finding. -/
noncomputable def canRow (L : Nat) (F : List Lang) (l : Lang) : List Int := (List.range L).map fun a => ((idx F (deriv l a) : Nat) : Int)
noncomputable def canNext (L : Nat) (F : List Lang) : List (List Int) := F.map (canRow L F)
noncomputable def canAcc (F : List Lang) : List Bool := F.map fun l => l []

section
variable (N L : Nat) (nx : Nat → Nat → Nat) (acc : Nat → Bool)
/-- What is told of state i by its class and those behind it. -/
def keyV (c : Nat → Nat) (i a : Nat) : Nat := if a = 0 then c i else c (nx i (a - 1))
def two (v : Nat) : List UInt8 := [UInt8.ofNat v, UInt8.ofNat (v / 256)]
def keyU (c : Nat → Nat) (i : Nat) : Nat → List UInt8
  | 0 => []
  | k + 1 => keyU c i k ++ two (keyV nx c i k)
theorem two_inj {v w : Nat} (hv : v < 65536) (hw : w < 65536) (h : two v = two w) : v = w := by
  unfold two at h
  simp only [List.cons.injEq, and_true] at h
  have h1 := congrArg UInt8.toNat h.1
  have h2 := congrArg UInt8.toNat h.2
  simp only [UInt8.toNat_ofNat'] at h1 h2
  omega
theorem keyU_len (c : Nat → Nat) (i k : Nat) : (keyU nx c i k).length = 2 * k := by
  induction k with
  | zero => rfl
  | succ k ih => rw [keyU, List.length_append, ih]; simp [two]; omega
theorem keyU_iff (c : Nat → Nat) (i j k : Nat) (hi : ∀ a, a < k → keyV nx c i a < 65536) (hj : ∀ a, a < k → keyV nx c j a < 65536) :
    keyU nx c i k = keyU nx c j k ↔ ∀ a, a < k → keyV nx c i a = keyV nx c j a := by
  induction k with
  | zero => exact ⟨fun _ a ha => absurd ha (Nat.not_lt_zero a), fun _ => rfl⟩
  | succ k ih =>
    have ih := ih (fun a ha => hi a (by omega)) (fun a ha => hj a (by omega))
    rw [keyU, keyU]
    constructor
    · intro h a ha
      have h2 := List.append_inj h (by rw [keyU_len, keyU_len])
      by_cases e : a = k
      · subst e; exact two_inj (hi _ (by omega)) (hj _ (by omega)) h2.2
      · exact ih.1 h2.1 a (by omega)
    · intro h
      rw [ih.2 fun a ha => h a (by omega), h k (by omega)]
def key (c : Nat → Nat) (i : Nat) : List UInt8 := keyU nx c i (L + 1)
def cI : Nat → Nat → Nat
  | 0 => fun i => if acc i then 1 else 0
  | k + 1 => fun i => cname (key L nx (cI k)) N i
def pI (k : Nat) : Nat := (nubN (key L nx (cI N L nx acc k)) N).length
structure NxOK : Prop where
  n : N ≤ 60000
  lt : ∀ i, i < N → ∀ a, a < L → nx i a < N
variable {N L nx acc}
theorem cI_lt (h : NxOK N L nx) (k : Nat) : ∀ i, i < N → cI N L nx acc k i < 65536 := by
  intro i hi
  have := h.n
  cases k with
  | zero => simp only [cI]; split <;> omega
  | succ k =>
    have h1 := cname_lt (key L nx (cI N L nx acc k)) hi
    have h2 := nubN_le (key L nx (cI N L nx acc k)) N
    show cname _ _ _ < _
    omega
theorem keyV_lt (h : NxOK N L nx) (k i : Nat) (hi : i < N) : ∀ a, a < L + 1 → keyV nx (cI N L nx acc k) i a < 65536 := by
  intro a ha
  unfold keyV
  split
  · exact cI_lt h k i hi
  · exact cI_lt h k _ (h.lt i hi _ (by omega))
theorem key_iff (h : NxOK N L nx) (k i j : Nat) (hi : i < N) (hj : j < N) :
    key L nx (cI N L nx acc k) i = key L nx (cI N L nx acc k) j ↔ cI N L nx acc k i = cI N L nx acc k j ∧ ∀ a, a < L → cI N L nx acc k (nx i a) = cI N L nx acc k (nx j a) := by
  unfold key
  rw [keyU_iff nx _ i j (L + 1) (keyV_lt h k i hi) (keyV_lt h k j hj)]
  constructor
  · intro h2
    refine ⟨by simpa [keyV] using h2 0 (by omega), fun a ha => ?_⟩
    simpa [keyV] using h2 (a + 1) (by omega)
  · rintro ⟨h0, h1⟩ a ha
    unfold keyV
    split
    · exact h0
    · exact h1 _ (by omega)
theorem cI_iff (h : NxOK N L nx) (k i j : Nat) (hi : i < N) (hj : j < N) :
    cI N L nx acc (k + 1) i = cI N L nx acc (k + 1) j ↔ cI N L nx acc k i = cI N L nx acc k j ∧ ∀ a, a < L → cI N L nx acc k (nx i a) = cI N L nx acc k (nx j a) := by
  rw [← key_iff h k i j hi hj]
  exact cname_eq _ hi hj
theorem pI_eq (k : Nat) : pI N L nx acc k = (nubN (cI N L nx acc (k + 1)) N).length := by
  unfold pI
  exact (nub_alike _ _ N fun i j hi hj => (cname_eq (key L nx (cI N L nx acc k)) hi hj).symm).1
theorem pI_mono (h : NxOK N L nx) (k : Nat) : pI N L nx acc k ≤ pI N L nx acc (k + 1) := by
  rw [pI_eq, pI_eq]
  exact (nub_finer _ _ N fun i j hi hj e => ((cI_iff h (k + 1) i j hi hj).1 e).1).1
theorem pI_le (k : Nat) : pI N L nx acc k ≤ N := nubN_le _ _
theorem pI_pos (hN : 1 ≤ N) (k : Nat) : 1 ≤ pI N L nx acc k := by
  have := cname_lt (key L nx (cI N L nx acc k)) (n := N) (i := 0) (by omega)
  unfold pI
  omega
theorem stable (h : NxOK N L nx) (k : Nat) (hp : pI N L nx acc k = pI N L nx acc (k + 1)) (i j : Nat) (hi : i < N) (hj : j < N) (e : cI N L nx acc (k + 1) i = cI N L nx acc (k + 1) j) :
    cI N L nx acc (k + 2) i = cI N L nx acc (k + 2) j := by
  rw [pI_eq, pI_eq] at hp
  exact (nub_finer (cI N L nx acc (k + 2)) (cI N L nx acc (k + 1)) N fun i j hi hj e => ((cI_iff h (k + 1) i j hi hj).1 e).1).2 hp i j hi hj e
theorem cI_acc (h : NxOK N L nx) (k i j : Nat) (hi : i < N) (hj : j < N) (e : cI N L nx acc k i = cI N L nx acc k j) : acc i = acc j := by
  induction k with
  | zero =>
    simp only [cI] at e
    cases h1 : acc i <;> cases h2 : acc j <;> simp [h1, h2] at e <;> rfl
  | succ k ih => exact ih ((cI_iff h k i j hi hj).1 e).1
variable (la : Nat → Lang)
structure LangOK : Prop where
  nil : ∀ i, i < N → la i [] = acc i
  cons : ∀ i, i < N → ∀ a w, la i (a :: w) = (decide (a < L) && la (nx i a) w)
variable {la}
theorem lang_class (h : NxOK N L nx) (hl : LangOK (N := N) (L := L) (nx := nx) (acc := acc) la) (k : Nat) (hp : pI N L nx acc k = pI N L nx acc (k + 1)) (i j : Nat) (hi : i < N) (hj : j < N) :
    cI N L nx acc (k + 2) i = cI N L nx acc (k + 2) j ↔ la i = la j := by
  constructor
  · intro e
    have key : ∀ (w : List Nat) i j, i < N → j < N → cI N L nx acc (k + 1) i = cI N L nx acc (k + 1) j → la i w = la j w := by
      intro w
      induction w with
      | nil =>
        intro i j hi hj e
        rw [hl.nil i hi, hl.nil j hj]
        exact cI_acc h _ i j hi hj e
      | cons a w ih =>
        intro i j hi hj e
        rw [hl.cons i hi, hl.cons j hj]
        by_cases ha : a < L
        · rw [ih _ _ (h.lt i hi a ha) (h.lt j hj a ha) (((cI_iff h (k + 1) i j hi hj).1 (stable h k hp i j hi hj e)).2 a ha)]
        · simp [ha]
    exact funext fun w => key w i j hi hj ((cI_iff h (k + 1) i j hi hj).1 e).1
  · intro e
    have key : ∀ m i j, i < N → j < N → la i = la j → cI N L nx acc m i = cI N L nx acc m j := by
      intro m
      induction m with
      | zero =>
        intro i j hi hj e
        have := congrFun e []
        rw [hl.nil i hi, hl.nil j hj] at this
        simp only [cI, this]
      | succ m ih =>
        intro i j hi hj e
        refine (cI_iff h m i j hi hj).2 ⟨ih i j hi hj e, fun a ha => ih _ _ (h.lt i hi a ha) (h.lt j hj a ha) (funext fun w => ?_)⟩
        have := congrFun e (a :: w)
        rw [hl.cons i hi, hl.cons j hj] at this
        simpa [ha] using this
    exact key _ i j hi hj e
/-- At the end the class of a state is its language's place among the languages. -/
theorem class_end (h : NxOK N L nx) (hl : LangOK (N := N) (L := L) (nx := nx) (acc := acc) la) (k : Nat) (hp : pI N L nx acc k = pI N L nx acc (k + 1)) (i : Nat) (hi : i < N) : cI N L nx acc (k + 2) i = cname la N i := by
  have hk : ∀ i j, i < N → j < N → (key L nx (cI N L nx acc (k + 1)) i = key L nx (cI N L nx acc (k + 1)) j ↔ la i = la j) := fun i j hi hj => by
    rw [key_iff h (k + 1) i j hi hj, ← cI_iff h (k + 1) i j hi hj]
    exact lang_class h hl k hp i j hi hj
  exact (nub_alike _ _ N hk).2 i hi
end
/-- A state is new exactly if its class is the number of those before. -/
theorem class_new (la : Nat → Lang) (N i : Nat) (hi : i < N) : cname la N i = (nubN la i).length ↔ la i ∉ nubN la i := by
  rw [cname_more la (show i < i + 1 by omega) (show i + 1 ≤ N by omega)]
  unfold cname
  rw [nubN_succ]
  constructor
  · intro e hm
    rw [vis_mem _ _ hm] at e
    have := idx_lt hm
    omega
  · intro hn
    rw [vis_new _ _ hn]
    exact idx_app_new hn
end Go.Proofs.Ytmllbemjcfkmjaa
/- A machine given by what it does: its states in the order of finding, their languages, its plain form; plainly. -/
namespace Go.Proofs.Ytmllbemjcfkmjaa
set_option linter.unusedSimpArgs false
set_option linter.unusedVariables false
set_option linter.unusedSectionVars false

theorem erase_facts {l : List Nat} (hn : l.Nodup) (x : Nat) : (l.filter (· ≠ x)).Nodup ∧ l.length ≤ (l.filter (· ≠ x)).length + 1 := by
  refine ⟨hn.filter _, ?_⟩
  induction l with
  | nil => simp
  | cons y t ih =>
    obtain ⟨h1, h2⟩ := List.nodup_cons.1 hn
    by_cases e : y = x
    · subst e
      have : t.filter (· ≠ y) = t := List.filter_eq_self.2 fun z hz => by
        simp only [ne_eq, decide_not, Bool.not_eq_eq_eq_not, Bool.not_true, decide_eq_false_iff_not]
        intro hh
        exact h1 (hh ▸ hz)
      have e2 : (y :: t).filter (· ≠ y) = t := by rw [List.filter_cons, if_neg (by simp), this]
      rw [e2]
      simp
    · rw [List.filter_cons, if_pos (by simpa using e)]
      have := ih h2
      simp only [List.length_cons]
      omega
theorem pigeon_nat (K : Nat) : ∀ l : List Nat, l.Nodup → (∀ x, x ∈ l → x < K) → l.length ≤ K := by
  induction K with
  | zero =>
    intro l hn h
    cases l with
    | nil => simp
    | cons y t => exact absurd (h y (by simp)) (Nat.not_lt_zero y)
  | succ K ih =>
    intro l hn h
    obtain ⟨h1, h2⟩ := erase_facts hn K
    have := ih _ h1 fun x hx => by
      have hx' := List.mem_filter.1 hx
      have hne : x ≠ K := by simpa using hx'.2
      have := h x hx'.1
      omega
    omega
theorem pigeon {S : List Int} {lo hi : Int} (hn : S.Nodup) (h : ∀ x, x ∈ S → lo ≤ x ∧ x < hi) : S.length ≤ (hi - lo).toNat := by
  have h1 : (S.map fun x => (x - lo).toNat).Nodup := by
    unfold List.Nodup
    rw [List.pairwise_map]
    refine List.Pairwise.imp_of_mem (fun {a b} ha hb hne => ?_) hn
    have := h a ha
    have := h b hb
    omega
  have h2 := pigeon_nat (hi - lo).toNat _ h1 fun x hx => by
    obtain ⟨z, hz, rfl⟩ := List.mem_map.1 hx
    have := h z hz
    omega
  simpa using h2

def stepsA (L : Nat) (step : Int → Nat → Int) (s : Int) : List Int := (List.range L).map (step s)
def langA (L : Nat) (step : Int → Nat → Int) (ac : Int → Bool) : List Nat → Int → Bool
  | [], s => ac s
  | a :: w, s => decide (a < L) && langA L step ac w (step s a)
def laA (L : Nat) (step : Int → Nat → Int) (ac : Int → Bool) (s : Int) : Lang := fun w => langA L step ac w s
structure AutoOK (L : Nat) (step : Int → Nat → Int) (lo hi : Int) : Prop where
  l1 : 1 ≤ L
  l6 : L ≤ 6
  lo0 : lo ≤ 0
  hi0 : 0 < hi
  lom : -100 ≤ lo
  him : hi ≤ 5000
  cl : ∀ s, lo ≤ s → s < hi → ∀ a, a < L → lo ≤ step s a ∧ step s a < hi
section
variable {L : Nat} {step : Int → Nat → Int} {ac : Int → Bool} {lo hi : Int}
def raw (L : Nat) (step : Int → Nat → Int) (i : Nat) : List Int := bfs (stepsA L step) 0 i
theorem raw_in (h : AutoOK L step lo hi) (i : Nat) : ∀ x, x ∈ raw L step i → lo ≤ x ∧ x < hi := by
  refine bfs_in (stepsA L step) 0 (fun x => lo ≤ x ∧ x < hi) ⟨h.lo0, h.hi0⟩ (fun s hs y hy => ?_) i
  obtain ⟨a, ha, rfl⟩ := List.mem_map.1 hy
  exact h.cl s hs.1 hs.2 a (List.mem_range.1 ha)
theorem raw_len (h : AutoOK L step lo hi) (i : Nat) : (raw L step i).length ≤ 5100 := by
  have := pigeon (bfs_nodup (stepsA L step) 0 i) (raw_in h i)
  have := h.lom
  have := h.him
  unfold raw at *
  omega
theorem raw_pos (i : Nat) : 1 ≤ (raw L step i).length := by
  have := (List.getElem?_eq_some_iff.1 (bfs_first (stepsA L step) 0 i)).1
  unfold raw
  omega
/-- The states found while the letters below a of state i are looked at. -/
def part (L : Nat) (step : Int → Nat → Int) (i a : Nat) : List Int := visL (raw L step i) ((List.range a).map (step ((raw L step i).getD i 0)))
theorem part_zero (i : Nat) : part L step i 0 = raw L step i := rfl
theorem part_succ (i a : Nat) : part L step i (a + 1) = vis (part L step i a) (step ((raw L step i).getD i 0) a) := by
  unfold part
  rw [List.range_succ, List.map_append]
  exact visL_snoc _ _ _
theorem part_all (i : Nat) (hi : i < (raw L step i).length) : part L step i L = raw L step (i + 1) := by
  unfold raw at *
  have e : (bfs (stepsA L step) 0 i)[i]? = some ((bfs (stepsA L step) 0 i).getD i 0) := by simp [List.getD, hi]
  exact (bfs_step (stepsA L step) 0 i _ e).symm
theorem part_pre (i : Nat) {a b : Nat} (h : a ≤ b) : part L step i a <+: part L step i b := by
  induction b with
  | zero => have : a = 0 := by omega
            subst this; exact List.prefix_refl _
  | succ b ih =>
    by_cases e : a = b + 1
    · subst e; exact List.prefix_refl _
    · rw [part_succ]; exact (ih (by omega)).trans (vis_pre _ _)
theorem part_len (h : AutoOK L step lo hi) (i a : Nat) (hi' : i < (raw L step i).length) (ha : a ≤ L) : (part L step i a).length ≤ 5100 := by
  have h1 := (part_pre (L := L) (step := step) i ha).length_le
  rw [part_all i hi'] at h1
  have := raw_len h (i + 1)
  omega
theorem raw_pre {i j : Nat} (h : i ≤ j) : raw L step i <+: raw L step j := bfs_pre _ _ h
def nxA (step : Int → Nat → Int) (S : List Int) (i a : Nat) : Nat := idx S (step (S.getD i 0) a)
def acA (ac : Int → Bool) (S : List Int) (i : Nat) : Bool := ac (S.getD i 0)
def lgA (L : Nat) (step : Int → Nat → Int) (ac : Int → Bool) (S : List Int) (i : Nat) : Lang := laA L step ac (S.getD i 0)
def rowA (L : Nat) (step : Int → Nat → Int) (S : List Int) (i : Nat) : List Int := (List.range L).map fun a => ((nxA step S i a : Nat) : Int)
structure EndOK (L : Nat) (step : Int → Nat → Int) (S : List Int) : Prop where
  fnd : Found (stepsA L step) 0 S
  cl : ∀ i, i < S.length → ∀ a, a < L → step (S.getD i 0) a ∈ S
  pos : 1 ≤ S.length
  le : S.length ≤ 5100
  nd : S.Nodup
  z : S.getD 0 0 = 0
theorem raw_end (h : AutoOK L step lo hi) (i : Nat) (he : (raw L step i).length ≤ i) : EndOK L step (raw L step i) := by
  refine ⟨⟨i, rfl, he⟩, fun k hk a ha => ?_, raw_pos i, raw_len h i, bfs_nodup _ _ i, ?_⟩
  · exact bfs_closed (stepsA L step) 0 i k (by omega) _ (by unfold raw at *; simp [List.getD, hk]) _ (List.mem_map.2 ⟨a, List.mem_range.2 ha, rfl⟩)
  · have := bfs_first (stepsA L step) 0 i
    unfold raw
    simp [List.getD, this]
/-- The number of a state that was found when state i was looked at stays. -/
theorem nx_more (i a : Nat) (hi : i < (raw L step i).length) (ha : a < L) (j : Nat) (hij : i < j) : nxA step (raw L step j) i a = idx (part L step i (a + 1)) (step ((raw L step i).getD i 0) a) := by
  have hp : part L step i (a + 1) <+: raw L step j := by
    refine (part_pre i (show a + 1 ≤ L by omega)).trans ?_
    rw [part_all i hi]
    exact raw_pre (by omega)
  have e : (raw L step j).getD i 0 = (raw L step i).getD i 0 := by
    have := pre_get' (raw_pre (L := L) (step := step) (show i ≤ j by omega)) hi
    simp [List.getD, this]
  unfold nxA
  rw [e]
  refine idx_pre hp ?_
  rw [part_succ, mem_vis]
  exact .inr rfl
section
variable {S : List Int} (hE : EndOK L step S)
include hE
theorem nxA_lt (i a : Nat) (hi : i < S.length) (ha : a < L) : nxA step S i a < S.length := idx_lt (hE.cl i hi a ha)
theorem nxA_get (i a : Nat) (hi : i < S.length) (ha : a < L) : S.getD (nxA step S i a) 0 = step (S.getD i 0) a := by
  have := get_idx (hE.cl i hi a ha)
  unfold nxA
  simp [List.getD] at this ⊢
  simp [this]
theorem nx_ok : NxOK S.length L (nxA step S) := ⟨by have := hE.le; omega, fun i hi a ha => nxA_lt hE i a hi ha⟩
theorem lang_ok : LangOK (N := S.length) (L := L) (nx := nxA step S) (acc := acA ac S) (lgA L step ac S) := by
  refine ⟨fun i hi => rfl, fun i hi a w => ?_⟩
  show langA L step ac (a :: w) (S.getD i 0) = _
  simp only [langA]
  by_cases ha : a < L
  · have := nxA_get hE i a hi ha
    show _ = (decide (a < L) && langA L step ac w (S.getD (nxA step S i a) 0))
    rw [this]
  · simp [ha]
theorem laA_deriv (s : Int) (a : Nat) (ha : a < L) : deriv (laA L step ac s) a = laA L step ac (step s a) := by
  funext w
  show langA L step ac (a :: w) s = langA L step ac w (step s a)
  simp [langA, ha]
theorem laA_succ (s : Int) : succL L (laA L step ac s) = (stepsA L step s).map (laA L step ac) := by
  unfold succL stepsA
  rw [List.map_map]
  refine List.map_congr_left fun a ha => ?_
  exact laA_deriv hE s a (List.mem_range.1 ha)
noncomputable def forms (L : Nat) (step : Int → Nat → Int) (ac : Int → Bool) (S : List Int) : List Lang := nubN (lgA L step ac S) S.length
theorem forms_nub : forms L step ac S = nub (S.map (laA L step ac)) := by
  unfold forms nubN
  congr 1
  refine List.ext_getElem (by simp) fun i h1 h2 => ?_
  have hi : i < S.length := by simpa using h2
  simp [lgA, List.getD, hi]
theorem forms_found : Found (succL L) (laA L step ac 0) (forms L step ac S) := by
  rw [forms_nub hE]
  exact found_label (laA L step ac) (stepsA L step) (succL L) 0 hE.fnd fun s _ => laA_succ hE s
theorem forms_le : (forms L step ac S).length ≤ S.length := nubN_le _ _
/-- The row of a new class. -/
theorem class_row (k : Nat) (hp : pI S.length L (nxA step S) (acA ac S) k = pI S.length L (nxA step S) (acA ac S) (k + 1)) (i : Nat) (hi : i < S.length) :
    ((List.range L).map fun a => ((cI S.length L (nxA step S) (acA ac S) (k + 2) (nxA step S i a) : Nat) : Int)) = canRow L (forms L step ac S) (lgA L step ac S i) := by
  unfold canRow
  refine List.map_congr_left fun a ha => ?_
  have ha := List.mem_range.1 ha
  rw [class_end (nx_ok hE) (lang_ok hE) k hp _ (nxA_lt hE i a hi ha)]
  have e : deriv (lgA L step ac S i) a = lgA L step ac S (nxA step S i a) := by
    unfold lgA
    rw [nxA_get hE i a hi ha]
    exact laA_deriv hE _ a ha
  rw [e]
  rfl
end
end
theorem canNext_snoc (L : Nat) (G F : List Lang) (l : Lang) : (F.map (canRow L G)) ++ [canRow L G l] = (F ++ [l]).map (canRow L G) := by simp
end Go.Proofs.Ytmllbemjcfkmjaa
/- A map that a call makes and fills with new keys, as a function of its keys. -/
namespace Go.Proofs.Ytmllbemjcfkmjaa
open Go.RowKit Go.Maps Go.ChangeMaps
set_option linter.unusedSimpArgs false
set_option linter.unusedVariables false

/-- Block b is a map of n entries: at a key x it holds g x. -/
def MapOf (P : Program) (k : TypeId) (w : World) (b n : Nat) (g : Value → Option Value) : Prop :=
  ∃ es clock, w.heap[b]? = some (.map es clock) ∧ es.size = n ∧ (∀ e ∈ es.toList, ∃ l, keyOf P k e.key = some l) ∧ (∀ e ∈ es.toList, g e.key = some e.val) ∧ (∀ x v, g x = some v → ∃ e ∈ es.toList, e.key = x)
section
variable {P : Program} {k : TypeId} {w : World} {b n : Nat} {g : Value → Option Value}
theorem mapOf_new (P : Program) (k : TypeId) (w : World) : MapOf P k (w.alloc (.map #[] 0)) w.heap.size 0 (fun _ => none) :=
  ⟨#[], 0, (MapKept.heap_alloc w _).1, rfl, by simp, by simp, fun x v h => by cases h⟩
theorem MapOf.congr (h : MapOf P k w b n g) {g' : Value → Option Value} (e : ∀ x, g x = g' x) : MapOf P k w b n g' := by
  have : g = g' := funext e
  exact this ▸ h
theorem MapOf.of_block {w' : World} (h : MapOf P k w b n g) (e : w'.heap[b]? = w.heap[b]?) : MapOf P k w' b n g := by
  obtain ⟨es, clock, hb, r⟩ := h
  exact ⟨es, clock, e.trans hb, r⟩
theorem MapOf.lt (h : MapOf P k w b n g) : b < w.heap.size := by
  obtain ⟨es, clock, hb, _⟩ := h
  exact (Array.getElem?_eq_some_iff.1 hb).1
theorem MapOf.below {w' : World} {B : Nat} (h : MapOf P k w b n g) (hb : Below B w w') (hB : b < B) : MapOf P k w' b n g := h.of_block (hb.block b hB)
/-- No row of cells is a map's block. -/
theorem MapOf.own_ne (h : MapOf P k w b n g) {B : Nat} {e : TypeId} {size m : Nat} {v : Value} {xs : List Value} (ho : w.ownsRow B e size v m xs) : v.ownBlock ≠ some b := by
  intro he
  obtain ⟨es, clock, hb, _⟩ := h
  rcases ho.2 with ⟨rfl, _⟩ | ⟨q, cap, cur, rfl, _, hg, _⟩
  · simp [Value.ownBlock] at he
  · simp [Value.ownBlock] at he
    subst he
    rw [hb] at hg
    cases hg
theorem MapOf.grown {w' : World} {row : Option Nat} (h : MapOf P k w b n g) (hg : w.grownBy w' row) (hne : row ≠ some b) : MapOf P k w' b n g :=
  h.of_block (hg.block b h.lt fun e => hne e.symm)
theorem MapOf.cell_ne (h : MapOf P k w b n g) {p : Addr} {v : Value} (hc : w.cell? p = some v) : p.block ≠ b := by
  intro e
  obtain ⟨es, clock, hb, _⟩ := h
  unfold World.cell? at hc
  rw [e, hb] at hc
  simp at hc
theorem MapOf.look_yes (h : MapOf P k w b n g) (K : Keyed P k) {t e : TypeId} (ht : P.underlying t = some (.map k e)) {x v : Value} {l : Lit} (hx : keyOf P k x = some l) (hv : g x = some v) (ok : Bool) :
    (Instr.lookup t (.map (some b)) x ok).run P w = .ok (if ok then .tuple #[v, .bool true] else v) w := by
  obtain ⟨es, clock, hb, hn, hk, hg, hc⟩ := h
  have hck := K.check w es.isEmpty hx
  rcases K.find w hx es.toList hk with ⟨_, hno⟩ | ⟨j, e0, hf, hj, he⟩
  · obtain ⟨e1, he1, hek⟩ := hc x v hv
    exact absurd hek (hno e1 he1)
  · have h1 := hg e0 (List.mem_of_getElem? hj)
    rw [he, hv] at h1
    cases h1
    cases ok <;> simp [Instr.lookup, run_underlying ht, MapKept.run_getObj_map hb, hck, hf, Result.andThen]
theorem MapOf.look_no (h : MapOf P k w b n g) (K : Keyed P k) {t e : TypeId} (ht : P.underlying t = some (.map k e)) {x z : Value} {l : Lit} (hz : (zeroValue e).run P w = .ok z w) (hx : keyOf P k x = some l) (hv : g x = none) (ok : Bool) :
    (Instr.lookup t (.map (some b)) x ok).run P w = .ok (if ok then .tuple #[z, .bool false] else z) w := by
  obtain ⟨es, clock, hb, hn, hk, hg, hc⟩ := h
  have hck := K.check w es.isEmpty hx
  rcases K.find w hx es.toList hk with ⟨hf, _⟩ | ⟨j, e0, hf, hj, he⟩
  · cases ok <;> simp [Instr.lookup, run_underlying ht, MapKept.run_getObj_map hb, hck, hf, hz, Result.andThen]
  · have h1 := hg e0 (List.mem_of_getElem? hj)
    rw [he, hv] at h1
    cases h1
open Classical in
theorem MapOf.insert (h : MapOf P k w b n g) (K : Keyed P k) {t e : TypeId} (ht : P.underlying t = some (.map k e)) {x v : Value} {l : Lit} (hx : keyOf P k x = some l) (hv : g x = none) :
    ∃ w', (Instr.mapUpdate t (.map (some b)) x v).run P w = .ok () w' ∧ MapOf P k w' b (n + 1) (fun y => if y = x then some v else g y) ∧ w.grownBy w' (some b) ∧ w'.heap.size = w.heap.size := by
  obtain ⟨es, clock, hb, hn, hk, hg, hc⟩ := h
  have hck := K.check w false hx
  rcases K.find w hx es.toList hk with ⟨hf, hno⟩ | ⟨j, e0, hf, hj, he⟩
  · refine ⟨{ w with heap := w.heap.setIfInBounds b (.map (es.push { key := x, val := v, born := clock }) (clock + 1)) }, ?_, ⟨es.push { key := x, val := v, born := clock }, clock + 1, ?_, by simp [hn], ?_, ?_, ?_⟩, ⟨rfl, rfl, rfl, by simp, fun i hi hne => ?_⟩, by simp⟩
    · simp [Instr.mapUpdate, run_underlying ht, MapKept.run_getObj_map hb, hck, hf, MapKept.run_setObj_map _ hb, Result.andThen]
    · have := (Array.getElem?_eq_some_iff.1 hb).1
      simp [this]
    · intro e1 he1
      simp at he1
      rcases he1 with he1 | rfl
      · exact hk e1 (by simpa using he1)
      · exact ⟨l, hx⟩
    · intro e1 he1
      simp at he1
      rcases he1 with he1 | rfl
      · have hne : e1.key ≠ x := hno e1 (by simpa using he1)
        simp only [hne, if_false]
        exact hg e1 (by simpa using he1)
      · simp
    · intro y u hy
      by_cases e1 : y = x
      · exact ⟨{ key := x, val := v, born := clock }, by simp, e1.symm⟩
      · simp only [e1, if_false] at hy
        obtain ⟨e2, he2, hk2⟩ := hc y u hy
        exact ⟨e2, by simp at he2 ⊢; exact .inl he2, hk2⟩
    · have hib : i ≠ b := fun e => hne (by rw [e])
      simp [Array.getElem?_setIfInBounds, Ne.symm hib]
  · have h1 := hg e0 (List.mem_of_getElem? hj)
    rw [he, hv] at h1
    cases h1
end
section
variable {P : Program} {w : World} {ops : Array Oper} {rest : List Oper} {o : Oper} {a : Act} {Q : Exit → Act → World → Prop}
open Classical in
theorem wpList_mapUpdate_new (hg : o.guard = none) (m x v : Operand) (t : TypeId) (hop : o.op = Op.mapUpdate t m x v)
    (k e : TypeId) (K : Keyed P k) (ht : P.underlying t = some (.map k e)) (b n : Nat) (g : Value → Option Value)
    (hm : a.eval m = .map (some b)) (hown : MapOf P k w b n g) (key val : Value) (kl : Lit) (hx : a.eval x = key) (hv : a.eval v = val) (hkey : keyOf P k key = some kl) (hn : g key = none)
    (hK : ∀ w', MapOf P k w' b (n + 1) (fun y => if y = key then some val else g y) → w.grownBy w' (some b) → w'.heap.size = w.heap.size → wpList P ops Q rest (a.put o.dst undef) w') :
    wpList P ops Q (o :: rest) a w := by
  refine wpList_plain hg fun K' hK' => ?_
  obtain ⟨w', hrun, r1, r2, r3⟩ := hown.insert K ht hkey hn (v := val)
  unfold Oper.wp
  simp [execOp, hop, hm, hx, hv, hrun, Result.andThen]
  exact hK' _ _ (hK w' r1 r2 r3)
theorem wpList_len_map (hg : o.guard = none) (m : Operand) (t : TypeId) (hop : o.op = Op.call { callee := Callee.builtin Builtin.len, args := #[m], argTypes := #[t] })
    (k e : TypeId) (ht : P.underlying t = some (.map k e)) (b n : Nat) (g : Value → Option Value) (hm : a.eval m = .map (some b)) (hown : MapOf P k w b n g)
    (hK : wpList P ops Q rest (a.put o.dst (.int .i64 n)) w) :
    wpList P ops Q (o :: rest) a w := by
  obtain ⟨es, clock, hb, hn, _⟩ := hown
  refine wpList_plain hg fun K' hK' => ?_
  have hl : (Builtin.len_ #[t] o.type #[.map (some b)]).run P w = .ok (.int .i64 n) w := by
    simp [Builtin.len_, run_underlying ht, MapKept.run_getObj_map hb, hn, Result.andThen]
    rfl
  unfold Oper.wp
  simp [execOp, hop, resolve, invoke, builtin, hm, hl, Result.andThen]
  exact hK' _ _ hK
end
end Go.Proofs.Ytmllbemjcfkmjaa
/- What the plain form's walk keeps in memory. -/
namespace Go.Proofs.Ytmllbemjcfkmjaa
open Go.RowKit Go.Maps
set_option linter.unusedSimpArgs false
set_option linter.unusedVariables false

theorem info33 : (Try.prog.info? 33).map (fun i => (i.zero, i.size, i.bytes)) = some (some (.slice none 0 0), 1, 24) := by kernel_rfl
theorem info4 : (Try.prog.info? 4).map (fun i => (i.zero, i.size, i.bytes)) = some (some (.bool false), 1, 1) := by kernel_rfl
theorem info5 : (Try.prog.info? 5).map (fun i => (i.zero, i.size, i.bytes)) = some (some (.int .u8 0), 1, 1) := by kernel_rfl
theorem law3 : Keyed Try.prog 3 := int_keyed Try.underlying3
theorem law9 : Keyed Try.prog 9 := string_keyed Try.underlying9
theorem zero3 (w : World) : (zeroValue 3).run Try.prog w = .ok (.int .i64 0) w := by kernel_rfl

def Apart (v u : Value) : Prop := ∀ g, v.ownBlock = some g → u.ownBlock ≠ some g
theorem Apart.symm {v u : Value} (h : Apart v u) : Apart u v := fun g h1 h2 => h g h2 h1
theorem Apart.ne {v u : Value} (h : Apart v u) : u.ownBlock = none ∨ u.ownBlock ≠ v.ownBlock := by
  cases e : u.ownBlock with
  | none => exact .inl rfl
  | some g => exact .inr fun h' => h g h'.symm e
section
variable {w w' : World} {o : Obj} {B n m : Nat} {e e' : TypeId} {v v' u : Value} {zs ys : List Value}
theorem own_kept (h : w.ownsRow B e 1 u n zs) (hg : (w.alloc o).grownBy w' v.ownBlock) (ha : Apart v u) : w'.ownsRow B e 1 u n zs :=
  (h.alloc o).kept hg ha.ne
theorem apart_new (h : w.ownsRow B e 1 u n zs) (ha : Apart v u) (hl : v'.ownBlock = v.ownBlock ∨ v'.ownBlock = some (w.alloc o).heap.size) : Apart v' u := by
  intro g h1 h2
  rcases hl with e | e
  · exact ha g (e ▸ h1) h2
  · rw [e] at h1
    cases h1
    have := (h.lt _ h2).2
    simp at this
    omega
theorem own_map {mb k : Nat} {g : Value → Option Value} (h : w.ownsRow B e 1 u n zs) (hm : MapOf Try.prog 3 w mb k g) (hg : w.grownBy w' (some mb)) : w'.ownsRow B e 1 u n zs :=
  h.kept hg (.inr (hm.own_ne h))
theorem own_types (h : w.ownsRow B e 1 u n zs) (h' : w.ownsRow B e' 1 v m ys) (hne : e ≠ e') : Apart v u := by
  intro g h1 h2
  rcases h.2 with ⟨rfl, _⟩ | ⟨q, cap, cur, rfl, _, hg, _⟩
  · simp [Value.ownBlock] at h2
  · rcases h'.2 with ⟨rfl, _⟩ | ⟨q', cap', cur', rfl, _, hg', _⟩
    · simp [Value.ownBlock] at h1
    · simp [Value.ownBlock] at h1 h2
      subst h1
      subst h2
      rw [hg] at hg'
      cases hg'
      exact hne rfl
theorem apart_nil (u : Value) : Apart (.slice none 0 0) u := fun g h => by simp [Value.ownBlock] at h
theorem own_one (V : World) (x : Value) (hx : V.heap[m]? = some (.cells #[x] e (0, 0))) (hB : B ≤ m) : V.ownsRow B e 1 (.slice (some ⟨m, 0, none⟩) 1 1) 1 [x] :=
  ⟨rfl, .inr ⟨m, 1, #[x], rfl, hB, hx, Nat.le_refl _, by unfold maxLen; omega, rfl, rfl⟩⟩
end
/-- The numbers of the states that were found. -/
def gN (S : List Int) : Value → Option Value
  | .int .i64 s => if s ∈ S then some (.int .i64 (idx S s : Nat)) else none
  | _ => none
theorem gN_yes {S : List Int} {s : Int} (h : s ∈ S) : gN S (.int .i64 s) = some (.int .i64 (idx S s : Nat)) := by simp [gN, h]
theorem gN_no {S : List Int} {s : Int} (h : s ∉ S) : gN S (.int .i64 s) = none := by simp [gN, h]
open Classical in
theorem gN_new {S : List Int} {s : Int} (h : s ∉ S) (y : Value) : (if y = .int .i64 s then some (.int .i64 (S.length : Nat)) else gN S y) = gN (S ++ [s]) y := by
  by_cases e : y = .int .i64 s
  · subst e
    rw [if_pos rfl, gN_yes (by simp), idx_app_new h]
  · rw [if_neg e]
    cases y with
    | int k t =>
      cases k
      case i64 =>
        have hts : t ≠ s := fun hh => e (by rw [hh])
        by_cases ht : t ∈ S
        · rw [gN_yes ht, gN_yes (by simp [ht]), idx_app_mem ht]
        · rw [gN_no ht, gN_no (by simp [ht, hts])]
      all_goals rfl
    | _ => rfl
section
variable (L : Nat) (step : Int → Nat → Int)
/-- The numbers behind the letters below a of state i, as they were given. -/
def rowP (i a : Nat) : List Int := (List.range a).map fun b => ((idx (part L step i (b + 1)) (step ((raw L step i).getD i 0) b) : Nat) : Int)
theorem rowP_len (i a : Nat) : (rowP L step i a).length = a := by simp [rowP]
theorem rowP_succ (i a : Nat) : (rowP L step i a).map (Value.int .i64) ++ [.int .i64 ((idx (part L step i (a + 1)) (step ((raw L step i).getD i 0) a) : Nat) : Int)] = (rowP L step i (a + 1)).map (Value.int .i64) := by
  simp [rowP, List.range_succ]
theorem part_get (i a : Nat) (hi : i < (raw L step i).length) : i < (part L step i a).length ∧ nth (part L step i a) i = (raw L step i).getD i 0 := by
  have hp : raw L step i <+: part L step i a := part_pre (L := L) (step := step) i (Nat.zero_le a)
  have hl := hp.length_le
  refine ⟨by omega, ?_⟩
  have := pre_get' hp hi
  simp [nth, List.getD, this]
theorem part_old (i a : Nat) (h : step ((raw L step i).getD i 0) a ∈ part L step i a) : part L step i (a + 1) = part L step i a := by rw [part_succ, vis_mem _ _ h]
theorem part_fresh (i a : Nat) (h : step ((raw L step i).getD i 0) a ∉ part L step i a) : part L step i (a + 1) = part L step i a ++ [step ((raw L step i).getD i 0) a] ∧ idx (part L step i (a + 1)) (step ((raw L step i).getD i 0) a) = (part L step i a).length := by
  rw [part_succ, vis_new _ _ h]
  exact ⟨rfl, idx_app_new h⟩
end
/-- Rows of numbers that lie in blocks of their own, none in that of v. -/
def RowsOwn (w : World) (B : Nat) (R : Nat → Value) (ln : Nat) (f : Nat → List Int) (i : Nat) (v : Value) : Prop := ∀ j, j < i → w.ownsRow B 3 1 (R j) ln ((f j).map (Value.int .i64)) ∧ Apart v (R j)
theorem RowsOwn.below {w w' : World} {B : Nat} {R : Nat → Value} {ln : Nat} {f : Nat → List Int} {i : Nat} {v : Value} (h : RowsOwn w B R ln f i v) (hb : Below w.heap.size w w') : RowsOwn w' B R ln f i v :=
  fun j hj => ⟨own_below (h j hj).1 hb, (h j hj).2⟩
theorem RowsOwn.grown {w w' : World} {o : Obj} {B : Nat} {R : Nat → Value} {ln : Nat} {f : Nat → List Int} {i : Nat} {v v' : Value} (h : RowsOwn w B R ln f i v) (hg : (w.alloc o).grownBy w' v.ownBlock)
    (hl : v'.ownBlock = v.ownBlock ∨ v'.ownBlock = some (w.alloc o).heap.size) : RowsOwn w' B R ln f i v' :=
  fun j hj => ⟨own_kept (h j hj).1 hg (h j hj).2, apart_new (h j hj).1 (h j hj).2 hl⟩
theorem RowsOwn.other {w w' : World} {o : Obj} {B : Nat} {R : Nat → Value} {ln : Nat} {f : Nat → List Int} {i : Nat} {v u : Value} (h : RowsOwn w B R ln f i v) (h2 : RowsOwn w B R ln f i u) (hg : (w.alloc o).grownBy w' u.ownBlock) : RowsOwn w' B R ln f i v :=
  fun j hj => ⟨own_kept (h j hj).1 hg (h2 j hj).2, (h j hj).2⟩
theorem RowsOwn.map {w w' : World} {B : Nat} {R : Nat → Value} {ln : Nat} {f : Nat → List Int} {i : Nat} {v : Value} (h : RowsOwn w B R ln f i v) {mb k : Nat} {g : Value → Option Value} (hm : MapOf Try.prog 3 w mb k g) (hg : w.grownBy w' (some mb)) : RowsOwn w' B R ln f i v :=
  fun j hj => ⟨own_map (h j hj).1 hm hg, (h j hj).2⟩
end Go.Proofs.Ytmllbemjcfkmjaa
/- What stands while the plain form finds the states: one bundle for the loop on states, one for the loop on letters; how each operation carries them. -/
namespace Go.Proofs.Ytmllbemjcfkmjaa
open Go.RowKit Go.Maps
set_option linter.unusedSimpArgs false
set_option linter.unusedVariables false

structure PlI (w0 : World) (B mb L : Nat) (step : Int → Nat → Int) (i : Nat) (S Sm : List Int) (v4 v6 : Value) (R : Nat → Value) (w : World) : Prop where
  bl : Below B w0 w
  own : w.ownsRow B 3 1 v4 S.length (S.map (Value.int .i64))
  map : MapOf Try.prog 3 w mb Sm.length (gN Sm)
  rows : w.ownsRow B 33 1 v6 i ((List.range i).map R)
  rs : RowsOwn w B R L (fun j => rowP L step j L) i v4
  ge : B ≤ mb
  sz : B ≤ w.heap.size
structure PlJ (w0 : World) (B mb L : Nat) (step : Int → Nat → Int) (i a : Nat) (S Sm : List Int) (v4 v6 v8 : Value) (R : Nat → Value) (w : World) : Prop where
  I : PlI w0 B mb L step i S Sm v4 v6 R w
  own8 : w.ownsRow B 3 1 v8 a ((rowP L step i a).map (Value.int .i64))
  ap : Apart v4 v8
  rs8 : RowsOwn w B R L (fun j => rowP L step j L) i v8
section
variable {w0 w w' : World} {B mb L : Nat} {step : Int → Nat → Int} {i a : Nat} {S Sm S' : List Int} {v4 v6 v8 v' : Value} {R : Nat → Value} {o : Obj}
theorem PlI.start {w : World} (hb : Below B w0 w) (v : Value) (h4 : w.ownsRow B 3 1 v 1 [.int .i64 0]) (hm : MapOf Try.prog 3 w mb 1 (gN [0])) (hge : B ≤ mb) (hsz : B ≤ w.heap.size) (R : Nat → Value) :
    PlI w0 B mb L step 0 (raw L step 0) (raw L step 0) v (.slice none 0 0) R w :=
  ⟨hb, h4, hm, World.ownsRow_nil _ _ _ _, fun j hj => absurd hj (Nat.not_lt_zero j), hge, hsz⟩
theorem PlI.below (h : PlI w0 B mb L step i S Sm v4 v6 R w) (hb : Below w.heap.size w w') : PlI w0 B mb L step i S Sm v4 v6 R w' :=
  ⟨h.bl.trans (hb.mono h.sz), own_below h.own hb, h.map.below hb h.map.lt, own_below h.rows hb, h.rs.below hb, h.ge, Nat.le_trans h.sz hb.size⟩
theorem PlI.inner (h : PlI w0 B mb L step i S Sm v4 v6 R w) : PlJ w0 B mb L step i 0 S Sm v4 v6 (.slice none 0 0) R w :=
  ⟨h, World.ownsRow_nil _ _ _ _, (apart_nil v4).symm, fun j hj => ⟨(h.rs j hj).1, apart_nil _⟩⟩
theorem PlJ.below (h : PlJ w0 B mb L step i a S Sm v4 v6 v8 R w) (hb : Below w.heap.size w w') : PlJ w0 B mb L step i a S Sm v4 v6 v8 R w' :=
  ⟨h.I.below hb, own_below h.own8 hb, h.ap, h.rs8.below hb⟩
theorem PlJ.insert (h : PlJ w0 B mb L step i a S Sm v4 v6 v8 R w) (hg : w.grownBy w' (some mb)) (hm : MapOf Try.prog 3 w' mb S'.length (gN S')) : PlJ w0 B mb L step i a S S' v4 v6 v8 R w' :=
  ⟨⟨h.I.bl.grown hg h.I.sz fun k hk => by cases hk; exact h.I.ge, own_map h.I.own h.I.map hg, hm, own_map h.I.rows h.I.map hg, h.I.rs.map h.I.map hg, h.I.ge, Nat.le_trans h.I.sz hg.size⟩, own_map h.own8 h.I.map hg, h.ap, h.rs8.map h.I.map hg⟩
theorem map_kept {k n : Nat} {g : Value → Option Value} {e : TypeId} {v : Value} {m : Nat} {xs : List Value} (h : MapOf Try.prog k w mb n g) (ho : w.ownsRow B e 1 v m xs) (hg : (w.alloc o).grownBy w' v.ownBlock) : MapOf Try.prog k w' mb n g :=
  (h.grown (World.grownBy_alloc w o none) (by simp)).grown hg (h.own_ne ho)
theorem bl_kept {e : TypeId} {v : Value} {m : Nat} {xs : List Value} (h : Below B w0 w) (hsz : B ≤ w.heap.size) (ho : w.ownsRow B e 1 v m xs) (hg : (w.alloc o).grownBy w' v.ownBlock) : Below B w0 w' ∧ B ≤ w'.heap.size := by
  have h1 : B ≤ (w.alloc o).heap.size := by simp; omega
  exact ⟨(h.alloc hsz o).grown hg h1 fun k hk => (ho.lt k hk).1, Nat.le_trans h1 hg.size⟩
theorem PlJ.push (h : PlJ w0 B mb L step i a S Sm v4 v6 v8 R w) (hg : (w.alloc o).grownBy w' v4.ownBlock) (ho : w'.ownsRow B 3 1 v' S'.length (S'.map (Value.int .i64)))
    (hl : v'.ownBlock = v4.ownBlock ∨ v'.ownBlock = some (w.alloc o).heap.size) : PlJ w0 B mb L step i a S' Sm v' v6 v8 R w' := by
  have hb := bl_kept h.I.bl h.I.sz h.I.own hg
  exact ⟨⟨hb.1, ho, map_kept h.I.map h.I.own hg, own_kept h.I.rows hg (own_types h.I.rows h.I.own (by decide)), h.I.rs.grown hg hl, h.I.ge, hb.2⟩, own_kept h.own8 hg h.ap, apart_new h.own8 h.ap hl, h.rs8.other h.I.rs hg⟩
theorem PlJ.push8 (h : PlJ w0 B mb L step i a S Sm v4 v6 v8 R w) (hg : (w.alloc o).grownBy w' v8.ownBlock) (ho : w'.ownsRow B 3 1 v' (a + 1) ((rowP L step i (a + 1)).map (Value.int .i64)))
    (hl : v'.ownBlock = v8.ownBlock ∨ v'.ownBlock = some (w.alloc o).heap.size) : PlJ w0 B mb L step i (a + 1) S Sm v4 v6 v' R w' := by
  have hb := bl_kept h.I.bl h.I.sz h.own8 hg
  exact ⟨⟨hb.1, own_kept h.I.own hg h.ap.symm, map_kept h.I.map h.own8 hg, own_kept h.I.rows hg (own_types h.I.rows h.own8 (by decide)), h.I.rs.other h.rs8 hg, h.I.ge, hb.2⟩, ho, (apart_new h.I.own h.ap.symm hl).symm, h.rs8.grown hg hl⟩
theorem PlJ.close (h : PlJ w0 B mb L step i L S Sm v4 v6 v8 R w) (hg : (w.alloc o).grownBy w' v6.ownBlock) (ho : w'.ownsRow B 33 1 v' (i + 1) ((List.range i).map R ++ [v8])) :
    PlI w0 B mb L step (i + 1) S Sm v4 v' (fun j => if j = i then v8 else R j) w' := by
  have hb := bl_kept h.I.bl h.I.sz h.I.rows hg
  refine ⟨hb.1, own_kept h.I.own hg (own_types h.I.own h.I.rows (by decide)), map_kept h.I.map h.I.rows hg, ?_, fun j hj => ?_, h.I.ge, hb.2⟩
  · have e : (List.range (i + 1)).map (fun j => if j = i then v8 else R j) = (List.range i).map R ++ [v8] := by
      rw [List.range_succ, List.map_append]
      simp only [List.map_cons, List.map_nil, if_true]
      congr 1
      refine List.map_congr_left fun j hj => ?_
      have := List.mem_range.1 hj
      rw [if_neg (by omega)]
    rw [e]
    exact ho
  · by_cases e : j = i
    · subst e
      simp only [if_true]
      exact ⟨own_kept h.own8 hg (own_types h.own8 h.I.rows (by decide)), h.ap⟩
    · have hj' : j < i := by omega
      simp only [e, if_false]
      exact ⟨own_kept (h.I.rs j hj').1 hg (own_types (h.I.rs j hj').1 h.I.rows (by decide)), (h.I.rs j hj').2⟩
end
theorem row_len {w : World} {B n : Nat} {v : Value} {xs : List Value} (h : w.ownsRow B 33 1 v n xs) : ∃ a cap, v = .slice a n cap := by
  rcases h.2 with ⟨rfl, rfl⟩ | ⟨g, cap, cur, rfl, _⟩
  · exact ⟨_, _, rfl⟩
  · exact ⟨_, _, rfl⟩
theorem own_cell {w : World} {B n : Nat} {e : TypeId} {v : Value} {xs : List Value} (h : w.ownsRow B e 1 v n xs) (i : Nat) (hi : i < n) : ∃ b cap, v = .slice (some ⟨b, 0, none⟩) n cap ∧ b < w.heap.size ∧ w.cell? ⟨b, i, none⟩ = xs[i]? := by
  rcases h.2 with ⟨_, h0⟩ | ⟨gb, cap, cur, rfl, hb, hg, hn, hcm, hcs, htake⟩
  · omega
  · refine ⟨gb, cap, rfl, (Array.getElem?_eq_some_iff.1 hg).1, ?_⟩
    rw [cell_of_row w gb i cur e (0, 0) hg]
    have e : (cur.toList.take (n * 1))[i]? = xs[i]? := by rw [htake]
    rw [List.getElem?_take, if_pos (by omega)] at e
    rw [← Array.getElem?_toList, e]
end Go.Proofs.Ytmllbemjcfkmjaa
/- What stands once the states are found, and while they are parted into classes; plainly and in memory. -/
namespace Go.Proofs.Ytmllbemjcfkmjaa
open Go.RowKit Go.Maps
set_option linter.unusedSimpArgs false
set_option linter.unusedVariables false

structure PlS (w0 : World) (B L : Nat) (step : Int → Nat → Int) (S : List Int) (v4 v6 : Value) (R : Nat → Value) (w : World) : Prop where
  bl : Below B w0 w
  sz : B ≤ w.heap.size
  own : w.ownsRow B 3 1 v4 S.length (S.map (Value.int .i64))
  rows : w.ownsRow B 33 1 v6 S.length ((List.range S.length).map R)
  rs : ∀ j, j < S.length → w.ownsRow B 3 1 (R j) L ((rowA L step S j).map (Value.int .i64))
theorem rowP_rowA {L : Nat} {step : Int → Nat → Int} (i j : Nat) (hj : j < i) (hi : i ≤ (raw L step i).length) : rowP L step j L = rowA L step (raw L step i) j := by
  unfold rowP rowA
  refine List.map_congr_left fun a ha => ?_
  have hjl : j < (raw L step j).length := by
    rcases Nat.lt_or_ge j (raw L step j).length with h | h
    · exact h
    · have := bfs_done (stepsA L step) 0 (i := j) (j := i) h (by omega)
      unfold raw at *
      rw [this] at hi
      omega
  rw [nx_more j a hjl (List.mem_range.1 ha) i hj]
theorem PlI.done {w0 w : World} {B mb L : Nat} {step : Int → Nat → Int} {i : Nat} {v4 v6 : Value} {R : Nat → Value} (h : PlI w0 B mb L step i (raw L step i) (raw L step i) v4 v6 R w) (hi : (raw L step i).length = i) :
    PlS w0 B L step (raw L step i) v4 v6 R w := by
  refine ⟨h.bl, h.sz, h.own, ?_, fun j hj => ?_⟩
  · have := h.rows
    rw [hi]
    exact this
  · rw [← rowP_rowA i j (by omega) (by omega)]
    exact (h.rs j (by omega)).1
def rowI (f : Nat → Int) (i : Nat) : Value := .int .i64 (f i)
def bitN (acc : Nat → Bool) (k j : Nat) : Int := if j < k ∧ acc j = true then 1 else 0
def clsN (c : Nat → Nat) (j : Nat) : Int := (c j : Nat)
section
variable {w : World} {b N : Nat} {t : TypeId}
theorem bit_zero (acc : Nat → Bool) (h : w.rowIs b t N (fun _ => .int .i64 0)) : w.rowIs b t N (rowI (bitN acc 0)) := h.congr fun i hi => by simp [rowI, bitN]
theorem bit_yes {acc : Nat → Bool} {k : Nat} (h : w.rowIs b t N (rowI (bitN acc k))) (hk : acc k = true) : (w.setCell ⟨b, k, none⟩ (.int .i64 1)).rowIs b t N (rowI (bitN acc (k + 1))) := by
  refine (h.set k _).congr fun i hi => ?_
  unfold rowI bitN
  by_cases e : i = k
  · subst e; simp [hk]
  · rw [if_neg e]
    have : (i < k + 1) = (i < k) := propext (by omega)
    simp only [this]
theorem bit_no {acc : Nat → Bool} {k : Nat} (h : w.rowIs b t N (rowI (bitN acc k))) (hk : acc k = false) : w.rowIs b t N (rowI (bitN acc (k + 1))) := by
  refine h.congr fun i hi => ?_
  unfold rowI bitN
  by_cases e : i = k
  · subst e; simp [hk]
  · have : (i < k + 1) = (i < k) := propext (by omega)
    simp only [this]
theorem bit_end {acc : Nat → Bool} {L : Nat} {nx : Nat → Nat → Nat} (h : w.rowIs b t N (rowI (bitN acc N))) : w.rowIs b t N (rowI (clsN (cI N L nx acc 0))) := by
  refine h.congr fun i hi => ?_
  unfold rowI bitN clsN
  simp only [cI]
  cases acc i <;> simp [hi]
def namN (κ : Nat → List UInt8) (N k j : Nat) : Int := if j < k then (cname κ N j : Nat) else 0
theorem nam_zero (κ : Nat → List UInt8) (h : w.rowIs b t N (fun _ => .int .i64 0)) : w.rowIs b t N (rowI (namN κ N 0)) := h.congr fun i hi => by simp [rowI, namN]
theorem nam_step {κ : Nat → List UInt8} {k : Nat} (hk : k < N) (h : w.rowIs b t N (rowI (namN κ N k))) : (w.setCell ⟨b, k, none⟩ (.int .i64 (idx (nubN κ (k + 1)) (κ k) : Nat))).rowIs b t N (rowI (namN κ N (k + 1))) := by
  refine (h.set k _).congr fun i hi => ?_
  unfold rowI namN
  by_cases e : i = k
  · subst e
    simp only [if_true, show i < i + 1 by omega]
    rw [cname_more κ (show i < i + 1 by omega) (show i + 1 ≤ N by omega)]
    rfl
  · rw [if_neg e]
    have : (i < k + 1) = (i < k) := propext (by omega)
    simp only [this]
theorem nam_end {acc : Nat → Bool} {L : Nat} {nx : Nat → Nat → Nat} {κ : Nat} (h : w.rowIs b t N (rowI (namN (key L nx (cI N L nx acc κ)) N N))) : w.rowIs b t N (rowI (clsN (cI N L nx acc (κ + 1)))) := by
  refine h.congr fun i hi => ?_
  unfold rowI namN clsN
  rw [if_pos hi]
  rfl
end
/-- The numbers of the keys that were met. -/
def gK (l : List (List UInt8)) : Value → Option Value
  | .string s => if s.data.toList ∈ l then some (.int .i64 (idx l s.data.toList : Nat)) else none
  | _ => none
def strV (k : List UInt8) : Value := .string ⟨k.toArray⟩
theorem gK_yes {l : List (List UInt8)} {k : List UInt8} (h : k ∈ l) : gK l (strV k) = some (.int .i64 (idx l k : Nat)) := by simp [gK, strV, h]
theorem gK_no {l : List (List UInt8)} {k : List UInt8} (h : k ∉ l) : gK l (strV k) = none := by simp [gK, strV, h]
theorem gK_nil (y : Value) : gK [] y = none := by cases y <;> simp [gK]
theorem strV_eq {s : ByteArray} {k : List UInt8} (h : s.data.toList = k) : Value.string s = strV k := by
  subst h
  simp [strV]
open Classical in
theorem gK_new {l : List (List UInt8)} {k : List UInt8} (h : k ∉ l) (y : Value) : (if y = strV k then some (.int .i64 (l.length : Nat)) else gK l y) = gK (l ++ [k]) y := by
  by_cases e : y = strV k
  · subst e
    rw [if_pos rfl, gK_yes (by simp), idx_app_new h]
  · rw [if_neg e]
    cases y with
    | string s =>
      have hts : s.data.toList ≠ k := fun hh => e (strV_eq hh)
      by_cases ht : s.data.toList ∈ l
      · simp only [gK, ht, if_true, List.mem_append, true_or]
        rw [idx_app_mem ht]
      · simp [gK, ht, hts]
    | _ => rfl
theorem key_str (k : List UInt8) (h : k.length ≤ maxLen) : keyOf Try.prog 9 (strV k) = some (.string k) := by
  unfold keyOf strV
  rw [Try.underlying9]
  have hs : (⟨k.toArray⟩ : ByteArray).size ≤ maxLen := by simpa [ByteArray.size] using h
  simp only [mapKey, Try.underlying9, hs, if_true]
/-- The number of classes that was kept in mind. -/
def prI (N L : Nat) (nx : Nat → Nat → Nat) (acc : Nat → Bool) : Nat → Nat
  | 0 => 0
  | κ + 1 => pI N L nx acc κ
def byV (l : List UInt8) : List Value := l.map fun b => .int .u8 (b.toNat : Int)
theorem byV_two (v : Nat) : byV (two v) = [.int .u8 ((v : Int) % 256), .int .u8 ((v : Int) / 256 % 256)] := by
  simp [byV, two]
theorem byV_app (l l' : List UInt8) : byV (l ++ l') = byV l ++ byV l' := by simp [byV]
theorem wrap8 (x : Int) : IntKind.u8.wrap x = x % 256 := by simp [IntKind.wrap, IntKind.signed, IntKind.bits]
theorem keyU_one (nx : Nat → Nat → Nat) (c : Nat → Nat) (j : Nat) : byV (keyU nx c j 1) = [.int .u8 ((c j : Int) % 256), .int .u8 ((c j : Int) / 256 % 256)] := byV_two (c j)
theorem keyU_more (nx : Nat → Nat → Nat) (c : Nat → Nat) (j a : Nat) : byV (keyU nx c j (a + 1)) ++ [.int .u8 ((c (nx j a) : Int) % 256), .int .u8 ((c (nx j a) : Int) / 256 % 256)] = byV (keyU nx c j (a + 2)) := by
  rw [← byV_two, ← byV_app]
  rfl
theorem lit_bytes (Z : World) (x y : Value) : (Z.alloc (.cells #[x, y] 5)).drew.ownsRow Z.heap.size 5 1 (.slice (some ⟨Z.heap.size, 0, none⟩) 2 2) 2 [x, y] :=
  ⟨rfl, .inr ⟨Z.heap.size, 2, #[x, y], rfl, Nat.le_refl _, heap_alloc_new Z _, Nat.le_refl _, by unfold maxLen; omega, rfl, rfl⟩⟩
theorem rowA_get (L : Nat) (step : Int → Nat → Int) (S : List Int) (j a : Nat) (ha : a < L) : ((rowA L step S j).map (Value.int .i64))[a]? = some (.int .i64 (nxA step S j a : Nat)) := by
  simp [rowA, ha]
theorem nub_old {κ : Nat → List UInt8} {j : Nat} (h : κ j ∈ nubN κ j) : nubN κ (j + 1) = nubN κ j := by rw [nubN_succ, vis_mem _ _ h]
theorem nub_new {κ : Nat → List UInt8} {j : Nat} (h : κ j ∉ nubN κ j) : nubN κ (j + 1) = nubN κ j ++ [κ j] ∧ idx (nubN κ (j + 1)) (κ j) = (nubN κ j).length := by
  rw [nubN_succ, vis_new _ _ h]
  exact ⟨rfl, idx_app_new h⟩
theorem rowIs_map {w w' : World} {b mb k n N : Nat} {g : Value → Option Value} {t : TypeId} {f : Nat → Value} (h : w.rowIs b t N f) (hm : MapOf Try.prog k w mb n g) (hg : w.grownBy w' (some mb)) (hne : b ≠ mb) : w'.rowIs b t N f :=
  h.of_block (hg.block b h.lt (fun e => hne (by cases e; rfl)))
theorem run_len_map {w : World} {t k e ty : TypeId} {b n : Nat} {g : Value → Option Value} (ht : Try.prog.underlying t = some (.map k e)) (hown : MapOf Try.prog k w b n g) :
    (Builtin.len_ #[t] ty #[.map (some b)]).run Try.prog w = .ok (.int .i64 n) w := by
  obtain ⟨es, clock, hb, hn, _⟩ := hown
  simp [Builtin.len_, run_underlying ht, MapKept.run_getObj_map hb, hn, Result.andThen]
  rfl
theorem conv_own {w : World} {B n : Nat} {v : Value} {l : List UInt8} (h : w.ownsRow B 5 1 v n (byV l)) (hn : n = l.length) (h0 : 0 < n) : (convert 117 9 v).run Try.prog w = .ok (strV l) w := by
  subst hn
  obtain ⟨b, cap, rfl, hlt, _⟩ := own_cell h 0 h0
  refine run_convert_bytes_back w 117 9 5 ⟨b, 0, none⟩ cap l Try.underlying117 Try.underlying5 Try.underlying9 fun j hj => ?_
  obtain ⟨b', cap', e, _, hc⟩ := own_cell h j hj
  cases e
  rw [add_plain0, Nat.zero_add, hc]
  simp [byV, hj]
end Go.Proofs.Ytmllbemjcfkmjaa
/- A region that draws its order: a load may be taken first where a condition on the world holds behind every operation but one, k, which waits for it (the last store). -/
namespace Go.Proofs.Ytmllbemjcfkmjaa
set_option linter.unusedVariables false
variable {P : Program} {ops : Array Oper} {Q : Exit → Act → World → Prop} {md : Region.Mode} {S : World → Prop} {k : Nat}

/-- Whatever order is picked, and S holds behind every operation but number k. -/
def anyBut (P : Program) (md : Region.Mode) (ops : Array Oper) (Q : Exit → Act → World → Prop) (S : World → Prop) (k : Nat) : Nat → Array Bool → Act → World → Prop
  | 0, l, a, w => Region.ready md ops l = [] ∧ Q .normal a w
  | n + 1, l, a, w => (Region.ready md ops l = [] → Q .normal a w) ∧
    ∀ i ∈ Region.ready md ops l, wpOp P ops Q i (fun a' w' => (i ≠ k → S w') ∧ anyBut P md ops Q S k n (l.setIfInBounds i true) a' w') a w
theorem any_of_but : ∀ (n : Nat) (l : Array Bool) (a : Act) (w : World), anyBut P md ops Q S k n l a w → wpAny P md ops Q n l a w
  | 0, _, _, _, h => h
  | n + 1, _, _, _, h => ⟨h.1, fun i hi => wpOp_mono (fun a' w' h' => any_of_but n _ a' w' h'.2) (h.2 i hi)⟩
/-- Operation k waits for operation i. -/
def waits (md : Region.Mode) (ops : Array Oper) (k i : Nat) : Bool := (ops[k]?).any fun o => o.after.toList.any fun e => Region.binds md e && e.on == i
theorem not_ready {i : Nat} {l : Array Bool} (hw : waits md ops k i = true) (hr : i ∈ Region.ready md ops l) : k ∉ Region.ready md ops l := by
  intro hk
  obtain ⟨_, o, ho, hall⟩ := mem_ready.1 hk
  have h0 := (mem_ready.1 hr).1
  unfold waits at hw
  rw [ho] at hw
  simp only [Option.any_some, List.any_eq_true, Bool.and_eq_true, beq_iff_eq] at hw
  obtain ⟨e, he, hb, rfl⟩ := hw
  have h1 := hall e (by simpa using he) hb
  rcases Nat.lt_or_ge e.on l.size with h' | h'
  · simp [h'] at h0 h1
    rw [h0] at h1
    cases h1
  · simp [Array.getElem?_eq_none h'] at h1
theorem but_first {i : Nat} {oi : Oper} {v : Value} (hi : ops[i]? = some oi) (hsel : ∀ (j : Nat) (o : Oper) cs b, ops[j]? = some o → o.op ≠ .select cs b)
    (hQ : ∀ c a w, Q (.panic c) (a.put oi.dst v) w → Q (.panic c) a w) (hk : waits md ops k i = true) (n : Nat) : ∀ (l : Array Bool) (a : Act) (w : World),
      (∀ j oj, ops[j]? = some oj → j ≠ i → l.getD j true = false → (∀ e ∈ oj.after, Region.binds md e = true → e.on ≠ i) → oi.apart ops oj = true) →
      i ∈ Region.ready md ops l → YieldsIf P ops S oi v a → S w → anyBut P md ops Q S k n (l.setIfInBounds i true) (a.put oi.dst v) w → anyBut P md ops Q S k (n + 1) l a w := by
  induction n with
  | zero =>
    intro l a w _ hr hy hS H
    refine ⟨fun h => absurd (h ▸ hr) (by simp), fun j hj => ?_⟩
    by_cases e : j = i
    · subst e
      exact hy.wpOp hi hS ⟨fun _ => hS, H⟩
    · have := ready_mono hj e
      rw [H.1] at this
      exact absurd this (by simp)
  | succ n ih =>
    intro l a w hfree hr hy hS H
    refine ⟨fun h => absurd (h ▸ hr) (by simp), fun j hj => ?_⟩
    by_cases e : j = i
    · subst e
      exact hy.wpOp hi hS ⟨fun _ => hS, H⟩
    · have hjk : j ≠ k := fun h => not_ready hk hr (h ▸ hj)
      obtain ⟨hun, oj, hoj, hall⟩ := mem_ready.1 hj
      have hno : ∀ e' ∈ oj.after, Region.binds md e' = true → e'.on ≠ i := fun e' he hb heq => by
        have h1 := hall e' he hb
        have h0 := (mem_ready.1 hr).1
        rw [heq] at h1
        rcases Nat.lt_or_ge i l.size with h' | h'
        · simp [h'] at h0 h1
          rw [h0] at h1
          cases h1
        · simp [Array.getElem?_eq_none h'] at h1
      have h2 := wpOp_putIf hoj (hfree j oj hoj e hun hno) (fun cs b => hsel i oi cs b hi) (fun cs b => hsel j oj cs b hoj) hQ hy (H.2 j (ready_mono hj e))
      refine wpOp_mono (fun a' w' h3 => ⟨h3.2.1, ih _ a' w' (fun m om hm hmi hml hmn => hfree m om hm hmi ?_ hmn) (ready_mono hr (Ne.symm e)) h3.1 (h3.2.1 hjk) ?_⟩) h2
      · by_cases hjm : j = m
        · subst hjm; exact hun
        · rw [getD_set_ne true hjm] at hml; exact hml
      · rw [Array.setIfInBounds_comm _ _ e]
        exact h3.2.2
theorem but_take {i : Nat} {oi : Oper} {v : Value} {n : Nat} {l : Array Bool} {a : Act} {w : World} (hi : ops[i]? = some oi) (hs : Region.noSelect ops = true) (hf : Region.free md ops l i = true)
    (hr : (Region.ready md ops l).contains i = true) (hk : waits md ops k i = true) (hQ : ∀ c a w, Q (.panic c) (a.put oi.dst v) w → Q (.panic c) a w) (hy : YieldsIf P ops S oi v a) (hS : S w)
    (h : anyBut P md ops Q S k n (l.setIfInBounds i true) (a.put oi.dst v) w) : anyBut P md ops Q S k (n + 1) l a w :=
  but_first hi (Region.noSelect_spec hs) hQ hk n l a w (Region.free_spec hi hf) (by simpa using hr) hy hS h
theorem but_one {i : Nat} {n : Nat} {l : Array Bool} {a : Act} {w : World} (hr : Region.ready md ops l = [i]) (h : wpOp P ops Q i (fun a' w' => (i ≠ k → S w') ∧ anyBut P md ops Q S k n (l.setIfInBounds i true) a' w') a w) :
    anyBut P md ops Q S k (n + 1) l a w := by
  unfold anyBut
  refine ⟨fun h0 => by rw [hr] at h0; exact absurd h0 (by simp), fun j hj => ?_⟩
  rw [hr] at hj
  obtain rfl : j = i := by simpa using hj
  exact h
theorem but_done {l : Array Bool} {a : Act} {w : World} (hr : Region.ready md ops l = []) (h : Q .normal a w) : ∀ n, anyBut P md ops Q S k n l a w
  | 0 => ⟨hr, h⟩
  | n + 1 => ⟨fun _ => h, fun j hj => by rw [hr] at hj; cases hj⟩
theorem wp_region_but {id : Nat} {a : Act} {w : World} (S : World → Prop) (k : Nat) (hm : P.follows .mixedOrders = true)
    (h : anyBut P .any ops Q S k ops.size (Array.replicate ops.size false) a { w with drawn := w.drawn + 1 }) : (Code.region id ops true).wp P Q a w :=
  wp_region_any hm (any_of_but _ _ _ _ h)
end Go.Proofs.Ytmllbemjcfkmjaa
/- The plain form as it is written out; plainly and in memory. -/
namespace Go.Proofs.Ytmllbemjcfkmjaa
open Go.RowKit Go.Maps
set_option linter.unusedSimpArgs false
set_option linter.unusedVariables false

theorem prI_le {N L : Nat} {nx : Nat → Nat → Nat} {acc : Nat → Bool} (h : NxOK N L nx) (κ : Nat) : prI N L nx acc κ ≤ pI N L nx acc κ := by
  cases κ with
  | zero => exact Nat.zero_le _
  | succ κ => exact pI_mono h κ
theorem prI_end {N L : Nat} {nx : Nat → Nat → Nat} {acc : Nat → Bool} (hN : 1 ≤ N) (κ : Nat) (h : pI N L nx acc κ = prI N L nx acc κ) : ∃ κ', κ = κ' + 1 ∧ pI N L nx acc κ' = pI N L nx acc (κ' + 1) := by
  cases κ with
  | zero =>
    have := pI_pos (L := L) (nx := nx) (acc := acc) hN 0
    rw [h] at this
    exact absurd this (by simp [prI])
  | succ κ => exact ⟨κ, rfl, h.symm⟩
def outF (L : Nat) (vn vb : Value) (i : Nat) : Value := if i = 0 then .int .i64 L else if i = 1 then vn else vb
structure PlO (U : World) (L : Nat) (n : Nat) (f : Nat → List Int) (bs : List Bool) (vn vb : Value) (Q : Nat → Value) (w : World) : Prop where
  bl : Below U.heap.size U w
  out : w.rowIs U.heap.size 25 3 (outF L vn vb)
  nx : w.ownsRow (U.heap.size + 1) 33 1 vn n ((List.range n).map Q)
  rs : ∀ k, k < n → w.ownsRow (U.heap.size + 1) 3 1 (Q k) L ((f k).map (Value.int .i64))
  ac : w.ownsRow (U.heap.size + 1) 4 1 vb bs.length (bs.map Value.bool)
structure PlR (U : World) (L : Nat) (n : Nat) (f : Nat → List Int) (bs : List Bool) (vn vb v : Value) (Q : Nat → Value) (m : Nat) (r : List Int) (w : World) : Prop where
  O : PlO U L n f bs vn vb Q w
  own : w.ownsRow (U.heap.size + 1) 3 1 v m (r.map (Value.int .i64))
  ap : ∀ k, k < n → Apart v (Q k)
section
variable {U w w' : World} {L n m : Nat} {f : Nat → List Int} {bs : List Bool} {vn vb v v' : Value} {Q : Nat → Value} {r r' : List Int} {o : Obj}
theorem PlO.start (U : World) (L : Nat) (f : Nat → List Int) (Q : Nat → Value) : PlO U L 0 f [] (.slice none 0 0) (.slice none 0 0) Q (U.alloc (.cells #[.int .i64 L, .slice none 0 0, .slice none 0 0] 25)) := by
  refine ⟨below_alloc U _, ?_, World.ownsRow_nil _ _ _ _, fun k hk => absurd hk (Nat.not_lt_zero k), World.ownsRow_nil _ _ _ _⟩
  refine World.rowIs_alloc U #[.int .i64 L, .slice none 0 0, .slice none 0 0] 25 _ fun i hi => ?_
  have : i < 3 := hi
  unfold outF
  match i, this with
  | 0, _ => rfl
  | 1, _ => rfl
  | 2, _ => rfl
theorem PlO.below (h : PlO U L n f bs vn vb Q w) (hb : Below w.heap.size w w') : PlO U L n f bs vn vb Q w' :=
  ⟨h.bl.trans (hb.mono h.bl.size), rowIs_below h.out hb h.out.lt, own_below h.nx hb, fun k hk => own_below (h.rs k hk) hb, own_below h.ac hb⟩
theorem PlO.fresh (h : PlO U L n f bs vn vb Q w) : PlR U L n f bs vn vb (.slice none 0 0) Q 0 [] w :=
  ⟨h, World.ownsRow_nil _ _ _ _, fun k hk => apart_nil _⟩
theorem PlR.below (h : PlR U L n f bs vn vb v Q m r w) (hb : Below w.heap.size w w') : PlR U L n f bs vn vb v Q m r w' := ⟨h.O.below hb, own_below h.own hb, h.ap⟩
theorem out_grown {e : TypeId} {xs : List Value} (h : w.rowIs U.heap.size 25 3 (outF L vn vb)) (ho : w.ownsRow (U.heap.size + 1) e 1 v m xs) (hg : (w.alloc o).grownBy w' v.ownBlock) : w'.rowIs U.heap.size 25 3 (outF L vn vb) :=
  (h.alloc o).of_block (hg.block U.heap.size (by have := h.lt; simp; omega) fun e => by have := (ho.lt _ e.symm).1; omega)
theorem bl_out {e : TypeId} {xs : List Value} (h : Below U.heap.size U w) (ho : w.ownsRow (U.heap.size + 1) e 1 v m xs) (hg : (w.alloc o).grownBy w' v.ownBlock) : Below U.heap.size U w' :=
  (h.alloc h.size o).grown hg (by have := h.size; simp; omega) fun k hk => by have := (ho.lt k hk).1; omega
theorem PlR.push (h : PlR U L n f bs vn vb v Q m r w) (hg : (w.alloc o).grownBy w' v.ownBlock) (ho : w'.ownsRow (U.heap.size + 1) 3 1 v' (m + 1) (r'.map (Value.int .i64)))
    (hl : v'.ownBlock = v.ownBlock ∨ v'.ownBlock = some (w.alloc o).heap.size) : PlR U L n f bs vn vb v' Q (m + 1) r' w' :=
  ⟨⟨bl_out h.O.bl h.own hg, out_grown h.O.out h.own hg, own_kept h.O.nx hg (own_types h.O.nx h.own (by decide)), fun k hk => own_kept (h.O.rs k hk) hg (h.ap k hk), own_kept h.O.ac hg (own_types h.O.ac h.own (by decide))⟩,
   ho, fun k hk => apart_new (h.O.rs k hk) (h.ap k hk) hl⟩
theorem out_set1 (h : w.rowIs U.heap.size 25 3 (outF L vn vb)) (x : Value) : (w.setCell ⟨U.heap.size, 1, none⟩ x).rowIs U.heap.size 25 3 (outF L x vb) := by
  refine (h.set 1 x).congr fun i hi => ?_
  unfold outF
  by_cases e : i = 1
  · subst e; simp
  · simp [e]
theorem out_set2 (h : w.rowIs U.heap.size 25 3 (outF L vn vb)) (x : Value) : (w.setCell ⟨U.heap.size, 2, none⟩ x).rowIs U.heap.size 25 3 (outF L vn x) := by
  refine (h.set 2 x).congr fun i hi => ?_
  unfold outF
  by_cases e : i = 2
  · subst e; simp
  · have : i = 0 ∨ i = 1 := by omega
    rcases this with rfl | rfl <;> simp
/-- The row goes behind the rows, and these into the machine. -/
theorem PlR.close (h : PlR U L n f bs vn vb v Q L (f n) w) (hg : (w.alloc o).grownBy w' vn.ownBlock) (ho : w'.ownsRow (U.heap.size + 1) 33 1 v' (n + 1) ((List.range n).map Q ++ [v])) :
    PlO U L (n + 1) f bs v' vb (fun k => if k = n then v else Q k) (w'.setCell ⟨U.heap.size, 1, none⟩ v') := by
  have hlt : (⟨U.heap.size, 1, none⟩ : Addr).block < U.heap.size + 1 := Nat.lt_succ_self _
  refine ⟨(bl_out h.O.bl h.O.nx hg).setCell (Nat.le_refl _) _, out_set1 (out_grown h.O.out h.O.nx hg) v', ?_, fun k hk => ?_, ownsRow_setCell_below (own_kept h.O.ac hg (own_types h.O.ac h.O.nx (by decide))) hlt _⟩
  · have e : (List.range (n + 1)).map (fun j => if j = n then v else Q j) = (List.range n).map Q ++ [v] := by
      rw [List.range_succ, List.map_append]
      simp only [List.map_cons, List.map_nil, if_true]
      congr 1
      refine List.map_congr_left fun j hj => ?_
      have := List.mem_range.1 hj
      rw [if_neg (by omega)]
    rw [e]
    exact ownsRow_setCell_below ho hlt _
  · refine ownsRow_setCell_below ?_ hlt _
    by_cases e : k = n
    · subst e
      simp only [if_true]
      exact own_kept h.own hg (own_types h.own h.O.nx (by decide))
    · simp only [e, if_false]
      exact own_kept (h.O.rs k (by omega)) hg (own_types (h.O.rs k (by omega)) h.O.nx (by decide))
theorem PlO.accept (h : PlO U L n f bs vn vb Q w) (x : Bool) (hg : (w.alloc o).grownBy w' vb.ownBlock) (ho : w'.ownsRow (U.heap.size + 1) 4 1 v' (bs.length + 1) (bs.map Value.bool ++ [.bool x])) :
    PlO U L n f (bs ++ [x]) vn v' Q (w'.setCell ⟨U.heap.size, 2, none⟩ v') := by
  have hlt : (⟨U.heap.size, 2, none⟩ : Addr).block < U.heap.size + 1 := Nat.lt_succ_self _
  refine ⟨(bl_out h.bl h.ac hg).setCell (Nat.le_refl _) _, out_set2 (out_grown h.out h.ac hg) v', ownsRow_setCell_below (own_kept h.nx hg (own_types h.nx h.ac (by decide))) hlt _,
    fun k hk => ownsRow_setCell_below (own_kept (h.rs k hk) hg (own_types (h.rs k hk) h.ac (by decide))) hlt _, ?_⟩
  have := ownsRow_setCell_below ho hlt v'
  rw [show (bs ++ [x]).length = bs.length + 1 by simp, List.map_append]
  exact this
end
theorem wpOp_one {P : Program} {ops : Array Oper} {Q : Exit → Act → World → Prop} {i : Nat} {o : Oper} {K : Act → World → Prop} {a : Act} {w : World} (hi : ops[i]? = some o) (hw : Region.wanted o (yielded ops a.tmps) = true)
    (h : ∀ K' : Act → World → Prop, (∀ a' w', K a' w' → K' a' w') → Oper.wp P o a w K' Q) : wpOp P ops Q i K a w := by
  unfold wpOp
  simp only [hi, hw, if_true]
  exact .inl (h K fun _ _ x => x)
theorem wp_append_own {P : Program} {w : World} {o : Oper} {a : Act} {K : Act → World → Prop} {Q : Exit → Act → World → Prop} (hgd : o.guard = none) (s x : Operand) (t : TypeId)
    (ho : o.op = .call { callee := .builtin .append, args := #[s, x], argTypes := #[t, t] })
    (base : Nat) (e : TypeId) (i : TypeInfo) (z : Value) (size bytes : Nat) (ht : P.underlying t = some (.slice e)) (hi : P.info? e = some i) (hz : i.zero = some z)
    (hsize : i.size = size) (hby : i.bytes = bytes) (hzs : z.cells.size = size) (hsz : 0 < size)
    (v : Value) (n : Nat) (xs : List Value) (hs : a.eval s = v) (hown : w.ownsRow base e size v n xs)
    (ad : Addr) (m c : Nat) (news : List Value) (hx : a.eval x = .slice (some ad) m c) (hl : news.length = m * size) (hnews : ∀ j u, news[j]? = some u → w.cell? (ad.add j) = some u) (h1 : ∀ u ∈ news, u.oneCell' = true)
    (h63 : n + m ≤ maxLen) (hbytes : (n + m) * bytes ≤ 140737488355328) (hbase : base ≤ w.heap.size)
    (h : ∀ v' w', w'.ownsRow base e size v' (n + m) (xs ++ news) → w.grownBy w' v.ownBlock → K (a.put o.dst v') w') : Oper.wp P o a w K Q := by
  have h0 := step_append_own (P := P) (ops := #[]) (Q := Q) (E := True) hgd s x t ho base e i z size bytes ht hi hz hsize hby hzs hsz v n xs hs hown ad m c news hx hl hnews h1 h63 hbytes hbase h
  rw [if_pos (by simp [Region.wanted, hgd])] at h0
  exact h0
theorem keep3 {w w' : World} {row : Option Nat} {X H b4 o : Nat} {vb G s : Value} (hg : w.grownBy w' row) (hr : ∀ k, row = some k → X < k) (hX : X < w.heap.size) (hH : H ≤ X) (hb4 : b4 ≤ X)
    (h : w.cell? ⟨X, 2, none⟩ = some vb ∧ w.cell? ⟨H, 2, none⟩ = some G ∧ w.cell? ⟨b4, o, none⟩ = some s) :
    w'.cell? ⟨X, 2, none⟩ = some vb ∧ w'.cell? ⟨H, 2, none⟩ = some G ∧ w'.cell? ⟨b4, o, none⟩ = some s := by
  obtain ⟨h1, h4, h5⟩ := h
  have hb : ∀ k, k ≤ X → w'.heap[k]? = w.heap[k]? := fun k hk => hg.block k (by omega) fun e => by have := hr k e.symm; omega
  refine ⟨?_, ?_, ?_⟩
  · rw [World.cell?_of_block (w := w) (hb X (Nat.le_refl _))]; exact h1
  · rw [World.cell?_of_block (w := w) (hb H hH)]; exact h4
  · rw [World.cell?_of_block (w := w) (hb b4 hb4)]; exact h5
theorem grown_of {w w' : World} (hb : Below w.heap.size w w') : w.grownBy w' none := but_below (World.grownBy.refl _ none) hb
noncomputable def rowC (N : Nat) (la : Nat → Lang) (nx : Nat → Nat → Nat) (i b : Nat) : List Int := (List.range b).map fun a => ((cname la N (nx i a) : Nat) : Int)
theorem rowC_succ (N : Nat) (la : Nat → Lang) (nx : Nat → Nat → Nat) (i b : Nat) : (rowC N la nx i b).map (Value.int .i64) ++ [.int .i64 (cname la N (nx i b) : Nat)] = (rowC N la nx i (b + 1)).map (Value.int .i64) := by
  simp [rowC, List.range_succ]
theorem lang_old {la : Nat → Lang} {i : Nat} (h : la i ∈ nubN la i) : nubN la (i + 1) = nubN la i := by rw [nubN_succ, vis_mem _ _ h]
theorem lang_new {la : Nat → Lang} {i : Nat} (h : la i ∉ nubN la i) : nubN la (i + 1) = nubN la i ++ [la i] := by rw [nubN_succ, vis_new _ _ h]
theorem acc_new {la : Nat → Lang} {i : Nat} (h : la i ∉ nubN la i) : canAcc (nubN la (i + 1)) = canAcc (nubN la i) ++ [la i []] := by rw [lang_new h]; simp [canAcc]
theorem row_new {la : Nat → Lang} {i N L : Nat} (hi : i < N) (h : la i ∉ nubN la i) : (canNext L (nubN la N)).getD (nubN la i).length [] = canRow L (nubN la N) (la i) := by
  have e := (class_new la N i hi).2 h
  have hg : (nubN la N)[cname la N i]? = some (la i) := by
    have hm : la i ∈ nubN la N := by
      have := cname_lt la (n := N) hi
      have hx : la i ∈ nubN la (i + 1) := by rw [lang_new h]; simp
      exact (nubN_pre la (show i + 1 ≤ N by omega)).subset hx
    exact get_idx hm
  rw [← e]
  simp [canNext, List.getD, hg]
/-- A machine in memory, laid by the call: its rows and its answers. -/
def MachAt (w : World) (base L : Nat) (F : List Lang) (vn vb : Value) : Prop :=
  ∃ Q, w.ownsRow base 33 1 vn F.length ((List.range F.length).map Q) ∧ (∀ k, k < F.length → w.ownsRow base 3 1 (Q k) L (((canNext L F).getD k []).map (Value.int .i64))) ∧ w.ownsRow base 4 1 vb F.length ((canAcc F).map Value.bool)
theorem MachAt.below {w w' : World} {base L : Nat} {F : List Lang} {vn vb : Value} (h : MachAt w base L F vn vb) (hb : Below w.heap.size w w') : MachAt w' base L F vn vb := by
  obtain ⟨Q, h1, h2, h3⟩ := h
  exact ⟨Q, own_below h1 hb, fun k hk => own_below (h2 k hk) hb, own_below h3 hb⟩
/-- What the plain form of a machine of language la gives back. -/
def PlainPost (W : World) (L : Nat) (la : Lang) (e : Ending) (w' : World) : Prop :=
  ∃ F, Found (succL L) la F ∧ Below W.heap.size W w' ∧
    ((F.length ≤ 64 ∧ ∃ base vn vb, W.heap.size ≤ base ∧ e = .returned (.tuple #[.agg #[.int .i64 L, vn, vb], .int .i64 0]) ∧ MachAt w' base L F vn vb) ∨
     (64 < F.length ∧ e = .returned (.tuple #[.agg #[.int .i64 0, .slice none 0 0, .slice none 0 0], .int .i64 4])))
theorem MachAt.setCell {w : World} {base L : Nat} {F : List Lang} {vn vb : Value} (h : MachAt w base L F vn vb) {a : Addr} (ha : a.block < base) (u : Value) : MachAt (w.setCell a u) base L F vn vb := by
  obtain ⟨Q, h1, h2, h3⟩ := h
  exact ⟨Q, ownsRow_setCell_below h1 ha u, fun k hk => ownsRow_setCell_below (h2 k hk) ha u, ownsRow_setCell_below h3 ha u⟩
theorem PlO.mach {U w : World} {L : Nat} {F : List Lang} {vn vb : Value} {Q : Nat → Value} (h : PlO U L F.length (fun k => (canNext L F).getD k []) (canAcc F) vn vb Q w) : MachAt w (U.heap.size + 1) L F vn vb := by
  have ha := h.ac
  rw [show (canAcc F).length = F.length by simp [canAcc]] at ha
  exact ⟨Q, h.nx, h.rs, ha⟩
end Go.Proofs.Ytmllbemjcfkmjaa
