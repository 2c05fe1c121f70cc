/- What stands once the states are found, and while they are parted into classes; plainly and in memory. -/
import Derived.Test.YtmllbemjcfkmjaaPlainInv
import Derived.Laws.IdiomStrings
namespace Go.Proofs.Ytmllbemjcfkmjaa
open Go.RowKit Go.Maps
set_option linter.unusedSimpArgs false
set_option linter.unusedVariables false

structure PlS (w0 : World) (B L : Nat) (step : Int → Nat → Int) (S : List Int) (v4 v6 : Value) (R : Nat → Value) (w : World) : Prop where
  bl : Below B w0 w
  sz : B ≤ w.heap.size
  own : w.ownsRow B 3 1 v4 S.length (S.map (Value.int .i64))
  rows : w.ownsRow B 33 1 v6 S.length ((List.range S.length).map R)
  rs : ∀ j, j < S.length → w.ownsRow B 3 1 (R j) L ((rowA L step S j).map (Value.int .i64))
theorem rowP_rowA {L : Nat} {step : Int → Nat → Int} (i j : Nat) (hj : j < i) (hi : i ≤ (raw L step i).length) : rowP L step j L = rowA L step (raw L step i) j := by
  unfold rowP rowA
  refine List.map_congr_left fun a ha => ?_
  have hjl : j < (raw L step j).length := by
    rcases Nat.lt_or_ge j (raw L step j).length with h | h
    · exact h
    · have := bfs_done (stepsA L step) 0 (i := j) (j := i) h (by omega)
      unfold raw at *
      rw [this] at hi
      omega
  rw [nx_more j a hjl (List.mem_range.1 ha) i hj]
theorem PlI.done {w0 w : World} {B mb L : Nat} {step : Int → Nat → Int} {i : Nat} {v4 v6 : Value} {R : Nat → Value} (h : PlI w0 B mb L step i (raw L step i) (raw L step i) v4 v6 R w) (hi : (raw L step i).length = i) :
    PlS w0 B L step (raw L step i) v4 v6 R w := by
  refine ⟨h.bl, h.sz, h.own, ?_, fun j hj => ?_⟩
  · have := h.rows
    rw [hi]
    exact this
  · rw [← rowP_rowA i j (by omega) (by omega)]
    exact (h.rs j (by omega)).1
def rowI (f : Nat → Int) (i : Nat) : Value := .int .i64 (f i)
def bitN (acc : Nat → Bool) (k j : Nat) : Int := if j < k ∧ acc j = true then 1 else 0
def clsN (c : Nat → Nat) (j : Nat) : Int := (c j : Nat)
section
variable {w : World} {b N : Nat} {t : TypeId}
theorem bit_zero (acc : Nat → Bool) (h : w.rowIs b t N (fun _ => .int .i64 0)) : w.rowIs b t N (rowI (bitN acc 0)) := h.congr fun i hi => by simp [rowI, bitN]
theorem bit_yes {acc : Nat → Bool} {k : Nat} (h : w.rowIs b t N (rowI (bitN acc k))) (hk : acc k = true) : (w.setCell ⟨b, k, none⟩ (.int .i64 1)).rowIs b t N (rowI (bitN acc (k + 1))) := by
  refine (h.set k _).congr fun i hi => ?_
  unfold rowI bitN
  by_cases e : i = k
  · subst e; simp [hk]
  · rw [if_neg e]
    have : (i < k + 1) = (i < k) := propext (by omega)
    simp only [this]
theorem bit_no {acc : Nat → Bool} {k : Nat} (h : w.rowIs b t N (rowI (bitN acc k))) (hk : acc k = false) : w.rowIs b t N (rowI (bitN acc (k + 1))) := by
  refine h.congr fun i hi => ?_
  unfold rowI bitN
  by_cases e : i = k
  · subst e; simp [hk]
  · have : (i < k + 1) = (i < k) := propext (by omega)
    simp only [this]
theorem bit_end {acc : Nat → Bool} {L : Nat} {nx : Nat → Nat → Nat} (h : w.rowIs b t N (rowI (bitN acc N))) : w.rowIs b t N (rowI (clsN (cI N L nx acc 0))) := by
  refine h.congr fun i hi => ?_
  unfold rowI bitN clsN
  simp only [cI]
  cases acc i <;> simp [hi]
def namN (κ : Nat → List UInt8) (N k j : Nat) : Int := if j < k then (cname κ N j : Nat) else 0
theorem nam_zero (κ : Nat → List UInt8) (h : w.rowIs b t N (fun _ => .int .i64 0)) : w.rowIs b t N (rowI (namN κ N 0)) := h.congr fun i hi => by simp [rowI, namN]
theorem nam_step {κ : Nat → List UInt8} {k : Nat} (hk : k < N) (h : w.rowIs b t N (rowI (namN κ N k))) : (w.setCell ⟨b, k, none⟩ (.int .i64 (idx (nubN κ (k + 1)) (κ k) : Nat))).rowIs b t N (rowI (namN κ N (k + 1))) := by
  refine (h.set k _).congr fun i hi => ?_
  unfold rowI namN
  by_cases e : i = k
  · subst e
    simp only [if_true, show i < i + 1 by omega]
    rw [cname_more κ (show i < i + 1 by omega) (show i + 1 ≤ N by omega)]
    rfl
  · rw [if_neg e]
    have : (i < k + 1) = (i < k) := propext (by omega)
    simp only [this]
theorem nam_end {acc : Nat → Bool} {L : Nat} {nx : Nat → Nat → Nat} {κ : Nat} (h : w.rowIs b t N (rowI (namN (key L nx (cI N L nx acc κ)) N N))) : w.rowIs b t N (rowI (clsN (cI N L nx acc (κ + 1)))) := by
  refine h.congr fun i hi => ?_
  unfold rowI namN clsN
  rw [if_pos hi]
  rfl
end
/-- The numbers of the keys that were met. -/
def gK (l : List (List UInt8)) : Value → Option Value
  | .string s => if s.data.toList ∈ l then some (.int .i64 (idx l s.data.toList : Nat)) else none
  | _ => none
def strV (k : List UInt8) : Value := .string ⟨k.toArray⟩
theorem gK_yes {l : List (List UInt8)} {k : List UInt8} (h : k ∈ l) : gK l (strV k) = some (.int .i64 (idx l k : Nat)) := by simp [gK, strV, h]
theorem gK_no {l : List (List UInt8)} {k : List UInt8} (h : k ∉ l) : gK l (strV k) = none := by simp [gK, strV, h]
theorem gK_nil (y : Value) : gK [] y = none := by cases y <;> simp [gK]
theorem strV_eq {s : ByteArray} {k : List UInt8} (h : s.data.toList = k) : Value.string s = strV k := by
  subst h
  simp [strV]
open Classical in
theorem gK_new {l : List (List UInt8)} {k : List UInt8} (h : k ∉ l) (y : Value) : (if y = strV k then some (.int .i64 (l.length : Nat)) else gK l y) = gK (l ++ [k]) y := by
  by_cases e : y = strV k
  · subst e
    rw [if_pos rfl, gK_yes (by simp), idx_app_new h]
  · rw [if_neg e]
    cases y with
    | string s =>
      have hts : s.data.toList ≠ k := fun hh => e (strV_eq hh)
      by_cases ht : s.data.toList ∈ l
      · simp only [gK, ht, if_true, List.mem_append, true_or]
        rw [idx_app_mem ht]
      · simp [gK, ht, hts]
    | _ => rfl
theorem key_str (k : List UInt8) (h : k.length ≤ maxLen) : keyOf Try.prog 9 (strV k) = some (.string k) := by
  unfold keyOf strV
  rw [Try.underlying9]
  have hs : (⟨k.toArray⟩ : ByteArray).size ≤ maxLen := by simpa [ByteArray.size] using h
  simp only [mapKey, Try.underlying9, hs, if_true]
/-- The number of classes that was kept in mind. -/
def prI (N L : Nat) (nx : Nat → Nat → Nat) (acc : Nat → Bool) : Nat → Nat
  | 0 => 0
  | κ + 1 => pI N L nx acc κ
def byV (l : List UInt8) : List Value := l.map fun b => .int .u8 (b.toNat : Int)
theorem byV_two (v : Nat) : byV (two v) = [.int .u8 ((v : Int) % 256), .int .u8 ((v : Int) / 256 % 256)] := by
  simp [byV, two]
theorem byV_app (l l' : List UInt8) : byV (l ++ l') = byV l ++ byV l' := by simp [byV]
theorem wrap8 (x : Int) : IntKind.u8.wrap x = x % 256 := by simp [IntKind.wrap, IntKind.signed, IntKind.bits]
theorem keyU_one (nx : Nat → Nat → Nat) (c : Nat → Nat) (j : Nat) : byV (keyU nx c j 1) = [.int .u8 ((c j : Int) % 256), .int .u8 ((c j : Int) / 256 % 256)] := byV_two (c j)
theorem keyU_more (nx : Nat → Nat → Nat) (c : Nat → Nat) (j a : Nat) : byV (keyU nx c j (a + 1)) ++ [.int .u8 ((c (nx j a) : Int) % 256), .int .u8 ((c (nx j a) : Int) / 256 % 256)] = byV (keyU nx c j (a + 2)) := by
  rw [← byV_two, ← byV_app]
  rfl
theorem lit_bytes (Z : World) (x y : Value) : (Z.alloc (.cells #[x, y] 5)).drew.ownsRow Z.heap.size 5 1 (.slice (some ⟨Z.heap.size, 0, none⟩) 2 2) 2 [x, y] :=
  ⟨rfl, .inr ⟨Z.heap.size, 2, #[x, y], rfl, Nat.le_refl _, heap_alloc_new Z _, Nat.le_refl _, by unfold maxLen; omega, rfl, rfl⟩⟩
theorem rowA_get (L : Nat) (step : Int → Nat → Int) (S : List Int) (j a : Nat) (ha : a < L) : ((rowA L step S j).map (Value.int .i64))[a]? = some (.int .i64 (nxA step S j a : Nat)) := by
  simp [rowA, ha]
theorem nub_old {κ : Nat → List UInt8} {j : Nat} (h : κ j ∈ nubN κ j) : nubN κ (j + 1) = nubN κ j := by rw [nubN_succ, vis_mem _ _ h]
theorem nub_new {κ : Nat → List UInt8} {j : Nat} (h : κ j ∉ nubN κ j) : nubN κ (j + 1) = nubN κ j ++ [κ j] ∧ idx (nubN κ (j + 1)) (κ j) = (nubN κ j).length := by
  rw [nubN_succ, vis_new _ _ h]
  exact ⟨rfl, idx_app_new h⟩
theorem rowIs_map {w w' : World} {b mb k n N : Nat} {g : Value → Option Value} {t : TypeId} {f : Nat → Value} (h : w.rowIs b t N f) (hm : MapOf Try.prog k w mb n g) (hg : w.grownBy w' (some mb)) (hne : b ≠ mb) : w'.rowIs b t N f :=
  h.of_block (hg.block b h.lt (fun e => hne (by cases e; rfl)))
theorem run_len_map {w : World} {t k e ty : TypeId} {b n : Nat} {g : Value → Option Value} (ht : Try.prog.underlying t = some (.map k e)) (hown : MapOf Try.prog k w b n g) :
    (Builtin.len_ #[t] ty #[.map (some b)]).run Try.prog w = .ok (.int .i64 n) w := by
  obtain ⟨es, clock, hb, hn, _⟩ := hown
  simp [Builtin.len_, run_underlying ht, MapKept.run_getObj_map hb, hn, Result.andThen]
  rfl
theorem conv_own {w : World} {B n : Nat} {v : Value} {l : List UInt8} (h : w.ownsRow B 5 1 v n (byV l)) (hn : n = l.length) (h0 : 0 < n) : (convert 117 9 v).run Try.prog w = .ok (strV l) w := by
  subst hn
  obtain ⟨b, cap, rfl, hlt, _⟩ := own_cell h 0 h0
  refine run_convert_bytes_back w 117 9 5 ⟨b, 0, none⟩ cap l Try.underlying117 Try.underlying5 Try.underlying9 fun j hj => ?_
  obtain ⟨b', cap', e, _, hc⟩ := own_cell h j hj
  cases e
  rw [add_plain0, Nat.zero_add, hc]
  simp [byV, hj]
end Go.Proofs.Ytmllbemjcfkmjaa
