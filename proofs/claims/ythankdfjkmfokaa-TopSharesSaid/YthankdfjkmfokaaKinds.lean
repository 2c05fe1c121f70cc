/- 'kinds': the map that it makes, and what is found in it. -/
import Derived.Test.YthankdfjkmfokaaMem
import Derived.MapKept
import Derived.Maps.Own
namespace Go.Proofs.Ythankdfjkmfokaa
open Go.RowKit
set_option linter.unusedSimpArgs false
set_option linter.unusedVariables false

def stepsV (f : Nat) (u : Int) : Value := .agg #[.func (.func f) #[] #[], .int .i64 u]
theorem run_insert_new (w : World) (r : Nat) (es : Array MapEntry) (clk : Nat) (k : Int) (x : Value) (hb : w.heap[r]? = some (.map es clk)) (hn : Instr.findNow (.int .i64) (.int .i64 k) es.toList 0 = some none) :
    (Instr.mapUpdate 96 (.map (some r)) (.int .i64 k) x).run Try.prog w = .ok () { w with heap := w.heap.setIfInBounds r (.map (es.push { key := .int .i64 k, val := x, born := clk }) (clk + 1)) } := by
  have hik : MapKept.IsKey (.int .i64) (.int .i64 k) := by simp [MapKept.IsKey]
  simp [Instr.mapUpdate, run_underlying Try.underlying96, MapKept.run_getObj_map hb, MapKept.run_checkKey Try.underlying3 hik, MapKept.run_findKey Try.underlying3 hn, MapKept.run_setObj_map _ hb, Result.andThen]
theorem set_alloc (w : World) (o o' : Obj) : { w.alloc o with heap := (w.alloc o).heap.setIfInBounds w.heap.size o' } = w.alloc o' := by
  have e : (w.heap.push o).setIfInBounds w.heap.size o' = w.heap.push o' := by
    apply Array.ext_getElem?
    intro i
    rw [Array.getElem?_setIfInBounds, Array.getElem?_push, Array.getElem?_push]
    by_cases h : i = w.heap.size
    · subst h; simp
    · rw [if_neg (Ne.symm h), if_neg h, if_neg h]
  show ({ w with heap := (w.heap.push o).setIfInBounds w.heap.size o' } : World) = { w with heap := w.heap.push o' }
  rw [e]
theorem ins_alloc (w : World) (es : Array MapEntry) (clk : Nat) (k : Int) (x : Value) (hn : Instr.findNow (.int .i64) (.int .i64 k) es.toList 0 = some none) :
    (Instr.mapUpdate 96 (.map (some w.heap.size)) (.int .i64 k) x).run Try.prog (w.alloc (.map es clk)) = .ok () (w.alloc (.map (es.push { key := .int .i64 k, val := x, born := clk }) (clk + 1))) := by
  rw [run_insert_new (w.alloc (.map es clk)) w.heap.size es clk k x (MapKept.heap_alloc w _).1 hn, set_alloc]
def kindsM : Obj := .map #[{ key := .int .i64 0, val := stepsV 92 1, born := 0 }, { key := .int .i64 1, val := stepsV 93 2, born := 1 }, { key := .int .i64 2, val := stepsV 94 1, born := 2 }] 3
theorem kinds_any (W : World) : Calls Try.prog 83 #[] W fun e w' => e = .returned (.map (some W.heap.size)) ∧ w' = W.alloc kindsM := by
  have h1 := ins_alloc W #[] 0 0 (stepsV 92 1) rfl
  have h2 := ins_alloc W #[{ key := .int .i64 0, val := stepsV 92 1, born := 0 }] 1 1 (stepsV 93 2) rfl
  have h3 := ins_alloc W #[{ key := .int .i64 0, val := stepsV 92 1, born := 0 }, { key := .int .i64 1, val := stepsV 93 2, born := 1 }] 2 2 (stepsV 94 1) rfl
  simp only [stepsV] at h1 h2 h3
  simp at h1 h2 h3
  have hmm := @run_makeMap Try.prog
  go_enter Try.func83, Try.ntmps83
  go_wp2
  go_ret
  exact ⟨rfl, rfl⟩
theorem look_kinds (w : World) (r : Nat) (k : Int) (hb : w.heap[r]? = some kindsM) (f : Nat) (u : Int) (h : (k = 0 ∧ f = 92 ∧ u = 1) ∨ (k = 1 ∧ f = 93 ∧ u = 2) ∨ (k = 2 ∧ f = 94 ∧ u = 1)) :
    (Instr.lookup 96 (.map (some r)) (.int .i64 k) true).run Try.prog w = .ok (.tuple #[stepsV f u, .bool true]) w := by
  have hik : MapKept.IsKey (.int .i64) (.int .i64 k) := by simp [MapKept.IsKey]
  unfold kindsM at hb
  rcases h with ⟨rfl, rfl, rfl⟩ | ⟨rfl, rfl, rfl⟩ | ⟨rfl, rfl, rfl⟩
  · have hn : Instr.findNow (.int .i64) (.int .i64 0) [{ key := .int .i64 0, val := stepsV 92 1, born := 0 }, { key := .int .i64 1, val := stepsV 93 2, born := 1 }, { key := .int .i64 2, val := stepsV 94 1, born := 2 }] 0 = some (some (0, stepsV 92 1)) := by simp [Instr.findNow, Instr.sameNow]
    simp [Instr.lookup, run_underlying Try.underlying96, MapKept.run_getObj_map hb, MapKept.run_checkKey Try.underlying3 hik, MapKept.run_findKey Try.underlying3 hn, Result.andThen]
  · have hn : Instr.findNow (.int .i64) (.int .i64 1) [{ key := .int .i64 0, val := stepsV 92 1, born := 0 }, { key := .int .i64 1, val := stepsV 93 2, born := 1 }, { key := .int .i64 2, val := stepsV 94 1, born := 2 }] 0 = some (some (1, stepsV 93 2)) := by simp [Instr.findNow, Instr.sameNow]
    simp [Instr.lookup, run_underlying Try.underlying96, MapKept.run_getObj_map hb, MapKept.run_checkKey Try.underlying3 hik, MapKept.run_findKey Try.underlying3 hn, Result.andThen]
  · have hn : Instr.findNow (.int .i64) (.int .i64 2) [{ key := .int .i64 0, val := stepsV 92 1, born := 0 }, { key := .int .i64 1, val := stepsV 93 2, born := 1 }, { key := .int .i64 2, val := stepsV 94 1, born := 2 }] 0 = some (some (2, stepsV 94 1)) := by simp [Instr.findNow, Instr.sameNow]
    simp [Instr.lookup, run_underlying Try.underlying96, MapKept.run_getObj_map hb, MapKept.run_checkKey Try.underlying3 hik, MapKept.run_findKey Try.underlying3 hn, Result.andThen]
theorem look_no (w : World) (r : Nat) (k : Int) (hb : w.heap[r]? = some kindsM) (h : k ≠ 0 ∧ k ≠ 1 ∧ k ≠ 2) :
    (Instr.lookup 96 (.map (some r)) (.int .i64 k) true).run Try.prog w = .ok (.tuple #[.agg #[.nilFunc, .int .i64 0], .bool false]) w := by
  have hik : MapKept.IsKey (.int .i64) (.int .i64 k) := by simp [MapKept.IsKey]
  unfold kindsM at hb
  have hz : (zeroValue 66).run Try.prog w = .ok (.agg #[.nilFunc, .int .i64 0]) w := by kernel_rfl
  have hn : Instr.findNow (.int .i64) (.int .i64 k) [{ key := .int .i64 0, val := stepsV 92 1, born := 0 }, { key := .int .i64 1, val := stepsV 93 2, born := 1 }, { key := .int .i64 2, val := stepsV 94 1, born := 2 }] 0 = some none := by
    have e0 : (k == 0) = false := by simp [h.1]
    have e1 : (k == 1) = false := by simp [h.2.1]
    have e2 : (k == 2) = false := by simp [h.2.2]
    simp [Instr.findNow, Instr.sameNow, e0, e1, e2]
  simp [Instr.lookup, run_underlying Try.underlying96, MapKept.run_getObj_map hb, MapKept.run_checkKey Try.underlying3 hik, MapKept.run_findKey Try.underlying3 hn, hz, Result.andThen]
end Go.Proofs.Ythankdfjkmfokaa
