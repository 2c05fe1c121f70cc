/- What is wrong with a table; whether a set feeds every child. -/
import Derived.Test.YtphcgggohfbmfaaDoorClo
namespace Go.Proofs.YtphcgggohfbmfaaDoor
open Go.RowKit Go.Maps
set_option linter.unusedSimpArgs false
set_option linter.unusedVariables false

theorem run_enter {P : Program} {f : FuncId} {fn : Func} {c : Code} (hf : P.funcs[f]? = some fn) (hname : (fn.name == "runtime.NumGoroutine") = false) (hb : fn.body = some c) (w : World) (args : Array Value) :
    Sem.run P (callFunc f args) w = .ok (.enter f args) w := by
  unfold callFunc
  simp [hf, hb, Sem.run_bind, Sem.run_pure, Result.andThen]
  simpa using hname
/-- feeds: of a table that is right. -/
theorem feed_any (xs : List Int) (d m : Nat) (hk : TblOK xs d) (hm : m < 256) : anyB (noneR m) xs = !feedN (rowN xs) xs.length m := by
  rw [Bool.eq_iff_iff, any_iff, Bool.not_eq_true', ← Bool.not_eq_true, feed_iff]
  unfold noneR rowN
  constructor
  · rintro ⟨i, hi, h⟩ h2
    exact h2 i hi (of_decide_eq_true h)
  · intro h
    refine Classical.byContradiction fun h2 => h fun i hi e => h2 ⟨i, hi, decide_eq_true e⟩
set_option maxRecDepth 100000 in
theorem feeds_any (xs : List Int) (d m : Nat) (hk : TblOK xs d) (hm : m < 256) (a : Option Addr) (cap : Nat) (W : World) (hI : IntsAt W a xs) :
    Calls Tryd.prog 9 #[.slice a xs.length cap, .int .i64 (m : Nat)] W fun e w' => e = .returned (.bool (feedN (rowN xs) xs.length m)) ∧ Below W.heap.size W w' := by
  have hb0 := below_alloc W (.cells #[.int .i64 (m : Nat)] 3)
  have hpow : 2 ^ d ≤ 256 := by have := Nat.pow_le_pow_right (n := 2) (by omega) hk.d8; simpa using this
  have hc0 : (W.alloc (.cells #[.int .i64 (m : Nat)] 3)).cell? ⟨W.heap.size, 0, none⟩ = some (.int .i64 (m : Nat)) := by simp
  have hl0 : W.heap.size < (W.alloc (.cells #[.int .i64 (m : Nat)] 3)).heap.size := by simp
  have H := hid (has_any (noneR m) xs a cap (W.alloc (.cells #[.int .i64 (m : Nat)] 3)) (hI.below hb0) 17 #[] #[.pointer (some ⟨W.heap.size, 0, none⟩)] (hid (run_enter Tryd.func17 (by kernel_rfl) rfl))
    (hid (fun w hb i hi => none_any m hm (nth xs i) (hk.el i hi).1 (by have := (hk.el i hi).2; omega) W.heap.size w ((hb.cell (p := ⟨W.heap.size, 0, none⟩) hl0).trans hc0) (by have := hb.size; omega))) (by have := hk.n8; omega))
  rw [feed_any xs d m hk hm] at H
  have HB := hid hb0
  clear hI hb0 hc0 hl0 hk hm hpow
  go_enter Tryd.func9, Tryd.ntmps9
  go_wp2_with fail
  refine H.out.mono ?_
  rintro e w1 ⟨rfl, hb⟩
  have HZ := hid (HB.out.trans (hb.mono HB.out.size))
  clear hb H
  go_wp2_with fail
  go_ret
  exact ⟨by simp, HZ.out⟩
end Go.Proofs.YtphcgggohfbmfaaDoor
