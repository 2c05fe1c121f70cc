/- The first number that a test answers yes to: of a table's rows. -/
import Derived.Test.YtphcgggohfbmfaaDoorEtr
namespace Go.Proofs.YtphcgggohfbmfaaDoor
open Go.RowKit Go.Maps
set_option linter.unusedSimpArgs false
set_option linter.unusedVariables false

def idxI (f : Int → Bool) (xs : List Int) : Nat → Int
  | 0 => -1
  | k + 1 => if f (nth xs (xs.length - (k + 1))) then ((xs.length - (k + 1) : Nat) : Int) else idxI f xs k
set_option maxRecDepth 100000 in
set_option maxHeartbeats 2000000 in
theorem index_any (f : Int → Bool) (xs : List Int) (a : Option Addr) (cap : Nat) (W : World) (hI : IntsAt W a xs) (g : Nat) (b2 c2 : Array Value) (Hg : Hid (∀ w args, Sem.run Tryd.prog (callFunc g args) w = .ok (.enter g args) w))
    (HC : Hid (∀ w, Below W.heap.size W w → ∀ i, i < xs.length → Calls Tryd.prog g (b2.push (.int .i64 (nth xs i)) ++ c2) w fun e w' => e = .returned (.bool (f (nth xs i))) ∧ Below w.heap.size w w')) (hn : xs.length ≤ 60) :
    Calls Tryd.prog 19 #[.slice a xs.length cap, .func (.func g) b2 c2] W fun e w' => e = .returned (.int .i64 (idxI f xs xs.length)) ∧ Below W.heap.size W w' := by
  have HI := hid hI
  clear hI
  go_enter Tryd.func19, Tryd.ntmps19
  go_wp2_with fail
  go_loopw [5, 8] (fun v5 v8 w' => ∃ (j : Nat), v8 = .int .i64 (j : Nat) ∧ j ≤ xs.length ∧ Hid (idxI f xs xs.length = idxI f xs (xs.length - j)) ∧ Below W.heap.size W w') (fun _ v8 _ => xs.length - intOfV v8)
  case atStart => exact ⟨0, rfl, by omega, hid rfl, Below.refl _ _⟩
  case round =>
    obtain ⟨j, rfl, hj, HE, hb⟩ := hrel
    by_cases hlt : j < xs.length
    · obtain ⟨b1, o1, rfl, hb1, c1⟩ := HI.out.below hb j hlt
      have hC := hid (HC.out wr hb j hlt)
      have hst : idxI f xs (xs.length - j) = if f (nth xs j) then (j : Int) else idxI f xs (xs.length - (j + 1)) := by
        obtain ⟨k, hk⟩ : ∃ k, xs.length - j = k + 1 := ⟨xs.length - j - 1, by omega⟩
        rw [hk, idxI, show xs.length - (k + 1) = j by omega, show xs.length - (j + 1) = k by omega]
      have i3 : (0 : Int) ≤ (j : Int) := by omega
      have i4 : (j : Int) < (xs.length : Int) := by omega
      have HBr := hid hb
      have Hlt := hid hlt
      have Hst := hid hst
      generalize nth xs j = x at *
      clear hb hlt hst
      go_wp2_with fail
      rw [Hg.out, Oper.upon_enter]
      refine hC.out.mono ?_
      rintro e w1 ⟨rfl, hb1'⟩
      have hbz := HBr.out.trans (hb1'.mono HBr.out.size)
      have HZ := hid hbz
      clear hbz hb1' hC c1 hb1
      cases hf : f x
      · have Hn : Hid (idxI f xs xs.length = idxI f xs (xs.length - (j + 1))) := hid (HE.out.trans (Hst.out.trans (by rw [hf]; exact if_neg (by decide))))
        clear HE Hst hf
        go_wp2_with fail
        go_roundw
        case rel => exact ⟨j + 1, by go_num, Hlt.out, Hn, HZ.out⟩
        case measure => have := Hlt.out; simp [intOfV] <;> omega
      · have Hn : Hid (idxI f xs xs.length = (j : Int)) := hid (HE.out.trans (Hst.out.trans (by rw [hf]; exact if_pos rfl)))
        clear HE Hst hf
        go_wp2_with fail
        go_ret
        exact ⟨by rw [Hn.out]; rfl, HZ.out⟩
    · have hj2 : j = xs.length := by omega
      have Hn : Hid (idxI f xs xs.length = -1) := hid (HE.out.trans (by rw [hj2, Nat.sub_self]; rfl))
      have i4 : ¬ (j : Int) < (xs.length : Int) := by omega
      have HZ := hid hb
      clear hj2 hb HE
      go_wp2_with fail
      go_ret
      exact ⟨by rw [Hn.out]; rfl, HZ.out⟩
end Go.Proofs.YtphcgggohfbmfaaDoor
