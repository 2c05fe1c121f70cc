/- 'slices.IndexFunc' and 'slices.ContainsFunc' over a function value: what they return. -/
import Derived.Test.YtmllbemjcfkmjaaMem
namespace Go.Proofs.Ytmllbemjcfkmjaa
open Go.RowKit
set_option linter.unusedSimpArgs false
set_option linter.unusedVariables false

theorem run_enter {P : Program} {f : FuncId} {fn : Func} {c : Code} (hf : P.funcs[f]? = some fn) (hname : (fn.name == "runtime.NumGoroutine") = false) (hb : fn.body = some c) (w : World) (args : Array Value) :
    Sem.run P (callFunc f args) w = .ok (.enter f args) w := by
  unfold callFunc
  simp [hf, hb, Sem.run_bind, Sem.run_pure, Result.andThen]
  simpa using hname
/-- The function value tests p in this world, and leaves it. -/
structure FnP (f : Nat) (b c : Array Value) (p : Int → Bool) (W : World) : Prop where
  run : ∀ w args, Sem.run Try.prog (callFunc f args) w = .ok (.enter f args) w
  call : ∀ x, Calls Try.prog f (b.push (.int .i64 x) ++ c) W fun e w' => e = .returned (.bool (p x)) ∧ W = w'
def IdxPost (p : Int → Bool) (xs : List Int) (W : World) (e : Ending) (w' : World) : Prop :=
  W = w' ∧ ((∃ k : Nat, k < xs.length ∧ e = .returned (.int .i64 k) ∧ p (nth xs k) = true) ∨ (e = .returned (.int .i64 (-1)) ∧ ∀ j, j < xs.length → p (nth xs j) = false))
def anyI (p : Int → Bool) (xs : List Int) : Bool := xs.any p
theorem anyI_yes {p : Int → Bool} {xs : List Int} {k : Nat} (hk : k < xs.length) (h : p (nth xs k) = true) : anyI p xs = true := by
  unfold anyI
  rw [List.any_eq_true]
  refine ⟨nth xs k, ?_, h⟩
  simp [nth, List.getD, hk]
theorem anyI_no {p : Int → Bool} {xs : List Int} : anyI p xs = false ↔ ∀ j, j < xs.length → p (nth xs j) = false := by
  unfold anyI
  rw [List.any_eq_false]
  constructor
  · intro h j hj
    have := h (nth xs j) (by simp [nth, List.getD, hj])
    simpa using this
  · intro h x hx
    obtain ⟨j, hj, rfl⟩ := List.getElem_of_mem hx
    have := h j hj
    simp [nth, List.getD, hj] at this
    simp [this]
set_option maxRecDepth 100000 in
set_option maxHeartbeats 1000000 in
theorem indexFunc_any (f : Nat) (b c : Array Value) (p : Int → Bool) (xs : List Int) (a : Option Addr) (cap : Nat) (W : World) (hI : IntsAt W a xs) (hl : xs.length ≤ maxLen) (HF : Hid (FnP f b c p W)) :
    Calls Try.prog 108 #[.slice a xs.length cap, .func (.func f) b c] W (IdxPost p xs W) := by
  unfold maxLen at hl
  go_enter Try.func108, Try.ntmps108
  go_wp2_with fail
  go_loop [5, 8] (fun v5 v8 => ∃ k : Nat, k ≤ xs.length ∧ v8 = .int .i64 k ∧ Hid (∀ j, j < k → p (nth xs j) = false)) (fun _ v8 => xs.length - (intOf v8).toNat)
  case atStart => exact ⟨0, by omega, rfl, hid fun j hj => by omega⟩
  case round =>
    obtain ⟨k, hk, rfl, hno⟩ := hrel
    by_cases hlt : k < xs.length
    · obtain ⟨b', off, rfl, hbl, c1⟩ := hI k hlt
      have Hr := hid HF.out.run
      have Hc := hid (HF.out.call (nth xs k))
      cases hp : p (nth xs k)
      · rw [hp] at Hc
        go_wp2_with fail
        rw [Hr.out, Oper.upon_enter]
        refine Hc.out.mono ?_; rintro e w2 ⟨rfl, rfl⟩
        go_wp2_with fail
        go_round
        case rel => exact ⟨k + 1, by omega, by go_num, hid fun j hj => by
          by_cases e : j = k
          · subst e; exact hp
          · exact hno.out j (by omega)⟩
        case measure => simp [intOf]; omega
      · rw [hp] at Hc
        go_wp2_with fail
        rw [Hr.out, Oper.upon_enter]
        refine Hc.out.mono ?_; rintro e w2 ⟨rfl, rfl⟩
        go_wp2_with fail
        go_ret
        exact ⟨rfl, .inl ⟨k, hlt, rfl, hp⟩⟩
    · obtain rfl : k = xs.length := by omega
      go_wp2_with fail
      go_ret
      exact ⟨rfl, .inr ⟨rfl, hno.out⟩⟩
theorem containsFunc_any (f : Nat) (b c : Array Value) (p : Int → Bool) (xs : List Int) (a : Option Addr) (cap : Nat) (W : World) (hI : IntsAt W a xs) (hl : xs.length ≤ maxLen) (HF : Hid (FnP f b c p W)) :
    Calls Try.prog 71 #[.slice a xs.length cap, .func (.func f) b c] W fun e w' => e = .returned (.bool (anyI p xs)) ∧ W = w' := by
  have Hi := hid (indexFunc_any f b c p xs a cap W hI hl HF)
  go_enter Try.func71, Try.ntmps71
  go_wp2_with fail
  refine Hi.out.mono ?_
  intro e w' h
  obtain ⟨rfl, ⟨k, hk, rfl, hp⟩ | ⟨rfl, hno⟩⟩ := h
  · have hA := hid (anyI_yes hk hp)
    have hd : decide ((0 : Int) ≤ (k : Int)) = true := by simp
    clear hp
    go_wp2_with fail
    go_ret
    exact ⟨by rw [hA.out]; rfl, rfl⟩
  · have hA := hid (anyI_no.2 hno)
    clear hno
    go_wp2_with fail
    go_ret
    exact ⟨by rw [hA.out]; rfl, rfl⟩
end Go.Proofs.Ytmllbemjcfkmjaa
