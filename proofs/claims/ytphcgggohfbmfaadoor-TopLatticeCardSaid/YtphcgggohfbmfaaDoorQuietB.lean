/- A region that draws its order, whose operations read and whose callees may make memory: walked once, guards and all, the goal wrapped so that it is not unfolded. -/
import Derived.Test.YtphcgggohfbmfaaDoorBase
import Derived.Lib.QuietBelow
import Derived.BigQuiet
namespace Go.Proofs.YtphcgggohfbmfaaDoor
open Go.RowKit Go.Sort
variable {P : Program} {ops : Array Oper} {C : World → Prop} {Q : Act → Prop} {a : Act} {o : Oper} {rest : List Oper}
structure Qt (P : Program) (ops : Array Oper) (C : World → Prop) (Q : Act → Prop) (l : List Oper) (a : Act) : Prop where
  out : wpQuiet P ops C Q l a
theorem qt_nil (h : Q a) : Qt P ops C Q [] a := ⟨wpQuiet_nil h⟩
theorem qt_want (hw : Region.wanted o (yielded ops a.tmps) = true) (h : ∀ K : Act → Prop, (∀ a, Qt P ops C Q rest a → K a) → o.quiet P a C K) : Qt P ops C Q (o :: rest) a :=
  ⟨wpQuiet_step fun K hK => by rw [if_pos hw]; exact h K fun a ha => hK a ha.out⟩
theorem qt_skip (hw : Region.wanted o (yielded ops a.tmps) = false) (h : Qt P ops C Q rest (a.put o.dst undef)) : Qt P ops C Q (o :: rest) a :=
  ⟨wpQuiet_step fun K hK => by rw [if_neg (by rw [hw]; exact Bool.false_ne_true)]; exact hK _ h.out⟩
theorem regrown_same {f : FuncId} {args : Array Value} {w : World} {d : Nat} {os : Array Obj} {v : Value}
    (h : Calls P f args (grow (redrawn w d) os) fun e w' => e = .returned v ∧ grow (redrawn w d) os = w') : Calls P f args (grow (redrawn w d) os) fun e w'' => e = .returned v ∧ ∃ p : Regrown, w'' = grow (redrawn w p.d) p.os :=
  h.mono fun _ _ ⟨he, hb⟩ => ⟨he, ⟨d, os⟩, hb.symm⟩
theorem ints_regrown {w : World} {x : Option Addr} {xs : List Int} (h : IntsAt w x xs) (d : Nat) (os : Array Obj) : IntsAt (grow (redrawn w d) os) x xs := h.below (below_regrown w d os)
end Go.Proofs.YtphcgggohfbmfaaDoor
