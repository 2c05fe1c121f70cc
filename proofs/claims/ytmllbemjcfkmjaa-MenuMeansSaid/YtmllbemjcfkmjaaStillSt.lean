/- A region's head that only reads, walked in the text's order, guards and all: the goal wrapped so that it is not unfolded. -/
import Derived.StillTailTactics
import Derived.WalkKit
namespace Go.Proofs.Ytmllbemjcfkmjaa
variable {P : Program} {ops : Array Oper} {w : World} {Q : Act → Prop} {a : Act} {o : Oper} {rest : List Oper}
structure St (P : Program) (ops : Array Oper) (w : World) (Q : Act → Prop) (l : List Oper) (a : Act) : Prop where
  out : wpStill P ops w Q l a
theorem st_nil (h : Q a) : St P ops w Q [] a := ⟨wpStill_nil h⟩
theorem st_want (hw : Region.wanted o (yielded ops a.tmps) = true) (h : ∀ K : Act → Prop, (∀ a, St P ops w Q rest a → K a) → o.still P a w K) : St P ops w Q (o :: rest) a :=
  ⟨wpStill_step fun K hK => by rw [if_pos hw]; exact h K fun a ha => hK a ha.out⟩
theorem st_skip (hw : Region.wanted o (yielded ops a.tmps) = false) (h : St P ops w Q rest (a.put o.dst undef)) : St P ops w Q (o :: rest) a :=
  ⟨wpStill_step fun K hK => by rw [if_neg (by rw [hw]; exact Bool.false_ne_true)]; exact hK _ h.out⟩
end Go.Proofs.Ytmllbemjcfkmjaa
