/-
  No cell of these rows narrows 'for every input' (looked for: loops, veiled, ifaces, maps, wideKeys, modest, calm, conditions, laid).
  DERIVED. THE GIVEN ROWS OF THIS SEAT. 14 by the template 'for every input the law returns true; each argument reads behind the call as it read before'; 0 by the template 'total and deterministic' (their statements: YtedgndangamkaaaTotals.lean).
  GIVEN WITH THE SEED: the statements are not yours to turn. If you find one false, say at which input.
  Laid BY PROGRAM, IN A SANDBOX (cutbox-rows.mjs): the forced cells as the released guide's own fill.sh prints them over the translation 7e3b376bc763f979… (all of the seat's roots in one cut). By AI agents, Wed Nov 11 2026. No macro, syntax, notation, axiom, sorry.
-/
import Derived.Test.YtedgndangamkaaaChecked
import GoSem.Claim
import GoSem.ClaimJoined
import GoSem.ClaimMapViews
import Derived.JoinedTies
import Derived.KernelRfl
namespace Go.Proofs.Ytedgndangamkaaa
/- THE CELL 'sum', in the pinned program and in every row, IS THE sha256 OF THE DUMP (.gsa) THAT YtedgndangamkaaaProg.lean LOADS. Nothing in Lean hashes anything: it is a label: what it is worth is what the hold of that sum in a sandbox is worth. -/
noncomputable def Try.pinned : Pinned := { name := "ytedgndangamkaaa", sum := "7e3b376bc763f979b97183aff997db283d4509e7ea9118f6b012fb7eefd09fb5", checked := Try.checked }
namespace Rows
def none {H : Type} : Left H := { results := [], args := [] }

/-- 'canteenlaw06.GuessBounds': WHATEVER THE INPUT: true; the input reads as it did. -/
def guessBoundsSpec : ChangeSpec := { name := "guessBounds", fn := fun _ => fun
  | [d1, d2] => { results := [.lit (.bool true)], args := [d1, d2] }
  | _ => none }
def guessBoundsRow : OpenClaim := { program := "ytedgndangamkaaa", sum := "7e3b376bc763f979b97183aff997db283d4509e7ea9118f6b012fb7eefd09fb5", func := "canteen/canteenlaw06.GuessBounds", spec := "guessBounds", apart := false }
def GuessBoundsSaid : Prop := guessBoundsRow.holds Try.pinned (OpenSpec.ofChange guessBoundsSpec)

/-- ITS FALSE NEIGHBOUR: 'it returns false'. Refute it at one input. -/
def guessBoundsWrong : ChangeSpec := { name := "guessBounds", fn := fun _ => fun
  | [d1, d2] => { results := [.lit (.bool false)], args := [d1, d2] }
  | _ => none }
def GuessBoundsWrongFalsely : Prop := guessBoundsRow.holds Try.pinned (OpenSpec.ofChange guessBoundsWrong)

/-- 'canteenlaw06.GuessQuantities': WHATEVER THE INPUT: true; the input reads as it did. -/
def guessQuantitiesSpec : ChangeSpec := { name := "guessQuantities", fn := fun _ => fun
  | [d1, d2, d3] => { results := [.lit (.bool true)], args := [d1, d2, d3] }
  | _ => none }
def guessQuantitiesRow : OpenClaim := { program := "ytedgndangamkaaa", sum := "7e3b376bc763f979b97183aff997db283d4509e7ea9118f6b012fb7eefd09fb5", func := "canteen/canteenlaw06.GuessQuantities", spec := "guessQuantities", apart := false }
def GuessQuantitiesSaid : Prop := guessQuantitiesRow.holds Try.pinned (OpenSpec.ofChange guessQuantitiesSpec)

/-- ITS FALSE NEIGHBOUR: 'it returns false'. Refute it at one input. -/
def guessQuantitiesWrong : ChangeSpec := { name := "guessQuantities", fn := fun _ => fun
  | [d1, d2, d3] => { results := [.lit (.bool false)], args := [d1, d2, d3] }
  | _ => none }
def GuessQuantitiesWrongFalsely : Prop := guessQuantitiesRow.holds Try.pinned (OpenSpec.ofChange guessQuantitiesWrong)

/-- 'canteenlaw06.GuessTails': WHATEVER THE INPUT: true; the input reads as it did. -/
def guessTailsSpec : ChangeSpec := { name := "guessTails", fn := fun _ => fun
  | [d1, d2] => { results := [.lit (.bool true)], args := [d1, d2] }
  | _ => none }
def guessTailsRow : OpenClaim := { program := "ytedgndangamkaaa", sum := "7e3b376bc763f979b97183aff997db283d4509e7ea9118f6b012fb7eefd09fb5", func := "canteen/canteenlaw06.GuessTails", spec := "guessTails", apart := false }
def GuessTailsSaid : Prop := guessTailsRow.holds Try.pinned (OpenSpec.ofChange guessTailsSpec)

/-- ITS FALSE NEIGHBOUR: 'it returns false'. Refute it at one input. -/
def guessTailsWrong : ChangeSpec := { name := "guessTails", fn := fun _ => fun
  | [d1, d2] => { results := [.lit (.bool false)], args := [d1, d2] }
  | _ => none }
def GuessTailsWrongFalsely : Prop := guessTailsRow.holds Try.pinned (OpenSpec.ofChange guessTailsWrong)

/-- 'canteenlaw06.GuessCosts': WHATEVER THE INPUT: true; the input reads as it did. -/
def guessCostsSpec : ChangeSpec := { name := "guessCosts", fn := fun _ => fun
  | [d1, d2, d3] => { results := [.lit (.bool true)], args := [d1, d2, d3] }
  | _ => none }
def guessCostsRow : OpenClaim := { program := "ytedgndangamkaaa", sum := "7e3b376bc763f979b97183aff997db283d4509e7ea9118f6b012fb7eefd09fb5", func := "canteen/canteenlaw06.GuessCosts", spec := "guessCosts", apart := false }
def GuessCostsSaid : Prop := guessCostsRow.holds Try.pinned (OpenSpec.ofChange guessCostsSpec)

/-- ITS FALSE NEIGHBOUR: 'it returns false'. Refute it at one input. -/
def guessCostsWrong : ChangeSpec := { name := "guessCosts", fn := fun _ => fun
  | [d1, d2, d3] => { results := [.lit (.bool false)], args := [d1, d2, d3] }
  | _ => none }
def GuessCostsWrongFalsely : Prop := guessCostsRow.holds Try.pinned (OpenSpec.ofChange guessCostsWrong)

/-- 'canteenlaw06.GuessMargins': WHATEVER THE INPUT: true; the input reads as it did. -/
def guessMarginsSpec : ChangeSpec := { name := "guessMargins", fn := fun _ => fun
  | [d1, d2, d3] => { results := [.lit (.bool true)], args := [d1, d2, d3] }
  | _ => none }
def guessMarginsRow : OpenClaim := { program := "ytedgndangamkaaa", sum := "7e3b376bc763f979b97183aff997db283d4509e7ea9118f6b012fb7eefd09fb5", func := "canteen/canteenlaw06.GuessMargins", spec := "guessMargins", apart := false }
def GuessMarginsSaid : Prop := guessMarginsRow.holds Try.pinned (OpenSpec.ofChange guessMarginsSpec)

/-- ITS FALSE NEIGHBOUR: 'it returns false'. Refute it at one input. -/
def guessMarginsWrong : ChangeSpec := { name := "guessMargins", fn := fun _ => fun
  | [d1, d2, d3] => { results := [.lit (.bool false)], args := [d1, d2, d3] }
  | _ => none }
def GuessMarginsWrongFalsely : Prop := guessMarginsRow.holds Try.pinned (OpenSpec.ofChange guessMarginsWrong)

/-- 'canteenlaw06.GuessWorse': WHATEVER THE INPUT: true; the input reads as it did. -/
def guessWorseSpec : ChangeSpec := { name := "guessWorse", fn := fun _ => fun
  | [d1, d2, d3] => { results := [.lit (.bool true)], args := [d1, d2, d3] }
  | _ => none }
def guessWorseRow : OpenClaim := { program := "ytedgndangamkaaa", sum := "7e3b376bc763f979b97183aff997db283d4509e7ea9118f6b012fb7eefd09fb5", func := "canteen/canteenlaw06.GuessWorse", spec := "guessWorse", apart := false }
def GuessWorseSaid : Prop := guessWorseRow.holds Try.pinned (OpenSpec.ofChange guessWorseSpec)

/-- ITS FALSE NEIGHBOUR: 'it returns false'. Refute it at one input. -/
def guessWorseWrong : ChangeSpec := { name := "guessWorse", fn := fun _ => fun
  | [d1, d2, d3] => { results := [.lit (.bool false)], args := [d1, d2, d3] }
  | _ => none }
def GuessWorseWrongFalsely : Prop := guessWorseRow.holds Try.pinned (OpenSpec.ofChange guessWorseWrong)

/-- 'canteenlaw06.GuessSmooths': WHATEVER THE INPUT: true; the input reads as it did. -/
def guessSmoothsSpec : ChangeSpec := { name := "guessSmooths", fn := fun _ => fun
  | [d1, d2, d3] => { results := [.lit (.bool true)], args := [d1, d2, d3] }
  | _ => none }
def guessSmoothsRow : OpenClaim := { program := "ytedgndangamkaaa", sum := "7e3b376bc763f979b97183aff997db283d4509e7ea9118f6b012fb7eefd09fb5", func := "canteen/canteenlaw06.GuessSmooths", spec := "guessSmooths", apart := false }
def GuessSmoothsSaid : Prop := guessSmoothsRow.holds Try.pinned (OpenSpec.ofChange guessSmoothsSpec)

/-- ITS FALSE NEIGHBOUR: 'it returns false'. Refute it at one input. -/
def guessSmoothsWrong : ChangeSpec := { name := "guessSmooths", fn := fun _ => fun
  | [d1, d2, d3] => { results := [.lit (.bool false)], args := [d1, d2, d3] }
  | _ => none }
def GuessSmoothsWrongFalsely : Prop := guessSmoothsRow.holds Try.pinned (OpenSpec.ofChange guessSmoothsWrong)

/-- 'canteenlaw06.GuessHalves': WHATEVER THE INPUT: true; the input reads as it did. -/
def guessHalvesSpec : ChangeSpec := { name := "guessHalves", fn := fun _ => fun
  | [d] => { results := [.lit (.bool true)], args := [d] }
  | _ => none }
def guessHalvesRow : OpenClaim := { program := "ytedgndangamkaaa", sum := "7e3b376bc763f979b97183aff997db283d4509e7ea9118f6b012fb7eefd09fb5", func := "canteen/canteenlaw06.GuessHalves", spec := "guessHalves", unfollowed := true, recurses := true, apart := false }
def GuessHalvesSaid : Prop := guessHalvesRow.holds Try.pinned (OpenSpec.ofChange guessHalvesSpec)

/-- ITS FALSE NEIGHBOUR: 'it returns false'. Refute it at one input. -/
def guessHalvesWrong : ChangeSpec := { name := "guessHalves", fn := fun _ => fun
  | [d] => { results := [.lit (.bool false)], args := [d] }
  | _ => none }
def GuessHalvesWrongFalsely : Prop := guessHalvesRow.holds Try.pinned (OpenSpec.ofChange guessHalvesWrong)

/-- 'canteenlaw06.GuessSays': WHATEVER THE INPUT: true; the input reads as it did. -/
def guessSaysSpec : ChangeSpec := { name := "guessSays", fn := fun _ => fun
  | [d1, d2] => { results := [.lit (.bool true)], args := [d1, d2] }
  | _ => none }
def guessSaysRow : OpenClaim := { program := "ytedgndangamkaaa", sum := "7e3b376bc763f979b97183aff997db283d4509e7ea9118f6b012fb7eefd09fb5", func := "canteen/canteenlaw06.GuessSays", spec := "guessSays", apart := false }
def GuessSaysSaid : Prop := guessSaysRow.holds Try.pinned (OpenSpec.ofChange guessSaysSpec)

/-- ITS FALSE NEIGHBOUR: 'it returns false'. Refute it at one input. -/
def guessSaysWrong : ChangeSpec := { name := "guessSays", fn := fun _ => fun
  | [d1, d2] => { results := [.lit (.bool false)], args := [d1, d2] }
  | _ => none }
def GuessSaysWrongFalsely : Prop := guessSaysRow.holds Try.pinned (OpenSpec.ofChange guessSaysWrong)

/-- 'canteenlaw06.GuessTogether': WHATEVER THE INPUT: true; the input reads as it did. -/
def guessTogetherSpec : ChangeSpec := { name := "guessTogether", fn := fun _ => fun
  | [d1, d2, d3] => { results := [.lit (.bool true)], args := [d1, d2, d3] }
  | _ => none }
def guessTogetherRow : OpenClaim := { program := "ytedgndangamkaaa", sum := "7e3b376bc763f979b97183aff997db283d4509e7ea9118f6b012fb7eefd09fb5", func := "canteen/canteenlaw06.GuessTogether", spec := "guessTogether", apart := false }
def GuessTogetherSaid : Prop := guessTogetherRow.holds Try.pinned (OpenSpec.ofChange guessTogetherSpec)

/-- ITS FALSE NEIGHBOUR: 'it returns false'. Refute it at one input. -/
def guessTogetherWrong : ChangeSpec := { name := "guessTogether", fn := fun _ => fun
  | [d1, d2, d3] => { results := [.lit (.bool false)], args := [d1, d2, d3] }
  | _ => none }
def GuessTogetherWrongFalsely : Prop := guessTogetherRow.holds Try.pinned (OpenSpec.ofChange guessTogetherWrong)

/-- 'canteenlaw06.GuessPrefixes': WHATEVER THE INPUT: true; the input reads as it did. -/
def guessPrefixesSpec : ChangeSpec := { name := "guessPrefixes", fn := fun _ => fun
  | [d1, d2] => { results := [.lit (.bool true)], args := [d1, d2] }
  | _ => none }
def guessPrefixesRow : OpenClaim := { program := "ytedgndangamkaaa", sum := "7e3b376bc763f979b97183aff997db283d4509e7ea9118f6b012fb7eefd09fb5", func := "canteen/canteenlaw06.GuessPrefixes", spec := "guessPrefixes", apart := false }
def GuessPrefixesSaid : Prop := guessPrefixesRow.holds Try.pinned (OpenSpec.ofChange guessPrefixesSpec)

/-- ITS FALSE NEIGHBOUR: 'it returns false'. Refute it at one input. -/
def guessPrefixesWrong : ChangeSpec := { name := "guessPrefixes", fn := fun _ => fun
  | [d1, d2] => { results := [.lit (.bool false)], args := [d1, d2] }
  | _ => none }
def GuessPrefixesWrongFalsely : Prop := guessPrefixesRow.holds Try.pinned (OpenSpec.ofChange guessPrefixesWrong)

/-- 'canteenlaw06.GuessAdvisers': WHATEVER THE INPUT: true; the input reads as it did. -/
def guessAdvisersSpec : ChangeSpec := { name := "guessAdvisers", fn := fun _ => fun
  | [d1, d2] => { results := [.lit (.bool true)], args := [d1, d2] }
  | _ => none }
def guessAdvisersRow : OpenClaim := { program := "ytedgndangamkaaa", sum := "7e3b376bc763f979b97183aff997db283d4509e7ea9118f6b012fb7eefd09fb5", func := "canteen/canteenlaw06.GuessAdvisers", spec := "guessAdvisers", apart := false }
def GuessAdvisersSaid : Prop := guessAdvisersRow.holds Try.pinned (OpenSpec.ofChange guessAdvisersSpec)

/-- ITS FALSE NEIGHBOUR: 'it returns false'. Refute it at one input. -/
def guessAdvisersWrong : ChangeSpec := { name := "guessAdvisers", fn := fun _ => fun
  | [d1, d2] => { results := [.lit (.bool false)], args := [d1, d2] }
  | _ => none }
def GuessAdvisersWrongFalsely : Prop := guessAdvisersRow.holds Try.pinned (OpenSpec.ofChange guessAdvisersWrong)

/-- 'canteenlaw06.GuessNeverWorse': WHATEVER THE INPUT: true; the input reads as it did. -/
def guessNeverWorseSpec : ChangeSpec := { name := "guessNeverWorse", fn := fun _ => fun
  | [d] => { results := [.lit (.bool true)], args := [d] }
  | _ => none }
def guessNeverWorseRow : OpenClaim := { program := "ytedgndangamkaaa", sum := "7e3b376bc763f979b97183aff997db283d4509e7ea9118f6b012fb7eefd09fb5", func := "canteen/canteenlaw06.GuessNeverWorse", spec := "guessNeverWorse", apart := false }
def GuessNeverWorseSaid : Prop := guessNeverWorseRow.holds Try.pinned (OpenSpec.ofChange guessNeverWorseSpec)

/-- ITS FALSE NEIGHBOUR: 'it returns false'. Refute it at one input. -/
def guessNeverWorseWrong : ChangeSpec := { name := "guessNeverWorse", fn := fun _ => fun
  | [d] => { results := [.lit (.bool false)], args := [d] }
  | _ => none }
def GuessNeverWorseWrongFalsely : Prop := guessNeverWorseRow.holds Try.pinned (OpenSpec.ofChange guessNeverWorseWrong)

/-- 'canteentop.TopGuess': WHATEVER THE INPUT: true; the input reads as it did. -/
def topGuessSpec : ChangeSpec := { name := "topGuess", fn := fun _ => fun
  | [d1, d2, d3] => { results := [.lit (.bool true)], args := [d1, d2, d3] }
  | _ => none }
def topGuessRow : OpenClaim := { program := "ytedgndangamkaaa", sum := "7e3b376bc763f979b97183aff997db283d4509e7ea9118f6b012fb7eefd09fb5", func := "canteen/canteentop.TopGuess", spec := "topGuess", apart := false }
def TopGuessSaid : Prop := topGuessRow.holds Try.pinned (OpenSpec.ofChange topGuessSpec)

/-- ITS FALSE NEIGHBOUR: 'it returns false'. Refute it at one input. -/
def topGuessWrong : ChangeSpec := { name := "topGuess", fn := fun _ => fun
  | [d1, d2, d3] => { results := [.lit (.bool false)], args := [d1, d2, d3] }
  | _ => none }
def TopGuessWrongFalsely : Prop := topGuessRow.holds Try.pinned (OpenSpec.ofChange topGuessWrong)

/- THE SECOND FORM. 'bulk': how many values and letters a reading holds, each counted each time it is reached (what is shared counts as often as it is met; a slice's spare places count too). A statement '..UptoSaid' is the law's where the arguments, and the package variables that the reading takes, are together of bulk at most 1048576: NARROWER than '..Said'. Prove '..Said' where nothing that the law and all that it calls make is longer than what came in: it says more and counts as full. Else prove '..UptoSaid'. A law counts once. -/
mutual
def uptoBulk {H : Type} : DataW H → Nat
  | .lit (.string bytes) => bytes.length + 1
  | .lit _ => 1
  | .nil => 1
  | .ptr d => uptoBulk d + 1
  | .slice elems spare => uptoBulkAll elems + uptoBulkAll spare + 1
  | .agg parts => uptoBulkAll parts + 1
  | .iface _ d => uptoBulk d + 1
  | .map entries => uptoBulkEntries entries + 1
  | .held _ => 1
def uptoBulkAll {H : Type} : List (DataW H) → Nat
  | [] => 0
  | d :: r => uptoBulk d + uptoBulkAll r
def uptoBulkEntries {H : Type} : List (Lit × DataW H) → Nat
  | [] => 0
  | x :: r => uptoBulkEntry x + uptoBulkEntries r
def uptoBulkEntry {H : Type} : Lit × DataW H → Nat
  | (.string bytes, d) => bytes.length + uptoBulk d + 1
  | (_, d) => uptoBulk d + 1
 end
def uptoSmall : (H : Type) → List (DataW H) → Bool := fun _ ds => decide (uptoBulkAll ds ≤ 1048576)
def OpenSpec.upto (s : _root_.Go.ChangeSpec) : _root_.Go.OpenSpec := { _root_.Go.OpenSpec.ofChange s with cond := some uptoSmall }

/-- 'canteenlaw06.GuessBounds', WHERE WHAT IT READS IS OF BULK AT MOST 1048576: true; the input reads as it did. -/
def guessBoundsUptoRow : OpenClaim := { program := "ytedgndangamkaaa", sum := "7e3b376bc763f979b97183aff997db283d4509e7ea9118f6b012fb7eefd09fb5", func := "canteen/canteenlaw06.GuessBounds", spec := "guessBounds", apart := false, narrowed := true }
def GuessBoundsUptoSaid : Prop := guessBoundsUptoRow.holds Try.pinned (OpenSpec.upto guessBoundsSpec)

/-- 'canteenlaw06.GuessQuantities', WHERE WHAT IT READS IS OF BULK AT MOST 1048576: true; the input reads as it did. -/
def guessQuantitiesUptoRow : OpenClaim := { program := "ytedgndangamkaaa", sum := "7e3b376bc763f979b97183aff997db283d4509e7ea9118f6b012fb7eefd09fb5", func := "canteen/canteenlaw06.GuessQuantities", spec := "guessQuantities", apart := false, narrowed := true }
def GuessQuantitiesUptoSaid : Prop := guessQuantitiesUptoRow.holds Try.pinned (OpenSpec.upto guessQuantitiesSpec)

/-- 'canteenlaw06.GuessTails', WHERE WHAT IT READS IS OF BULK AT MOST 1048576: true; the input reads as it did. -/
def guessTailsUptoRow : OpenClaim := { program := "ytedgndangamkaaa", sum := "7e3b376bc763f979b97183aff997db283d4509e7ea9118f6b012fb7eefd09fb5", func := "canteen/canteenlaw06.GuessTails", spec := "guessTails", apart := false, narrowed := true }
def GuessTailsUptoSaid : Prop := guessTailsUptoRow.holds Try.pinned (OpenSpec.upto guessTailsSpec)

/-- 'canteenlaw06.GuessCosts', WHERE WHAT IT READS IS OF BULK AT MOST 1048576: true; the input reads as it did. -/
def guessCostsUptoRow : OpenClaim := { program := "ytedgndangamkaaa", sum := "7e3b376bc763f979b97183aff997db283d4509e7ea9118f6b012fb7eefd09fb5", func := "canteen/canteenlaw06.GuessCosts", spec := "guessCosts", apart := false, narrowed := true }
def GuessCostsUptoSaid : Prop := guessCostsUptoRow.holds Try.pinned (OpenSpec.upto guessCostsSpec)

/-- 'canteenlaw06.GuessMargins', WHERE WHAT IT READS IS OF BULK AT MOST 1048576: true; the input reads as it did. -/
def guessMarginsUptoRow : OpenClaim := { program := "ytedgndangamkaaa", sum := "7e3b376bc763f979b97183aff997db283d4509e7ea9118f6b012fb7eefd09fb5", func := "canteen/canteenlaw06.GuessMargins", spec := "guessMargins", apart := false, narrowed := true }
def GuessMarginsUptoSaid : Prop := guessMarginsUptoRow.holds Try.pinned (OpenSpec.upto guessMarginsSpec)

/-- 'canteenlaw06.GuessWorse', WHERE WHAT IT READS IS OF BULK AT MOST 1048576: true; the input reads as it did. -/
def guessWorseUptoRow : OpenClaim := { program := "ytedgndangamkaaa", sum := "7e3b376bc763f979b97183aff997db283d4509e7ea9118f6b012fb7eefd09fb5", func := "canteen/canteenlaw06.GuessWorse", spec := "guessWorse", apart := false, narrowed := true }
def GuessWorseUptoSaid : Prop := guessWorseUptoRow.holds Try.pinned (OpenSpec.upto guessWorseSpec)

/-- 'canteenlaw06.GuessSmooths', WHERE WHAT IT READS IS OF BULK AT MOST 1048576: true; the input reads as it did. -/
def guessSmoothsUptoRow : OpenClaim := { program := "ytedgndangamkaaa", sum := "7e3b376bc763f979b97183aff997db283d4509e7ea9118f6b012fb7eefd09fb5", func := "canteen/canteenlaw06.GuessSmooths", spec := "guessSmooths", apart := false, narrowed := true }
def GuessSmoothsUptoSaid : Prop := guessSmoothsUptoRow.holds Try.pinned (OpenSpec.upto guessSmoothsSpec)

/-- 'canteenlaw06.GuessHalves', WHERE WHAT IT READS IS OF BULK AT MOST 1048576: true; the input reads as it did. -/
def guessHalvesUptoRow : OpenClaim := { program := "ytedgndangamkaaa", sum := "7e3b376bc763f979b97183aff997db283d4509e7ea9118f6b012fb7eefd09fb5", func := "canteen/canteenlaw06.GuessHalves", spec := "guessHalves", unfollowed := true, recurses := true, apart := false, narrowed := true }
def GuessHalvesUptoSaid : Prop := guessHalvesUptoRow.holds Try.pinned (OpenSpec.upto guessHalvesSpec)

/-- 'canteenlaw06.GuessSays', WHERE WHAT IT READS IS OF BULK AT MOST 1048576: true; the input reads as it did. -/
def guessSaysUptoRow : OpenClaim := { program := "ytedgndangamkaaa", sum := "7e3b376bc763f979b97183aff997db283d4509e7ea9118f6b012fb7eefd09fb5", func := "canteen/canteenlaw06.GuessSays", spec := "guessSays", apart := false, narrowed := true }
def GuessSaysUptoSaid : Prop := guessSaysUptoRow.holds Try.pinned (OpenSpec.upto guessSaysSpec)

/-- 'canteenlaw06.GuessTogether', WHERE WHAT IT READS IS OF BULK AT MOST 1048576: true; the input reads as it did. -/
def guessTogetherUptoRow : OpenClaim := { program := "ytedgndangamkaaa", sum := "7e3b376bc763f979b97183aff997db283d4509e7ea9118f6b012fb7eefd09fb5", func := "canteen/canteenlaw06.GuessTogether", spec := "guessTogether", apart := false, narrowed := true }
def GuessTogetherUptoSaid : Prop := guessTogetherUptoRow.holds Try.pinned (OpenSpec.upto guessTogetherSpec)

/-- 'canteenlaw06.GuessPrefixes', WHERE WHAT IT READS IS OF BULK AT MOST 1048576: true; the input reads as it did. -/
def guessPrefixesUptoRow : OpenClaim := { program := "ytedgndangamkaaa", sum := "7e3b376bc763f979b97183aff997db283d4509e7ea9118f6b012fb7eefd09fb5", func := "canteen/canteenlaw06.GuessPrefixes", spec := "guessPrefixes", apart := false, narrowed := true }
def GuessPrefixesUptoSaid : Prop := guessPrefixesUptoRow.holds Try.pinned (OpenSpec.upto guessPrefixesSpec)

/-- 'canteenlaw06.GuessAdvisers', WHERE WHAT IT READS IS OF BULK AT MOST 1048576: true; the input reads as it did. -/
def guessAdvisersUptoRow : OpenClaim := { program := "ytedgndangamkaaa", sum := "7e3b376bc763f979b97183aff997db283d4509e7ea9118f6b012fb7eefd09fb5", func := "canteen/canteenlaw06.GuessAdvisers", spec := "guessAdvisers", apart := false, narrowed := true }
def GuessAdvisersUptoSaid : Prop := guessAdvisersUptoRow.holds Try.pinned (OpenSpec.upto guessAdvisersSpec)

/-- 'canteenlaw06.GuessNeverWorse', WHERE WHAT IT READS IS OF BULK AT MOST 1048576: true; the input reads as it did. -/
def guessNeverWorseUptoRow : OpenClaim := { program := "ytedgndangamkaaa", sum := "7e3b376bc763f979b97183aff997db283d4509e7ea9118f6b012fb7eefd09fb5", func := "canteen/canteenlaw06.GuessNeverWorse", spec := "guessNeverWorse", apart := false, narrowed := true }
def GuessNeverWorseUptoSaid : Prop := guessNeverWorseUptoRow.holds Try.pinned (OpenSpec.upto guessNeverWorseSpec)

/-- 'canteentop.TopGuess', WHERE WHAT IT READS IS OF BULK AT MOST 1048576: true; the input reads as it did. -/
def topGuessUptoRow : OpenClaim := { program := "ytedgndangamkaaa", sum := "7e3b376bc763f979b97183aff997db283d4509e7ea9118f6b012fb7eefd09fb5", func := "canteen/canteentop.TopGuess", spec := "topGuess", apart := false, narrowed := true }
def TopGuessUptoSaid : Prop := topGuessUptoRow.holds Try.pinned (OpenSpec.upto topGuessSpec)

end Rows
end Go.Proofs.Ytedgndangamkaaa
