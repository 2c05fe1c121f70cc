/-
  No cell of these rows narrows 'for every input' (looked for: loops, veiled, ifaces, maps, wideKeys, modest, calm, conditions, laid).
  DERIVED. THE GIVEN ROWS OF THIS SEAT. 15 by the template 'for every input the law returns true; each argument reads behind the call as it read before'; 0 by the template 'total and deterministic' (their statements: YtmllbemjcfkmjaaTotals.lean).
  GIVEN WITH THE SEED: the statements are not yours to turn. If you find one false, say at which input.
  Laid BY PROGRAM, IN A SANDBOX (cutbox-rows.mjs): the forced cells as the released guide's own fill.sh prints them over the translation 0f5844fbc7fc56a8… (all of the seat's roots in one cut). By AI agents, Wed Nov 11 2026. No macro, syntax, notation, axiom, sorry.
-/
import Derived.Test.YtmllbemjcfkmjaaChecked
import GoSem.Claim
import GoSem.ClaimJoined
import GoSem.ClaimMapViews
import Derived.JoinedTies
import Derived.KernelRfl
namespace Go.Proofs.Ytmllbemjcfkmjaa
/- THE CELL 'sum', in the pinned program and in every row, IS THE sha256 OF THE DUMP (.gsa) THAT YtmllbemjcfkmjaaProg.lean LOADS. Nothing in Lean hashes anything: it is a label: what it is worth is what the hold of that sum in a sandbox is worth. -/
noncomputable def Try.pinned : Pinned := { name := "ytmllbemjcfkmjaa", sum := "0f5844fbc7fc56a8ad39f6eafee7dfe00c371f5dcfde1147af098aee765965fa", checked := Try.checked }
namespace Rows
def none {H : Type} : Left H := { results := [], args := [] }

/-- 'canteenlaw03.MenuPlains': WHATEVER THE INPUT: true; the input reads as it did. -/
def menuPlainsSpec : ChangeSpec := { name := "menuPlains", fn := fun _ => fun
  | [d] => { results := [.lit (.bool true)], args := [d] }
  | _ => none }
def menuPlainsRow : OpenClaim := { program := "ytmllbemjcfkmjaa", sum := "0f5844fbc7fc56a8ad39f6eafee7dfe00c371f5dcfde1147af098aee765965fa", func := "canteen/canteenlaw03.MenuPlains", spec := "menuPlains", unfollowed := true, recurses := true, plainKeys := false, apart := false }
def MenuPlainsSaid : Prop := menuPlainsRow.holds Try.pinned (OpenSpec.ofChange menuPlainsSpec)

/-- ITS FALSE NEIGHBOUR: 'it returns false'. Refute it at one input. -/
def menuPlainsWrong : ChangeSpec := { name := "menuPlains", fn := fun _ => fun
  | [d] => { results := [.lit (.bool false)], args := [d] }
  | _ => none }
def MenuPlainsWrongFalsely : Prop := menuPlainsRow.holds Try.pinned (OpenSpec.ofChange menuPlainsWrong)

/-- 'canteenlaw03.MenuAccepts': WHATEVER THE INPUT: true; the input reads as it did. -/
def menuAcceptsSpec : ChangeSpec := { name := "menuAccepts", fn := fun _ => fun
  | [d1, d2] => { results := [.lit (.bool true)], args := [d1, d2] }
  | _ => none }
def menuAcceptsRow : OpenClaim := { program := "ytmllbemjcfkmjaa", sum := "0f5844fbc7fc56a8ad39f6eafee7dfe00c371f5dcfde1147af098aee765965fa", func := "canteen/canteenlaw03.MenuAccepts", spec := "menuAccepts", unfollowed := true, recurses := true, plainKeys := false, apart := false }
def MenuAcceptsSaid : Prop := menuAcceptsRow.holds Try.pinned (OpenSpec.ofChange menuAcceptsSpec)

/-- ITS FALSE NEIGHBOUR: 'it returns false'. Refute it at one input. -/
def menuAcceptsWrong : ChangeSpec := { name := "menuAccepts", fn := fun _ => fun
  | [d1, d2] => { results := [.lit (.bool false)], args := [d1, d2] }
  | _ => none }
def MenuAcceptsWrongFalsely : Prop := menuAcceptsRow.holds Try.pinned (OpenSpec.ofChange menuAcceptsWrong)

/-- 'canteenlaw03.MenuRanks': WHATEVER THE INPUT: true; the input reads as it did. -/
def menuRanksSpec : ChangeSpec := { name := "menuRanks", fn := fun _ => fun
  | [d1, d2] => { results := [.lit (.bool true)], args := [d1, d2] }
  | _ => none }
def menuRanksRow : OpenClaim := { program := "ytmllbemjcfkmjaa", sum := "0f5844fbc7fc56a8ad39f6eafee7dfe00c371f5dcfde1147af098aee765965fa", func := "canteen/canteenlaw03.MenuRanks", spec := "menuRanks", unfollowed := true, recurses := true, plainKeys := false, apart := false }
def MenuRanksSaid : Prop := menuRanksRow.holds Try.pinned (OpenSpec.ofChange menuRanksSpec)

/-- ITS FALSE NEIGHBOUR: 'it returns false'. Refute it at one input. -/
def menuRanksWrong : ChangeSpec := { name := "menuRanks", fn := fun _ => fun
  | [d1, d2] => { results := [.lit (.bool false)], args := [d1, d2] }
  | _ => none }
def MenuRanksWrongFalsely : Prop := menuRanksRow.holds Try.pinned (OpenSpec.ofChange menuRanksWrong)

/-- 'canteenlaw03.MenuUnranks': WHATEVER THE INPUT: true; the input reads as it did. -/
def menuUnranksSpec : ChangeSpec := { name := "menuUnranks", fn := fun _ => fun
  | [d1, d2] => { results := [.lit (.bool true)], args := [d1, d2] }
  | _ => none }
def menuUnranksRow : OpenClaim := { program := "ytmllbemjcfkmjaa", sum := "0f5844fbc7fc56a8ad39f6eafee7dfe00c371f5dcfde1147af098aee765965fa", func := "canteen/canteenlaw03.MenuUnranks", spec := "menuUnranks", unfollowed := true, recurses := true, plainKeys := false, apart := false }
def MenuUnranksSaid : Prop := menuUnranksRow.holds Try.pinned (OpenSpec.ofChange menuUnranksSpec)

/-- ITS FALSE NEIGHBOUR: 'it returns false'. Refute it at one input. -/
def menuUnranksWrong : ChangeSpec := { name := "menuUnranks", fn := fun _ => fun
  | [d1, d2] => { results := [.lit (.bool false)], args := [d1, d2] }
  | _ => none }
def MenuUnranksWrongFalsely : Prop := menuUnranksRow.holds Try.pinned (OpenSpec.ofChange menuUnranksWrong)

/-- 'canteenlaw03.MenuRounds': WHATEVER THE INPUT: true; the input reads as it did. -/
def menuRoundsSpec : ChangeSpec := { name := "menuRounds", fn := fun _ => fun
  | [d1, d2] => { results := [.lit (.bool true)], args := [d1, d2] }
  | _ => none }
def menuRoundsRow : OpenClaim := { program := "ytmllbemjcfkmjaa", sum := "0f5844fbc7fc56a8ad39f6eafee7dfe00c371f5dcfde1147af098aee765965fa", func := "canteen/canteenlaw03.MenuRounds", spec := "menuRounds", unfollowed := true, recurses := true, plainKeys := false, apart := false }
def MenuRoundsSaid : Prop := menuRoundsRow.holds Try.pinned (OpenSpec.ofChange menuRoundsSpec)

/-- ITS FALSE NEIGHBOUR: 'it returns false'. Refute it at one input. -/
def menuRoundsWrong : ChangeSpec := { name := "menuRounds", fn := fun _ => fun
  | [d1, d2] => { results := [.lit (.bool false)], args := [d1, d2] }
  | _ => none }
def MenuRoundsWrongFalsely : Prop := menuRoundsRow.holds Try.pinned (OpenSpec.ofChange menuRoundsWrong)

/-- 'canteenlaw03.MenuPairs': WHATEVER THE INPUT: true; the input reads as it did. -/
def menuPairsSpec : ChangeSpec := { name := "menuPairs", fn := fun _ => fun
  | [d1, d2] => { results := [.lit (.bool true)], args := [d1, d2] }
  | _ => none }
def menuPairsRow : OpenClaim := { program := "ytmllbemjcfkmjaa", sum := "0f5844fbc7fc56a8ad39f6eafee7dfe00c371f5dcfde1147af098aee765965fa", func := "canteen/canteenlaw03.MenuPairs", spec := "menuPairs", unfollowed := true, recurses := true, plainKeys := false, apart := false }
def MenuPairsSaid : Prop := menuPairsRow.holds Try.pinned (OpenSpec.ofChange menuPairsSpec)

/-- ITS FALSE NEIGHBOUR: 'it returns false'. Refute it at one input. -/
def menuPairsWrong : ChangeSpec := { name := "menuPairs", fn := fun _ => fun
  | [d1, d2] => { results := [.lit (.bool false)], args := [d1, d2] }
  | _ => none }
def MenuPairsWrongFalsely : Prop := menuPairsRow.holds Try.pinned (OpenSpec.ofChange menuPairsWrong)

/-- 'canteenlaw03.MenuCounts': WHATEVER THE INPUT: true; the input reads as it did. -/
def menuCountsSpec : ChangeSpec := { name := "menuCounts", fn := fun _ => fun
  | [d1, d2, d3] => { results := [.lit (.bool true)], args := [d1, d2, d3] }
  | _ => none }
def menuCountsRow : OpenClaim := { program := "ytmllbemjcfkmjaa", sum := "0f5844fbc7fc56a8ad39f6eafee7dfe00c371f5dcfde1147af098aee765965fa", func := "canteen/canteenlaw03.MenuCounts", spec := "menuCounts", unfollowed := true, recurses := true, plainKeys := false, apart := false }
def MenuCountsSaid : Prop := menuCountsRow.holds Try.pinned (OpenSpec.ofChange menuCountsSpec)

/-- ITS FALSE NEIGHBOUR: 'it returns false'. Refute it at one input. -/
def menuCountsWrong : ChangeSpec := { name := "menuCounts", fn := fun _ => fun
  | [d1, d2, d3] => { results := [.lit (.bool false)], args := [d1, d2, d3] }
  | _ => none }
def MenuCountsWrongFalsely : Prop := menuCountsRow.holds Try.pinned (OpenSpec.ofChange menuCountsWrong)

/-- 'canteenlaw03.MenuRules': WHATEVER THE INPUT: true; the input reads as it did. -/
def menuRulesSpec : ChangeSpec := { name := "menuRules", fn := fun _ => fun
  | [d] => { results := [.lit (.bool true)], args := [d] }
  | _ => none }
def menuRulesRow : OpenClaim := { program := "ytmllbemjcfkmjaa", sum := "0f5844fbc7fc56a8ad39f6eafee7dfe00c371f5dcfde1147af098aee765965fa", func := "canteen/canteenlaw03.MenuRules", spec := "menuRules", unfollowed := true, recurses := true, plainKeys := false, apart := false }
def MenuRulesSaid : Prop := menuRulesRow.holds Try.pinned (OpenSpec.ofChange menuRulesSpec)

/-- ITS FALSE NEIGHBOUR: 'it returns false'. Refute it at one input. -/
def menuRulesWrong : ChangeSpec := { name := "menuRules", fn := fun _ => fun
  | [d] => { results := [.lit (.bool false)], args := [d] }
  | _ => none }
def MenuRulesWrongFalsely : Prop := menuRulesRow.holds Try.pinned (OpenSpec.ofChange menuRulesWrong)

/-- 'canteenlaw03.MenuNots': WHATEVER THE INPUT: true; the input reads as it did. -/
def menuNotsSpec : ChangeSpec := { name := "menuNots", fn := fun _ => fun
  | [d] => { results := [.lit (.bool true)], args := [d] }
  | _ => none }
def menuNotsRow : OpenClaim := { program := "ytmllbemjcfkmjaa", sum := "0f5844fbc7fc56a8ad39f6eafee7dfe00c371f5dcfde1147af098aee765965fa", func := "canteen/canteenlaw03.MenuNots", spec := "menuNots", unfollowed := true, recurses := true, plainKeys := false, apart := false }
def MenuNotsSaid : Prop := menuNotsRow.holds Try.pinned (OpenSpec.ofChange menuNotsSpec)

/-- ITS FALSE NEIGHBOUR: 'it returns false'. Refute it at one input. -/
def menuNotsWrong : ChangeSpec := { name := "menuNots", fn := fun _ => fun
  | [d] => { results := [.lit (.bool false)], args := [d] }
  | _ => none }
def MenuNotsWrongFalsely : Prop := menuNotsRow.holds Try.pinned (OpenSpec.ofChange menuNotsWrong)

/-- 'canteenlaw03.MenuPoints': WHATEVER THE INPUT: true; the input reads as it did. -/
def menuPointsSpec : ChangeSpec := { name := "menuPoints", fn := fun _ => fun
  | [d1, d2] => { results := [.lit (.bool true)], args := [d1, d2] }
  | _ => none }
def menuPointsRow : OpenClaim := { program := "ytmllbemjcfkmjaa", sum := "0f5844fbc7fc56a8ad39f6eafee7dfe00c371f5dcfde1147af098aee765965fa", func := "canteen/canteenlaw03.MenuPoints", spec := "menuPoints", unfollowed := true, recurses := true, plainKeys := false, apart := false }
def MenuPointsSaid : Prop := menuPointsRow.holds Try.pinned (OpenSpec.ofChange menuPointsSpec)

/-- ITS FALSE NEIGHBOUR: 'it returns false'. Refute it at one input. -/
def menuPointsWrong : ChangeSpec := { name := "menuPoints", fn := fun _ => fun
  | [d1, d2] => { results := [.lit (.bool false)], args := [d1, d2] }
  | _ => none }
def MenuPointsWrongFalsely : Prop := menuPointsRow.holds Try.pinned (OpenSpec.ofChange menuPointsWrong)

/-- 'canteenlaw03.MenuCheapest': WHATEVER THE INPUT: true; the input reads as it did. -/
def menuCheapestSpec : ChangeSpec := { name := "menuCheapest", fn := fun _ => fun
  | [d1, d2] => { results := [.lit (.bool true)], args := [d1, d2] }
  | _ => none }
def menuCheapestRow : OpenClaim := { program := "ytmllbemjcfkmjaa", sum := "0f5844fbc7fc56a8ad39f6eafee7dfe00c371f5dcfde1147af098aee765965fa", func := "canteen/canteenlaw03.MenuCheapest", spec := "menuCheapest", unfollowed := true, recurses := true, plainKeys := false, apart := false }
def MenuCheapestSaid : Prop := menuCheapestRow.holds Try.pinned (OpenSpec.ofChange menuCheapestSpec)

/-- ITS FALSE NEIGHBOUR: 'it returns false'. Refute it at one input. -/
def menuCheapestWrong : ChangeSpec := { name := "menuCheapest", fn := fun _ => fun
  | [d1, d2] => { results := [.lit (.bool false)], args := [d1, d2] }
  | _ => none }
def MenuCheapestWrongFalsely : Prop := menuCheapestRow.holds Try.pinned (OpenSpec.ofChange menuCheapestWrong)

/-- 'canteenlaw03.MenuSames': WHATEVER THE INPUT: true; the input reads as it did. -/
def menuSamesSpec : ChangeSpec := { name := "menuSames", fn := fun _ => fun
  | [d1, d2] => { results := [.lit (.bool true)], args := [d1, d2] }
  | _ => none }
def menuSamesRow : OpenClaim := { program := "ytmllbemjcfkmjaa", sum := "0f5844fbc7fc56a8ad39f6eafee7dfe00c371f5dcfde1147af098aee765965fa", func := "canteen/canteenlaw03.MenuSames", spec := "menuSames", unfollowed := true, recurses := true, plainKeys := false, apart := false }
def MenuSamesSaid : Prop := menuSamesRow.holds Try.pinned (OpenSpec.ofChange menuSamesSpec)

/-- ITS FALSE NEIGHBOUR: 'it returns false'. Refute it at one input. -/
def menuSamesWrong : ChangeSpec := { name := "menuSames", fn := fun _ => fun
  | [d1, d2] => { results := [.lit (.bool false)], args := [d1, d2] }
  | _ => none }
def MenuSamesWrongFalsely : Prop := menuSamesRow.holds Try.pinned (OpenSpec.ofChange menuSamesWrong)

/-- 'canteenlaw03.MenuMeans': WHATEVER THE INPUT: true; the input reads as it did. -/
def menuMeansSpec : ChangeSpec := { name := "menuMeans", fn := fun _ => fun
  | [d1, d2] => { results := [.lit (.bool true)], args := [d1, d2] }
  | _ => none }
def menuMeansRow : OpenClaim := { program := "ytmllbemjcfkmjaa", sum := "0f5844fbc7fc56a8ad39f6eafee7dfe00c371f5dcfde1147af098aee765965fa", func := "canteen/canteenlaw03.MenuMeans", spec := "menuMeans", unfollowed := true, recurses := true, plainKeys := false, apart := false }
def MenuMeansSaid : Prop := menuMeansRow.holds Try.pinned (OpenSpec.ofChange menuMeansSpec)

/-- ITS FALSE NEIGHBOUR: 'it returns false'. Refute it at one input. -/
def menuMeansWrong : ChangeSpec := { name := "menuMeans", fn := fun _ => fun
  | [d1, d2] => { results := [.lit (.bool false)], args := [d1, d2] }
  | _ => none }
def MenuMeansWrongFalsely : Prop := menuMeansRow.holds Try.pinned (OpenSpec.ofChange menuMeansWrong)

/-- 'canteenlaw03.MenuFirsts': WHATEVER THE INPUT: true; the input reads as it did. -/
def menuFirstsSpec : ChangeSpec := { name := "menuFirsts", fn := fun _ => fun
  | [d1, d2] => { results := [.lit (.bool true)], args := [d1, d2] }
  | _ => none }
def menuFirstsRow : OpenClaim := { program := "ytmllbemjcfkmjaa", sum := "0f5844fbc7fc56a8ad39f6eafee7dfe00c371f5dcfde1147af098aee765965fa", func := "canteen/canteenlaw03.MenuFirsts", spec := "menuFirsts", unfollowed := true, recurses := true, plainKeys := false, apart := false }
def MenuFirstsSaid : Prop := menuFirstsRow.holds Try.pinned (OpenSpec.ofChange menuFirstsSpec)

/-- ITS FALSE NEIGHBOUR: 'it returns false'. Refute it at one input. -/
def menuFirstsWrong : ChangeSpec := { name := "menuFirsts", fn := fun _ => fun
  | [d1, d2] => { results := [.lit (.bool false)], args := [d1, d2] }
  | _ => none }
def MenuFirstsWrongFalsely : Prop := menuFirstsRow.holds Try.pinned (OpenSpec.ofChange menuFirstsWrong)

/-- 'canteentop.TopMenus': WHATEVER THE INPUT: true; the input reads as it did. -/
def topMenusSpec : ChangeSpec := { name := "topMenus", fn := fun _ => fun
  | [d1, d2, d3] => { results := [.lit (.bool true)], args := [d1, d2, d3] }
  | _ => none }
def topMenusRow : OpenClaim := { program := "ytmllbemjcfkmjaa", sum := "0f5844fbc7fc56a8ad39f6eafee7dfe00c371f5dcfde1147af098aee765965fa", func := "canteen/canteentop.TopMenus", spec := "topMenus", unfollowed := true, recurses := true, plainKeys := false, apart := false }
def TopMenusSaid : Prop := topMenusRow.holds Try.pinned (OpenSpec.ofChange topMenusSpec)

/-- ITS FALSE NEIGHBOUR: 'it returns false'. Refute it at one input. -/
def topMenusWrong : ChangeSpec := { name := "topMenus", fn := fun _ => fun
  | [d1, d2, d3] => { results := [.lit (.bool false)], args := [d1, d2, d3] }
  | _ => none }
def TopMenusWrongFalsely : Prop := topMenusRow.holds Try.pinned (OpenSpec.ofChange topMenusWrong)

/- THE SECOND FORM. 'bulk': how many values and letters a reading holds, each counted each time it is reached (what is shared counts as often as it is met; a slice's spare places count too). A statement '..UptoSaid' is the law's where the arguments, and the package variables that the reading takes, are together of bulk at most 1048576: NARROWER than '..Said'. Prove '..Said' where nothing that the law and all that it calls make is longer than what came in: it says more and counts as full. Else prove '..UptoSaid'. A law counts once. -/
mutual
def uptoBulk {H : Type} : DataW H → Nat
  | .lit (.string bytes) => bytes.length + 1
  | .lit _ => 1
  | .nil => 1
  | .ptr d => uptoBulk d + 1
  | .slice elems spare => uptoBulkAll elems + uptoBulkAll spare + 1
  | .agg parts => uptoBulkAll parts + 1
  | .iface _ d => uptoBulk d + 1
  | .map entries => uptoBulkEntries entries + 1
  | .held _ => 1
def uptoBulkAll {H : Type} : List (DataW H) → Nat
  | [] => 0
  | d :: r => uptoBulk d + uptoBulkAll r
def uptoBulkEntries {H : Type} : List (Lit × DataW H) → Nat
  | [] => 0
  | x :: r => uptoBulkEntry x + uptoBulkEntries r
def uptoBulkEntry {H : Type} : Lit × DataW H → Nat
  | (.string bytes, d) => bytes.length + uptoBulk d + 1
  | (_, d) => uptoBulk d + 1
 end
def uptoSmall : (H : Type) → List (DataW H) → Bool := fun _ ds => decide (uptoBulkAll ds ≤ 1048576)
def OpenSpec.upto (s : _root_.Go.ChangeSpec) : _root_.Go.OpenSpec := { _root_.Go.OpenSpec.ofChange s with cond := some uptoSmall }

/-- 'canteenlaw03.MenuPlains', WHERE WHAT IT READS IS OF BULK AT MOST 1048576: true; the input reads as it did. -/
def menuPlainsUptoRow : OpenClaim := { program := "ytmllbemjcfkmjaa", sum := "0f5844fbc7fc56a8ad39f6eafee7dfe00c371f5dcfde1147af098aee765965fa", func := "canteen/canteenlaw03.MenuPlains", spec := "menuPlains", unfollowed := true, recurses := true, plainKeys := false, apart := false, narrowed := true }
def MenuPlainsUptoSaid : Prop := menuPlainsUptoRow.holds Try.pinned (OpenSpec.upto menuPlainsSpec)

/-- 'canteenlaw03.MenuAccepts', WHERE WHAT IT READS IS OF BULK AT MOST 1048576: true; the input reads as it did. -/
def menuAcceptsUptoRow : OpenClaim := { program := "ytmllbemjcfkmjaa", sum := "0f5844fbc7fc56a8ad39f6eafee7dfe00c371f5dcfde1147af098aee765965fa", func := "canteen/canteenlaw03.MenuAccepts", spec := "menuAccepts", unfollowed := true, recurses := true, plainKeys := false, apart := false, narrowed := true }
def MenuAcceptsUptoSaid : Prop := menuAcceptsUptoRow.holds Try.pinned (OpenSpec.upto menuAcceptsSpec)

/-- 'canteenlaw03.MenuRanks', WHERE WHAT IT READS IS OF BULK AT MOST 1048576: true; the input reads as it did. -/
def menuRanksUptoRow : OpenClaim := { program := "ytmllbemjcfkmjaa", sum := "0f5844fbc7fc56a8ad39f6eafee7dfe00c371f5dcfde1147af098aee765965fa", func := "canteen/canteenlaw03.MenuRanks", spec := "menuRanks", unfollowed := true, recurses := true, plainKeys := false, apart := false, narrowed := true }
def MenuRanksUptoSaid : Prop := menuRanksUptoRow.holds Try.pinned (OpenSpec.upto menuRanksSpec)

/-- 'canteenlaw03.MenuUnranks', WHERE WHAT IT READS IS OF BULK AT MOST 1048576: true; the input reads as it did. -/
def menuUnranksUptoRow : OpenClaim := { program := "ytmllbemjcfkmjaa", sum := "0f5844fbc7fc56a8ad39f6eafee7dfe00c371f5dcfde1147af098aee765965fa", func := "canteen/canteenlaw03.MenuUnranks", spec := "menuUnranks", unfollowed := true, recurses := true, plainKeys := false, apart := false, narrowed := true }
def MenuUnranksUptoSaid : Prop := menuUnranksUptoRow.holds Try.pinned (OpenSpec.upto menuUnranksSpec)

/-- 'canteenlaw03.MenuRounds', WHERE WHAT IT READS IS OF BULK AT MOST 1048576: true; the input reads as it did. -/
def menuRoundsUptoRow : OpenClaim := { program := "ytmllbemjcfkmjaa", sum := "0f5844fbc7fc56a8ad39f6eafee7dfe00c371f5dcfde1147af098aee765965fa", func := "canteen/canteenlaw03.MenuRounds", spec := "menuRounds", unfollowed := true, recurses := true, plainKeys := false, apart := false, narrowed := true }
def MenuRoundsUptoSaid : Prop := menuRoundsUptoRow.holds Try.pinned (OpenSpec.upto menuRoundsSpec)

/-- 'canteenlaw03.MenuPairs', WHERE WHAT IT READS IS OF BULK AT MOST 1048576: true; the input reads as it did. -/
def menuPairsUptoRow : OpenClaim := { program := "ytmllbemjcfkmjaa", sum := "0f5844fbc7fc56a8ad39f6eafee7dfe00c371f5dcfde1147af098aee765965fa", func := "canteen/canteenlaw03.MenuPairs", spec := "menuPairs", unfollowed := true, recurses := true, plainKeys := false, apart := false, narrowed := true }
def MenuPairsUptoSaid : Prop := menuPairsUptoRow.holds Try.pinned (OpenSpec.upto menuPairsSpec)

/-- 'canteenlaw03.MenuCounts', WHERE WHAT IT READS IS OF BULK AT MOST 1048576: true; the input reads as it did. -/
def menuCountsUptoRow : OpenClaim := { program := "ytmllbemjcfkmjaa", sum := "0f5844fbc7fc56a8ad39f6eafee7dfe00c371f5dcfde1147af098aee765965fa", func := "canteen/canteenlaw03.MenuCounts", spec := "menuCounts", unfollowed := true, recurses := true, plainKeys := false, apart := false, narrowed := true }
def MenuCountsUptoSaid : Prop := menuCountsUptoRow.holds Try.pinned (OpenSpec.upto menuCountsSpec)

/-- 'canteenlaw03.MenuRules', WHERE WHAT IT READS IS OF BULK AT MOST 1048576: true; the input reads as it did. -/
def menuRulesUptoRow : OpenClaim := { program := "ytmllbemjcfkmjaa", sum := "0f5844fbc7fc56a8ad39f6eafee7dfe00c371f5dcfde1147af098aee765965fa", func := "canteen/canteenlaw03.MenuRules", spec := "menuRules", unfollowed := true, recurses := true, plainKeys := false, apart := false, narrowed := true }
def MenuRulesUptoSaid : Prop := menuRulesUptoRow.holds Try.pinned (OpenSpec.upto menuRulesSpec)

/-- 'canteenlaw03.MenuNots', WHERE WHAT IT READS IS OF BULK AT MOST 1048576: true; the input reads as it did. -/
def menuNotsUptoRow : OpenClaim := { program := "ytmllbemjcfkmjaa", sum := "0f5844fbc7fc56a8ad39f6eafee7dfe00c371f5dcfde1147af098aee765965fa", func := "canteen/canteenlaw03.MenuNots", spec := "menuNots", unfollowed := true, recurses := true, plainKeys := false, apart := false, narrowed := true }
def MenuNotsUptoSaid : Prop := menuNotsUptoRow.holds Try.pinned (OpenSpec.upto menuNotsSpec)

/-- 'canteenlaw03.MenuPoints', WHERE WHAT IT READS IS OF BULK AT MOST 1048576: true; the input reads as it did. -/
def menuPointsUptoRow : OpenClaim := { program := "ytmllbemjcfkmjaa", sum := "0f5844fbc7fc56a8ad39f6eafee7dfe00c371f5dcfde1147af098aee765965fa", func := "canteen/canteenlaw03.MenuPoints", spec := "menuPoints", unfollowed := true, recurses := true, plainKeys := false, apart := false, narrowed := true }
def MenuPointsUptoSaid : Prop := menuPointsUptoRow.holds Try.pinned (OpenSpec.upto menuPointsSpec)

/-- 'canteenlaw03.MenuCheapest', WHERE WHAT IT READS IS OF BULK AT MOST 1048576: true; the input reads as it did. -/
def menuCheapestUptoRow : OpenClaim := { program := "ytmllbemjcfkmjaa", sum := "0f5844fbc7fc56a8ad39f6eafee7dfe00c371f5dcfde1147af098aee765965fa", func := "canteen/canteenlaw03.MenuCheapest", spec := "menuCheapest", unfollowed := true, recurses := true, plainKeys := false, apart := false, narrowed := true }
def MenuCheapestUptoSaid : Prop := menuCheapestUptoRow.holds Try.pinned (OpenSpec.upto menuCheapestSpec)

/-- 'canteenlaw03.MenuSames', WHERE WHAT IT READS IS OF BULK AT MOST 1048576: true; the input reads as it did. -/
def menuSamesUptoRow : OpenClaim := { program := "ytmllbemjcfkmjaa", sum := "0f5844fbc7fc56a8ad39f6eafee7dfe00c371f5dcfde1147af098aee765965fa", func := "canteen/canteenlaw03.MenuSames", spec := "menuSames", unfollowed := true, recurses := true, plainKeys := false, apart := false, narrowed := true }
def MenuSamesUptoSaid : Prop := menuSamesUptoRow.holds Try.pinned (OpenSpec.upto menuSamesSpec)

/-- 'canteenlaw03.MenuMeans', WHERE WHAT IT READS IS OF BULK AT MOST 1048576: true; the input reads as it did. -/
def menuMeansUptoRow : OpenClaim := { program := "ytmllbemjcfkmjaa", sum := "0f5844fbc7fc56a8ad39f6eafee7dfe00c371f5dcfde1147af098aee765965fa", func := "canteen/canteenlaw03.MenuMeans", spec := "menuMeans", unfollowed := true, recurses := true, plainKeys := false, apart := false, narrowed := true }
def MenuMeansUptoSaid : Prop := menuMeansUptoRow.holds Try.pinned (OpenSpec.upto menuMeansSpec)

/-- 'canteenlaw03.MenuFirsts', WHERE WHAT IT READS IS OF BULK AT MOST 1048576: true; the input reads as it did. -/
def menuFirstsUptoRow : OpenClaim := { program := "ytmllbemjcfkmjaa", sum := "0f5844fbc7fc56a8ad39f6eafee7dfe00c371f5dcfde1147af098aee765965fa", func := "canteen/canteenlaw03.MenuFirsts", spec := "menuFirsts", unfollowed := true, recurses := true, plainKeys := false, apart := false, narrowed := true }
def MenuFirstsUptoSaid : Prop := menuFirstsUptoRow.holds Try.pinned (OpenSpec.upto menuFirstsSpec)

/-- 'canteentop.TopMenus', WHERE WHAT IT READS IS OF BULK AT MOST 1048576: true; the input reads as it did. -/
def topMenusUptoRow : OpenClaim := { program := "ytmllbemjcfkmjaa", sum := "0f5844fbc7fc56a8ad39f6eafee7dfe00c371f5dcfde1147af098aee765965fa", func := "canteen/canteentop.TopMenus", spec := "topMenus", unfollowed := true, recurses := true, plainKeys := false, apart := false, narrowed := true }
def TopMenusUptoSaid : Prop := topMenusUptoRow.holds Try.pinned (OpenSpec.upto topMenusSpec)

end Rows
end Go.Proofs.Ytmllbemjcfkmjaa
