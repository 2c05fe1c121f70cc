/-
  No cell of these rows narrows 'for every input' (looked for: loops, veiled, ifaces, maps, wideKeys, modest, calm, conditions, laid).
  DERIVED. THE GIVEN ROWS OF THIS SEAT. 14 by the template 'for every input the law returns true; each argument reads behind the call as it read before'; 0 by the template 'total and deterministic' (their statements: YthankdfjkmfokaaTotals.lean).
  GIVEN WITH THE SEED: the statements are not yours to turn. If you find one false, say at which input.
  Laid BY PROGRAM, IN A SANDBOX (cutbox-rows.mjs): the forced cells as the released guide's own fill.sh prints them over the translation bed7398f5e127365… (all of the seat's roots in one cut). By AI agents, Wed Nov 11 2026. No macro, syntax, notation, axiom, sorry.
-/
import Derived.Test.YthankdfjkmfokaaChecked
import GoSem.Claim
import GoSem.ClaimJoined
import GoSem.ClaimMapViews
import Derived.JoinedTies
import Derived.KernelRfl
namespace Go.Proofs.Ythankdfjkmfokaa
/- THE CELL 'sum', in the pinned program and in every row, IS THE sha256 OF THE DUMP (.gsa) THAT YthankdfjkmfokaaProg.lean LOADS. Nothing in Lean hashes anything: it is a label: what it is worth is what the hold of that sum in a sandbox is worth. -/
noncomputable def Try.pinned : Pinned := { name := "ythankdfjkmfokaa", sum := "bed7398f5e1273658daa2c92d074a55314afdeeabf7143b27b83b4bb1861c78e", checked := Try.checked }
namespace Rows
def none {H : Type} : Left H := { results := [], args := [] }

/-- 'canteenlaw04.ShareDivides': WHATEVER THE INPUT: true; the input reads as it did. -/
def shareDividesSpec : ChangeSpec := { name := "shareDivides", fn := fun _ => fun
  | [d1, d2] => { results := [.lit (.bool true)], args := [d1, d2] }
  | _ => none }
def shareDividesRow : OpenClaim := { program := "ythankdfjkmfokaa", sum := "bed7398f5e1273658daa2c92d074a55314afdeeabf7143b27b83b4bb1861c78e", func := "canteen/canteenlaw04.ShareDivides", spec := "shareDivides", unfollowed := true, recurses := true, apart := false }
def ShareDividesSaid : Prop := shareDividesRow.holds Try.pinned (OpenSpec.ofChange shareDividesSpec)

/-- ITS FALSE NEIGHBOUR: 'it returns false'. Refute it at one input. -/
def shareDividesWrong : ChangeSpec := { name := "shareDivides", fn := fun _ => fun
  | [d1, d2] => { results := [.lit (.bool false)], args := [d1, d2] }
  | _ => none }
def ShareDividesWrongFalsely : Prop := shareDividesRow.holds Try.pinned (OpenSpec.ofChange shareDividesWrong)

/-- 'canteenlaw04.ShareBest': WHATEVER THE INPUT: true; the input reads as it did. -/
def shareBestSpec : ChangeSpec := { name := "shareBest", fn := fun _ => fun
  | [d1, d2] => { results := [.lit (.bool true)], args := [d1, d2] }
  | _ => none }
def shareBestRow : OpenClaim := { program := "ythankdfjkmfokaa", sum := "bed7398f5e1273658daa2c92d074a55314afdeeabf7143b27b83b4bb1861c78e", func := "canteen/canteenlaw04.ShareBest", spec := "shareBest", unfollowed := true, recurses := true, apart := false }
def ShareBestSaid : Prop := shareBestRow.holds Try.pinned (OpenSpec.ofChange shareBestSpec)

/-- ITS FALSE NEIGHBOUR: 'it returns false'. Refute it at one input. -/
def shareBestWrong : ChangeSpec := { name := "shareBest", fn := fun _ => fun
  | [d1, d2] => { results := [.lit (.bool false)], args := [d1, d2] }
  | _ => none }
def ShareBestWrongFalsely : Prop := shareBestRow.holds Try.pinned (OpenSpec.ofChange shareBestWrong)

/-- 'canteenlaw04.ShareSome': WHATEVER THE INPUT: true; the input reads as it did. -/
def shareSomeSpec : ChangeSpec := { name := "shareSome", fn := fun _ => fun
  | [d1, d2, d3] => { results := [.lit (.bool true)], args := [d1, d2, d3] }
  | _ => none }
def shareSomeRow : OpenClaim := { program := "ythankdfjkmfokaa", sum := "bed7398f5e1273658daa2c92d074a55314afdeeabf7143b27b83b4bb1861c78e", func := "canteen/canteenlaw04.ShareSome", spec := "shareSome", unfollowed := true, recurses := true, apart := false }
def ShareSomeSaid : Prop := shareSomeRow.holds Try.pinned (OpenSpec.ofChange shareSomeSpec)

/-- ITS FALSE NEIGHBOUR: 'it returns false'. Refute it at one input. -/
def shareSomeWrong : ChangeSpec := { name := "shareSome", fn := fun _ => fun
  | [d1, d2, d3] => { results := [.lit (.bool false)], args := [d1, d2, d3] }
  | _ => none }
def ShareSomeWrongFalsely : Prop := shareSomeRow.holds Try.pinned (OpenSpec.ofChange shareSomeWrong)

/-- 'canteenlaw04.ShareKeeps': WHATEVER THE INPUT: true; the input reads as it did. -/
def shareKeepsSpec : ChangeSpec := { name := "shareKeeps", fn := fun _ => fun
  | [d1, d2] => { results := [.lit (.bool true)], args := [d1, d2] }
  | _ => none }
def shareKeepsRow : OpenClaim := { program := "ythankdfjkmfokaa", sum := "bed7398f5e1273658daa2c92d074a55314afdeeabf7143b27b83b4bb1861c78e", func := "canteen/canteenlaw04.ShareKeeps", spec := "shareKeeps", unfollowed := true, recurses := true, apart := false }
def ShareKeepsSaid : Prop := shareKeepsRow.holds Try.pinned (OpenSpec.ofChange shareKeepsSpec)

/-- ITS FALSE NEIGHBOUR: 'it returns false'. Refute it at one input. -/
def shareKeepsWrong : ChangeSpec := { name := "shareKeeps", fn := fun _ => fun
  | [d1, d2] => { results := [.lit (.bool false)], args := [d1, d2] }
  | _ => none }
def ShareKeepsWrongFalsely : Prop := shareKeepsRow.holds Try.pinned (OpenSpec.ofChange shareKeepsWrong)

/-- 'canteenlaw04.ShareFair': WHATEVER THE INPUT: true; the input reads as it did. -/
def shareFairSpec : ChangeSpec := { name := "shareFair", fn := fun _ => fun
  | [d1, d2, d3] => { results := [.lit (.bool true)], args := [d1, d2, d3] }
  | _ => none }
def shareFairRow : OpenClaim := { program := "ythankdfjkmfokaa", sum := "bed7398f5e1273658daa2c92d074a55314afdeeabf7143b27b83b4bb1861c78e", func := "canteen/canteenlaw04.ShareFair", spec := "shareFair", unfollowed := true, recurses := true, apart := false }
def ShareFairSaid : Prop := shareFairRow.holds Try.pinned (OpenSpec.ofChange shareFairSpec)

/-- ITS FALSE NEIGHBOUR: 'it returns false'. Refute it at one input. -/
def shareFairWrong : ChangeSpec := { name := "shareFair", fn := fun _ => fun
  | [d1, d2, d3] => { results := [.lit (.bool false)], args := [d1, d2, d3] }
  | _ => none }
def ShareFairWrongFalsely : Prop := shareFairRow.holds Try.pinned (OpenSpec.ofChange shareFairWrong)

/-- 'canteenlaw04.ShareQuotas': WHATEVER THE INPUT: true; the input reads as it did. -/
def shareQuotasSpec : ChangeSpec := { name := "shareQuotas", fn := fun _ => fun
  | [d1, d2, d3] => { results := [.lit (.bool true)], args := [d1, d2, d3] }
  | _ => none }
def shareQuotasRow : OpenClaim := { program := "ythankdfjkmfokaa", sum := "bed7398f5e1273658daa2c92d074a55314afdeeabf7143b27b83b4bb1861c78e", func := "canteen/canteenlaw04.ShareQuotas", spec := "shareQuotas", unfollowed := true, recurses := true, apart := false }
def ShareQuotasSaid : Prop := shareQuotasRow.holds Try.pinned (OpenSpec.ofChange shareQuotasSpec)

/-- ITS FALSE NEIGHBOUR: 'it returns false'. Refute it at one input. -/
def shareQuotasWrong : ChangeSpec := { name := "shareQuotas", fn := fun _ => fun
  | [d1, d2, d3] => { results := [.lit (.bool false)], args := [d1, d2, d3] }
  | _ => none }
def ShareQuotasWrongFalsely : Prop := shareQuotasRow.holds Try.pinned (OpenSpec.ofChange shareQuotasWrong)

/-- 'canteenlaw04.ShareClaims': WHATEVER THE INPUT: true; the input reads as it did. -/
def shareClaimsSpec : ChangeSpec := { name := "shareClaims", fn := fun _ => fun
  | [d1, d2, d3] => { results := [.lit (.bool true)], args := [d1, d2, d3] }
  | _ => none }
def shareClaimsRow : OpenClaim := { program := "ythankdfjkmfokaa", sum := "bed7398f5e1273658daa2c92d074a55314afdeeabf7143b27b83b4bb1861c78e", func := "canteen/canteenlaw04.ShareClaims", spec := "shareClaims", unfollowed := true, recurses := true, apart := false }
def ShareClaimsSaid : Prop := shareClaimsRow.holds Try.pinned (OpenSpec.ofChange shareClaimsSpec)

/-- ITS FALSE NEIGHBOUR: 'it returns false'. Refute it at one input. -/
def shareClaimsWrong : ChangeSpec := { name := "shareClaims", fn := fun _ => fun
  | [d1, d2, d3] => { results := [.lit (.bool false)], args := [d1, d2, d3] }
  | _ => none }
def ShareClaimsWrongFalsely : Prop := shareClaimsRow.holds Try.pinned (OpenSpec.ofChange shareClaimsWrong)

/-- 'canteentop.TopShares': WHATEVER THE INPUT: true; the input reads as it did. -/
def topSharesSpec : ChangeSpec := { name := "topShares", fn := fun _ => fun
  | [d1, d2] => { results := [.lit (.bool true)], args := [d1, d2] }
  | _ => none }
def topSharesRow : OpenClaim := { program := "ythankdfjkmfokaa", sum := "bed7398f5e1273658daa2c92d074a55314afdeeabf7143b27b83b4bb1861c78e", func := "canteen/canteentop.TopShares", spec := "topShares", unfollowed := true, recurses := true, apart := false }
def TopSharesSaid : Prop := topSharesRow.holds Try.pinned (OpenSpec.ofChange topSharesSpec)

/-- ITS FALSE NEIGHBOUR: 'it returns false'. Refute it at one input. -/
def topSharesWrong : ChangeSpec := { name := "topShares", fn := fun _ => fun
  | [d1, d2] => { results := [.lit (.bool false)], args := [d1, d2] }
  | _ => none }
def TopSharesWrongFalsely : Prop := topSharesRow.holds Try.pinned (OpenSpec.ofChange topSharesWrong)

/-- 'canteenlaw04.ShareGrows': WHATEVER THE INPUT: true; the input reads as it did. -/
def shareGrowsSpec : ChangeSpec := { name := "shareGrows", fn := fun _ => fun
  | [d1, d2] => { results := [.lit (.bool true)], args := [d1, d2] }
  | _ => none }
def shareGrowsRow : OpenClaim := { program := "ythankdfjkmfokaa", sum := "bed7398f5e1273658daa2c92d074a55314afdeeabf7143b27b83b4bb1861c78e", func := "canteen/canteenlaw04.ShareGrows", spec := "shareGrows", unfollowed := true, recurses := true, apart := false }
def ShareGrowsSaid : Prop := shareGrowsRow.holds Try.pinned (OpenSpec.ofChange shareGrowsSpec)

/-- ITS FALSE NEIGHBOUR: 'it returns false'. Refute it at one input. -/
def shareGrowsWrong : ChangeSpec := { name := "shareGrows", fn := fun _ => fun
  | [d1, d2] => { results := [.lit (.bool false)], args := [d1, d2] }
  | _ => none }
def ShareGrowsWrongFalsely : Prop := shareGrowsRow.holds Try.pinned (OpenSpec.ofChange shareGrowsWrong)

/-- 'canteenlaw04.ShareDivisors': WHATEVER THE INPUT: true; the input reads as it did. -/
def shareDivisorsSpec : ChangeSpec := { name := "shareDivisors", fn := fun _ => fun
  | [d1, d2, d3] => { results := [.lit (.bool true)], args := [d1, d2, d3] }
  | _ => none }
def shareDivisorsRow : OpenClaim := { program := "ythankdfjkmfokaa", sum := "bed7398f5e1273658daa2c92d074a55314afdeeabf7143b27b83b4bb1861c78e", func := "canteen/canteenlaw04.ShareDivisors", spec := "shareDivisors", unfollowed := true, recurses := true, apart := false }
def ShareDivisorsSaid : Prop := shareDivisorsRow.holds Try.pinned (OpenSpec.ofChange shareDivisorsSpec)

/-- ITS FALSE NEIGHBOUR: 'it returns false'. Refute it at one input. -/
def shareDivisorsWrong : ChangeSpec := { name := "shareDivisors", fn := fun _ => fun
  | [d1, d2, d3] => { results := [.lit (.bool false)], args := [d1, d2, d3] }
  | _ => none }
def ShareDivisorsWrongFalsely : Prop := shareDivisorsRow.holds Try.pinned (OpenSpec.ofChange shareDivisorsWrong)

/-- 'canteenlaw04.ShareChecks': WHATEVER THE INPUT: true; the input reads as it did. -/
def shareChecksSpec : ChangeSpec := { name := "shareChecks", fn := fun _ => fun
  | [d1, d2, d3] => { results := [.lit (.bool true)], args := [d1, d2, d3] }
  | _ => none }
def shareChecksRow : OpenClaim := { program := "ythankdfjkmfokaa", sum := "bed7398f5e1273658daa2c92d074a55314afdeeabf7143b27b83b4bb1861c78e", func := "canteen/canteenlaw04.ShareChecks", spec := "shareChecks", unfollowed := true, recurses := true, apart := false }
def ShareChecksSaid : Prop := shareChecksRow.holds Try.pinned (OpenSpec.ofChange shareChecksSpec)

/-- ITS FALSE NEIGHBOUR: 'it returns false'. Refute it at one input. -/
def shareChecksWrong : ChangeSpec := { name := "shareChecks", fn := fun _ => fun
  | [d1, d2, d3] => { results := [.lit (.bool false)], args := [d1, d2, d3] }
  | _ => none }
def ShareChecksWrongFalsely : Prop := shareChecksRow.holds Try.pinned (OpenSpec.ofChange shareChecksWrong)

/-- 'canteenlaw04.ShareProves': WHATEVER THE INPUT: true; the input reads as it did. -/
def shareProvesSpec : ChangeSpec := { name := "shareProves", fn := fun _ => fun
  | [d1, d2, d3] => { results := [.lit (.bool true)], args := [d1, d2, d3] }
  | _ => none }
def shareProvesRow : OpenClaim := { program := "ythankdfjkmfokaa", sum := "bed7398f5e1273658daa2c92d074a55314afdeeabf7143b27b83b4bb1861c78e", func := "canteen/canteenlaw04.ShareProves", spec := "shareProves", unfollowed := true, recurses := true, apart := false }
def ShareProvesSaid : Prop := shareProvesRow.holds Try.pinned (OpenSpec.ofChange shareProvesSpec)

/-- ITS FALSE NEIGHBOUR: 'it returns false'. Refute it at one input. -/
def shareProvesWrong : ChangeSpec := { name := "shareProves", fn := fun _ => fun
  | [d1, d2, d3] => { results := [.lit (.bool false)], args := [d1, d2, d3] }
  | _ => none }
def ShareProvesWrongFalsely : Prop := shareProvesRow.holds Try.pinned (OpenSpec.ofChange shareProvesWrong)

/-- 'canteenlaw04.ShareErrors': WHATEVER THE INPUT: true; the input reads as it did. -/
def shareErrorsSpec : ChangeSpec := { name := "shareErrors", fn := fun _ => fun
  | [d1, d2] => { results := [.lit (.bool true)], args := [d1, d2] }
  | _ => none }
def shareErrorsRow : OpenClaim := { program := "ythankdfjkmfokaa", sum := "bed7398f5e1273658daa2c92d074a55314afdeeabf7143b27b83b4bb1861c78e", func := "canteen/canteenlaw04.ShareErrors", spec := "shareErrors", unfollowed := true, recurses := true, apart := false }
def ShareErrorsSaid : Prop := shareErrorsRow.holds Try.pinned (OpenSpec.ofChange shareErrorsSpec)

/-- ITS FALSE NEIGHBOUR: 'it returns false'. Refute it at one input. -/
def shareErrorsWrong : ChangeSpec := { name := "shareErrors", fn := fun _ => fun
  | [d1, d2] => { results := [.lit (.bool false)], args := [d1, d2] }
  | _ => none }
def ShareErrorsWrongFalsely : Prop := shareErrorsRow.holds Try.pinned (OpenSpec.ofChange shareErrorsWrong)

/-- 'canteenlaw04.ShareRemainders': WHATEVER THE INPUT: true; the input reads as it did. -/
def shareRemaindersSpec : ChangeSpec := { name := "shareRemainders", fn := fun _ => fun
  | [d1, d2] => { results := [.lit (.bool true)], args := [d1, d2] }
  | _ => none }
def shareRemaindersRow : OpenClaim := { program := "ythankdfjkmfokaa", sum := "bed7398f5e1273658daa2c92d074a55314afdeeabf7143b27b83b4bb1861c78e", func := "canteen/canteenlaw04.ShareRemainders", spec := "shareRemainders", unfollowed := true, recurses := true, apart := false }
def ShareRemaindersSaid : Prop := shareRemaindersRow.holds Try.pinned (OpenSpec.ofChange shareRemaindersSpec)

/-- ITS FALSE NEIGHBOUR: 'it returns false'. Refute it at one input. -/
def shareRemaindersWrong : ChangeSpec := { name := "shareRemainders", fn := fun _ => fun
  | [d1, d2] => { results := [.lit (.bool false)], args := [d1, d2] }
  | _ => none }
def ShareRemaindersWrongFalsely : Prop := shareRemaindersRow.holds Try.pinned (OpenSpec.ofChange shareRemaindersWrong)

/- THE SECOND FORM. 'bulk': how many values and letters a reading holds, each counted each time it is reached (what is shared counts as often as it is met; a slice's spare places count too). A statement '..UptoSaid' is the law's where the arguments, and the package variables that the reading takes, are together of bulk at most 1048576: NARROWER than '..Said'. Prove '..Said' where nothing that the law and all that it calls make is longer than what came in: it says more and counts as full. Else prove '..UptoSaid'. A law counts once. -/
mutual
def uptoBulk {H : Type} : DataW H → Nat
  | .lit (.string bytes) => bytes.length + 1
  | .lit _ => 1
  | .nil => 1
  | .ptr d => uptoBulk d + 1
  | .slice elems spare => uptoBulkAll elems + uptoBulkAll spare + 1
  | .agg parts => uptoBulkAll parts + 1
  | .iface _ d => uptoBulk d + 1
  | .map entries => uptoBulkEntries entries + 1
  | .held _ => 1
def uptoBulkAll {H : Type} : List (DataW H) → Nat
  | [] => 0
  | d :: r => uptoBulk d + uptoBulkAll r
def uptoBulkEntries {H : Type} : List (Lit × DataW H) → Nat
  | [] => 0
  | x :: r => uptoBulkEntry x + uptoBulkEntries r
def uptoBulkEntry {H : Type} : Lit × DataW H → Nat
  | (.string bytes, d) => bytes.length + uptoBulk d + 1
  | (_, d) => uptoBulk d + 1
 end
def uptoSmall : (H : Type) → List (DataW H) → Bool := fun _ ds => decide (uptoBulkAll ds ≤ 1048576)
def OpenSpec.upto (s : _root_.Go.ChangeSpec) : _root_.Go.OpenSpec := { _root_.Go.OpenSpec.ofChange s with cond := some uptoSmall }

/-- 'canteenlaw04.ShareDivides', WHERE WHAT IT READS IS OF BULK AT MOST 1048576: true; the input reads as it did. -/
def shareDividesUptoRow : OpenClaim := { program := "ythankdfjkmfokaa", sum := "bed7398f5e1273658daa2c92d074a55314afdeeabf7143b27b83b4bb1861c78e", func := "canteen/canteenlaw04.ShareDivides", spec := "shareDivides", unfollowed := true, recurses := true, apart := false, narrowed := true }
def ShareDividesUptoSaid : Prop := shareDividesUptoRow.holds Try.pinned (OpenSpec.upto shareDividesSpec)

/-- 'canteenlaw04.ShareBest', WHERE WHAT IT READS IS OF BULK AT MOST 1048576: true; the input reads as it did. -/
def shareBestUptoRow : OpenClaim := { program := "ythankdfjkmfokaa", sum := "bed7398f5e1273658daa2c92d074a55314afdeeabf7143b27b83b4bb1861c78e", func := "canteen/canteenlaw04.ShareBest", spec := "shareBest", unfollowed := true, recurses := true, apart := false, narrowed := true }
def ShareBestUptoSaid : Prop := shareBestUptoRow.holds Try.pinned (OpenSpec.upto shareBestSpec)

/-- 'canteenlaw04.ShareSome', WHERE WHAT IT READS IS OF BULK AT MOST 1048576: true; the input reads as it did. -/
def shareSomeUptoRow : OpenClaim := { program := "ythankdfjkmfokaa", sum := "bed7398f5e1273658daa2c92d074a55314afdeeabf7143b27b83b4bb1861c78e", func := "canteen/canteenlaw04.ShareSome", spec := "shareSome", unfollowed := true, recurses := true, apart := false, narrowed := true }
def ShareSomeUptoSaid : Prop := shareSomeUptoRow.holds Try.pinned (OpenSpec.upto shareSomeSpec)

/-- 'canteenlaw04.ShareKeeps', WHERE WHAT IT READS IS OF BULK AT MOST 1048576: true; the input reads as it did. -/
def shareKeepsUptoRow : OpenClaim := { program := "ythankdfjkmfokaa", sum := "bed7398f5e1273658daa2c92d074a55314afdeeabf7143b27b83b4bb1861c78e", func := "canteen/canteenlaw04.ShareKeeps", spec := "shareKeeps", unfollowed := true, recurses := true, apart := false, narrowed := true }
def ShareKeepsUptoSaid : Prop := shareKeepsUptoRow.holds Try.pinned (OpenSpec.upto shareKeepsSpec)

/-- 'canteenlaw04.ShareFair', WHERE WHAT IT READS IS OF BULK AT MOST 1048576: true; the input reads as it did. -/
def shareFairUptoRow : OpenClaim := { program := "ythankdfjkmfokaa", sum := "bed7398f5e1273658daa2c92d074a55314afdeeabf7143b27b83b4bb1861c78e", func := "canteen/canteenlaw04.ShareFair", spec := "shareFair", unfollowed := true, recurses := true, apart := false, narrowed := true }
def ShareFairUptoSaid : Prop := shareFairUptoRow.holds Try.pinned (OpenSpec.upto shareFairSpec)

/-- 'canteenlaw04.ShareQuotas', WHERE WHAT IT READS IS OF BULK AT MOST 1048576: true; the input reads as it did. -/
def shareQuotasUptoRow : OpenClaim := { program := "ythankdfjkmfokaa", sum := "bed7398f5e1273658daa2c92d074a55314afdeeabf7143b27b83b4bb1861c78e", func := "canteen/canteenlaw04.ShareQuotas", spec := "shareQuotas", unfollowed := true, recurses := true, apart := false, narrowed := true }
def ShareQuotasUptoSaid : Prop := shareQuotasUptoRow.holds Try.pinned (OpenSpec.upto shareQuotasSpec)

/-- 'canteenlaw04.ShareClaims', WHERE WHAT IT READS IS OF BULK AT MOST 1048576: true; the input reads as it did. -/
def shareClaimsUptoRow : OpenClaim := { program := "ythankdfjkmfokaa", sum := "bed7398f5e1273658daa2c92d074a55314afdeeabf7143b27b83b4bb1861c78e", func := "canteen/canteenlaw04.ShareClaims", spec := "shareClaims", unfollowed := true, recurses := true, apart := false, narrowed := true }
def ShareClaimsUptoSaid : Prop := shareClaimsUptoRow.holds Try.pinned (OpenSpec.upto shareClaimsSpec)

/-- 'canteentop.TopShares', WHERE WHAT IT READS IS OF BULK AT MOST 1048576: true; the input reads as it did. -/
def topSharesUptoRow : OpenClaim := { program := "ythankdfjkmfokaa", sum := "bed7398f5e1273658daa2c92d074a55314afdeeabf7143b27b83b4bb1861c78e", func := "canteen/canteentop.TopShares", spec := "topShares", unfollowed := true, recurses := true, apart := false, narrowed := true }
def TopSharesUptoSaid : Prop := topSharesUptoRow.holds Try.pinned (OpenSpec.upto topSharesSpec)

/-- 'canteenlaw04.ShareGrows', WHERE WHAT IT READS IS OF BULK AT MOST 1048576: true; the input reads as it did. -/
def shareGrowsUptoRow : OpenClaim := { program := "ythankdfjkmfokaa", sum := "bed7398f5e1273658daa2c92d074a55314afdeeabf7143b27b83b4bb1861c78e", func := "canteen/canteenlaw04.ShareGrows", spec := "shareGrows", unfollowed := true, recurses := true, apart := false, narrowed := true }
def ShareGrowsUptoSaid : Prop := shareGrowsUptoRow.holds Try.pinned (OpenSpec.upto shareGrowsSpec)

/-- 'canteenlaw04.ShareDivisors', WHERE WHAT IT READS IS OF BULK AT MOST 1048576: true; the input reads as it did. -/
def shareDivisorsUptoRow : OpenClaim := { program := "ythankdfjkmfokaa", sum := "bed7398f5e1273658daa2c92d074a55314afdeeabf7143b27b83b4bb1861c78e", func := "canteen/canteenlaw04.ShareDivisors", spec := "shareDivisors", unfollowed := true, recurses := true, apart := false, narrowed := true }
def ShareDivisorsUptoSaid : Prop := shareDivisorsUptoRow.holds Try.pinned (OpenSpec.upto shareDivisorsSpec)

/-- 'canteenlaw04.ShareChecks', WHERE WHAT IT READS IS OF BULK AT MOST 1048576: true; the input reads as it did. -/
def shareChecksUptoRow : OpenClaim := { program := "ythankdfjkmfokaa", sum := "bed7398f5e1273658daa2c92d074a55314afdeeabf7143b27b83b4bb1861c78e", func := "canteen/canteenlaw04.ShareChecks", spec := "shareChecks", unfollowed := true, recurses := true, apart := false, narrowed := true }
def ShareChecksUptoSaid : Prop := shareChecksUptoRow.holds Try.pinned (OpenSpec.upto shareChecksSpec)

/-- 'canteenlaw04.ShareProves', WHERE WHAT IT READS IS OF BULK AT MOST 1048576: true; the input reads as it did. -/
def shareProvesUptoRow : OpenClaim := { program := "ythankdfjkmfokaa", sum := "bed7398f5e1273658daa2c92d074a55314afdeeabf7143b27b83b4bb1861c78e", func := "canteen/canteenlaw04.ShareProves", spec := "shareProves", unfollowed := true, recurses := true, apart := false, narrowed := true }
def ShareProvesUptoSaid : Prop := shareProvesUptoRow.holds Try.pinned (OpenSpec.upto shareProvesSpec)

/-- 'canteenlaw04.ShareErrors', WHERE WHAT IT READS IS OF BULK AT MOST 1048576: true; the input reads as it did. -/
def shareErrorsUptoRow : OpenClaim := { program := "ythankdfjkmfokaa", sum := "bed7398f5e1273658daa2c92d074a55314afdeeabf7143b27b83b4bb1861c78e", func := "canteen/canteenlaw04.ShareErrors", spec := "shareErrors", unfollowed := true, recurses := true, apart := false, narrowed := true }
def ShareErrorsUptoSaid : Prop := shareErrorsUptoRow.holds Try.pinned (OpenSpec.upto shareErrorsSpec)

/-- 'canteenlaw04.ShareRemainders', WHERE WHAT IT READS IS OF BULK AT MOST 1048576: true; the input reads as it did. -/
def shareRemaindersUptoRow : OpenClaim := { program := "ythankdfjkmfokaa", sum := "bed7398f5e1273658daa2c92d074a55314afdeeabf7143b27b83b4bb1861c78e", func := "canteen/canteenlaw04.ShareRemainders", spec := "shareRemainders", unfollowed := true, recurses := true, apart := false, narrowed := true }
def ShareRemaindersUptoSaid : Prop := shareRemaindersUptoRow.holds Try.pinned (OpenSpec.upto shareRemaindersSpec)

end Rows
end Go.Proofs.Ythankdfjkmfokaa
