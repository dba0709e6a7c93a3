/-
  No cell of these rows narrows 'for every input' (looked for: loops, veiled, ifaces, maps, wideKeys, modest, calm, conditions, laid).
  DERIVED. THE GIVEN ROWS OF THIS SEAT. 7 by the template 'for every input the law returns true; each argument reads behind the call as it read before'; 0 by the template 'total and deterministic' (their statements: YtgblbhbmeflckaaTotals.lean).
  GIVEN WITH THE SEED: the statements are not yours to turn. If you find one false, say at which input.
  Laid BY PROGRAM, IN A SANDBOX (cutbox-rows.mjs): the forced cells as the released guide's own fill.sh prints them over the translation 792e5dce78cf98bb… (all of the seat's roots in one cut). By AI agents, Wed Nov 11 2026. No macro, syntax, notation, axiom, sorry.
-/
import Derived.Test.YtgblbhbmeflckaaChecked
import GoSem.Claim
import GoSem.ClaimJoined
import GoSem.ClaimMapViews
import Derived.JoinedTies
import Derived.KernelRfl
namespace Go.Proofs.Ytgblbhbmeflckaa
/- THE CELL 'sum', in the pinned program and in every row, IS THE sha256 OF THE DUMP (.gsa) THAT YtgblbhbmeflckaaProg.lean LOADS. Nothing in Lean hashes anything: it is a label: what it is worth is what the hold of that sum in a sandbox is worth. -/
noncomputable def Try.pinned : Pinned := { name := "ytgblbhbmeflckaa", sum := "792e5dce78cf98bb294c76e8ec15688526425b96873ddce7c9a0dcdfe6457b56", checked := Try.checked }
namespace Rows
def none {H : Type} : Left H := { results := [], args := [] }

/-- 'mahoutlaw03.WhereWays': WHATEVER THE INPUT: true; the input reads as it did. -/
def whereWaysSpec : ChangeSpec := { name := "whereWays", fn := fun _ => fun
  | [d1, d2, d3] => { results := [.lit (.bool true)], args := [d1, d2, d3] }
  | _ => none }
def whereWaysRow : OpenClaim := { program := "ytgblbhbmeflckaa", sum := "792e5dce78cf98bb294c76e8ec15688526425b96873ddce7c9a0dcdfe6457b56", func := "mahout/mahoutlaw03.WhereWays", spec := "whereWays", inPlace := ["math.Float64frombits"], apart := false }
def WhereWaysSaid : Prop := whereWaysRow.holds Try.pinned (OpenSpec.ofChange whereWaysSpec)

/-- ITS FALSE NEIGHBOUR: 'it returns false'. Refute it at one input. -/
def whereWaysWrong : ChangeSpec := { name := "whereWays", fn := fun _ => fun
  | [d1, d2, d3] => { results := [.lit (.bool false)], args := [d1, d2, d3] }
  | _ => none }
def WhereWaysWrongFalsely : Prop := whereWaysRow.holds Try.pinned (OpenSpec.ofChange whereWaysWrong)

/-- 'mahoutlaw03.WhereSpots': WHATEVER THE INPUT: true; the input reads as it did. -/
def whereSpotsSpec : ChangeSpec := { name := "whereSpots", fn := fun _ => fun
  | [d1, d2] => { results := [.lit (.bool true)], args := [d1, d2] }
  | _ => none }
def whereSpotsRow : OpenClaim := { program := "ytgblbhbmeflckaa", sum := "792e5dce78cf98bb294c76e8ec15688526425b96873ddce7c9a0dcdfe6457b56", func := "mahout/mahoutlaw03.WhereSpots", spec := "whereSpots", inPlace := ["math.Float64bits"], apart := false }
def WhereSpotsSaid : Prop := whereSpotsRow.holds Try.pinned (OpenSpec.ofChange whereSpotsSpec)

/-- ITS FALSE NEIGHBOUR: 'it returns false'. Refute it at one input. -/
def whereSpotsWrong : ChangeSpec := { name := "whereSpots", fn := fun _ => fun
  | [d1, d2] => { results := [.lit (.bool false)], args := [d1, d2] }
  | _ => none }
def WhereSpotsWrongFalsely : Prop := whereSpotsRow.holds Try.pinned (OpenSpec.ofChange whereSpotsWrong)

/-- 'mahoutlaw03.WhereTurns': WHATEVER THE INPUT: true; the input reads as it did. -/
def whereTurnsSpec : ChangeSpec := { name := "whereTurns", fn := fun _ => fun
  | [d1, d2, d3] => { results := [.lit (.bool true)], args := [d1, d2, d3] }
  | _ => none }
def whereTurnsRow : OpenClaim := { program := "ytgblbhbmeflckaa", sum := "792e5dce78cf98bb294c76e8ec15688526425b96873ddce7c9a0dcdfe6457b56", func := "mahout/mahoutlaw03.WhereTurns", spec := "whereTurns", inPlace := ["math.Float64frombits"], apart := false }
def WhereTurnsSaid : Prop := whereTurnsRow.holds Try.pinned (OpenSpec.ofChange whereTurnsSpec)

/-- ITS FALSE NEIGHBOUR: 'it returns false'. Refute it at one input. -/
def whereTurnsWrong : ChangeSpec := { name := "whereTurns", fn := fun _ => fun
  | [d1, d2, d3] => { results := [.lit (.bool false)], args := [d1, d2, d3] }
  | _ => none }
def WhereTurnsWrongFalsely : Prop := whereTurnsRow.holds Try.pinned (OpenSpec.ofChange whereTurnsWrong)

/-- 'mahoutlaw03.WhereDists': WHATEVER THE INPUT: true; the input reads as it did. -/
def whereDistsSpec : ChangeSpec := { name := "whereDists", fn := fun _ => fun
  | [d1, d2, d3] => { results := [.lit (.bool true)], args := [d1, d2, d3] }
  | _ => none }
def whereDistsRow : OpenClaim := { program := "ytgblbhbmeflckaa", sum := "792e5dce78cf98bb294c76e8ec15688526425b96873ddce7c9a0dcdfe6457b56", func := "mahout/mahoutlaw03.WhereDists", spec := "whereDists", inPlace := ["math.Float64frombits", "math.Float64bits"], apart := false }
def WhereDistsSaid : Prop := whereDistsRow.holds Try.pinned (OpenSpec.ofChange whereDistsSpec)

/-- ITS FALSE NEIGHBOUR: 'it returns false'. Refute it at one input. -/
def whereDistsWrong : ChangeSpec := { name := "whereDists", fn := fun _ => fun
  | [d1, d2, d3] => { results := [.lit (.bool false)], args := [d1, d2, d3] }
  | _ => none }
def WhereDistsWrongFalsely : Prop := whereDistsRow.holds Try.pinned (OpenSpec.ofChange whereDistsWrong)

/-- 'mahoutlaw03.WhereNearest': WHATEVER THE INPUT: true; the input reads as it did. -/
def whereNearestSpec : ChangeSpec := { name := "whereNearest", fn := fun _ => fun
  | [d1, d2] => { results := [.lit (.bool true)], args := [d1, d2] }
  | _ => none }
def whereNearestRow : OpenClaim := { program := "ytgblbhbmeflckaa", sum := "792e5dce78cf98bb294c76e8ec15688526425b96873ddce7c9a0dcdfe6457b56", func := "mahout/mahoutlaw03.WhereNearest", spec := "whereNearest", inPlace := ["math.Float64frombits"], unfollowed := true, recurses := true, apart := false }
def WhereNearestSaid : Prop := whereNearestRow.holds Try.pinned (OpenSpec.ofChange whereNearestSpec)

/-- ITS FALSE NEIGHBOUR: 'it returns false'. Refute it at one input. -/
def whereNearestWrong : ChangeSpec := { name := "whereNearest", fn := fun _ => fun
  | [d1, d2] => { results := [.lit (.bool false)], args := [d1, d2] }
  | _ => none }
def WhereNearestWrongFalsely : Prop := whereNearestRow.holds Try.pinned (OpenSpec.ofChange whereNearestWrong)

/-- 'mahoutlaw03.WhereNears': WHATEVER THE INPUT: true; the input reads as it did. -/
def whereNearsSpec : ChangeSpec := { name := "whereNears", fn := fun _ => fun
  | [d1, d2] => { results := [.lit (.bool true)], args := [d1, d2] }
  | _ => none }
def whereNearsRow : OpenClaim := { program := "ytgblbhbmeflckaa", sum := "792e5dce78cf98bb294c76e8ec15688526425b96873ddce7c9a0dcdfe6457b56", func := "mahout/mahoutlaw03.WhereNears", spec := "whereNears", inPlace := ["math.Float64frombits", "math.Float64bits"], unfollowed := true, recurses := true, apart := false }
def WhereNearsSaid : Prop := whereNearsRow.holds Try.pinned (OpenSpec.ofChange whereNearsSpec)

/-- ITS FALSE NEIGHBOUR: 'it returns false'. Refute it at one input. -/
def whereNearsWrong : ChangeSpec := { name := "whereNears", fn := fun _ => fun
  | [d1, d2] => { results := [.lit (.bool false)], args := [d1, d2] }
  | _ => none }
def WhereNearsWrongFalsely : Prop := whereNearsRow.holds Try.pinned (OpenSpec.ofChange whereNearsWrong)

/-- 'mahoutlaw03.WhereSpreads': WHATEVER THE INPUT: true; the input reads as it did. -/
def whereSpreadsSpec : ChangeSpec := { name := "whereSpreads", fn := fun _ => fun
  | [d1, d2, d3] => { results := [.lit (.bool true)], args := [d1, d2, d3] }
  | _ => none }
def whereSpreadsRow : OpenClaim := { program := "ytgblbhbmeflckaa", sum := "792e5dce78cf98bb294c76e8ec15688526425b96873ddce7c9a0dcdfe6457b56", func := "mahout/mahoutlaw03.WhereSpreads", spec := "whereSpreads", inPlace := ["math.Float64frombits"], unfollowed := true, recurses := true, apart := false }
def WhereSpreadsSaid : Prop := whereSpreadsRow.holds Try.pinned (OpenSpec.ofChange whereSpreadsSpec)

/-- ITS FALSE NEIGHBOUR: 'it returns false'. Refute it at one input. -/
def whereSpreadsWrong : ChangeSpec := { name := "whereSpreads", fn := fun _ => fun
  | [d1, d2, d3] => { results := [.lit (.bool false)], args := [d1, d2, d3] }
  | _ => none }
def WhereSpreadsWrongFalsely : Prop := whereSpreadsRow.holds Try.pinned (OpenSpec.ofChange whereSpreadsWrong)

/- THE SECOND FORM. 'bulk': how many values and letters a reading holds, each counted each time it is reached (what is shared counts as often as it is met; a slice's spare places count too). A statement '..UptoSaid' is the law's where the arguments, and the package variables that the reading takes, are together of bulk at most 1048576: NARROWER than '..Said'. Prove '..Said' where nothing that the law and all that it calls make is longer than what came in: it says more and counts as full. Else prove '..UptoSaid'. A law counts once. -/
mutual
def uptoBulk {H : Type} : DataW H → Nat
  | .lit (.string bytes) => bytes.length + 1
  | .lit _ => 1
  | .nil => 1
  | .ptr d => uptoBulk d + 1
  | .slice elems spare => uptoBulkAll elems + uptoBulkAll spare + 1
  | .agg parts => uptoBulkAll parts + 1
  | .iface _ d => uptoBulk d + 1
  | .map entries => uptoBulkEntries entries + 1
  | .held _ => 1
def uptoBulkAll {H : Type} : List (DataW H) → Nat
  | [] => 0
  | d :: r => uptoBulk d + uptoBulkAll r
def uptoBulkEntries {H : Type} : List (Lit × DataW H) → Nat
  | [] => 0
  | x :: r => uptoBulkEntry x + uptoBulkEntries r
def uptoBulkEntry {H : Type} : Lit × DataW H → Nat
  | (.string bytes, d) => bytes.length + uptoBulk d + 1
  | (_, d) => uptoBulk d + 1
 end
def uptoSmall : (H : Type) → List (DataW H) → Bool := fun _ ds => decide (uptoBulkAll ds ≤ 1048576)
def OpenSpec.upto (s : _root_.Go.ChangeSpec) : _root_.Go.OpenSpec := { _root_.Go.OpenSpec.ofChange s with cond := some uptoSmall }

/-- 'mahoutlaw03.WhereWays', WHERE WHAT IT READS IS OF BULK AT MOST 1048576: true; the input reads as it did. -/
def whereWaysUptoRow : OpenClaim := { program := "ytgblbhbmeflckaa", sum := "792e5dce78cf98bb294c76e8ec15688526425b96873ddce7c9a0dcdfe6457b56", func := "mahout/mahoutlaw03.WhereWays", spec := "whereWays", inPlace := ["math.Float64frombits"], apart := false, narrowed := true }
def WhereWaysUptoSaid : Prop := whereWaysUptoRow.holds Try.pinned (OpenSpec.upto whereWaysSpec)

/-- 'mahoutlaw03.WhereSpots', WHERE WHAT IT READS IS OF BULK AT MOST 1048576: true; the input reads as it did. -/
def whereSpotsUptoRow : OpenClaim := { program := "ytgblbhbmeflckaa", sum := "792e5dce78cf98bb294c76e8ec15688526425b96873ddce7c9a0dcdfe6457b56", func := "mahout/mahoutlaw03.WhereSpots", spec := "whereSpots", inPlace := ["math.Float64bits"], apart := false, narrowed := true }
def WhereSpotsUptoSaid : Prop := whereSpotsUptoRow.holds Try.pinned (OpenSpec.upto whereSpotsSpec)

/-- 'mahoutlaw03.WhereTurns', WHERE WHAT IT READS IS OF BULK AT MOST 1048576: true; the input reads as it did. -/
def whereTurnsUptoRow : OpenClaim := { program := "ytgblbhbmeflckaa", sum := "792e5dce78cf98bb294c76e8ec15688526425b96873ddce7c9a0dcdfe6457b56", func := "mahout/mahoutlaw03.WhereTurns", spec := "whereTurns", inPlace := ["math.Float64frombits"], apart := false, narrowed := true }
def WhereTurnsUptoSaid : Prop := whereTurnsUptoRow.holds Try.pinned (OpenSpec.upto whereTurnsSpec)

/-- 'mahoutlaw03.WhereDists', WHERE WHAT IT READS IS OF BULK AT MOST 1048576: true; the input reads as it did. -/
def whereDistsUptoRow : OpenClaim := { program := "ytgblbhbmeflckaa", sum := "792e5dce78cf98bb294c76e8ec15688526425b96873ddce7c9a0dcdfe6457b56", func := "mahout/mahoutlaw03.WhereDists", spec := "whereDists", inPlace := ["math.Float64frombits", "math.Float64bits"], apart := false, narrowed := true }
def WhereDistsUptoSaid : Prop := whereDistsUptoRow.holds Try.pinned (OpenSpec.upto whereDistsSpec)

/-- 'mahoutlaw03.WhereNearest', WHERE WHAT IT READS IS OF BULK AT MOST 1048576: true; the input reads as it did. -/
def whereNearestUptoRow : OpenClaim := { program := "ytgblbhbmeflckaa", sum := "792e5dce78cf98bb294c76e8ec15688526425b96873ddce7c9a0dcdfe6457b56", func := "mahout/mahoutlaw03.WhereNearest", spec := "whereNearest", inPlace := ["math.Float64frombits"], unfollowed := true, recurses := true, apart := false, narrowed := true }
def WhereNearestUptoSaid : Prop := whereNearestUptoRow.holds Try.pinned (OpenSpec.upto whereNearestSpec)

/-- 'mahoutlaw03.WhereNears', WHERE WHAT IT READS IS OF BULK AT MOST 1048576: true; the input reads as it did. -/
def whereNearsUptoRow : OpenClaim := { program := "ytgblbhbmeflckaa", sum := "792e5dce78cf98bb294c76e8ec15688526425b96873ddce7c9a0dcdfe6457b56", func := "mahout/mahoutlaw03.WhereNears", spec := "whereNears", inPlace := ["math.Float64frombits", "math.Float64bits"], unfollowed := true, recurses := true, apart := false, narrowed := true }
def WhereNearsUptoSaid : Prop := whereNearsUptoRow.holds Try.pinned (OpenSpec.upto whereNearsSpec)

/-- 'mahoutlaw03.WhereSpreads', WHERE WHAT IT READS IS OF BULK AT MOST 1048576: true; the input reads as it did. -/
def whereSpreadsUptoRow : OpenClaim := { program := "ytgblbhbmeflckaa", sum := "792e5dce78cf98bb294c76e8ec15688526425b96873ddce7c9a0dcdfe6457b56", func := "mahout/mahoutlaw03.WhereSpreads", spec := "whereSpreads", inPlace := ["math.Float64frombits"], unfollowed := true, recurses := true, apart := false, narrowed := true }
def WhereSpreadsUptoSaid : Prop := whereSpreadsUptoRow.holds Try.pinned (OpenSpec.upto whereSpreadsSpec)

end Rows
end Go.Proofs.Ytgblbhbmeflckaa
