/-
  No cell of these rows narrows 'for every input' (looked for: loops, veiled, ifaces, maps, wideKeys, modest, calm, conditions, laid).
  DERIVED. THE GIVEN ROWS OF THIS SEAT. 4 by the template 'for every input the law returns true; each argument reads behind the call as it read before'; 0 by the template 'total and deterministic' (their statements: YtmjmfjgigkiajaaTotals.lean).
  GIVEN WITH THE SEED: the statements are not yours to turn. If you find one false, say at which input.
  Laid BY PROGRAM, IN A SANDBOX (cutbox-rows.mjs): the forced cells as the released guide's own fill.sh prints them over the translation 8cdaa25ece1a5de4… (all of the seat's roots in one cut). By AI agents, Wed Nov 11 2026. No macro, syntax, notation, axiom, sorry.
-/
import Derived.Test.YtmjmfjgigkiajaaChecked
import GoSem.Claim
import GoSem.ClaimJoined
import GoSem.ClaimMapViews
import Derived.JoinedTies
import Derived.KernelRfl
namespace Go.Proofs.Ytmjmfjgigkiajaa
/- THE CELL 'sum', in the pinned program and in every row, IS THE sha256 OF THE DUMP (.gsa) THAT YtmjmfjgigkiajaaProg.lean LOADS. Nothing in Lean hashes anything: it is a label: what it is worth is what the hold of that sum in a sandbox is worth. -/
noncomputable def Try.pinned : Pinned := { name := "ytmjmfjgigkiajaa", sum := "8cdaa25ece1a5de47d7791b7740e3c6571a6b205c8dfd4cf8e8e9409057b9f17", checked := Try.checked }
namespace Rows
def none {H : Type} : Left H := { results := [], args := [] }

/-- 'mahoutlaw18.SplitsPlans': WHATEVER THE INPUT: true; the input reads as it did. -/
def splitsPlansSpec : ChangeSpec := { name := "splitsPlans", fn := fun _ => fun
  | [d1, d2] => { results := [.lit (.bool true)], args := [d1, d2] }
  | _ => none }
def splitsPlansRow : OpenClaim := { program := "ytmjmfjgigkiajaa", sum := "8cdaa25ece1a5de47d7791b7740e3c6571a6b205c8dfd4cf8e8e9409057b9f17", func := "mahout/mahoutlaw18.SplitsPlans", spec := "splitsPlans", apart := false }
def SplitsPlansSaid : Prop := splitsPlansRow.holds Try.pinned (OpenSpec.ofChange splitsPlansSpec)

/-- ITS FALSE NEIGHBOUR: 'it returns false'. Refute it at one input. -/
def splitsPlansWrong : ChangeSpec := { name := "splitsPlans", fn := fun _ => fun
  | [d1, d2] => { results := [.lit (.bool false)], args := [d1, d2] }
  | _ => none }
def SplitsPlansWrongFalsely : Prop := splitsPlansRow.holds Try.pinned (OpenSpec.ofChange splitsPlansWrong)

/-- 'mahoutlaw18.SplitsEven': WHATEVER THE INPUT: true; the input reads as it did. -/
def splitsEvenSpec : ChangeSpec := { name := "splitsEven", fn := fun _ => fun
  | [d1, d2] => { results := [.lit (.bool true)], args := [d1, d2] }
  | _ => none }
def splitsEvenRow : OpenClaim := { program := "ytmjmfjgigkiajaa", sum := "8cdaa25ece1a5de47d7791b7740e3c6571a6b205c8dfd4cf8e8e9409057b9f17", func := "mahout/mahoutlaw18.SplitsEven", spec := "splitsEven", apart := false }
def SplitsEvenSaid : Prop := splitsEvenRow.holds Try.pinned (OpenSpec.ofChange splitsEvenSpec)

/-- ITS FALSE NEIGHBOUR: 'it returns false'. Refute it at one input. -/
def splitsEvenWrong : ChangeSpec := { name := "splitsEven", fn := fun _ => fun
  | [d1, d2] => { results := [.lit (.bool false)], args := [d1, d2] }
  | _ => none }
def SplitsEvenWrongFalsely : Prop := splitsEvenRow.holds Try.pinned (OpenSpec.ofChange splitsEvenWrong)

/-- 'mahoutlaw18.SplitsRecords': WHATEVER THE INPUT: true; the input reads as it did. -/
def splitsRecordsSpec : ChangeSpec := { name := "splitsRecords", fn := fun _ => fun
  | [d1, d2, d3] => { results := [.lit (.bool true)], args := [d1, d2, d3] }
  | _ => none }
def splitsRecordsRow : OpenClaim := { program := "ytmjmfjgigkiajaa", sum := "8cdaa25ece1a5de47d7791b7740e3c6571a6b205c8dfd4cf8e8e9409057b9f17", func := "mahout/mahoutlaw18.SplitsRecords", spec := "splitsRecords", inPlace := ["internal/bytealg.IndexByteString"], unfollowed := true, recurses := true, apart := false }
def SplitsRecordsSaid : Prop := splitsRecordsRow.holds Try.pinned (OpenSpec.ofChange splitsRecordsSpec)

/-- ITS FALSE NEIGHBOUR: 'it returns false'. Refute it at one input. -/
def splitsRecordsWrong : ChangeSpec := { name := "splitsRecords", fn := fun _ => fun
  | [d1, d2, d3] => { results := [.lit (.bool false)], args := [d1, d2, d3] }
  | _ => none }
def SplitsRecordsWrongFalsely : Prop := splitsRecordsRow.holds Try.pinned (OpenSpec.ofChange splitsRecordsWrong)

/-- 'mahoutlaw18.SplitsAll': WHATEVER THE INPUT: true; the input reads as it did. -/
def splitsAllSpec : ChangeSpec := { name := "splitsAll", fn := fun _ => fun
  | [d1, d2, d3] => { results := [.lit (.bool true)], args := [d1, d2, d3] }
  | _ => none }
def splitsAllRow : OpenClaim := { program := "ytmjmfjgigkiajaa", sum := "8cdaa25ece1a5de47d7791b7740e3c6571a6b205c8dfd4cf8e8e9409057b9f17", func := "mahout/mahoutlaw18.SplitsAll", spec := "splitsAll", inPlace := ["internal/bytealg.IndexByteString"], unfollowed := true, recurses := true, apart := false }
def SplitsAllSaid : Prop := splitsAllRow.holds Try.pinned (OpenSpec.ofChange splitsAllSpec)

/-- ITS FALSE NEIGHBOUR: 'it returns false'. Refute it at one input. -/
def splitsAllWrong : ChangeSpec := { name := "splitsAll", fn := fun _ => fun
  | [d1, d2, d3] => { results := [.lit (.bool false)], args := [d1, d2, d3] }
  | _ => none }
def SplitsAllWrongFalsely : Prop := splitsAllRow.holds Try.pinned (OpenSpec.ofChange splitsAllWrong)

/- THE SECOND FORM. 'bulk': how many values and letters a reading holds, each counted each time it is reached (what is shared counts as often as it is met; a slice's spare places count too). A statement '..UptoSaid' is the law's where the arguments, and the package variables that the reading takes, are together of bulk at most 1048576: NARROWER than '..Said'. Prove '..Said' where nothing that the law and all that it calls make is longer than what came in: it says more and counts as full. Else prove '..UptoSaid'. A law counts once. -/
mutual
def uptoBulk {H : Type} : DataW H → Nat
  | .lit (.string bytes) => bytes.length + 1
  | .lit _ => 1
  | .nil => 1
  | .ptr d => uptoBulk d + 1
  | .slice elems spare => uptoBulkAll elems + uptoBulkAll spare + 1
  | .agg parts => uptoBulkAll parts + 1
  | .iface _ d => uptoBulk d + 1
  | .map entries => uptoBulkEntries entries + 1
  | .held _ => 1
def uptoBulkAll {H : Type} : List (DataW H) → Nat
  | [] => 0
  | d :: r => uptoBulk d + uptoBulkAll r
def uptoBulkEntries {H : Type} : List (Lit × DataW H) → Nat
  | [] => 0
  | x :: r => uptoBulkEntry x + uptoBulkEntries r
def uptoBulkEntry {H : Type} : Lit × DataW H → Nat
  | (.string bytes, d) => bytes.length + uptoBulk d + 1
  | (_, d) => uptoBulk d + 1
 end
def uptoSmall : (H : Type) → List (DataW H) → Bool := fun _ ds => decide (uptoBulkAll ds ≤ 1048576)
def OpenSpec.upto (s : _root_.Go.ChangeSpec) : _root_.Go.OpenSpec := { _root_.Go.OpenSpec.ofChange s with cond := some uptoSmall }

/-- 'mahoutlaw18.SplitsPlans', WHERE WHAT IT READS IS OF BULK AT MOST 1048576: true; the input reads as it did. -/
def splitsPlansUptoRow : OpenClaim := { program := "ytmjmfjgigkiajaa", sum := "8cdaa25ece1a5de47d7791b7740e3c6571a6b205c8dfd4cf8e8e9409057b9f17", func := "mahout/mahoutlaw18.SplitsPlans", spec := "splitsPlans", apart := false, narrowed := true }
def SplitsPlansUptoSaid : Prop := splitsPlansUptoRow.holds Try.pinned (OpenSpec.upto splitsPlansSpec)

/-- 'mahoutlaw18.SplitsEven', WHERE WHAT IT READS IS OF BULK AT MOST 1048576: true; the input reads as it did. -/
def splitsEvenUptoRow : OpenClaim := { program := "ytmjmfjgigkiajaa", sum := "8cdaa25ece1a5de47d7791b7740e3c6571a6b205c8dfd4cf8e8e9409057b9f17", func := "mahout/mahoutlaw18.SplitsEven", spec := "splitsEven", apart := false, narrowed := true }
def SplitsEvenUptoSaid : Prop := splitsEvenUptoRow.holds Try.pinned (OpenSpec.upto splitsEvenSpec)

/-- 'mahoutlaw18.SplitsRecords', WHERE WHAT IT READS IS OF BULK AT MOST 1048576: true; the input reads as it did. -/
def splitsRecordsUptoRow : OpenClaim := { program := "ytmjmfjgigkiajaa", sum := "8cdaa25ece1a5de47d7791b7740e3c6571a6b205c8dfd4cf8e8e9409057b9f17", func := "mahout/mahoutlaw18.SplitsRecords", spec := "splitsRecords", inPlace := ["internal/bytealg.IndexByteString"], unfollowed := true, recurses := true, apart := false, narrowed := true }
def SplitsRecordsUptoSaid : Prop := splitsRecordsUptoRow.holds Try.pinned (OpenSpec.upto splitsRecordsSpec)

/-- 'mahoutlaw18.SplitsAll', WHERE WHAT IT READS IS OF BULK AT MOST 1048576: true; the input reads as it did. -/
def splitsAllUptoRow : OpenClaim := { program := "ytmjmfjgigkiajaa", sum := "8cdaa25ece1a5de47d7791b7740e3c6571a6b205c8dfd4cf8e8e9409057b9f17", func := "mahout/mahoutlaw18.SplitsAll", spec := "splitsAll", inPlace := ["internal/bytealg.IndexByteString"], unfollowed := true, recurses := true, apart := false, narrowed := true }
def SplitsAllUptoSaid : Prop := splitsAllUptoRow.holds Try.pinned (OpenSpec.upto splitsAllSpec)

end Rows
end Go.Proofs.Ytmjmfjgigkiajaa
