/-
  No cell of these rows narrows 'for every input' (looked for: loops, veiled, ifaces, maps, wideKeys, modest, calm, conditions, laid).
  DERIVED. THE GIVEN ROWS OF THIS SEAT. 5 by the template 'for every input the law returns true; each argument reads behind the call as it read before'; 0 by the template 'total and deterministic' (their statements: YtgeeaddbapjikaaTotals.lean).
  GIVEN WITH THE SEED: the statements are not yours to turn. If you find one false, say at which input.
  Laid BY PROGRAM, IN A SANDBOX (cutbox-rows.mjs): the forced cells as the released guide's own fill.sh prints them over the translation d4941cc580dd3dd8… (all of the seat's roots in one cut). By AI agents, Wed Nov 11 2026. No macro, syntax, notation, axiom, sorry.
-/
import Derived.Test.YtgeeaddbapjikaaChecked
import GoSem.Claim
import GoSem.ClaimJoined
import GoSem.ClaimMapViews
import Derived.JoinedTies
import Derived.KernelRfl
namespace Go.Proofs.Ytgeeaddbapjikaa
/- THE CELL 'sum', in the pinned program and in every row, IS THE sha256 OF THE DUMP (.gsa) THAT YtgeeaddbapjikaaProg.lean LOADS. Nothing in Lean hashes anything: it is a label: what it is worth is what the hold of that sum in a sandbox is worth. -/
noncomputable def Try.pinned : Pinned := { name := "ytgeeaddbapjikaa", sum := "d4941cc580dd3dd82a396e4eb00896ad8d8933e9d72723fee2ba0865dc97ce29", checked := Try.checked }
namespace Rows
def none {H : Type} : Left H := { results := [], args := [] }

/-- 'mahoutlaw19.MergeMerges': WHATEVER THE INPUT: true; the input reads as it did. -/
def mergeMergesSpec : ChangeSpec := { name := "mergeMerges", fn := fun _ => fun
  | [d] => { results := [.lit (.bool true)], args := [d] }
  | _ => none }
def mergeMergesRow : OpenClaim := { program := "ytgeeaddbapjikaa", sum := "d4941cc580dd3dd82a396e4eb00896ad8d8933e9d72723fee2ba0865dc97ce29", func := "mahout/mahoutlaw19.MergeMerges", spec := "mergeMerges", unfollowed := true, recurses := true, apart := false }
def MergeMergesSaid : Prop := mergeMergesRow.holds Try.pinned (OpenSpec.ofChange mergeMergesSpec)

/-- ITS FALSE NEIGHBOUR: 'it returns false'. Refute it at one input. -/
def mergeMergesWrong : ChangeSpec := { name := "mergeMerges", fn := fun _ => fun
  | [d] => { results := [.lit (.bool false)], args := [d] }
  | _ => none }
def MergeMergesWrongFalsely : Prop := mergeMergesRow.holds Try.pinned (OpenSpec.ofChange mergeMergesWrong)

/-- 'mahoutlaw19.MergeGoes': WHATEVER THE INPUT: true; the input reads as it did. -/
def mergeGoesSpec : ChangeSpec := { name := "mergeGoes", fn := fun _ => fun
  | [d1, d2] => { results := [.lit (.bool true)], args := [d1, d2] }
  | _ => none }
def mergeGoesRow : OpenClaim := { program := "ytgeeaddbapjikaa", sum := "d4941cc580dd3dd82a396e4eb00896ad8d8933e9d72723fee2ba0865dc97ce29", func := "mahout/mahoutlaw19.MergeGoes", spec := "mergeGoes", unfollowed := true, recurses := true, apart := false }
def MergeGoesSaid : Prop := mergeGoesRow.holds Try.pinned (OpenSpec.ofChange mergeGoesSpec)

/-- ITS FALSE NEIGHBOUR: 'it returns false'. Refute it at one input. -/
def mergeGoesWrong : ChangeSpec := { name := "mergeGoes", fn := fun _ => fun
  | [d1, d2] => { results := [.lit (.bool false)], args := [d1, d2] }
  | _ => none }
def MergeGoesWrongFalsely : Prop := mergeGoesRow.holds Try.pinned (OpenSpec.ofChange mergeGoesWrong)

/-- 'mahoutlaw19.MergePieces': WHATEVER THE INPUT: true; the input reads as it did. -/
def mergePiecesSpec : ChangeSpec := { name := "mergePieces", fn := fun _ => fun
  | [d1, d2] => { results := [.lit (.bool true)], args := [d1, d2] }
  | _ => none }
def mergePiecesRow : OpenClaim := { program := "ytgeeaddbapjikaa", sum := "d4941cc580dd3dd82a396e4eb00896ad8d8933e9d72723fee2ba0865dc97ce29", func := "mahout/mahoutlaw19.MergePieces", spec := "mergePieces", unfollowed := true, recurses := true, apart := false }
def MergePiecesSaid : Prop := mergePiecesRow.holds Try.pinned (OpenSpec.ofChange mergePiecesSpec)

/-- ITS FALSE NEIGHBOUR: 'it returns false'. Refute it at one input. -/
def mergePiecesWrong : ChangeSpec := { name := "mergePieces", fn := fun _ => fun
  | [d1, d2] => { results := [.lit (.bool false)], args := [d1, d2] }
  | _ => none }
def MergePiecesWrongFalsely : Prop := mergePiecesRow.holds Try.pinned (OpenSpec.ofChange mergePiecesWrong)

/-- 'mahoutlaw19.MergeGathers': WHATEVER THE INPUT: true; the input reads as it did. -/
def mergeGathersSpec : ChangeSpec := { name := "mergeGathers", fn := fun _ => fun
  | [d] => { results := [.lit (.bool true)], args := [d] }
  | _ => none }
def mergeGathersRow : OpenClaim := { program := "ytgeeaddbapjikaa", sum := "d4941cc580dd3dd82a396e4eb00896ad8d8933e9d72723fee2ba0865dc97ce29", func := "mahout/mahoutlaw19.MergeGathers", spec := "mergeGathers", unfollowed := true, recurses := true, apart := false }
def MergeGathersSaid : Prop := mergeGathersRow.holds Try.pinned (OpenSpec.ofChange mergeGathersSpec)

/-- ITS FALSE NEIGHBOUR: 'it returns false'. Refute it at one input. -/
def mergeGathersWrong : ChangeSpec := { name := "mergeGathers", fn := fun _ => fun
  | [d] => { results := [.lit (.bool false)], args := [d] }
  | _ => none }
def MergeGathersWrongFalsely : Prop := mergeGathersRow.holds Try.pinned (OpenSpec.ofChange mergeGathersWrong)

/-- 'mahoutlaw19.MergeRises': WHATEVER THE INPUT: true; the input reads as it did. -/
def mergeRisesSpec : ChangeSpec := { name := "mergeRises", fn := fun _ => fun
  | [d] => { results := [.lit (.bool true)], args := [d] }
  | _ => none }
def mergeRisesRow : OpenClaim := { program := "ytgeeaddbapjikaa", sum := "d4941cc580dd3dd82a396e4eb00896ad8d8933e9d72723fee2ba0865dc97ce29", func := "mahout/mahoutlaw19.MergeRises", spec := "mergeRises", unfollowed := true, recurses := true, apart := false }
def MergeRisesSaid : Prop := mergeRisesRow.holds Try.pinned (OpenSpec.ofChange mergeRisesSpec)

/-- ITS FALSE NEIGHBOUR: 'it returns false'. Refute it at one input. -/
def mergeRisesWrong : ChangeSpec := { name := "mergeRises", fn := fun _ => fun
  | [d] => { results := [.lit (.bool false)], args := [d] }
  | _ => none }
def MergeRisesWrongFalsely : Prop := mergeRisesRow.holds Try.pinned (OpenSpec.ofChange mergeRisesWrong)

/- THE SECOND FORM. 'bulk': how many values and letters a reading holds, each counted each time it is reached (what is shared counts as often as it is met; a slice's spare places count too). A statement '..UptoSaid' is the law's where the arguments, and the package variables that the reading takes, are together of bulk at most 1048576: NARROWER than '..Said'. Prove '..Said' where nothing that the law and all that it calls make is longer than what came in: it says more and counts as full. Else prove '..UptoSaid'. A law counts once. -/
mutual
def uptoBulk {H : Type} : DataW H → Nat
  | .lit (.string bytes) => bytes.length + 1
  | .lit _ => 1
  | .nil => 1
  | .ptr d => uptoBulk d + 1
  | .slice elems spare => uptoBulkAll elems + uptoBulkAll spare + 1
  | .agg parts => uptoBulkAll parts + 1
  | .iface _ d => uptoBulk d + 1
  | .map entries => uptoBulkEntries entries + 1
  | .held _ => 1
def uptoBulkAll {H : Type} : List (DataW H) → Nat
  | [] => 0
  | d :: r => uptoBulk d + uptoBulkAll r
def uptoBulkEntries {H : Type} : List (Lit × DataW H) → Nat
  | [] => 0
  | x :: r => uptoBulkEntry x + uptoBulkEntries r
def uptoBulkEntry {H : Type} : Lit × DataW H → Nat
  | (.string bytes, d) => bytes.length + uptoBulk d + 1
  | (_, d) => uptoBulk d + 1
 end
def uptoSmall : (H : Type) → List (DataW H) → Bool := fun _ ds => decide (uptoBulkAll ds ≤ 1048576)
def OpenSpec.upto (s : _root_.Go.ChangeSpec) : _root_.Go.OpenSpec := { _root_.Go.OpenSpec.ofChange s with cond := some uptoSmall }

/-- 'mahoutlaw19.MergeMerges', WHERE WHAT IT READS IS OF BULK AT MOST 1048576: true; the input reads as it did. -/
def mergeMergesUptoRow : OpenClaim := { program := "ytgeeaddbapjikaa", sum := "d4941cc580dd3dd82a396e4eb00896ad8d8933e9d72723fee2ba0865dc97ce29", func := "mahout/mahoutlaw19.MergeMerges", spec := "mergeMerges", unfollowed := true, recurses := true, apart := false, narrowed := true }
def MergeMergesUptoSaid : Prop := mergeMergesUptoRow.holds Try.pinned (OpenSpec.upto mergeMergesSpec)

/-- 'mahoutlaw19.MergeGoes', WHERE WHAT IT READS IS OF BULK AT MOST 1048576: true; the input reads as it did. -/
def mergeGoesUptoRow : OpenClaim := { program := "ytgeeaddbapjikaa", sum := "d4941cc580dd3dd82a396e4eb00896ad8d8933e9d72723fee2ba0865dc97ce29", func := "mahout/mahoutlaw19.MergeGoes", spec := "mergeGoes", unfollowed := true, recurses := true, apart := false, narrowed := true }
def MergeGoesUptoSaid : Prop := mergeGoesUptoRow.holds Try.pinned (OpenSpec.upto mergeGoesSpec)

/-- 'mahoutlaw19.MergePieces', WHERE WHAT IT READS IS OF BULK AT MOST 1048576: true; the input reads as it did. -/
def mergePiecesUptoRow : OpenClaim := { program := "ytgeeaddbapjikaa", sum := "d4941cc580dd3dd82a396e4eb00896ad8d8933e9d72723fee2ba0865dc97ce29", func := "mahout/mahoutlaw19.MergePieces", spec := "mergePieces", unfollowed := true, recurses := true, apart := false, narrowed := true }
def MergePiecesUptoSaid : Prop := mergePiecesUptoRow.holds Try.pinned (OpenSpec.upto mergePiecesSpec)

/-- 'mahoutlaw19.MergeGathers', WHERE WHAT IT READS IS OF BULK AT MOST 1048576: true; the input reads as it did. -/
def mergeGathersUptoRow : OpenClaim := { program := "ytgeeaddbapjikaa", sum := "d4941cc580dd3dd82a396e4eb00896ad8d8933e9d72723fee2ba0865dc97ce29", func := "mahout/mahoutlaw19.MergeGathers", spec := "mergeGathers", unfollowed := true, recurses := true, apart := false, narrowed := true }
def MergeGathersUptoSaid : Prop := mergeGathersUptoRow.holds Try.pinned (OpenSpec.upto mergeGathersSpec)

/-- 'mahoutlaw19.MergeRises', WHERE WHAT IT READS IS OF BULK AT MOST 1048576: true; the input reads as it did. -/
def mergeRisesUptoRow : OpenClaim := { program := "ytgeeaddbapjikaa", sum := "d4941cc580dd3dd82a396e4eb00896ad8d8933e9d72723fee2ba0865dc97ce29", func := "mahout/mahoutlaw19.MergeRises", spec := "mergeRises", unfollowed := true, recurses := true, apart := false, narrowed := true }
def MergeRisesUptoSaid : Prop := mergeRisesUptoRow.holds Try.pinned (OpenSpec.upto mergeRisesSpec)

end Rows
end Go.Proofs.Ytgeeaddbapjikaa
