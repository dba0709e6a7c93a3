/-
  No cell of these rows narrows 'for every input' (looked for: loops, veiled, ifaces, maps, wideKeys, modest, calm, conditions, laid).
  DERIVED. THE GIVEN ROWS OF THIS SEAT. 5 by the template 'for every input the law returns true; each argument reads behind the call as it read before'; 0 by the template 'total and deterministic' (their statements: YtbpphflegjebaaaTotals.lean).
  GIVEN WITH THE SEED: the statements are not yours to turn. If you find one false, say at which input.
  Laid BY PROGRAM, IN A SANDBOX (cutbox-rows.mjs): the forced cells as the released guide's own fill.sh prints them over the translation 85ea0e6b3cf60af7… (all of the seat's roots in one cut). By AI agents, Wed Nov 11 2026. No macro, syntax, notation, axiom, sorry.
-/
import Derived.Test.YtbpphflegjebaaaChecked
import GoSem.Claim
import GoSem.ClaimJoined
import GoSem.ClaimMapViews
import Derived.JoinedTies
import Derived.KernelRfl
namespace Go.Proofs.Ytbpphflegjebaaa
/- THE CELL 'sum', in the pinned program and in every row, IS THE sha256 OF THE DUMP (.gsa) THAT YtbpphflegjebaaaProg.lean LOADS. Nothing in Lean hashes anything: it is a label: what it is worth is what the hold of that sum in a sandbox is worth. -/
noncomputable def Try.pinned : Pinned := { name := "ytbpphflegjebaaa", sum := "85ea0e6b3cf60af727293001213463326644735a07aaa9f76b88c72806bb1b3b", checked := Try.checked }
namespace Rows
def none {H : Type} : Left H := { results := [], args := [] }

/-- 'mahoutlaw02.WireSizes': WHATEVER THE INPUT: true; the input reads as it did. -/
def wireSizesSpec : ChangeSpec := { name := "wireSizes", fn := fun _ => fun
  | [d1, d2] => { results := [.lit (.bool true)], args := [d1, d2] }
  | _ => none }
def wireSizesRow : OpenClaim := { program := "ytbpphflegjebaaa", sum := "85ea0e6b3cf60af727293001213463326644735a07aaa9f76b88c72806bb1b3b", func := "mahout/mahoutlaw02.WireSizes", spec := "wireSizes", apart := false }
def WireSizesSaid : Prop := wireSizesRow.holds Try.pinned (OpenSpec.ofChange wireSizesSpec)

/-- ITS FALSE NEIGHBOUR: 'it returns false'. Refute it at one input. -/
def wireSizesWrong : ChangeSpec := { name := "wireSizes", fn := fun _ => fun
  | [d1, d2] => { results := [.lit (.bool false)], args := [d1, d2] }
  | _ => none }
def WireSizesWrongFalsely : Prop := wireSizesRow.holds Try.pinned (OpenSpec.ofChange wireSizesWrong)

/-- 'mahoutlaw02.WirePacks': WHATEVER THE INPUT: true; the input reads as it did. -/
def wirePacksSpec : ChangeSpec := { name := "wirePacks", fn := fun _ => fun
  | [d] => { results := [.lit (.bool true)], args := [d] }
  | _ => none }
def wirePacksRow : OpenClaim := { program := "ytbpphflegjebaaa", sum := "85ea0e6b3cf60af727293001213463326644735a07aaa9f76b88c72806bb1b3b", func := "mahout/mahoutlaw02.WirePacks", spec := "wirePacks", apart := false }
def WirePacksSaid : Prop := wirePacksRow.holds Try.pinned (OpenSpec.ofChange wirePacksSpec)

/-- ITS FALSE NEIGHBOUR: 'it returns false'. Refute it at one input. -/
def wirePacksWrong : ChangeSpec := { name := "wirePacks", fn := fun _ => fun
  | [d] => { results := [.lit (.bool false)], args := [d] }
  | _ => none }
def WirePacksWrongFalsely : Prop := wirePacksRow.holds Try.pinned (OpenSpec.ofChange wirePacksWrong)

/-- 'mahoutlaw02.WireUnpacks': WHATEVER THE INPUT: true; the input reads as it did. -/
def wireUnpacksSpec : ChangeSpec := { name := "wireUnpacks", fn := fun _ => fun
  | [d1, d2] => { results := [.lit (.bool true)], args := [d1, d2] }
  | _ => none }
def wireUnpacksRow : OpenClaim := { program := "ytbpphflegjebaaa", sum := "85ea0e6b3cf60af727293001213463326644735a07aaa9f76b88c72806bb1b3b", func := "mahout/mahoutlaw02.WireUnpacks", spec := "wireUnpacks", apart := false }
def WireUnpacksSaid : Prop := wireUnpacksRow.holds Try.pinned (OpenSpec.ofChange wireUnpacksSpec)

/-- ITS FALSE NEIGHBOUR: 'it returns false'. Refute it at one input. -/
def wireUnpacksWrong : ChangeSpec := { name := "wireUnpacks", fn := fun _ => fun
  | [d1, d2] => { results := [.lit (.bool false)], args := [d1, d2] }
  | _ => none }
def WireUnpacksWrongFalsely : Prop := wireUnpacksRow.holds Try.pinned (OpenSpec.ofChange wireUnpacksWrong)

/-- 'mahoutlaw02.WireThereAndBack': WHATEVER THE INPUT: true; the input reads as it did. -/
def wireThereAndBackSpec : ChangeSpec := { name := "wireThereAndBack", fn := fun _ => fun
  | [d] => { results := [.lit (.bool true)], args := [d] }
  | _ => none }
def wireThereAndBackRow : OpenClaim := { program := "ytbpphflegjebaaa", sum := "85ea0e6b3cf60af727293001213463326644735a07aaa9f76b88c72806bb1b3b", func := "mahout/mahoutlaw02.WireThereAndBack", spec := "wireThereAndBack", apart := false }
def WireThereAndBackSaid : Prop := wireThereAndBackRow.holds Try.pinned (OpenSpec.ofChange wireThereAndBackSpec)

/-- ITS FALSE NEIGHBOUR: 'it returns false'. Refute it at one input. -/
def wireThereAndBackWrong : ChangeSpec := { name := "wireThereAndBack", fn := fun _ => fun
  | [d] => { results := [.lit (.bool false)], args := [d] }
  | _ => none }
def WireThereAndBackWrongFalsely : Prop := wireThereAndBackRow.holds Try.pinned (OpenSpec.ofChange wireThereAndBackWrong)

/-- 'mahoutlaw02.WireOneForm': WHATEVER THE INPUT: true; the input reads as it did. -/
def wireOneFormSpec : ChangeSpec := { name := "wireOneForm", fn := fun _ => fun
  | [d1, d2] => { results := [.lit (.bool true)], args := [d1, d2] }
  | _ => none }
def wireOneFormRow : OpenClaim := { program := "ytbpphflegjebaaa", sum := "85ea0e6b3cf60af727293001213463326644735a07aaa9f76b88c72806bb1b3b", func := "mahout/mahoutlaw02.WireOneForm", spec := "wireOneForm", apart := false }
def WireOneFormSaid : Prop := wireOneFormRow.holds Try.pinned (OpenSpec.ofChange wireOneFormSpec)

/-- ITS FALSE NEIGHBOUR: 'it returns false'. Refute it at one input. -/
def wireOneFormWrong : ChangeSpec := { name := "wireOneForm", fn := fun _ => fun
  | [d1, d2] => { results := [.lit (.bool false)], args := [d1, d2] }
  | _ => none }
def WireOneFormWrongFalsely : Prop := wireOneFormRow.holds Try.pinned (OpenSpec.ofChange wireOneFormWrong)

/- THE SECOND FORM. 'bulk': how many values and letters a reading holds, each counted each time it is reached (what is shared counts as often as it is met; a slice's spare places count too). A statement '..UptoSaid' is the law's where the arguments, and the package variables that the reading takes, are together of bulk at most 1048576: NARROWER than '..Said'. Prove '..Said' where nothing that the law and all that it calls make is longer than what came in: it says more and counts as full. Else prove '..UptoSaid'. A law counts once. -/
mutual
def uptoBulk {H : Type} : DataW H → Nat
  | .lit (.string bytes) => bytes.length + 1
  | .lit _ => 1
  | .nil => 1
  | .ptr d => uptoBulk d + 1
  | .slice elems spare => uptoBulkAll elems + uptoBulkAll spare + 1
  | .agg parts => uptoBulkAll parts + 1
  | .iface _ d => uptoBulk d + 1
  | .map entries => uptoBulkEntries entries + 1
  | .held _ => 1
def uptoBulkAll {H : Type} : List (DataW H) → Nat
  | [] => 0
  | d :: r => uptoBulk d + uptoBulkAll r
def uptoBulkEntries {H : Type} : List (Lit × DataW H) → Nat
  | [] => 0
  | x :: r => uptoBulkEntry x + uptoBulkEntries r
def uptoBulkEntry {H : Type} : Lit × DataW H → Nat
  | (.string bytes, d) => bytes.length + uptoBulk d + 1
  | (_, d) => uptoBulk d + 1
 end
def uptoSmall : (H : Type) → List (DataW H) → Bool := fun _ ds => decide (uptoBulkAll ds ≤ 1048576)
def OpenSpec.upto (s : _root_.Go.ChangeSpec) : _root_.Go.OpenSpec := { _root_.Go.OpenSpec.ofChange s with cond := some uptoSmall }

/-- 'mahoutlaw02.WireSizes', WHERE WHAT IT READS IS OF BULK AT MOST 1048576: true; the input reads as it did. -/
def wireSizesUptoRow : OpenClaim := { program := "ytbpphflegjebaaa", sum := "85ea0e6b3cf60af727293001213463326644735a07aaa9f76b88c72806bb1b3b", func := "mahout/mahoutlaw02.WireSizes", spec := "wireSizes", apart := false, narrowed := true }
def WireSizesUptoSaid : Prop := wireSizesUptoRow.holds Try.pinned (OpenSpec.upto wireSizesSpec)

/-- 'mahoutlaw02.WirePacks', WHERE WHAT IT READS IS OF BULK AT MOST 1048576: true; the input reads as it did. -/
def wirePacksUptoRow : OpenClaim := { program := "ytbpphflegjebaaa", sum := "85ea0e6b3cf60af727293001213463326644735a07aaa9f76b88c72806bb1b3b", func := "mahout/mahoutlaw02.WirePacks", spec := "wirePacks", apart := false, narrowed := true }
def WirePacksUptoSaid : Prop := wirePacksUptoRow.holds Try.pinned (OpenSpec.upto wirePacksSpec)

/-- 'mahoutlaw02.WireUnpacks', WHERE WHAT IT READS IS OF BULK AT MOST 1048576: true; the input reads as it did. -/
def wireUnpacksUptoRow : OpenClaim := { program := "ytbpphflegjebaaa", sum := "85ea0e6b3cf60af727293001213463326644735a07aaa9f76b88c72806bb1b3b", func := "mahout/mahoutlaw02.WireUnpacks", spec := "wireUnpacks", apart := false, narrowed := true }
def WireUnpacksUptoSaid : Prop := wireUnpacksUptoRow.holds Try.pinned (OpenSpec.upto wireUnpacksSpec)

/-- 'mahoutlaw02.WireThereAndBack', WHERE WHAT IT READS IS OF BULK AT MOST 1048576: true; the input reads as it did. -/
def wireThereAndBackUptoRow : OpenClaim := { program := "ytbpphflegjebaaa", sum := "85ea0e6b3cf60af727293001213463326644735a07aaa9f76b88c72806bb1b3b", func := "mahout/mahoutlaw02.WireThereAndBack", spec := "wireThereAndBack", apart := false, narrowed := true }
def WireThereAndBackUptoSaid : Prop := wireThereAndBackUptoRow.holds Try.pinned (OpenSpec.upto wireThereAndBackSpec)

/-- 'mahoutlaw02.WireOneForm', WHERE WHAT IT READS IS OF BULK AT MOST 1048576: true; the input reads as it did. -/
def wireOneFormUptoRow : OpenClaim := { program := "ytbpphflegjebaaa", sum := "85ea0e6b3cf60af727293001213463326644735a07aaa9f76b88c72806bb1b3b", func := "mahout/mahoutlaw02.WireOneForm", spec := "wireOneForm", apart := false, narrowed := true }
def WireOneFormUptoSaid : Prop := wireOneFormUptoRow.holds Try.pinned (OpenSpec.upto wireOneFormSpec)

end Rows
end Go.Proofs.Ytbpphflegjebaaa
