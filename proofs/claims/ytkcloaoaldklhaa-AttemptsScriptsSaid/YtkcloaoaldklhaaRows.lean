/-
  No cell of these rows narrows 'for every input' (looked for: loops, veiled, ifaces, maps, wideKeys, modest, calm, conditions, laid).
  DERIVED. THE GIVEN ROWS OF THIS SEAT. 4 by the template 'for every input the law returns true; each argument reads behind the call as it read before'; 0 by the template 'total and deterministic' (their statements: YtkcloaoaldklhaaTotals.lean).
  GIVEN WITH THE SEED: the statements are not yours to turn. If you find one false, say at which input.
  Laid BY PROGRAM, IN A SANDBOX (cutbox-rows.mjs): the forced cells as the released guide's own fill.sh prints them over the translation afa15643db5a6322… (all of the seat's roots in one cut). By AI agents, Wed Nov 11 2026. No macro, syntax, notation, axiom, sorry.
-/
import Derived.Test.YtkcloaoaldklhaaChecked
import GoSem.Claim
import GoSem.ClaimJoined
import GoSem.ClaimMapViews
import Derived.JoinedTies
import Derived.KernelRfl
namespace Go.Proofs.Ytkcloaoaldklhaa
/- THE CELL 'sum', in the pinned program and in every row, IS THE sha256 OF THE DUMP (.gsa) THAT YtkcloaoaldklhaaProg.lean LOADS. Nothing in Lean hashes anything: it is a label: what it is worth is what the hold of that sum in a sandbox is worth. -/
noncomputable def Try.pinned : Pinned := { name := "ytkcloaoaldklhaa", sum := "afa15643db5a63220b95383f171b056e2478758d698eb5e867f959b4ceee5723", checked := Try.checked }
namespace Rows
def none {H : Type} : Left H := { results := [], args := [] }

/-- 'mahoutlaw22.AttemptsKeeps': WHATEVER THE INPUT: true; the input reads as it did. -/
def attemptsKeepsSpec : ChangeSpec := { name := "attemptsKeeps", fn := fun _ => fun
  | [d] => { results := [.lit (.bool true)], args := [d] }
  | _ => none }
def attemptsKeepsRow : OpenClaim := { program := "ytkcloaoaldklhaa", sum := "afa15643db5a63220b95383f171b056e2478758d698eb5e867f959b4ceee5723", func := "mahout/mahoutlaw22.AttemptsKeeps", spec := "attemptsKeeps", apart := false }
def AttemptsKeepsSaid : Prop := attemptsKeepsRow.holds Try.pinned (OpenSpec.ofChange attemptsKeepsSpec)

/-- ITS FALSE NEIGHBOUR: 'it returns false'. Refute it at one input. -/
def attemptsKeepsWrong : ChangeSpec := { name := "attemptsKeeps", fn := fun _ => fun
  | [d] => { results := [.lit (.bool false)], args := [d] }
  | _ => none }
def AttemptsKeepsWrongFalsely : Prop := attemptsKeepsRow.holds Try.pinned (OpenSpec.ofChange attemptsKeepsWrong)

/-- 'mahoutlaw22.AttemptsEnds': WHATEVER THE INPUT: true; the input reads as it did. -/
def attemptsEndsSpec : ChangeSpec := { name := "attemptsEnds", fn := fun _ => fun
  | [d1, d2, d3] => { results := [.lit (.bool true)], args := [d1, d2, d3] }
  | _ => none }
def attemptsEndsRow : OpenClaim := { program := "ytkcloaoaldklhaa", sum := "afa15643db5a63220b95383f171b056e2478758d698eb5e867f959b4ceee5723", func := "mahout/mahoutlaw22.AttemptsEnds", spec := "attemptsEnds", apart := false }
def AttemptsEndsSaid : Prop := attemptsEndsRow.holds Try.pinned (OpenSpec.ofChange attemptsEndsSpec)

/-- ITS FALSE NEIGHBOUR: 'it returns false'. Refute it at one input. -/
def attemptsEndsWrong : ChangeSpec := { name := "attemptsEnds", fn := fun _ => fun
  | [d1, d2, d3] => { results := [.lit (.bool false)], args := [d1, d2, d3] }
  | _ => none }
def AttemptsEndsWrongFalsely : Prop := attemptsEndsRow.holds Try.pinned (OpenSpec.ofChange attemptsEndsWrong)

/-- 'mahoutlaw22.AttemptsScripts': WHATEVER THE INPUT: true; the input reads as it did. -/
def attemptsScriptsSpec : ChangeSpec := { name := "attemptsScripts", fn := fun _ => fun
  | [d1, d2, d3] => { results := [.lit (.bool true)], args := [d1, d2, d3] }
  | _ => none }
def attemptsScriptsRow : OpenClaim := { program := "ytkcloaoaldklhaa", sum := "afa15643db5a63220b95383f171b056e2478758d698eb5e867f959b4ceee5723", func := "mahout/mahoutlaw22.AttemptsScripts", spec := "attemptsScripts", apart := false }
def AttemptsScriptsSaid : Prop := attemptsScriptsRow.holds Try.pinned (OpenSpec.ofChange attemptsScriptsSpec)

/-- ITS FALSE NEIGHBOUR: 'it returns false'. Refute it at one input. -/
def attemptsScriptsWrong : ChangeSpec := { name := "attemptsScripts", fn := fun _ => fun
  | [d1, d2, d3] => { results := [.lit (.bool false)], args := [d1, d2, d3] }
  | _ => none }
def AttemptsScriptsWrongFalsely : Prop := attemptsScriptsRow.holds Try.pinned (OpenSpec.ofChange attemptsScriptsWrong)

/-- 'mahoutlaw22.AttemptsNil': WHATEVER THE INPUT: true; the input reads as it did. -/
def attemptsNilSpec : ChangeSpec := { name := "attemptsNil", fn := fun _ => fun
  | [d1, d2, d3] => { results := [.lit (.bool true)], args := [d1, d2, d3] }
  | _ => none }
def attemptsNilRow : OpenClaim := { program := "ytkcloaoaldklhaa", sum := "afa15643db5a63220b95383f171b056e2478758d698eb5e867f959b4ceee5723", func := "mahout/mahoutlaw22.AttemptsNil", spec := "attemptsNil", apart := false }
def AttemptsNilSaid : Prop := attemptsNilRow.holds Try.pinned (OpenSpec.ofChange attemptsNilSpec)

/-- ITS FALSE NEIGHBOUR: 'it returns false'. Refute it at one input. -/
def attemptsNilWrong : ChangeSpec := { name := "attemptsNil", fn := fun _ => fun
  | [d1, d2, d3] => { results := [.lit (.bool false)], args := [d1, d2, d3] }
  | _ => none }
def AttemptsNilWrongFalsely : Prop := attemptsNilRow.holds Try.pinned (OpenSpec.ofChange attemptsNilWrong)

/- THE SECOND FORM. 'bulk': how many values and letters a reading holds, each counted each time it is reached (what is shared counts as often as it is met; a slice's spare places count too). A statement '..UptoSaid' is the law's where the arguments, and the package variables that the reading takes, are together of bulk at most 1048576: NARROWER than '..Said'. Prove '..Said' where nothing that the law and all that it calls make is longer than what came in: it says more and counts as full. Else prove '..UptoSaid'. A law counts once. -/
mutual
def uptoBulk {H : Type} : DataW H → Nat
  | .lit (.string bytes) => bytes.length + 1
  | .lit _ => 1
  | .nil => 1
  | .ptr d => uptoBulk d + 1
  | .slice elems spare => uptoBulkAll elems + uptoBulkAll spare + 1
  | .agg parts => uptoBulkAll parts + 1
  | .iface _ d => uptoBulk d + 1
  | .map entries => uptoBulkEntries entries + 1
  | .held _ => 1
def uptoBulkAll {H : Type} : List (DataW H) → Nat
  | [] => 0
  | d :: r => uptoBulk d + uptoBulkAll r
def uptoBulkEntries {H : Type} : List (Lit × DataW H) → Nat
  | [] => 0
  | x :: r => uptoBulkEntry x + uptoBulkEntries r
def uptoBulkEntry {H : Type} : Lit × DataW H → Nat
  | (.string bytes, d) => bytes.length + uptoBulk d + 1
  | (_, d) => uptoBulk d + 1
 end
def uptoSmall : (H : Type) → List (DataW H) → Bool := fun _ ds => decide (uptoBulkAll ds ≤ 1048576)
def OpenSpec.upto (s : _root_.Go.ChangeSpec) : _root_.Go.OpenSpec := { _root_.Go.OpenSpec.ofChange s with cond := some uptoSmall }

/-- 'mahoutlaw22.AttemptsKeeps', WHERE WHAT IT READS IS OF BULK AT MOST 1048576: true; the input reads as it did. -/
def attemptsKeepsUptoRow : OpenClaim := { program := "ytkcloaoaldklhaa", sum := "afa15643db5a63220b95383f171b056e2478758d698eb5e867f959b4ceee5723", func := "mahout/mahoutlaw22.AttemptsKeeps", spec := "attemptsKeeps", apart := false, narrowed := true }
def AttemptsKeepsUptoSaid : Prop := attemptsKeepsUptoRow.holds Try.pinned (OpenSpec.upto attemptsKeepsSpec)

/-- 'mahoutlaw22.AttemptsEnds', WHERE WHAT IT READS IS OF BULK AT MOST 1048576: true; the input reads as it did. -/
def attemptsEndsUptoRow : OpenClaim := { program := "ytkcloaoaldklhaa", sum := "afa15643db5a63220b95383f171b056e2478758d698eb5e867f959b4ceee5723", func := "mahout/mahoutlaw22.AttemptsEnds", spec := "attemptsEnds", apart := false, narrowed := true }
def AttemptsEndsUptoSaid : Prop := attemptsEndsUptoRow.holds Try.pinned (OpenSpec.upto attemptsEndsSpec)

/-- 'mahoutlaw22.AttemptsScripts', WHERE WHAT IT READS IS OF BULK AT MOST 1048576: true; the input reads as it did. -/
def attemptsScriptsUptoRow : OpenClaim := { program := "ytkcloaoaldklhaa", sum := "afa15643db5a63220b95383f171b056e2478758d698eb5e867f959b4ceee5723", func := "mahout/mahoutlaw22.AttemptsScripts", spec := "attemptsScripts", apart := false, narrowed := true }
def AttemptsScriptsUptoSaid : Prop := attemptsScriptsUptoRow.holds Try.pinned (OpenSpec.upto attemptsScriptsSpec)

/-- 'mahoutlaw22.AttemptsNil', WHERE WHAT IT READS IS OF BULK AT MOST 1048576: true; the input reads as it did. -/
def attemptsNilUptoRow : OpenClaim := { program := "ytkcloaoaldklhaa", sum := "afa15643db5a63220b95383f171b056e2478758d698eb5e867f959b4ceee5723", func := "mahout/mahoutlaw22.AttemptsNil", spec := "attemptsNil", apart := false, narrowed := true }
def AttemptsNilUptoSaid : Prop := attemptsNilUptoRow.holds Try.pinned (OpenSpec.upto attemptsNilSpec)

end Rows
end Go.Proofs.Ytkcloaoaldklhaa
