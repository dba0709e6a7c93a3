/-
  No cell of these rows narrows 'for every input' (looked for: loops, veiled, ifaces, maps, wideKeys, modest, calm, conditions, laid).
  DERIVED. THE GIVEN ROWS OF THIS SEAT. 4 by the template 'for every input the law returns true; each argument reads behind the call as it read before'; 0 by the template 'total and deterministic' (their statements: YtngpmlolpigeoaaTotals.lean).
  GIVEN WITH THE SEED: the statements are not yours to turn. If you find one false, say at which input.
  Laid BY PROGRAM, IN A SANDBOX (cutbox-rows.mjs): the forced cells as the released guide's own fill.sh prints them over the translation af77cb5823fe37a5… (all of the seat's roots in one cut). By AI agents, Wed Nov 11 2026. No macro, syntax, notation, axiom, sorry.
-/
import Derived.Test.YtngpmlolpigeoaaChecked
import GoSem.Claim
import GoSem.ClaimJoined
import GoSem.ClaimMapViews
import Derived.JoinedTies
import Derived.KernelRfl
namespace Go.Proofs.Ytngpmlolpigeoaa
/- THE CELL 'sum', in the pinned program and in every row, IS THE sha256 OF THE DUMP (.gsa) THAT YtngpmlolpigeoaaProg.lean LOADS. Nothing in Lean hashes anything: it is a label: what it is worth is what the hold of that sum in a sandbox is worth. -/
noncomputable def Try.pinned : Pinned := { name := "ytngpmlolpigeoaa", sum := "af77cb5823fe37a5ec55ea400fb69ad937adc826262f680ae6bc202c497f5dbf", checked := Try.checked }
namespace Rows
def none {H : Type} : Left H := { results := [], args := [] }

/-- 'mahoutlaw13.LeasesHeard': WHATEVER THE INPUT: true; the input reads as it did. -/
def leasesHeardSpec : ChangeSpec := { name := "leasesHeard", fn := fun _ => fun
  | [d1, d2, d3] => { results := [.lit (.bool true)], args := [d1, d2, d3] }
  | _ => none }
def leasesHeardRow : OpenClaim := { program := "ytngpmlolpigeoaa", sum := "af77cb5823fe37a5ec55ea400fb69ad937adc826262f680ae6bc202c497f5dbf", func := "mahout/mahoutlaw13.LeasesHeard", spec := "leasesHeard", recurses := true, apart := false }
def LeasesHeardSaid : Prop := leasesHeardRow.holds Try.pinned (OpenSpec.ofChange leasesHeardSpec)

/-- ITS FALSE NEIGHBOUR: 'it returns false'. Refute it at one input. -/
def leasesHeardWrong : ChangeSpec := { name := "leasesHeard", fn := fun _ => fun
  | [d1, d2, d3] => { results := [.lit (.bool false)], args := [d1, d2, d3] }
  | _ => none }
def LeasesHeardWrongFalsely : Prop := leasesHeardRow.holds Try.pinned (OpenSpec.ofChange leasesHeardWrong)

/-- 'mahoutlaw13.LeasesScripts': WHATEVER THE INPUT: true; the input reads as it did. -/
def leasesScriptsSpec : ChangeSpec := { name := "leasesScripts", fn := fun _ => fun
  | [d1, d2] => { results := [.lit (.bool true)], args := [d1, d2] }
  | _ => none }
def leasesScriptsRow : OpenClaim := { program := "ytngpmlolpigeoaa", sum := "af77cb5823fe37a5ec55ea400fb69ad937adc826262f680ae6bc202c497f5dbf", func := "mahout/mahoutlaw13.LeasesScripts", spec := "leasesScripts", recurses := true, apart := false }
def LeasesScriptsSaid : Prop := leasesScriptsRow.holds Try.pinned (OpenSpec.ofChange leasesScriptsSpec)

/-- ITS FALSE NEIGHBOUR: 'it returns false'. Refute it at one input. -/
def leasesScriptsWrong : ChangeSpec := { name := "leasesScripts", fn := fun _ => fun
  | [d1, d2] => { results := [.lit (.bool false)], args := [d1, d2] }
  | _ => none }
def LeasesScriptsWrongFalsely : Prop := leasesScriptsRow.holds Try.pinned (OpenSpec.ofChange leasesScriptsWrong)

/-- 'mahoutlaw13.LeasesNil': WHATEVER THE INPUT: true; the input reads as it did. -/
def leasesNilSpec : ChangeSpec := { name := "leasesNil", fn := fun _ => fun
  | [d1, d2, d3] => { results := [.lit (.bool true)], args := [d1, d2, d3] }
  | _ => none }
def leasesNilRow : OpenClaim := { program := "ytngpmlolpigeoaa", sum := "af77cb5823fe37a5ec55ea400fb69ad937adc826262f680ae6bc202c497f5dbf", func := "mahout/mahoutlaw13.LeasesNil", spec := "leasesNil", recurses := true, apart := false }
def LeasesNilSaid : Prop := leasesNilRow.holds Try.pinned (OpenSpec.ofChange leasesNilSpec)

/-- ITS FALSE NEIGHBOUR: 'it returns false'. Refute it at one input. -/
def leasesNilWrong : ChangeSpec := { name := "leasesNil", fn := fun _ => fun
  | [d1, d2, d3] => { results := [.lit (.bool false)], args := [d1, d2, d3] }
  | _ => none }
def LeasesNilWrongFalsely : Prop := leasesNilRow.holds Try.pinned (OpenSpec.ofChange leasesNilWrong)

/-- 'mahoutlaw13.LeasesLast': WHATEVER THE INPUT: true; the input reads as it did. -/
def leasesLastSpec : ChangeSpec := { name := "leasesLast", fn := fun _ => fun
  | [d1, d2, d3] => { results := [.lit (.bool true)], args := [d1, d2, d3] }
  | _ => none }
def leasesLastRow : OpenClaim := { program := "ytngpmlolpigeoaa", sum := "af77cb5823fe37a5ec55ea400fb69ad937adc826262f680ae6bc202c497f5dbf", func := "mahout/mahoutlaw13.LeasesLast", spec := "leasesLast", recurses := true, apart := false }
def LeasesLastSaid : Prop := leasesLastRow.holds Try.pinned (OpenSpec.ofChange leasesLastSpec)

/-- ITS FALSE NEIGHBOUR: 'it returns false'. Refute it at one input. -/
def leasesLastWrong : ChangeSpec := { name := "leasesLast", fn := fun _ => fun
  | [d1, d2, d3] => { results := [.lit (.bool false)], args := [d1, d2, d3] }
  | _ => none }
def LeasesLastWrongFalsely : Prop := leasesLastRow.holds Try.pinned (OpenSpec.ofChange leasesLastWrong)

/- THE SECOND FORM. 'bulk': how many values and letters a reading holds, each counted each time it is reached (what is shared counts as often as it is met; a slice's spare places count too). A statement '..UptoSaid' is the law's where the arguments, and the package variables that the reading takes, are together of bulk at most 1048576: NARROWER than '..Said'. Prove '..Said' where nothing that the law and all that it calls make is longer than what came in: it says more and counts as full. Else prove '..UptoSaid'. A law counts once. -/
mutual
def uptoBulk {H : Type} : DataW H → Nat
  | .lit (.string bytes) => bytes.length + 1
  | .lit _ => 1
  | .nil => 1
  | .ptr d => uptoBulk d + 1
  | .slice elems spare => uptoBulkAll elems + uptoBulkAll spare + 1
  | .agg parts => uptoBulkAll parts + 1
  | .iface _ d => uptoBulk d + 1
  | .map entries => uptoBulkEntries entries + 1
  | .held _ => 1
def uptoBulkAll {H : Type} : List (DataW H) → Nat
  | [] => 0
  | d :: r => uptoBulk d + uptoBulkAll r
def uptoBulkEntries {H : Type} : List (Lit × DataW H) → Nat
  | [] => 0
  | x :: r => uptoBulkEntry x + uptoBulkEntries r
def uptoBulkEntry {H : Type} : Lit × DataW H → Nat
  | (.string bytes, d) => bytes.length + uptoBulk d + 1
  | (_, d) => uptoBulk d + 1
 end
def uptoSmall : (H : Type) → List (DataW H) → Bool := fun _ ds => decide (uptoBulkAll ds ≤ 1048576)
def OpenSpec.upto (s : _root_.Go.ChangeSpec) : _root_.Go.OpenSpec := { _root_.Go.OpenSpec.ofChange s with cond := some uptoSmall }

/-- 'mahoutlaw13.LeasesHeard', WHERE WHAT IT READS IS OF BULK AT MOST 1048576: true; the input reads as it did. -/
def leasesHeardUptoRow : OpenClaim := { program := "ytngpmlolpigeoaa", sum := "af77cb5823fe37a5ec55ea400fb69ad937adc826262f680ae6bc202c497f5dbf", func := "mahout/mahoutlaw13.LeasesHeard", spec := "leasesHeard", recurses := true, apart := false, narrowed := true }
def LeasesHeardUptoSaid : Prop := leasesHeardUptoRow.holds Try.pinned (OpenSpec.upto leasesHeardSpec)

/-- 'mahoutlaw13.LeasesScripts', WHERE WHAT IT READS IS OF BULK AT MOST 1048576: true; the input reads as it did. -/
def leasesScriptsUptoRow : OpenClaim := { program := "ytngpmlolpigeoaa", sum := "af77cb5823fe37a5ec55ea400fb69ad937adc826262f680ae6bc202c497f5dbf", func := "mahout/mahoutlaw13.LeasesScripts", spec := "leasesScripts", recurses := true, apart := false, narrowed := true }
def LeasesScriptsUptoSaid : Prop := leasesScriptsUptoRow.holds Try.pinned (OpenSpec.upto leasesScriptsSpec)

/-- 'mahoutlaw13.LeasesNil', WHERE WHAT IT READS IS OF BULK AT MOST 1048576: true; the input reads as it did. -/
def leasesNilUptoRow : OpenClaim := { program := "ytngpmlolpigeoaa", sum := "af77cb5823fe37a5ec55ea400fb69ad937adc826262f680ae6bc202c497f5dbf", func := "mahout/mahoutlaw13.LeasesNil", spec := "leasesNil", recurses := true, apart := false, narrowed := true }
def LeasesNilUptoSaid : Prop := leasesNilUptoRow.holds Try.pinned (OpenSpec.upto leasesNilSpec)

/-- 'mahoutlaw13.LeasesLast', WHERE WHAT IT READS IS OF BULK AT MOST 1048576: true; the input reads as it did. -/
def leasesLastUptoRow : OpenClaim := { program := "ytngpmlolpigeoaa", sum := "af77cb5823fe37a5ec55ea400fb69ad937adc826262f680ae6bc202c497f5dbf", func := "mahout/mahoutlaw13.LeasesLast", spec := "leasesLast", recurses := true, apart := false, narrowed := true }
def LeasesLastUptoSaid : Prop := leasesLastUptoRow.holds Try.pinned (OpenSpec.upto leasesLastSpec)

end Rows
end Go.Proofs.Ytngpmlolpigeoaa
