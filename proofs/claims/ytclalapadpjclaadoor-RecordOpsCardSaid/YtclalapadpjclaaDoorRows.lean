/-
  NARROWER THAN 'FOR EVERY INPUT', by the rows' own cells (each row's printed sentence says how): RecordApart: laid · RecordOps: laid · RecordEncodes: laid · RecordDecodes: laid.
  DERIVED. THE GIVEN ROWS OF THIS SEAT. 4 by the template 'for every input the law returns true; each argument reads behind the call as it read before'; 0 by the template 'total and deterministic' (their statements: YtclalapadpjclaaDoorTotals.lean).
  GIVEN WITH THE SEED: the statements are not yours to turn. If you find one false, say at which input.
  Laid BY PROGRAM, IN A SANDBOX (cutbox-rows.mjs): the forced cells as the released guide's own fill.sh prints them over the translation ecdfd54e325b16ac… (all of the seat's roots in one cut). By AI agents, Wed Nov 11 2026. No macro, syntax, notation, axiom, sorry.
-/
import Derived.Test.YtclalapadpjclaaDoorChecked
import GoSem.Claim
import GoSem.ClaimJoined
import GoSem.ClaimMapViews
import Derived.JoinedTies
import Derived.KernelRfl
namespace Go.Proofs.YtclalapadpjclaaDoor
/- THE CELL 'sum', in the pinned program and in every row, IS THE sha256 OF THE DUMP (.gsa) THAT YtclalapadpjclaaDoorProg.lean LOADS. Nothing in Lean hashes anything: it is a label: what it is worth is what the hold of that sum in a sandbox is worth. -/
noncomputable def Tryd.pinned : Pinned := { name := "ytclalapadpjclaadoor", sum := "ecdfd54e325b16ac3f982274cddcf0d48e434688b703c87729f535b6afbb72e3", checked := Tryd.checked }
namespace Rows
def none {H : Type} : Left H := { results := [], args := [] }

/- WHAT THE LISTED PACKAGE-LEVEL VARIABLES READ AS WHEN THE CALL BEGINS. Each datum BY PROGRAM (the guide's laid-datum.mjs) off the statement by which the dump's own 'gosem.cut.vars' lays the variable. In a bare row this is a premise. The card (YtclalapadpjclaaDoorCards.lean) ties it to the program's text. -/
def laid_mahout_record_shapes {H : Type} : DataW H := .agg [.agg [.lit (.int .i64 0), .lit (.int .i64 0), .lit (.int .i64 0), .lit (.int .i64 0)], .agg [.lit (.int .i64 9), .lit (.int .i64 0), .lit (.int .i64 2), .lit (.int .i64 0)], .agg [.lit (.int .i64 0), .lit (.int .i64 0), .lit (.int .i64 1), .lit (.int .i64 0)], .agg [.lit (.int .i64 0), .lit (.int .i64 0), .lit (.int .i64 1), .lit (.int .i64 0)], .agg [.lit (.int .i64 2), .lit (.int .i64 1), .lit (.int .i64 0), .lit (.int .i64 1)], .agg [.lit (.int .i64 1), .lit (.int .i64 1), .lit (.int .i64 0), .lit (.int .i64 0)], .agg [.lit (.int .i64 0), .lit (.int .i64 3), .lit (.int .i64 0), .lit (.int .i64 0)], .agg [.lit (.int .i64 1), .lit (.int .i64 1), .lit (.int .i64 0), .lit (.int .i64 0)], .agg [.lit (.int .i64 4), .lit (.int .i64 1), .lit (.int .i64 1), .lit (.int .i64 0)], .agg [.lit (.int .i64 1), .lit (.int .i64 1), .lit (.int .i64 0), .lit (.int .i64 0)], .agg [.lit (.int .i64 3), .lit (.int .i64 0), .lit (.int .i64 0), .lit (.int .i64 0)], .agg [.lit (.int .i64 1), .lit (.int .i64 0), .lit (.int .i64 1), .lit (.int .i64 0)], .agg [.lit (.int .i64 1), .lit (.int .i64 3), .lit (.int .i64 0), .lit (.int .i64 0)], .agg [.lit (.int .i64 0), .lit (.int .i64 5), .lit (.int .i64 0), .lit (.int .i64 0)], .agg [.lit (.int .i64 3), .lit (.int .i64 4), .lit (.int .i64 0), .lit (.int .i64 0)], .agg [.lit (.int .i64 0), .lit (.int .i64 1), .lit (.int .i64 0), .lit (.int .i64 1)], .agg [.lit (.int .i64 4), .lit (.int .i64 0), .lit (.int .i64 0), .lit (.int .i64 0)], .agg [.lit (.int .i64 1), .lit (.int .i64 0), .lit (.int .i64 0), .lit (.int .i64 2)]]

/-- 'mahoutlaw09.RecordApart': WHATEVER THE INPUT: true; the input reads as it did. -/
def recordApartSpec : ChangeSpec := { name := "recordApart", fn := fun _ => fun
  | [d1, d2] => { results := [.lit (.bool true)], args := [d1, d2] }
  | _ => none }
def recordApartRow : OpenClaim := { program := "ytclalapadpjclaadoor", sum := "ecdfd54e325b16ac3f982274cddcf0d48e434688b703c87729f535b6afbb72e3", func := "mahout/mahoutlaw09.RecordApart", spec := "recordApart", named := ["mahout/record.shapes"], apart := false, laid := [("mahout/record.shapes", laid_mahout_record_shapes)] }
def RecordApartSaid : Prop := recordApartRow.holds Tryd.pinned (OpenSpec.ofChange recordApartSpec)

/-- ITS FALSE NEIGHBOUR: 'it returns false'. Refute it at one input. -/
def recordApartWrong : ChangeSpec := { name := "recordApart", fn := fun _ => fun
  | [d1, d2] => { results := [.lit (.bool false)], args := [d1, d2] }
  | _ => none }
def RecordApartWrongFalsely : Prop := recordApartRow.holds Tryd.pinned (OpenSpec.ofChange recordApartWrong)

/-- 'mahoutlaw09.RecordOps': WHATEVER THE INPUT: true; the input reads as it did. -/
def recordOpsSpec : ChangeSpec := { name := "recordOps", fn := fun _ => fun
  | [d1, d2, d3] => { results := [.lit (.bool true)], args := [d1, d2, d3] }
  | _ => none }
def recordOpsRow : OpenClaim := { program := "ytclalapadpjclaadoor", sum := "ecdfd54e325b16ac3f982274cddcf0d48e434688b703c87729f535b6afbb72e3", func := "mahout/mahoutlaw09.RecordOps", spec := "recordOps", named := ["mahout/record.shapes"], apart := false, laid := [("mahout/record.shapes", laid_mahout_record_shapes)] }
def RecordOpsSaid : Prop := recordOpsRow.holds Tryd.pinned (OpenSpec.ofChange recordOpsSpec)

/-- ITS FALSE NEIGHBOUR: 'it returns false'. Refute it at one input. -/
def recordOpsWrong : ChangeSpec := { name := "recordOps", fn := fun _ => fun
  | [d1, d2, d3] => { results := [.lit (.bool false)], args := [d1, d2, d3] }
  | _ => none }
def RecordOpsWrongFalsely : Prop := recordOpsRow.holds Tryd.pinned (OpenSpec.ofChange recordOpsWrong)

/-- 'mahoutlaw09.RecordEncodes': WHATEVER THE INPUT: true; the input reads as it did. -/
def recordEncodesSpec : ChangeSpec := { name := "recordEncodes", fn := fun _ => fun
  | [d] => { results := [.lit (.bool true)], args := [d] }
  | _ => none }
def recordEncodesRow : OpenClaim := { program := "ytclalapadpjclaadoor", sum := "ecdfd54e325b16ac3f982274cddcf0d48e434688b703c87729f535b6afbb72e3", func := "mahout/mahoutlaw09.RecordEncodes", spec := "recordEncodes", named := ["mahout/record.shapes"], apart := false, laid := [("mahout/record.shapes", laid_mahout_record_shapes)] }
def RecordEncodesSaid : Prop := recordEncodesRow.holds Tryd.pinned (OpenSpec.ofChange recordEncodesSpec)

/-- ITS FALSE NEIGHBOUR: 'it returns false'. Refute it at one input. -/
def recordEncodesWrong : ChangeSpec := { name := "recordEncodes", fn := fun _ => fun
  | [d] => { results := [.lit (.bool false)], args := [d] }
  | _ => none }
def RecordEncodesWrongFalsely : Prop := recordEncodesRow.holds Tryd.pinned (OpenSpec.ofChange recordEncodesWrong)

/-- 'mahoutlaw09.RecordDecodes': WHATEVER THE INPUT: true; the input reads as it did. -/
def recordDecodesSpec : ChangeSpec := { name := "recordDecodes", fn := fun _ => fun
  | [d] => { results := [.lit (.bool true)], args := [d] }
  | _ => none }
def recordDecodesRow : OpenClaim := { program := "ytclalapadpjclaadoor", sum := "ecdfd54e325b16ac3f982274cddcf0d48e434688b703c87729f535b6afbb72e3", func := "mahout/mahoutlaw09.RecordDecodes", spec := "recordDecodes", named := ["mahout/record.shapes"], apart := false, laid := [("mahout/record.shapes", laid_mahout_record_shapes)] }
def RecordDecodesSaid : Prop := recordDecodesRow.holds Tryd.pinned (OpenSpec.ofChange recordDecodesSpec)

/-- ITS FALSE NEIGHBOUR: 'it returns false'. Refute it at one input. -/
def recordDecodesWrong : ChangeSpec := { name := "recordDecodes", fn := fun _ => fun
  | [d] => { results := [.lit (.bool false)], args := [d] }
  | _ => none }
def RecordDecodesWrongFalsely : Prop := recordDecodesRow.holds Tryd.pinned (OpenSpec.ofChange recordDecodesWrong)

/- THE SECOND FORM. 'bulk': how many values and letters a reading holds, each counted each time it is reached (what is shared counts as often as it is met; a slice's spare places count too). A statement '..UptoSaid' is the law's where the arguments, and the package variables that the reading takes, are together of bulk at most 1048576: NARROWER than '..Said'. Prove '..Said' where nothing that the law and all that it calls make is longer than what came in: it says more and counts as full. Else prove '..UptoSaid'. A law counts once. -/
mutual
def uptoBulk {H : Type} : DataW H → Nat
  | .lit (.string bytes) => bytes.length + 1
  | .lit _ => 1
  | .nil => 1
  | .ptr d => uptoBulk d + 1
  | .slice elems spare => uptoBulkAll elems + uptoBulkAll spare + 1
  | .agg parts => uptoBulkAll parts + 1
  | .iface _ d => uptoBulk d + 1
  | .map entries => uptoBulkEntries entries + 1
  | .held _ => 1
def uptoBulkAll {H : Type} : List (DataW H) → Nat
  | [] => 0
  | d :: r => uptoBulk d + uptoBulkAll r
def uptoBulkEntries {H : Type} : List (Lit × DataW H) → Nat
  | [] => 0
  | x :: r => uptoBulkEntry x + uptoBulkEntries r
def uptoBulkEntry {H : Type} : Lit × DataW H → Nat
  | (.string bytes, d) => bytes.length + uptoBulk d + 1
  | (_, d) => uptoBulk d + 1
 end
def uptoSmall : (H : Type) → List (DataW H) → Bool := fun _ ds => decide (uptoBulkAll ds ≤ 1048576)
def OpenSpec.upto (s : _root_.Go.ChangeSpec) : _root_.Go.OpenSpec := { _root_.Go.OpenSpec.ofChange s with cond := some uptoSmall }

/-- 'mahoutlaw09.RecordApart', WHERE WHAT IT READS IS OF BULK AT MOST 1048576: true; the input reads as it did. -/
def recordApartUptoRow : OpenClaim := { program := "ytclalapadpjclaadoor", sum := "ecdfd54e325b16ac3f982274cddcf0d48e434688b703c87729f535b6afbb72e3", func := "mahout/mahoutlaw09.RecordApart", spec := "recordApart", named := ["mahout/record.shapes"], apart := false, laid := [("mahout/record.shapes", laid_mahout_record_shapes)], narrowed := true }
def RecordApartUptoSaid : Prop := recordApartUptoRow.holds Tryd.pinned (OpenSpec.upto recordApartSpec)

/-- 'mahoutlaw09.RecordOps', WHERE WHAT IT READS IS OF BULK AT MOST 1048576: true; the input reads as it did. -/
def recordOpsUptoRow : OpenClaim := { program := "ytclalapadpjclaadoor", sum := "ecdfd54e325b16ac3f982274cddcf0d48e434688b703c87729f535b6afbb72e3", func := "mahout/mahoutlaw09.RecordOps", spec := "recordOps", named := ["mahout/record.shapes"], apart := false, laid := [("mahout/record.shapes", laid_mahout_record_shapes)], narrowed := true }
def RecordOpsUptoSaid : Prop := recordOpsUptoRow.holds Tryd.pinned (OpenSpec.upto recordOpsSpec)

/-- 'mahoutlaw09.RecordEncodes', WHERE WHAT IT READS IS OF BULK AT MOST 1048576: true; the input reads as it did. -/
def recordEncodesUptoRow : OpenClaim := { program := "ytclalapadpjclaadoor", sum := "ecdfd54e325b16ac3f982274cddcf0d48e434688b703c87729f535b6afbb72e3", func := "mahout/mahoutlaw09.RecordEncodes", spec := "recordEncodes", named := ["mahout/record.shapes"], apart := false, laid := [("mahout/record.shapes", laid_mahout_record_shapes)], narrowed := true }
def RecordEncodesUptoSaid : Prop := recordEncodesUptoRow.holds Tryd.pinned (OpenSpec.upto recordEncodesSpec)

/-- 'mahoutlaw09.RecordDecodes', WHERE WHAT IT READS IS OF BULK AT MOST 1048576: true; the input reads as it did. -/
def recordDecodesUptoRow : OpenClaim := { program := "ytclalapadpjclaadoor", sum := "ecdfd54e325b16ac3f982274cddcf0d48e434688b703c87729f535b6afbb72e3", func := "mahout/mahoutlaw09.RecordDecodes", spec := "recordDecodes", named := ["mahout/record.shapes"], apart := false, laid := [("mahout/record.shapes", laid_mahout_record_shapes)], narrowed := true }
def RecordDecodesUptoSaid : Prop := recordDecodesUptoRow.holds Tryd.pinned (OpenSpec.upto recordDecodesSpec)

end Rows
end Go.Proofs.YtclalapadpjclaaDoor
