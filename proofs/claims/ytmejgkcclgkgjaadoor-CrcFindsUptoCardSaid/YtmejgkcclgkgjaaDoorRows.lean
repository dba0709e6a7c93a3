/-
  NARROWER THAN 'FOR EVERY INPUT', by the rows' own cells (each row's printed sentence says how): CrcSums: laid · CrcBursts: laid · CrcAffine: laid · CrcChunks: laid · CrcFinds: laid · CrcExtends: laid · CrcJoins: laid.
  DERIVED. THE GIVEN ROWS OF THIS SEAT. 7 by the template 'for every input the law returns true; each argument reads behind the call as it read before'; 0 by the template 'total and deterministic' (their statements: YtmejgkcclgkgjaaDoorTotals.lean).
  GIVEN WITH THE SEED: the statements are not yours to turn. If you find one false, say at which input.
  Laid BY PROGRAM, IN A SANDBOX (cutbox-rows.mjs): the forced cells as the released guide's own fill.sh prints them over the translation 668a3fde933e736f… (all of the seat's roots in one cut). By AI agents, Wed Nov 11 2026. No macro, syntax, notation, axiom, sorry.
-/
import Derived.Test.YtmejgkcclgkgjaaDoorChecked
import GoSem.Claim
import GoSem.ClaimJoined
import GoSem.ClaimMapViews
import Derived.JoinedTies
import Derived.KernelRfl
namespace Go.Proofs.YtmejgkcclgkgjaaDoor
/- THE CELL 'sum', in the pinned program and in every row, IS THE sha256 OF THE DUMP (.gsa) THAT YtmejgkcclgkgjaaDoorProg.lean LOADS. Nothing in Lean hashes anything: it is a label: what it is worth is what the hold of that sum in a sandbox is worth. -/
noncomputable def Tryd.pinned : Pinned := { name := "ytmejgkcclgkgjaadoor", sum := "668a3fde933e736fa21d75065fbb264ba5dae42121bc845075519c1f87e314f7", checked := Tryd.checked }
namespace Rows
def none {H : Type} : Left H := { results := [], args := [] }

/- WHAT THE LISTED PACKAGE-LEVEL VARIABLES READ AS WHEN THE CALL BEGINS. Each datum BY PROGRAM (the guide's laid-datum.mjs) off the statement by which the dump's own 'gosem.cut.vars' lays the variable. In a bare row this is a premise. The card (YtmejgkcclgkgjaaDoorCards.lean) ties it to the program's text. -/
def laid_mahout_crc_nibbles {H : Type} : DataW H := .agg [.lit (.int .u32 0), .lit (.int .u32 274646895), .lit (.int .u32 549293790), .lit (.int .u32 820201905), .lit (.int .u32 1098587580), .lit (.int .u32 1361435347), .lit (.int .u32 1640403810), .lit (.int .u32 1905808397), .lit (.int .u32 2197175160), .lit (.int .u32 2460548119), .lit (.int .u32 2722870694), .lit (.int .u32 2987750089), .lit (.int .u32 3280807620), .lit (.int .u32 3553878443), .lit (.int .u32 3811616794), .lit (.int .u32 4084100981)]

/-- 'mahoutlaw01.CrcSums': WHATEVER THE INPUT: true; the input reads as it did. -/
def crcSumsSpec : ChangeSpec := { name := "crcSums", fn := fun _ => fun
  | [d1, d2] => { results := [.lit (.bool true)], args := [d1, d2] }
  | _ => none }
def crcSumsRow : OpenClaim := { program := "ytmejgkcclgkgjaadoor", sum := "668a3fde933e736fa21d75065fbb264ba5dae42121bc845075519c1f87e314f7", func := "mahout/mahoutlaw01.CrcSums", spec := "crcSums", named := ["mahout/crc.nibbles"], apart := false, laid := [("mahout/crc.nibbles", laid_mahout_crc_nibbles)] }
def CrcSumsSaid : Prop := crcSumsRow.holds Tryd.pinned (OpenSpec.ofChange crcSumsSpec)

/-- ITS FALSE NEIGHBOUR: 'it returns false'. Refute it at one input. -/
def crcSumsWrong : ChangeSpec := { name := "crcSums", fn := fun _ => fun
  | [d1, d2] => { results := [.lit (.bool false)], args := [d1, d2] }
  | _ => none }
def CrcSumsWrongFalsely : Prop := crcSumsRow.holds Tryd.pinned (OpenSpec.ofChange crcSumsWrong)

/-- 'mahoutlaw01.CrcBursts': WHATEVER THE INPUT: true; the input reads as it did. -/
def crcBurstsSpec : ChangeSpec := { name := "crcBursts", fn := fun _ => fun
  | [d1, d2, d3] => { results := [.lit (.bool true)], args := [d1, d2, d3] }
  | _ => none }
def crcBurstsRow : OpenClaim := { program := "ytmejgkcclgkgjaadoor", sum := "668a3fde933e736fa21d75065fbb264ba5dae42121bc845075519c1f87e314f7", func := "mahout/mahoutlaw01.CrcBursts", spec := "crcBursts", named := ["mahout/crc.nibbles"], apart := false, laid := [("mahout/crc.nibbles", laid_mahout_crc_nibbles)] }
def CrcBurstsSaid : Prop := crcBurstsRow.holds Tryd.pinned (OpenSpec.ofChange crcBurstsSpec)

/-- ITS FALSE NEIGHBOUR: 'it returns false'. Refute it at one input. -/
def crcBurstsWrong : ChangeSpec := { name := "crcBursts", fn := fun _ => fun
  | [d1, d2, d3] => { results := [.lit (.bool false)], args := [d1, d2, d3] }
  | _ => none }
def CrcBurstsWrongFalsely : Prop := crcBurstsRow.holds Tryd.pinned (OpenSpec.ofChange crcBurstsWrong)

/-- 'mahoutlaw01.CrcAffine': WHATEVER THE INPUT: true; the input reads as it did. -/
def crcAffineSpec : ChangeSpec := { name := "crcAffine", fn := fun _ => fun
  | [d1, d2, d3] => { results := [.lit (.bool true)], args := [d1, d2, d3] }
  | _ => none }
def crcAffineRow : OpenClaim := { program := "ytmejgkcclgkgjaadoor", sum := "668a3fde933e736fa21d75065fbb264ba5dae42121bc845075519c1f87e314f7", func := "mahout/mahoutlaw01.CrcAffine", spec := "crcAffine", named := ["mahout/crc.nibbles"], apart := false, laid := [("mahout/crc.nibbles", laid_mahout_crc_nibbles)] }
def CrcAffineSaid : Prop := crcAffineRow.holds Tryd.pinned (OpenSpec.ofChange crcAffineSpec)

/-- ITS FALSE NEIGHBOUR: 'it returns false'. Refute it at one input. -/
def crcAffineWrong : ChangeSpec := { name := "crcAffine", fn := fun _ => fun
  | [d1, d2, d3] => { results := [.lit (.bool false)], args := [d1, d2, d3] }
  | _ => none }
def CrcAffineWrongFalsely : Prop := crcAffineRow.holds Tryd.pinned (OpenSpec.ofChange crcAffineWrong)

/-- 'mahoutlaw01.CrcChunks': WHATEVER THE INPUT: true; the input reads as it did. -/
def crcChunksSpec : ChangeSpec := { name := "crcChunks", fn := fun _ => fun
  | [d1, d2, d3] => { results := [.lit (.bool true)], args := [d1, d2, d3] }
  | _ => none }
def crcChunksRow : OpenClaim := { program := "ytmejgkcclgkgjaadoor", sum := "668a3fde933e736fa21d75065fbb264ba5dae42121bc845075519c1f87e314f7", func := "mahout/mahoutlaw01.CrcChunks", spec := "crcChunks", unfollowed := true, recurses := true, named := ["mahout/crc.nibbles"], apart := false, laid := [("mahout/crc.nibbles", laid_mahout_crc_nibbles)] }
def CrcChunksSaid : Prop := crcChunksRow.holds Tryd.pinned (OpenSpec.ofChange crcChunksSpec)

/-- ITS FALSE NEIGHBOUR: 'it returns false'. Refute it at one input. -/
def crcChunksWrong : ChangeSpec := { name := "crcChunks", fn := fun _ => fun
  | [d1, d2, d3] => { results := [.lit (.bool false)], args := [d1, d2, d3] }
  | _ => none }
def CrcChunksWrongFalsely : Prop := crcChunksRow.holds Tryd.pinned (OpenSpec.ofChange crcChunksWrong)

/-- 'mahoutlaw01.CrcFinds': WHATEVER THE INPUT: true; the input reads as it did. -/
def crcFindsSpec : ChangeSpec := { name := "crcFinds", fn := fun _ => fun
  | [d1, d2, d3] => { results := [.lit (.bool true)], args := [d1, d2, d3] }
  | _ => none }
def crcFindsRow : OpenClaim := { program := "ytmejgkcclgkgjaadoor", sum := "668a3fde933e736fa21d75065fbb264ba5dae42121bc845075519c1f87e314f7", func := "mahout/mahoutlaw01.CrcFinds", spec := "crcFinds", unfollowed := true, recurses := true, named := ["mahout/crc.nibbles"], apart := false, laid := [("mahout/crc.nibbles", laid_mahout_crc_nibbles)] }
def CrcFindsSaid : Prop := crcFindsRow.holds Tryd.pinned (OpenSpec.ofChange crcFindsSpec)

/-- ITS FALSE NEIGHBOUR: 'it returns false'. Refute it at one input. -/
def crcFindsWrong : ChangeSpec := { name := "crcFinds", fn := fun _ => fun
  | [d1, d2, d3] => { results := [.lit (.bool false)], args := [d1, d2, d3] }
  | _ => none }
def CrcFindsWrongFalsely : Prop := crcFindsRow.holds Tryd.pinned (OpenSpec.ofChange crcFindsWrong)

/-- 'mahoutlaw01.CrcExtends': WHATEVER THE INPUT: true; the input reads as it did. -/
def crcExtendsSpec : ChangeSpec := { name := "crcExtends", fn := fun _ => fun
  | [d1, d2] => { results := [.lit (.bool true)], args := [d1, d2] }
  | _ => none }
def crcExtendsRow : OpenClaim := { program := "ytmejgkcclgkgjaadoor", sum := "668a3fde933e736fa21d75065fbb264ba5dae42121bc845075519c1f87e314f7", func := "mahout/mahoutlaw01.CrcExtends", spec := "crcExtends", named := ["mahout/crc.nibbles"], apart := false, laid := [("mahout/crc.nibbles", laid_mahout_crc_nibbles)] }
def CrcExtendsSaid : Prop := crcExtendsRow.holds Tryd.pinned (OpenSpec.ofChange crcExtendsSpec)

/-- ITS FALSE NEIGHBOUR: 'it returns false'. Refute it at one input. -/
def crcExtendsWrong : ChangeSpec := { name := "crcExtends", fn := fun _ => fun
  | [d1, d2] => { results := [.lit (.bool false)], args := [d1, d2] }
  | _ => none }
def CrcExtendsWrongFalsely : Prop := crcExtendsRow.holds Tryd.pinned (OpenSpec.ofChange crcExtendsWrong)

/-- 'mahoutlaw01.CrcJoins': WHATEVER THE INPUT: true; the input reads as it did. -/
def crcJoinsSpec : ChangeSpec := { name := "crcJoins", fn := fun _ => fun
  | [d1, d2, d3] => { results := [.lit (.bool true)], args := [d1, d2, d3] }
  | _ => none }
def crcJoinsRow : OpenClaim := { program := "ytmejgkcclgkgjaadoor", sum := "668a3fde933e736fa21d75065fbb264ba5dae42121bc845075519c1f87e314f7", func := "mahout/mahoutlaw01.CrcJoins", spec := "crcJoins", named := ["mahout/crc.nibbles"], apart := false, laid := [("mahout/crc.nibbles", laid_mahout_crc_nibbles)] }
def CrcJoinsSaid : Prop := crcJoinsRow.holds Tryd.pinned (OpenSpec.ofChange crcJoinsSpec)

/-- ITS FALSE NEIGHBOUR: 'it returns false'. Refute it at one input. -/
def crcJoinsWrong : ChangeSpec := { name := "crcJoins", fn := fun _ => fun
  | [d1, d2, d3] => { results := [.lit (.bool false)], args := [d1, d2, d3] }
  | _ => none }
def CrcJoinsWrongFalsely : Prop := crcJoinsRow.holds Tryd.pinned (OpenSpec.ofChange crcJoinsWrong)

/- THE SECOND FORM. 'bulk': how many values and letters a reading holds, each counted each time it is reached (what is shared counts as often as it is met; a slice's spare places count too). A statement '..UptoSaid' is the law's where the arguments, and the package variables that the reading takes, are together of bulk at most 1048576: NARROWER than '..Said'. Prove '..Said' where nothing that the law and all that it calls make is longer than what came in: it says more and counts as full. Else prove '..UptoSaid'. A law counts once. -/
mutual
def uptoBulk {H : Type} : DataW H → Nat
  | .lit (.string bytes) => bytes.length + 1
  | .lit _ => 1
  | .nil => 1
  | .ptr d => uptoBulk d + 1
  | .slice elems spare => uptoBulkAll elems + uptoBulkAll spare + 1
  | .agg parts => uptoBulkAll parts + 1
  | .iface _ d => uptoBulk d + 1
  | .map entries => uptoBulkEntries entries + 1
  | .held _ => 1
def uptoBulkAll {H : Type} : List (DataW H) → Nat
  | [] => 0
  | d :: r => uptoBulk d + uptoBulkAll r
def uptoBulkEntries {H : Type} : List (Lit × DataW H) → Nat
  | [] => 0
  | x :: r => uptoBulkEntry x + uptoBulkEntries r
def uptoBulkEntry {H : Type} : Lit × DataW H → Nat
  | (.string bytes, d) => bytes.length + uptoBulk d + 1
  | (_, d) => uptoBulk d + 1
 end
def uptoSmall : (H : Type) → List (DataW H) → Bool := fun _ ds => decide (uptoBulkAll ds ≤ 1048576)
def OpenSpec.upto (s : _root_.Go.ChangeSpec) : _root_.Go.OpenSpec := { _root_.Go.OpenSpec.ofChange s with cond := some uptoSmall }

/-- 'mahoutlaw01.CrcSums', WHERE WHAT IT READS IS OF BULK AT MOST 1048576: true; the input reads as it did. -/
def crcSumsUptoRow : OpenClaim := { program := "ytmejgkcclgkgjaadoor", sum := "668a3fde933e736fa21d75065fbb264ba5dae42121bc845075519c1f87e314f7", func := "mahout/mahoutlaw01.CrcSums", spec := "crcSums", named := ["mahout/crc.nibbles"], apart := false, laid := [("mahout/crc.nibbles", laid_mahout_crc_nibbles)], narrowed := true }
def CrcSumsUptoSaid : Prop := crcSumsUptoRow.holds Tryd.pinned (OpenSpec.upto crcSumsSpec)

/-- 'mahoutlaw01.CrcBursts', WHERE WHAT IT READS IS OF BULK AT MOST 1048576: true; the input reads as it did. -/
def crcBurstsUptoRow : OpenClaim := { program := "ytmejgkcclgkgjaadoor", sum := "668a3fde933e736fa21d75065fbb264ba5dae42121bc845075519c1f87e314f7", func := "mahout/mahoutlaw01.CrcBursts", spec := "crcBursts", named := ["mahout/crc.nibbles"], apart := false, laid := [("mahout/crc.nibbles", laid_mahout_crc_nibbles)], narrowed := true }
def CrcBurstsUptoSaid : Prop := crcBurstsUptoRow.holds Tryd.pinned (OpenSpec.upto crcBurstsSpec)

/-- 'mahoutlaw01.CrcAffine', WHERE WHAT IT READS IS OF BULK AT MOST 1048576: true; the input reads as it did. -/
def crcAffineUptoRow : OpenClaim := { program := "ytmejgkcclgkgjaadoor", sum := "668a3fde933e736fa21d75065fbb264ba5dae42121bc845075519c1f87e314f7", func := "mahout/mahoutlaw01.CrcAffine", spec := "crcAffine", named := ["mahout/crc.nibbles"], apart := false, laid := [("mahout/crc.nibbles", laid_mahout_crc_nibbles)], narrowed := true }
def CrcAffineUptoSaid : Prop := crcAffineUptoRow.holds Tryd.pinned (OpenSpec.upto crcAffineSpec)

/-- 'mahoutlaw01.CrcChunks', WHERE WHAT IT READS IS OF BULK AT MOST 1048576: true; the input reads as it did. -/
def crcChunksUptoRow : OpenClaim := { program := "ytmejgkcclgkgjaadoor", sum := "668a3fde933e736fa21d75065fbb264ba5dae42121bc845075519c1f87e314f7", func := "mahout/mahoutlaw01.CrcChunks", spec := "crcChunks", unfollowed := true, recurses := true, named := ["mahout/crc.nibbles"], apart := false, laid := [("mahout/crc.nibbles", laid_mahout_crc_nibbles)], narrowed := true }
def CrcChunksUptoSaid : Prop := crcChunksUptoRow.holds Tryd.pinned (OpenSpec.upto crcChunksSpec)

/-- 'mahoutlaw01.CrcFinds', WHERE WHAT IT READS IS OF BULK AT MOST 1048576: true; the input reads as it did. -/
def crcFindsUptoRow : OpenClaim := { program := "ytmejgkcclgkgjaadoor", sum := "668a3fde933e736fa21d75065fbb264ba5dae42121bc845075519c1f87e314f7", func := "mahout/mahoutlaw01.CrcFinds", spec := "crcFinds", unfollowed := true, recurses := true, named := ["mahout/crc.nibbles"], apart := false, laid := [("mahout/crc.nibbles", laid_mahout_crc_nibbles)], narrowed := true }
def CrcFindsUptoSaid : Prop := crcFindsUptoRow.holds Tryd.pinned (OpenSpec.upto crcFindsSpec)

/-- 'mahoutlaw01.CrcExtends', WHERE WHAT IT READS IS OF BULK AT MOST 1048576: true; the input reads as it did. -/
def crcExtendsUptoRow : OpenClaim := { program := "ytmejgkcclgkgjaadoor", sum := "668a3fde933e736fa21d75065fbb264ba5dae42121bc845075519c1f87e314f7", func := "mahout/mahoutlaw01.CrcExtends", spec := "crcExtends", named := ["mahout/crc.nibbles"], apart := false, laid := [("mahout/crc.nibbles", laid_mahout_crc_nibbles)], narrowed := true }
def CrcExtendsUptoSaid : Prop := crcExtendsUptoRow.holds Tryd.pinned (OpenSpec.upto crcExtendsSpec)

/-- 'mahoutlaw01.CrcJoins', WHERE WHAT IT READS IS OF BULK AT MOST 1048576: true; the input reads as it did. -/
def crcJoinsUptoRow : OpenClaim := { program := "ytmejgkcclgkgjaadoor", sum := "668a3fde933e736fa21d75065fbb264ba5dae42121bc845075519c1f87e314f7", func := "mahout/mahoutlaw01.CrcJoins", spec := "crcJoins", named := ["mahout/crc.nibbles"], apart := false, laid := [("mahout/crc.nibbles", laid_mahout_crc_nibbles)], narrowed := true }
def CrcJoinsUptoSaid : Prop := crcJoinsUptoRow.holds Tryd.pinned (OpenSpec.upto crcJoinsSpec)

end Rows
end Go.Proofs.YtmejgkcclgkgjaaDoor
