/-
  No cell of these rows narrows 'for every input' (looked for: loops, veiled, ifaces, maps, wideKeys, modest, calm, conditions, laid).
  DERIVED. THE GIVEN ROWS OF THIS SEAT. 5 by the template 'for every input the law returns true; each argument reads behind the call as it read before'; 0 by the template 'total and deterministic' (their statements: YtlndnjpgpbeeeaaTotals.lean).
  GIVEN WITH THE SEED: the statements are not yours to turn. If you find one false, say at which input.
  Laid BY PROGRAM, IN A SANDBOX (cutbox-rows.mjs): the forced cells as the released guide's own fill.sh prints them over the translation 6d7ad9df15af828c… (all of the seat's roots in one cut). By AI agents, Wed Nov 11 2026. No macro, syntax, notation, axiom, sorry.
-/
import Derived.Test.YtlndnjpgpbeeeaaChecked
import GoSem.Claim
import GoSem.ClaimJoined
import GoSem.ClaimMapViews
import Derived.JoinedTies
import Derived.KernelRfl
namespace Go.Proofs.Ytlndnjpgpbeeeaa
/- THE CELL 'sum', in the pinned program and in every row, IS THE sha256 OF THE DUMP (.gsa) THAT YtlndnjpgpbeeeaaProg.lean LOADS. Nothing in Lean hashes anything: it is a label: what it is worth is what the hold of that sum in a sandbox is worth. -/
noncomputable def Try.pinned : Pinned := { name := "ytlndnjpgpbeeeaa", sum := "6d7ad9df15af828cd0a4e8741865c449bc4ecc3dfdf089125cc1dcbbbae76653", checked := Try.checked }
namespace Rows
def none {H : Type} : Left H := { results := [], args := [] }

/-- 'mahoutlaw11.RpcOnce': WHATEVER THE INPUT: true; the input reads as it did. -/
def rpcOnceSpec : ChangeSpec := { name := "rpcOnce", fn := fun _ => fun
  | [d] => { results := [.lit (.bool true)], args := [d] }
  | _ => none }
def rpcOnceRow : OpenClaim := { program := "ytlndnjpgpbeeeaa", sum := "6d7ad9df15af828cd0a4e8741865c449bc4ecc3dfdf089125cc1dcbbbae76653", func := "mahout/mahoutlaw11.RpcOnce", spec := "rpcOnce", apart := false }
def RpcOnceSaid : Prop := rpcOnceRow.holds Try.pinned (OpenSpec.ofChange rpcOnceSpec)

/-- ITS FALSE NEIGHBOUR: 'it returns false'. Refute it at one input. -/
def rpcOnceWrong : ChangeSpec := { name := "rpcOnce", fn := fun _ => fun
  | [d] => { results := [.lit (.bool false)], args := [d] }
  | _ => none }
def RpcOnceWrongFalsely : Prop := rpcOnceRow.holds Try.pinned (OpenSpec.ofChange rpcOnceWrong)

/-- 'mahoutlaw11.RpcDesks': WHATEVER THE INPUT: true; the input reads as it did. -/
def rpcDesksSpec : ChangeSpec := { name := "rpcDesks", fn := fun _ => fun
  | [d] => { results := [.lit (.bool true)], args := [d] }
  | _ => none }
def rpcDesksRow : OpenClaim := { program := "ytlndnjpgpbeeeaa", sum := "6d7ad9df15af828cd0a4e8741865c449bc4ecc3dfdf089125cc1dcbbbae76653", func := "mahout/mahoutlaw11.RpcDesks", spec := "rpcDesks", apart := false }
def RpcDesksSaid : Prop := rpcDesksRow.holds Try.pinned (OpenSpec.ofChange rpcDesksSpec)

/-- ITS FALSE NEIGHBOUR: 'it returns false'. Refute it at one input. -/
def rpcDesksWrong : ChangeSpec := { name := "rpcDesks", fn := fun _ => fun
  | [d] => { results := [.lit (.bool false)], args := [d] }
  | _ => none }
def RpcDesksWrongFalsely : Prop := rpcDesksRow.holds Try.pinned (OpenSpec.ofChange rpcDesksWrong)

/-- 'mahoutlaw11.RpcPatience': WHATEVER THE INPUT: true; the input reads as it did. -/
def rpcPatienceSpec : ChangeSpec := { name := "rpcPatience", fn := fun _ => fun
  | [d1, d2, d3] => { results := [.lit (.bool true)], args := [d1, d2, d3] }
  | _ => none }
def rpcPatienceRow : OpenClaim := { program := "ytlndnjpgpbeeeaa", sum := "6d7ad9df15af828cd0a4e8741865c449bc4ecc3dfdf089125cc1dcbbbae76653", func := "mahout/mahoutlaw11.RpcPatience", spec := "rpcPatience", apart := false }
def RpcPatienceSaid : Prop := rpcPatienceRow.holds Try.pinned (OpenSpec.ofChange rpcPatienceSpec)

/-- ITS FALSE NEIGHBOUR: 'it returns false'. Refute it at one input. -/
def rpcPatienceWrong : ChangeSpec := { name := "rpcPatience", fn := fun _ => fun
  | [d1, d2, d3] => { results := [.lit (.bool false)], args := [d1, d2, d3] }
  | _ => none }
def RpcPatienceWrongFalsely : Prop := rpcPatienceRow.holds Try.pinned (OpenSpec.ofChange rpcPatienceWrong)

/-- 'mahoutlaw11.RpcCallers': WHATEVER THE INPUT: true; the input reads as it did. -/
def rpcCallersSpec : ChangeSpec := { name := "rpcCallers", fn := fun _ => fun
  | [d1, d2, d3] => { results := [.lit (.bool true)], args := [d1, d2, d3] }
  | _ => none }
def rpcCallersRow : OpenClaim := { program := "ytlndnjpgpbeeeaa", sum := "6d7ad9df15af828cd0a4e8741865c449bc4ecc3dfdf089125cc1dcbbbae76653", func := "mahout/mahoutlaw11.RpcCallers", spec := "rpcCallers", apart := false }
def RpcCallersSaid : Prop := rpcCallersRow.holds Try.pinned (OpenSpec.ofChange rpcCallersSpec)

/-- ITS FALSE NEIGHBOUR: 'it returns false'. Refute it at one input. -/
def rpcCallersWrong : ChangeSpec := { name := "rpcCallers", fn := fun _ => fun
  | [d1, d2, d3] => { results := [.lit (.bool false)], args := [d1, d2, d3] }
  | _ => none }
def RpcCallersWrongFalsely : Prop := rpcCallersRow.holds Try.pinned (OpenSpec.ofChange rpcCallersWrong)

/-- 'mahoutlaw11.RpcNil': WHATEVER THE INPUT: true; the input reads as it did. -/
def rpcNilSpec : ChangeSpec := { name := "rpcNil", fn := fun _ => fun
  | [d1, d2] => { results := [.lit (.bool true)], args := [d1, d2] }
  | _ => none }
def rpcNilRow : OpenClaim := { program := "ytlndnjpgpbeeeaa", sum := "6d7ad9df15af828cd0a4e8741865c449bc4ecc3dfdf089125cc1dcbbbae76653", func := "mahout/mahoutlaw11.RpcNil", spec := "rpcNil", apart := false }
def RpcNilSaid : Prop := rpcNilRow.holds Try.pinned (OpenSpec.ofChange rpcNilSpec)

/-- ITS FALSE NEIGHBOUR: 'it returns false'. Refute it at one input. -/
def rpcNilWrong : ChangeSpec := { name := "rpcNil", fn := fun _ => fun
  | [d1, d2] => { results := [.lit (.bool false)], args := [d1, d2] }
  | _ => none }
def RpcNilWrongFalsely : Prop := rpcNilRow.holds Try.pinned (OpenSpec.ofChange rpcNilWrong)

/- THE SECOND FORM. 'bulk': how many values and letters a reading holds, each counted each time it is reached (what is shared counts as often as it is met; a slice's spare places count too). A statement '..UptoSaid' is the law's where the arguments, and the package variables that the reading takes, are together of bulk at most 1048576: NARROWER than '..Said'. Prove '..Said' where nothing that the law and all that it calls make is longer than what came in: it says more and counts as full. Else prove '..UptoSaid'. A law counts once. -/
mutual
def uptoBulk {H : Type} : DataW H → Nat
  | .lit (.string bytes) => bytes.length + 1
  | .lit _ => 1
  | .nil => 1
  | .ptr d => uptoBulk d + 1
  | .slice elems spare => uptoBulkAll elems + uptoBulkAll spare + 1
  | .agg parts => uptoBulkAll parts + 1
  | .iface _ d => uptoBulk d + 1
  | .map entries => uptoBulkEntries entries + 1
  | .held _ => 1
def uptoBulkAll {H : Type} : List (DataW H) → Nat
  | [] => 0
  | d :: r => uptoBulk d + uptoBulkAll r
def uptoBulkEntries {H : Type} : List (Lit × DataW H) → Nat
  | [] => 0
  | x :: r => uptoBulkEntry x + uptoBulkEntries r
def uptoBulkEntry {H : Type} : Lit × DataW H → Nat
  | (.string bytes, d) => bytes.length + uptoBulk d + 1
  | (_, d) => uptoBulk d + 1
 end
def uptoSmall : (H : Type) → List (DataW H) → Bool := fun _ ds => decide (uptoBulkAll ds ≤ 1048576)
def OpenSpec.upto (s : _root_.Go.ChangeSpec) : _root_.Go.OpenSpec := { _root_.Go.OpenSpec.ofChange s with cond := some uptoSmall }

/-- 'mahoutlaw11.RpcOnce', WHERE WHAT IT READS IS OF BULK AT MOST 1048576: true; the input reads as it did. -/
def rpcOnceUptoRow : OpenClaim := { program := "ytlndnjpgpbeeeaa", sum := "6d7ad9df15af828cd0a4e8741865c449bc4ecc3dfdf089125cc1dcbbbae76653", func := "mahout/mahoutlaw11.RpcOnce", spec := "rpcOnce", apart := false, narrowed := true }
def RpcOnceUptoSaid : Prop := rpcOnceUptoRow.holds Try.pinned (OpenSpec.upto rpcOnceSpec)

/-- 'mahoutlaw11.RpcDesks', WHERE WHAT IT READS IS OF BULK AT MOST 1048576: true; the input reads as it did. -/
def rpcDesksUptoRow : OpenClaim := { program := "ytlndnjpgpbeeeaa", sum := "6d7ad9df15af828cd0a4e8741865c449bc4ecc3dfdf089125cc1dcbbbae76653", func := "mahout/mahoutlaw11.RpcDesks", spec := "rpcDesks", apart := false, narrowed := true }
def RpcDesksUptoSaid : Prop := rpcDesksUptoRow.holds Try.pinned (OpenSpec.upto rpcDesksSpec)

/-- 'mahoutlaw11.RpcPatience', WHERE WHAT IT READS IS OF BULK AT MOST 1048576: true; the input reads as it did. -/
def rpcPatienceUptoRow : OpenClaim := { program := "ytlndnjpgpbeeeaa", sum := "6d7ad9df15af828cd0a4e8741865c449bc4ecc3dfdf089125cc1dcbbbae76653", func := "mahout/mahoutlaw11.RpcPatience", spec := "rpcPatience", apart := false, narrowed := true }
def RpcPatienceUptoSaid : Prop := rpcPatienceUptoRow.holds Try.pinned (OpenSpec.upto rpcPatienceSpec)

/-- 'mahoutlaw11.RpcCallers', WHERE WHAT IT READS IS OF BULK AT MOST 1048576: true; the input reads as it did. -/
def rpcCallersUptoRow : OpenClaim := { program := "ytlndnjpgpbeeeaa", sum := "6d7ad9df15af828cd0a4e8741865c449bc4ecc3dfdf089125cc1dcbbbae76653", func := "mahout/mahoutlaw11.RpcCallers", spec := "rpcCallers", apart := false, narrowed := true }
def RpcCallersUptoSaid : Prop := rpcCallersUptoRow.holds Try.pinned (OpenSpec.upto rpcCallersSpec)

/-- 'mahoutlaw11.RpcNil', WHERE WHAT IT READS IS OF BULK AT MOST 1048576: true; the input reads as it did. -/
def rpcNilUptoRow : OpenClaim := { program := "ytlndnjpgpbeeeaa", sum := "6d7ad9df15af828cd0a4e8741865c449bc4ecc3dfdf089125cc1dcbbbae76653", func := "mahout/mahoutlaw11.RpcNil", spec := "rpcNil", apart := false, narrowed := true }
def RpcNilUptoSaid : Prop := rpcNilUptoRow.holds Try.pinned (OpenSpec.upto rpcNilSpec)

end Rows
end Go.Proofs.Ytlndnjpgpbeeeaa
