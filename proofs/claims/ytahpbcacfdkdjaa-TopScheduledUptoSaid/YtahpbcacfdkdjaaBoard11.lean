/- attempts: Lost, every call. (Under way.) -/
import Derived.Test.YtahpbcacfdkdjaaBoard10
namespace At
def lose (S : Bd) (i : Nat) (k : Task) (j : Nat) (a : Try) : Bd := { S with tasks := S.tasks.set i { k with tries := k.tries.set j { a with state := 4 }, winner := 0 }, opn := S.opn + 1 }
def lost (S : Bd) (t n : Int) : Bool × Bd := if 0 ≤ t then (match S.tasks[t.toNat]? with
  | some k => if t.toNat < S.maps ∧ 1 ≤ n ∧ k.winner = n then (match k.tries[(n - 1).toNat]? with
    | some a => (true, lose S t.toNat k (n - 1).toNat a)
    | none => (false, S)) else (false, S)
  | none => (false, S)) else (false, S)
end At
namespace Go.Proofs.Ytahpbcacfdkdjaa
open Go.RowKit
set_option linter.unusedVariables false
set_option linter.unusedSimpArgs false
end Go.Proofs.Ytahpbcacfdkdjaa
