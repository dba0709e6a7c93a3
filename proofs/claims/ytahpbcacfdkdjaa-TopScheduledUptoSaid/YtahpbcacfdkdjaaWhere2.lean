/- Places: the reference's Place and Dist; numbers out of points; speaks. -/
import Derived.Test.YtahpbcacfdkdjaaWhere
import Derived.Test.YtahpbcacfdkdjaaRead
namespace Go.Proofs.Ytahpbcacfdkdjaa
open Go.RowKit Fl
set_option linter.unusedVariables false
set_option linter.unusedSimpArgs false
theorem sq_bd {x : Int} (h1 : -2000 ≤ x) (h2 : x ≤ 2000) : 0 ≤ x * x ∧ x * x ≤ 4000000 := by
  have : x.natAbs ≤ 2000 := by omega
  have h3 := Nat.mul_le_mul this this
  have h4 : ((x.natAbs * x.natAbs : Nat) : Int) = x * x := Int.natAbs_mul_self
  omega
end Go.Proofs.Ytahpbcacfdkdjaa
