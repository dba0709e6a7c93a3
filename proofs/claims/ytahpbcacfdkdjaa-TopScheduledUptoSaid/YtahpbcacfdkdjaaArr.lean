/- Arguments that are arrays. -/
import Derived.Test.YtahpbcacfdkdjaaRead
import Derived.WideShapes
namespace Go.Proofs.Ytahpbcacfdkdjaa
open Go.RowKit Go.WideShapes
theorem Rd.okWide_array {P : Program} {w : World} {r : Reach} {base : Nat} {t : TypeId} {v : Value} {n : Nat} {e : TypeId} (ht : P.underlying t = some (.array n e)) (h : Value.okWide P w r base t v) : ∃ cs, v = .agg cs ∧ cs.size = P.cellsOf t := by
  cases v <;> simp_all [Value.okWide]
end Go.Proofs.Ytahpbcacfdkdjaa
