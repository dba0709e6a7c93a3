/- speaks, and a net that is new. -/
import Derived.Test.YtiaknanflgdmoaaNetOps4
namespace Go.Proofs.Ytiaknanflgdmoaa
open Go.RowKit Go.Maps
set_option linter.unusedVariables false
set_option linter.unusedSimpArgs false
def newNS (n : Int) : NS := ⟨min (max n 0) 64, 0, [], fun _ => false⟩
theorem new_any (n : Int) (w : World) : Calls Try.prog 4 #[.int .i64 n] w fun e w' => e = .returned (.pointer (some ⟨w.heap.size + 1, 0, none⟩)) ∧ NetIs w' (w.heap.size + 1) w.heap.size 0 (.slice none 0 0) (newNS n) ∧ Below w.heap.size w w' := by
  refine (netNew_any n w).mono ?_
  rintro e w' ⟨h1, h2, h3⟩
  refine ⟨h1, ⟨h2, ?_⟩, h3⟩
  exact ⟨by show 0 ≤ min (max n 0) 64; omega, by show min (max n 0) 64 ≤ 64; omega, Int.le_refl _, Nat.zero_le _, fun l h => by cases h⟩
/-- What a net may have changed, all of it memory of the call's own. -/
theorem NetR.below {w w1 w2 : World} {b k : Nat} {v v' : Value} {B : Nat} (h : NetR w1 b k v w2 v') (hB : Below B w w1) (hs : B ≤ w1.heap.size) (hb : B ≤ b) (hk : B ≤ k) (hv : ∀ j, v.ownBlock = some j → B ≤ j) : Below B w w2 ∧ ∀ j, v'.ownBlock = some j → B ≤ j := by
  refine ⟨hB.trans (h.fr.below (fun x _ e => ?_) hs), fun j e => ?_⟩
  · rcases e with rfl | rfl | e
    · exact hb
    · exact hk
    · exact hv x e
  · rcases h.lies with e1 | ⟨g, e1, hg⟩
    · exact hv j (e1 ▸ e)
    · rw [e1] at e; have := Option.some.inj e; omega
theorem DelPost.lay {w w' : World} {b k n : Nat} {v : Value} {s : NS} {l : Letter} {x : Int} {e : Ending} (h : DelPost w b k n v (s, l, x) e w') :
    e = .returned (.tuple #[.agg #[.int .i64 l.num, .int .i64 l.src, .int .i64 l.dst, .string l.txt], .int .i64 x]) ∧ ∃ v', NetIs w' b k n v' s ∧ NetR w b k v w' v' := h
end Go.Proofs.Ytiaknanflgdmoaa
