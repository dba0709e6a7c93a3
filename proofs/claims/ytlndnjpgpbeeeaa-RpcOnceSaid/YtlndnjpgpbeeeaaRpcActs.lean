/- A script's steps, as an argument. -/
import Derived.Test.YtlndnjpgpbeeeaaRpcRefC
import Derived.Test.YtlndnjpgpbeeeaaRead
namespace Go.Proofs.Ytlndnjpgpbeeeaa
open Go.RowKit Go.Maps
set_option linter.unusedVariables false
set_option linter.unusedSimpArgs false
structure Act where
  what : Int
  a : Int
  b : Int
  text : ByteArray
def Act.cells (x : Act) : List Value := [.int .i64 x.what, .int .i64 x.a, .int .i64 x.b, .string x.text]
structure Act.Wf (x : Act) : Prop where
  w1 : -9223372036854775808 ≤ x.what
  w2 : x.what ≤ 9223372036854775807
  a1 : -9223372036854775808 ≤ x.a
  a2 : x.a ≤ 9223372036854775807
  b1 : -9223372036854775808 ≤ x.b
  b2 : x.b ≤ 9223372036854775807
  t1 : x.text.size ≤ 140737488351232
theorem i64_wf {n : Int} (h1 : -9223372036854775808 ≤ n) (h2 : n ≤ 9223372036854775807) : (Lit.int .i64 n).wf = true := by simp [Lit.wf, IntKind.min, IntKind.max, IntKind.signed, IntKind.bits]; omega
theorem act_flat : flat Try.prog 8 40 = some [.int .i64, .int .i64, .int .i64, .str] := by kernel_rfl
theorem opens_act (w : World) : Opens Try.prog w 40 (fun _ cs (x : Act) => cs = x.cells ∧ x.Wf) (fun x => vbulk x.cells) :=
  opens_flat act_flat Act.cells Act.Wf fun cs h => by
    obtain ⟨k, d1, rfl, k1, k2, ha⟩ := h.i64_inv
    obtain ⟨n, d2, rfl, n1, n2, hb⟩ := ha.i64_inv
    obtain ⟨m, d3, rfl, m1, m2, hc⟩ := hb.i64_inv
    obtain ⟨s, d4, rfl, s1, hd⟩ := hc.str_inv
    obtain rfl := hd.nil_inv
    exact ⟨⟨k, n, m, s⟩, rfl, k1, k2, n1, n2, m1, m2, s1⟩
def RActs := RSl 4 40 (fun (_ : World) (cs : List Value) (x : Act) => cs = x.cells ∧ x.Wf)
theorem opens_acts (w : World) : Opens Try.prog w 34 RActs (bulkL fun (x : Act) => vbulk x.cells) :=
  opens_slice Try.underlying34 (by kernel_rfl) (by kernel_rfl) (by decide) (opens_act w)
theorem tmod3 (k : Int) (h1 : -9223372036854775808 ≤ k) (h2 : k ≤ 9223372036854775807) : (wrap64 (k.tmod 3 + 3)).tmod 3 = 0 ∨ (wrap64 (k.tmod 3 + 3)).tmod 3 = 1 ∨ (wrap64 (k.tmod 3 + 3)).tmod 3 = 2 := by
  have e1 := Int.tmod_lt_of_pos k (b := 3) (by decide)
  have e2 := Int.lt_tmod_of_pos k (b := 3) (by decide)
  have : wrap64 (k.tmod 3 + 3) = k.tmod 3 + 3 := by unfold wrap64; omega
  rw [this, Int.tmod_eq_emod_of_nonneg (by omega)]; omega
end Go.Proofs.Ytlndnjpgpbeeeaa
