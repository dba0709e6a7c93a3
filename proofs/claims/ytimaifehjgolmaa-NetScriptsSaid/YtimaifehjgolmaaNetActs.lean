/- A script's steps, as an argument; what each step does to what is under way. -/
import Derived.Test.YtimaifehjgolmaaNetMy
import Derived.Test.YtimaifehjgolmaaRead
namespace Go.Proofs.Ytimaifehjgolmaa
open Go.RowKit Go.Maps
set_option linter.unusedVariables false
set_option linter.unusedSimpArgs false
structure Act where
  what : Int
  a : Int
  b : Int
  text : ByteArray
  cut : Bool
def Act.cells (x : Act) : List Value := [.int .i64 x.what, .int .i64 x.a, .int .i64 x.b, .string x.text, .bool x.cut]
structure Act.Wf (x : Act) : Prop where
  w1 : -9223372036854775808 ≤ x.what
  w2 : x.what ≤ 9223372036854775807
  a1 : -9223372036854775808 ≤ x.a
  a2 : x.a ≤ 9223372036854775807
  b1 : -9223372036854775808 ≤ x.b
  b2 : x.b ≤ 9223372036854775807
  t1 : x.text.size ≤ 140737488351232
theorem act_flat : flat Try.prog 8 45 = some [.int .i64, .int .i64, .int .i64, .str, .bool] := by kernel_rfl
theorem opens_act (w : World) : Opens Try.prog w 45 (fun _ cs (x : Act) => cs = x.cells ∧ x.Wf) (fun x => vbulk x.cells) :=
  opens_flat act_flat Act.cells Act.Wf fun cs h => by
    obtain ⟨k, d1, rfl, k1, k2, ha⟩ := h.i64_inv
    obtain ⟨n, d2, rfl, n1, n2, hb⟩ := ha.i64_inv
    obtain ⟨m, d3, rfl, m1, m2, hc⟩ := hb.i64_inv
    obtain ⟨s, d4, rfl, s1, hd⟩ := hc.str_inv
    obtain ⟨c, d5, rfl, he⟩ := hd.bool_inv
    obtain rfl := he.nil_inv
    exact ⟨⟨k, n, m, s, c⟩, rfl, k1, k2, n1, n2, m1, m2, s1⟩
def RActs := RSl 5 48 (fun (_ : World) (cs : List Value) (x : Act) => cs = x.cells ∧ x.Wf)
theorem opens_acts (w : World) : Opens Try.prog w 41 RActs (bulkL fun (x : Act) => vbulk x.cells) :=
  opens_slice Try.underlying41 (by kernel_rfl) (by kernel_rfl) (by decide) (opens_act w)
theorem tmod5 (k : Int) (h1 : -9223372036854775808 ≤ k) (h2 : k ≤ 9223372036854775807) :
    ∃ q : Int, (wrap64 (k.tmod 5 + 5)).tmod 5 = q ∧ (q = 0 ∨ q = 1 ∨ q = 2 ∨ q = 3 ∨ q = 4) := by
  have e1 := Int.tmod_lt_of_pos k (b := 5) (by decide)
  have e2 := Int.lt_tmod_of_pos k (b := 5) (by decide)
  have : wrap64 (k.tmod 5 + 5) = k.tmod 5 + 5 := by unfold wrap64; omega
  rw [this, Int.tmod_eq_emod_of_nonneg (by omega)]
  exact ⟨_, rfl, by omega⟩
theorem send_facts {s s' : NS} {a b i j : Int} {t : ByteArray} (h : s.send a b t = (s', i, j)) : (j = 0 ∧ s'.fly.length = s.fly.length + 1 ∧ s'.sent = s.sent + 1 ∧ i = s.sent + 1) ∨ (j ≠ 0 ∧ s' = s) := by
  unfold NS.send at h
  split at h
  · cases h; exact .inr ⟨by decide, rfl⟩
  split at h
  · cases h; exact .inr ⟨by decide, rfl⟩
  split at h
  · cases h; exact .inr ⟨by decide, rfl⟩
  · cases h; exact .inl ⟨rfl, by simp, rfl, rfl⟩
theorem has_lt {s : NS} {k : Int} (h : s.has k = true) : k.toNat < s.fly.length := by
  simp [NS.has] at h; omega
theorem drop_facts {s s' : NS} {a j : Int} (h : s.drop a = (s', j)) : (j = 0 ∧ s'.fly.length + 1 = s.fly.length ∧ s'.sent = s.sent) ∨ (j ≠ 0 ∧ s' = s) := by
  unfold NS.drop at h
  split at h
  · rename_i hh
    have := has_lt hh
    cases h; exact .inl ⟨rfl, by rw [List.length_eraseIdx, if_pos this]; omega, rfl⟩
  · cases h; exact .inr ⟨by decide, rfl⟩
theorem deliver_facts {s s' : NS} {a j : Int} {l : Letter} (h : s.deliver a = (s', l, j)) : (j = 0 ∧ s'.fly.length + 1 = s.fly.length ∧ s'.sent = s.sent) ∨ (j ≠ 0 ∧ s' = s) := by
  unfold NS.deliver at h
  split at h
  · rename_i l' hh hl
    have := has_lt hh
    split at h
    · cases h; exact .inr ⟨by decide, rfl⟩
    · cases h; exact .inl ⟨rfl, by rw [List.length_eraseIdx, if_pos this]; omega, rfl⟩
  · cases h; exact .inr ⟨by decide, rfl⟩
theorem double_facts {s s' : NS} {a j : Int} (h : s.double a = (s', j)) : (j = 0 ∧ s'.fly.length = s.fly.length + 1 ∧ s'.sent = s.sent) ∨ (j ≠ 0 ∧ s' = s) := by
  unfold NS.double at h
  split at h
  · split at h
    · cases h; exact .inr ⟨by decide, rfl⟩
    · cases h; exact .inl ⟨rfl, by simp, rfl⟩
  · cases h; exact .inr ⟨by decide, rfl⟩
theorem part_facts {s s' : NS} {a b j : Int} {c : Bool} (h : s.part a b c = (s', j)) : s'.fly = s.fly ∧ s'.sent = s.sent := by
  unfold NS.part at h
  split at h
  · cases h; exact ⟨rfl, rfl⟩
  · cases h; exact ⟨rfl, rfl⟩
end Go.Proofs.Ytimaifehjgolmaa
