/- make: a slice of one-cell elements, its block known whole. Arguments that are slices of texts and of numbers. -/
import Derived.Test.YtgeeaddbapjikaaKit
import Derived.Test.YtgeeaddbapjikaaRead
import Derived.Laws.MakeOwn
import Derived.Laws.OwnMore
namespace Go.Proofs.Ytgeeaddbapjikaa
open Go.RowKit
set_option linter.unusedVariables false
set_option linter.unusedSimpArgs false
def rep (n : Nat) (z : Value) : Array Value := (List.replicate n z).toArray
theorem run_make1 {P : Program} (t e : TypeId) (z : Value) (bytes : Nat) (ht : P.underlying t = some (.slice e)) (hinfo : (P.info? e).map (fun i => (i.zero, i.size, i.bytes)) = some (some z, 1, bytes)) (hz : z.cells = #[z])
    (n : Nat) (hb : n * bytes ≤ 281474976710656) (hn : n ≤ 9223372036854775807) (w : World) :
    (Instr.makeSlice t (.int .i64 (n : Int)) (.int .i64 (n : Int))).run P w = .ok (.slice (some ⟨w.heap.size, 0, none⟩) n n) (w.alloc (.cells (rep n z) e)) := by
  obtain ⟨i, hi, hzz, hsize, hby⟩ := info_parts hinfo
  have hb' : (i.bytes : Int) * (n : Int) ≤ 281474976710656 := by
    rw [hby]
    have h : ((n * bytes : Nat) : Int) ≤ 281474976710656 := by omega
    rw [Int.natCast_mul, Int.mul_comm] at h
    exact h
  have hr := run_make (P := P) w t e i z ht hi hzz .i64 .i64 n n (by omega) (by omega) hb' (by omega)
  simp only [Int.toNat_natCast] at hr
  rw [hr, hsize, hz, Nat.mul_one]
  congr 3
  apply Array.toList_inj.1
  rw [toList_madeCells_one]
  rfl
theorem Blk.make (w : World) (n : Nat) (z : Value) (t : TypeId) : Blk (w.alloc (.cells (rep n z) t)) w.heap.size (List.replicate n z) t := heap_alloc_new w _
/-! ### slices of texts and of numbers, as arguments -/
def RStrs := RSl 1 16 (fun (_ : World) (cs : List Value) (x : ByteArray) => cs = [.string x] ∧ x.size ≤ 140737488351232)
theorem opens_str {P : Program} {t : TypeId} (hf : flat P 4 t = some [.str]) (w : World) : Opens P w t (fun _ cs (x : ByteArray) => cs = [.string x] ∧ x.size ≤ 140737488351232) (fun x => vbulk [.string x]) :=
  opens_flat hf (fun x => [.string x]) (fun x => x.size ≤ 140737488351232) fun cs h => by
    obtain ⟨s, d, rfl, hs, h⟩ := h.str_inv
    obtain rfl := h.nil_inv
    exact ⟨s, rfl, hs⟩
theorem opens_strs {P : Program} {t e : TypeId} (hu : P.underlying t = some (.slice e)) (hc : P.cellsOf e = 1) (hb : P.bytesOf e = 16) (hf : flat P 4 e = some [.str]) (w : World) : Opens P w t RStrs (bulkL fun x => vbulk [.string x]) :=
  opens_slice hu hc hb (by decide) (opens_str hf w)
structure I64 (x : Int) : Prop where
  lo : -9223372036854775808 ≤ x
  hi : x ≤ 9223372036854775807
def RInts := RSl 1 8 (fun (_ : World) (cs : List Value) (x : Int) => cs = [.int .i64 x] ∧ I64 x)
theorem opens_int1 {P : Program} {t : TypeId} (hf : flat P 4 t = some [.int .i64]) (w : World) : Opens P w t (fun _ cs (x : Int) => cs = [.int .i64 x] ∧ I64 x) (fun x => vbulk [.int .i64 x]) :=
  opens_flat hf (fun x => [.int .i64 x]) I64 fun cs h => by
    obtain ⟨s, d, rfl, h1, h2, h⟩ := h.i64_inv
    obtain rfl := h.nil_inv
    exact ⟨s, rfl, h1, h2⟩
theorem opens_ints {P : Program} {t e : TypeId} (hu : P.underlying t = some (.slice e)) (hc : P.cellsOf e = 1) (hb : P.bytesOf e = 8) (hf : flat P 4 e = some [.int .i64]) (w : World) : Opens P w t RInts (bulkL fun x => vbulk [.int .i64 x]) :=
  opens_slice hu hc hb (by decide) (opens_int1 hf w)
end Go.Proofs.Ytgeeaddbapjikaa
