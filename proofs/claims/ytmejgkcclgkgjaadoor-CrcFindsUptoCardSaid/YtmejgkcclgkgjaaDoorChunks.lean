/- crc.pieces and crc.Chunks: a range over a function. (Under way.) -/
import Derived.Test.YtmejgkcclgkgjaaDoorCrc
import Derived.Test.YtmejgkcclgkgjaaDoorPChunks
import Derived.Test.YtmejgkcclgkgjaaDoorRange
namespace Go.Proofs.YtmejgkcclgkgjaaDoor
open Go.RowKit Go.Shelf
set_option linter.unusedVariables false
set_option linter.unusedSimpArgs false
attribute [local go_sem] Oper.semAt_some
abbrev Txt := { x : ByteArray // x.size ≤ 140737488351232 }
def strSize : Value → Nat
  | .string s => s.size
  | _ => 0
def tl (x : Txt) : List UInt8 := x.1.data.toList
set_option maxRecDepth 100000 in
set_option maxHeartbeats 2000000 in
theorem pieces_in (n l m n₀ : Nat) (hm : (m : Int) + 1 ≤ 9223372036854775807) (s : ByteArray) (hs : s.size ≤ 140737488351232) (J Jx : List Txt → World → Prop)
    (hY : ∀ pre x W, J pre W → pre.length < (Chk.chunks m s.data.toList).length → YieldAt Fence.wide (n - 1) Tryd.prog l #[.string x.1] W fun e W' =>
      (e = .returned (.bool true) ∧ J (pre ++ [x]) W' ∧ Below n₀ W W') ∨ (e = .returned (.bool false) ∧ Jx (pre ++ [x]) W'))
    (W : World) (h0 : J [] W) :
    CallsIn Fence.wide n Tryd.prog 24 #[.string s, .int .i64 ((m : Int) + 1), .func (.yield l) #[] #[]] W fun e W' => (∃ v, e = .returned v) ∧
      ((∃ ys, ys.map tl = Chk.chunks m s.data.toList ∧ J ys W') ∨ (∃ pre, True ∧ Jx pre W')) := by
  refine callsIn_of_wp Tryd.func24 rfl trivial ?_ rfl
  simp only [Tryd.ntmps24, List.size_toArray, List.length_cons, List.length_nil, Nat.reduceAdd, Nat.reduceSub, Array.replicate_succ, Array.replicate_zero, List.push_toArray, List.append_toArray, List.nil_append, List.cons_append]
  have HY := Lib.hid hY
  clear hY hm
  gi_wp2
  gi_loopw [0] (fun v wr => ∃ (pre : List Txt) (t : ByteArray), v = .string t ∧ t.size ≤ 140737488351232 ∧ Hid (pre.map tl ++ Chk.chunks m t.data.toList = Chk.chunks m s.data.toList) ∧ Hid (J pre wr))
    (fun v _ => strSize v)
  case atStart =>
    exact ⟨[], s, rfl, hs, Lib.hid rfl, Lib.hid h0⟩
  case round =>
    clear h0 hs
    obtain ⟨pre, t, rfl, ht, HE, HJ⟩ := hrel
    by_cases hz : t = ⟨#[]⟩
    · subst hz
      gi_wp2
      go_end0
      exact ⟨⟨_, rfl⟩, .inl ⟨pre, by have := HE.out; rw [Chk.chunks_nil, List.append_nil] at this; exact this, HJ.out⟩⟩
    · have hsz : 0 < t.size := by
        rcases Nat.eq_zero_or_pos t.size with h | h
        · exact absurd (by cases t; simpa [ByteArray.size] using h) hz
        · exact h
      have hd : t.data.toList ≠ [] := fun h => by
        have : t.data.toList.length = t.size := by simp
        rw [h] at this; simp at this; omega
      have hne : t.toList.isEmpty = false := by
        rw [ByteArray.toList_eq]
        cases h : t.data.toList with
        | nil => exact absurd h hd
        | cons x l => rfl
      have hne2 : t.toList ≠ [] := fun h => by rw [h] at hne; cases hne
      have hlen : pre.length < (Chk.chunks m s.data.toList).length := by
        rw [← HE.out, List.length_append, List.length_map]
        have := Chk.chunks_lt m hd
        omega
      have hnext : ∀ q : Nat, q ≤ t.size → t.data.toList.take (m + 1) = t.data.toList.take q → t.data.toList.drop (m + 1) = t.data.toList.drop q → ∀ hx : (t.extract 0 q).size ≤ 140737488351232,
          Hid ((pre ++ [(⟨t.extract 0 q, hx⟩ : Txt)]).map tl ++ Chk.chunks m (t.extract q t.size).data.toList = Chk.chunks m s.data.toList) := fun q hq h1 h2 hx => Lib.hid (by
        rw [← HE.out, Chk.chunks_ne m hd, h1, h2]
        simp [tl]
        congr 1
        rw [List.take_of_length_le (by simp)])
      have HN := Lib.hid hnext
      have HL := Lib.hid hlen
      clear hnext hlen hd hz
      by_cases hlt : m + 1 ≤ t.size
      · have hx : (t.extract 0 (m + 1)).size ≤ 140737488351232 := by simp; omega
        obtain ⟨fn, tmps, assign, body, hy, hR⟩ := HY.out pre ⟨t.extract 0 (m + 1), hx⟩ wr HJ.out HL.out
        dsimp only at hy
        gi_wp2
        refine ⟨fun h => (by cases h), ?_⟩
        refine hR.mono ?_
        rintro e W3 (⟨rfl, hJ3, hk3⟩ | ⟨rfl, hJx3⟩)
        · gi_wp2
          go_roundw
          case rel => exact ⟨_, _, rfl, by simp; omega, HN.out (m + 1) hlt rfl rfl hx, Lib.hid hJ3⟩
          case measure => simp [strSize]; omega
        · gi_wp2
          refine bodyPost_ret (results_none rfl _ _ _) rfl ?_
          exact ⟨⟨_, rfl⟩, .inr ⟨_, trivial, hJx3⟩⟩
      · have hN2 := HN.out t.size (Nat.le_refl _) (by rw [List.take_of_length_le (by simp; omega), List.take_of_length_le (by simp)]) (by rw [List.drop_of_length_le (by simp; omega), List.drop_of_length_le (by simp)]) (by simpa using ht)
        have hext : t.extract 0 t.size = t := by simp
        have hext2 : t.extract t.size t.size = ByteArray.empty := by simp
        have hN3 : Hid ((pre ++ [(⟨t, ht⟩ : Txt)]).map tl ++ Chk.chunks m ByteArray.empty.data.toList = Chk.chunks m s.data.toList) := by
          have := hN2
          simp only [hext, hext2] at this
          exact this
        clear hext2
        clear hN2 hext
        obtain ⟨fn, tmps, assign, body, hy, hR⟩ := HY.out pre ⟨t, ht⟩ wr HJ.out HL.out
        dsimp only at hy
        gi_wp2
        refine ⟨fun h => (by cases h), ?_⟩
        refine hR.mono ?_
        rintro e W3 (⟨rfl, hJ3, hk3⟩ | ⟨rfl, hJx3⟩)
        · gi_wp2
          go_roundw
          case rel => exact ⟨_, _, rfl, by simp, hN3, Lib.hid hJ3⟩
          case measure => simp [strSize]; omega
        · gi_wp2
          refine bodyPost_ret (results_none rfl _ _ _) rfl ?_
          exact ⟨⟨_, rfl⟩, .inr ⟨_, trivial, hJx3⟩⟩
set_option maxHeartbeats 1000000 in
theorem clo_in (n l m n₀ Bs Bn : Nat) (hm : (m : Int) + 1 ≤ 9223372036854775807) (s : ByteArray) (hs : s.size ≤ 140737488351232) (J Jx : List Txt → World → Prop)
    (hY : ∀ pre x W, J pre W → pre.length < (Chk.chunks m s.data.toList).length → YieldAt Fence.wide (n - 1) Tryd.prog l #[.string x.1] W fun e W' =>
      (e = .returned (.bool true) ∧ J (pre ++ [x]) W' ∧ Below n₀ W W') ∨ (e = .returned (.bool false) ∧ Jx (pre ++ [x]) W'))
    (W : World) (hBs : W.cell? ⟨Bs, 0, none⟩ = some (.string s)) (hBn : W.cell? ⟨Bn, 0, none⟩ = some (.int .i64 ((m : Int) + 1))) (h0 : J [] W) :
    CallsIn Fence.wide n Tryd.prog 23 #[.func (.yield l) #[] #[], .pointer (some ⟨Bs, 0, none⟩), .pointer (some ⟨Bn, 0, none⟩)] W fun e W' => (∃ v, e = .returned v) ∧
      ((∃ ys, ys.map tl = Chk.chunks m s.data.toList ∧ J ys W') ∨ (∃ pre, True ∧ Jx pre W')) := by
  have hp := pieces_in (n - 1) l m n₀ hm s hs J Jx (fun pre x W hj hl => yieldAt_any rfl _ (hY pre x W hj hl)) W h0
  clear hm hY h0 hs
  refine callsIn_of_wp Tryd.func23 rfl trivial ?_ rfl
  simp only [Tryd.ntmps23, List.size_toArray, List.length_cons, List.length_nil, Nat.reduceAdd, Nat.reduceSub, Array.replicate_succ, Array.replicate_zero, List.push_toArray, List.append_toArray, List.nil_append, List.cons_append]
  gi_wp2_with (refine ⟨trivial, fun h => (by cases h), ?_⟩; gi_at_call 24; refine hp.mono ?_; clear hp; rintro e W1 ⟨⟨v, rfl⟩, h⟩)
  go_end0
  exact ⟨⟨_, rfl⟩, h⟩
theorem clo_stops (n m n₀ Bs Bn : Nat) (hm : (m : Int) + 1 ≤ 9223372036854775807) (s : ByteArray) (hs : s.size ≤ 140737488351232) (w : World) (h1 : Bs < w.heap.size) (h2 : Bn < w.heap.size)
    (hBs : w.cell? ⟨Bs, 0, none⟩ = some (.string s)) (hBn : w.cell? ⟨Bn, 0, none⟩ = some (.int .i64 ((m : Int) + 1))) :
    SeqStopsK Fence.wide n Tryd.prog 23 #[.pointer (some ⟨Bs, 0, none⟩), .pointer (some ⟨Bn, 0, none⟩)] (fun x : Txt => #[Value.string x.1]) (Below n₀) (fun ys => ys.map tl = Chk.chunks m s.data.toList) (fun _ => True) (Chk.chunks m s.data.toList).length w := fun l J Jx W hW _ _ hY h0 =>
  clo_in n l m n₀ Bs Bn hm s hs J Jx hY W ((hW.cell (p := ⟨Bs, 0, none⟩) h1).trans hBs) ((hW.cell (p := ⟨Bn, 0, none⟩) h2).trans hBn) h0
theorem u32_info : (Tryd.prog.info? 22).map (fun i => (i.zero, i.size, i.bytes)) = some (some (.int .u32 0), 1, 4) := by kernel_rfl
def w32 (l : List Nat) : List Value := l.map fun (x : Nat) => Value.int .u32 ((x : Nat) : Int)
def psums (pre : List Txt) : List Nat := pre.map fun x => Crc.ext 0 (tl x)
end Go.Proofs.YtmejgkcclgkgjaaDoor
