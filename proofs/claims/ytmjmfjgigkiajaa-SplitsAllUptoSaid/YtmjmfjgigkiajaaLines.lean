/- splits.lines: a range over a function. -/
import Derived.Test.YtmjmfjgigkiajaaRange
import Derived.Test.YtmjmfjgigkiajaaPLines
import Derived.Lib.Bytealg
import Derived.Laws.Externs
namespace Go.Proofs.Ytmjmfjgigkiajaa
open Go.RowKit Go.Shelf
set_option linter.unusedVariables false
set_option linter.unusedSimpArgs false
attribute [local go_sem] Oper.semAt_some
theorem idx3_run (s : ByteArray) (c : Int) (w : World) : (callFunc 16 #[.string s, .int .u8 c]).run Try.prog w = .ok (.value (.int .i64 (Lib.indexByte s.data.toList c.toNat.toUInt8))) w := by
  rw [run_callFunc_extern (e := Extern.BytealgIndexByte.indexByte) Try.func16 (by kernel_rfl) (by kernel_rfl) (by kernel_rfl) (by kernel_rfl)]
  rw [Lib.run_indexByteString]
  rfl
theorem idx2_c (s : ByteArray) (c : Int) (w : World) : Calls Try.prog 15 #[.string s, .int .u8 c] w fun e w' => e = .returned (.int .i64 (Lib.indexByte s.data.toList c.toNat.toUInt8)) ∧ w = w' := by
  have h := idx3_run s c
  go_enter Try.func15, Try.ntmps15
  go_wp2
  go_ret
  exact ⟨rfl, rfl⟩
theorem idx_c (s : ByteArray) (w : World) : Calls Try.prog 14 #[.string s, .int .u8 10] w fun e w' => e = .returned (.int .i64 (Lib.indexByte s.data.toList 10)) ∧ w = w' := by
  go_enter Try.func14, Try.ntmps14
  go_wp2_with (go_at_call 15; refine (idx2_c _ _ _).mono ?_; rintro e w' ⟨rfl, rfl⟩)
  go_ret
  exact ⟨rfl, rfl⟩
abbrev LnT := { x : Nat × ByteArray // x.1 ≤ 140737488351232 ∧ x.2.size ≤ 140737488351232 }
def pl (x : LnT) : Nat × List UInt8 := (x.1.1, x.1.2.data.toList)
def natOf : Value → Nat
  | .int _ x => x.toNat
  | _ => 0
set_option maxRecDepth 100000 in
set_option maxHeartbeats 2000000 in
theorem lines_in (n l n₀ : Nat) (s : ByteArray) (hs : s.size ≤ 140737488351232) (J Jx : List LnT → World → Prop)
    (hY : ∀ pre x W, J pre W → pre.length < (Ln.lines 0 s.data.toList).length → YieldAt Fence.wide (n - 1) Try.prog l #[.int .i64 (x.1.1 : Int), .string x.1.2] W fun e W' =>
      (e = .returned (.bool true) ∧ J (pre ++ [x]) W' ∧ Below n₀ W W') ∨ (e = .returned (.bool false) ∧ Jx (pre ++ [x]) W'))
    (W : World) (h0 : J [] W) :
    CallsIn Fence.wide n Try.prog 13 #[.string s, .func (.yield l) #[] #[]] W fun e W' => (∃ v, e = .returned v) ∧
      ((∃ ys, ys.map pl = Ln.lines 0 s.data.toList ∧ J ys W') ∨ (∃ pre, (∃ suf, pre.map pl ++ suf = Ln.lines 0 s.data.toList) ∧ Jx pre W')) := by
  refine callsIn_of_wp Try.func13 rfl trivial ?_ rfl
  simp only [Try.ntmps13, List.size_toArray, List.length_cons, List.length_nil, Nat.reduceAdd, Nat.reduceSub, Array.replicate_succ, Array.replicate_zero, List.push_toArray, List.append_toArray, List.nil_append, List.cons_append]
  have HY := Lib.hid hY
  have HLEN : Hid (s.data.toList.length = s.size) := Lib.hid (by simp)
  clear hY
  gi_wp2
  gi_loopw [4] (fun v wr => ∃ (pre : List LnT) (a : Nat), v = .int .i64 a ∧ a ≤ s.size + 1 ∧ Hid (pre.map pl ++ Ln.lines a (s.data.toList.drop a) = Ln.lines 0 s.data.toList) ∧ Hid (J pre wr))
    (fun v _ => s.size + 1 - natOf v)
  case atStart => exact ⟨[], 0, rfl, by omega, Lib.hid rfl, Lib.hid h0⟩
  case round =>
    clear h0
    obtain ⟨pre, a, rfl, ha, HE, HJ⟩ := hrel
    by_cases hlt : a < s.size
    · have hltz : (a : Int) < (s.size : Int) := by omega
      have hd : s.data.toList.drop a ≠ [] := fun h => by
        have := congrArg List.length h
        rw [List.length_drop, HLEN.out] at this
        simp at this; omega
      have hlen : pre.length < (Ln.lines 0 s.data.toList).length := by
        rw [← HE.out, List.length_append, List.length_map, Ln.lines_ne a hd]
        simp
      have hdl : (s.data.toList.drop a).length = s.size - a := by rw [List.length_drop, HLEN.out]
      obtain ⟨q, hq⟩ : ∃ q, q = Ln.len (s.data.toList.drop a) := ⟨_, rfl⟩
      have hql : a + q ≤ s.size := by
        have := Ln.len_le (s.data.toList.drop a)
        rw [← hq, hdl] at this; omega
      have HN : Hid (∀ y : LnT, pl y = (a, (s.data.toList.drop a).take q) → (pre ++ [y]).map pl ++ Ln.lines (a + (q + 1)) (s.data.toList.drop (a + (q + 1))) = Ln.lines 0 s.data.toList) := Lib.hid (fun y hy => by
        rw [← HE.out, Ln.lines_ne a hd, ← hq, List.drop_drop, List.map_append, List.map_cons, List.map_nil, hy]
        simp)
      have HLN := Lib.hid hlen
      rcases (show Lib.indexByte (s.data.toList.drop a) 10 = -1 ∧ q = s.size - a ∨ Lib.indexByte (s.data.toList.drop a) 10 = (q : Int) by
          have hge := Lib.indexByte_ge (s.data.toList.drop a) 10
          by_cases h : Lib.indexByte (s.data.toList.drop a) 10 = -1
          · exact Or.inl ⟨h, by rw [hq, Ln.index_none h, hdl]⟩
          · obtain ⟨o, ho⟩ : ∃ o : Nat, Lib.indexByte (s.data.toList.drop a) 10 = o := ⟨(Lib.indexByte (s.data.toList.drop a) 10).toNat, by omega⟩
            exact Or.inr (by rw [ho, hq, Ln.index_some ho])) with ⟨hi, hq2⟩ | hi
      · have hi2 : Lib.indexByte (List.take (s.size - a) (List.drop a s.data.toList)) 10 = -1 := by
          rw [List.take_of_length_le (by omega)]; exact hi
        have hx : (s.extract a (a + (s.size - a))).size ≤ 140737488351232 := by simp; omega
        have hpy : pl (⟨(a, s.extract a (a + (s.size - a))), by dsimp only; omega, hx⟩ : LnT) = (a, (s.data.toList.drop a).take q) := by
          unfold pl
          rw [hq2]
          simp
        obtain ⟨fn, tmps, assign, body, hy, hR⟩ := HY.out pre ⟨(a, s.extract a (a + (s.size - a))), by dsimp only; omega, hx⟩ wr HJ.out HLN.out
        dsimp only at hy
        have HNN := Lib.hid (HN.out _ hpy)
        have HQ2 := Lib.hid hq2
        have e1 : IntKind.i64.wrap ((s.size : Int) - (a : Int) + 1) = (s.size : Int) - (a : Int) + 1 := IntWalk.i64_in _ (by omega)
        clear hd hlen hdl hq hq2 hpy
        gi_wp2_with (refine ⟨trivial, fun h => (by cases h), ?_⟩; gi_at_call 14; refine (callsIn_wide.2 (idx_c _ _)).mono ?_; rintro e w' ⟨rfl, rfl⟩)
        refine ⟨fun h => (by cases h), ?_⟩
        refine hR.mono ?_
        rintro e W3 (⟨rfl, hJ3, hk3⟩ | ⟨rfl, hJx3⟩)
        · gi_wp2
          go_roundw
          case rel => exact ⟨_, a + (q + 1), val_int (by have := HQ2.out; omega), by omega, HNN, Lib.hid hJ3⟩
          case measure => simp [natOf]; omega
        · gi_wp2
          refine bodyPost_ret (results_none rfl _ _ _) rfl ?_
          exact ⟨⟨_, rfl⟩, .inr ⟨_, ⟨_, HNN.out⟩, hJx3⟩⟩
      · have hi2 : Lib.indexByte (List.take (s.size - a) (List.drop a s.data.toList)) 10 = (q : Int) := by
          rw [List.take_of_length_le (by omega)]; exact hi
        have hx : (s.extract a (a + q)).size ≤ 140737488351232 := by simp; omega
        have hpy : pl (⟨(a, s.extract a (a + q)), by dsimp only; omega, hx⟩ : LnT) = (a, (s.data.toList.drop a).take q) := by
          unfold pl
          simp
        obtain ⟨fn, tmps, assign, body, hy, hR⟩ := HY.out pre ⟨(a, s.extract a (a + q)), by dsimp only; omega, hx⟩ wr HJ.out HLN.out
        dsimp only at hy
        have HNN := Lib.hid (HN.out _ hpy)
        have e1 : IntKind.i64.wrap ((q : Int) + 1) = (q : Int) + 1 := IntWalk.i64_in _ (by omega)
        have hq0 : decide ((q : Int) < 0) = false := by simp
        clear hd hlen hdl hq hpy hi
        gi_wp2_with (refine ⟨trivial, fun h => (by cases h), ?_⟩; gi_at_call 14; refine (callsIn_wide.2 (idx_c _ _)).mono ?_; rintro e w' ⟨rfl, rfl⟩)
        refine ⟨fun h => (by cases h), ?_⟩
        refine hR.mono ?_
        rintro e W3 (⟨rfl, hJ3, hk3⟩ | ⟨rfl, hJx3⟩)
        · gi_wp2
          go_roundw
          case rel => exact ⟨_, a + (q + 1), val_int (by omega), by omega, HNN, Lib.hid hJ3⟩
          case measure => simp [natOf]; omega
        · gi_wp2
          refine bodyPost_ret (results_none rfl _ _ _) rfl ?_
          exact ⟨⟨_, rfl⟩, .inr ⟨_, ⟨_, HNN.out⟩, hJx3⟩⟩
    · have hltz : ¬ (a : Int) < (s.size : Int) := by omega
      have HD : Hid (s.data.toList.drop a = []) := Lib.hid (List.drop_of_length_le (by rw [HLEN.out]; omega))
      gi_wp2
      go_end0
      exact ⟨⟨_, rfl⟩, .inl ⟨pre, by have h := HE.out; rw [HD.out, Ln.lines_nil, List.append_nil] at h; exact h, HJ.out⟩⟩
set_option maxHeartbeats 1000000 in
theorem rclo_in (n l n₀ Bs : Nat) (s : ByteArray) (hs : s.size ≤ 140737488351232) (J Jx : List LnT → World → Prop)
    (hY : ∀ pre x W, J pre W → pre.length < (Ln.lines 0 s.data.toList).length → YieldAt Fence.wide (n - 1) Try.prog l #[.int .i64 (x.1.1 : Int), .string x.1.2] W fun e W' =>
      (e = .returned (.bool true) ∧ J (pre ++ [x]) W' ∧ Below n₀ W W') ∨ (e = .returned (.bool false) ∧ Jx (pre ++ [x]) W'))
    (W : World) (hBs : W.cell? ⟨Bs, 0, none⟩ = some (.string s)) (h0 : J [] W) :
    CallsIn Fence.wide n Try.prog 12 #[.func (.yield l) #[] #[], .pointer (some ⟨Bs, 0, none⟩)] W fun e W' => (∃ v, e = .returned v) ∧
      ((∃ ys, ys.map pl = Ln.lines 0 s.data.toList ∧ J ys W') ∨ (∃ pre, (∃ suf, pre.map pl ++ suf = Ln.lines 0 s.data.toList) ∧ Jx pre W')) := by
  have hp := lines_in (n - 1) l n₀ s hs J Jx (fun pre x W hj hl => yieldAt_any rfl _ (hY pre x W hj hl)) W h0
  clear hY h0 hs
  refine callsIn_of_wp Try.func12 rfl trivial ?_ rfl
  simp only [Try.ntmps12, List.size_toArray, List.length_cons, List.length_nil, Nat.reduceAdd, Nat.reduceSub, Array.replicate_succ, Array.replicate_zero, List.push_toArray, List.append_toArray, List.nil_append, List.cons_append]
  gi_wp2_with (refine ⟨trivial, fun h => (by cases h), ?_⟩; gi_at_call 13; refine hp.mono ?_; clear hp; rintro e W1 ⟨⟨v, rfl⟩, h⟩)
  go_end0
  exact ⟨⟨_, rfl⟩, h⟩
theorem rclo_stops (n n₀ Bs : Nat) (s : ByteArray) (hs : s.size ≤ 140737488351232) (w : World) (h1 : Bs < w.heap.size) (hBs : w.cell? ⟨Bs, 0, none⟩ = some (.string s)) :
    SeqStopsK Fence.wide n Try.prog 12 #[.pointer (some ⟨Bs, 0, none⟩)] (fun x : LnT => #[Value.int .i64 (x.1.1 : Int), Value.string x.1.2]) (Below n₀) (fun ys => ys.map pl = Ln.lines 0 s.data.toList) (fun pre => ∃ suf, pre.map pl ++ suf = Ln.lines 0 s.data.toList) (Ln.lines 0 s.data.toList).length w := fun l J Jx W hW _ _ hY h0 =>
  rclo_in n l n₀ Bs s hs J Jx hY W ((hW.cell (p := ⟨Bs, 0, none⟩) h1).trans hBs) h0
end Go.Proofs.Ytmjmfjgigkiajaa
