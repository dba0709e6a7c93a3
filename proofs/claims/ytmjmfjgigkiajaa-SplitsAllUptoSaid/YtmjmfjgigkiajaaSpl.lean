/- The contracts of Plan, and of the document's. -/
import Derived.Test.YtmjmfjgigkiajaaKit
import Derived.Test.YtmjmfjgigkiajaaPSpl
namespace Go.Proofs.Ytmjmfjgigkiajaa
open Go.RowKit
set_option linter.unusedVariables false
set_option linter.unusedSimpArgs false
/-- the splits' cells, k of them -/
def splitCells (size wd k : Nat) : List Value := (List.range k).flatMap fun j => [.int .i64 ((j * wd : Nat) : Int), .int .i64 ((Spl.to size wd j : Nat) : Int)]
theorem splitCells_succ (size wd k : Nat) : splitCells size wd (k + 1) = splitCells size wd k ++ [.int .i64 ((k * wd : Nat) : Int), .int .i64 ((Spl.to size wd k : Nat) : Int)] := by
  simp [splitCells, List.range_succ]
theorem split_info : (Try.prog.info? 28).map (fun i => (i.zero, i.size, i.bytes)) = some (some (.agg #[.int .i64 0, .int .i64 0]), 2, 16) := by kernel_rfl
def RetRow (base : Nat) (e size n : Nat) (cells : List Value) (w : World) (en : Ending) (w' : World) : Prop := ∃ v, en = .returned v ∧ w'.ownsRow base e size v n cells ∧ Below w.heap.size w w'
set_option maxHeartbeats 1000000 in
theorem plan_none (size : Int) (want : Int) (h : size < 1) (w : World) :
    Calls Try.prog 8 #[.int .i64 size, .int .i64 want] w fun e w' => e = .returned (.slice none 0 0) ∧ w = w' := by
  go_enter Try.func8, Try.ntmps8
  go_wp2
  go_ret
  exact ⟨rfl, rfl⟩
set_option maxHeartbeats 1000000 in
theorem plan_any (size : Nat) (want : Int) (h0 : 1 ≤ size) (h40 : size ≤ 1099511627776) (hw1 : -9223372036854775808 ≤ want) (hw2 : want ≤ 9223372036854775807) (w : World) :
    Calls Try.prog 8 #[.int .i64 size, .int .i64 want] w (RetRow w.heap.size 28 2 (Spl.count size (Spl.wide size want)) (splitCells size (Spl.wide size want) (Spl.count size (Spl.wide size want))) w) := by
  have hwd := Spl.wide_pos size want
  have hcl := Spl.count_le want h0
  have hwd2 : Spl.wide size want ≤ 9223372036854775807 := by unfold Spl.wide; omega
  generalize hW : Spl.wide size want = wd at hwd hcl hwd2 ⊢
  have HW := Lib.hid hW
  clear hW
  have HC := Lib.hid (fun k => Spl.lt_count (k := k) h0 hwd)
  have HS := Lib.hid (fun k => splitCells_succ size wd k)
  have hcp := Spl.count_pos size wd
  have HT : Hid (∀ k, Spl.to size wd k = if k + 1 < Spl.count size wd then (k + 1) * wd else size) := Lib.hid (fun k => rfl)
  have HM := Lib.hid (Spl.succ_mul' · wd)
  generalize hn : Spl.count size wd = n at hcl HC hcp HT ⊢
  clear hn
  go_enter Try.func8, Try.ntmps8
  go_upto_region 3 with (fail)
  go_cut [1] (fun v wc => w = wc ∧ v = .int .i64 wd)
  case first =>
    go_wp2
    all_goals go_meet
    all_goals exact ⟨rfl, val_int (by have := HW.out; unfold Spl.wide at this; omega)⟩
  obtain ⟨rfl, rfl⟩ := hcut
  go_wp2
  go_loopw [5, 6] (fun out fr wr => ∃ k f : Nat, fr = .int .i64 f ∧ (k < n → f = k * wd) ∧ (k = n → f = size) ∧ k ≤ n ∧ Hid (wr.ownsRow w.heap.size 28 2 out k (splitCells size wd k)) ∧ Hid (Below w.heap.size w wr)) (fun _ fr _ => size - (intOf fr).toNat)
  case atStart => exact ⟨0, 0, rfl, by omega, by omega, by omega, Lib.hid (World.ownsRow_nil _ _ _ _), Lib.hid (Below.refl _ _)⟩
  case round =>
    rename_i out fr
    obtain ⟨k, f, rfl, hf1, hf2, hk, HO, HB⟩ := hrel
    by_cases hlt : k < n
    · have hf := hf1 hlt
      have hfs := (HC.out k).1 hlt
      rw [← hf] at hfs
      have hm := HM.out k
      rw [← hf] at hm
      have hto := HT.out k
      rw [hm] at hto
      have hc1 := HC.out (k + 1)
      rw [hm] at hc1
      have HF := Lib.hid hf
      clear hf hf1 hf2 hm
      have hsu := HS.out k
      rw [← HF.out] at hsu
      generalize Spl.to size wd k = t at hto hsu
      have HSU := Lib.hid hsu
      clear hsu
      have hsz := HB.out.size
      by_cases hlast : k + 1 < n
      · rw [if_pos hlast] at hto
        have hfw := hc1.1 hlast
        have HTO := Lib.hid hto
        clear hto hc1
        have hcond : decide ((wd : Int) < (size : Int) - (f : Int)) = true := by simp; omega
        go_wp2_with (refine wpList_app rfl _ _ 23 rfl w.heap.size 28 _ 2 16 Try.underlying23 split_info rfl (by decide) _ k _ rfl HO.out _ _ 1 1 rfl rfl rfl (by unfold maxLen; omega) (by omega) hsz ?_; intro v' w' hO' hG' hnil)
        go_roundw
        case rel => exact ⟨k + 1, f + wd, by go_num, by intro _; have h1 := HM.out k; have h2 := HF.out; omega, by omega, by omega, Lib.hid (by rw [HSU.out, HTO.out]; simpa using hO'.out), Lib.hid (below_row HO.out hG'.out HB.out (Nat.le_refl _) hsz)⟩
        case measure => simp [intOf]; omega
      · rw [if_neg hlast] at hto
        have hfw : ¬ f + wd < size := fun h => hlast (hc1.2 h)
        have HTO := Lib.hid hto
        clear hto hc1
        have hcond : decide ((wd : Int) < (size : Int) - (f : Int)) = false := by simp; omega
        go_wp2_with (refine wpList_app rfl _ _ 23 rfl w.heap.size 28 _ 2 16 Try.underlying23 split_info rfl (by decide) _ k _ rfl HO.out _ _ 1 1 rfl rfl rfl (by unfold maxLen; omega) (by omega) hsz ?_; intro v' w' hO' hG' hnil)
        go_roundw
        case rel => exact ⟨k + 1, size, rfl, by omega, by omega, by omega, Lib.hid (by rw [HSU.out, HTO.out]; simpa using hO'.out), Lib.hid (below_row HO.out hG'.out HB.out (Nat.le_refl _) hsz)⟩
        case measure => simp [intOf]; omega
    · go_wp2
      go_ret
      obtain rfl : k = n := by omega
      exact ⟨_, rfl, HO.out, HB.out⟩
theorem int_info : (Try.prog.info? 3).map (fun i => (i.zero, i.size, i.bytes)) = some (some (.int .i64 0), 1, 8) := by kernel_rfl
set_option maxHeartbeats 1000000 in
theorem refPlan_none (size : Int) (want : Int) (h : size < 1) (w : World) :
    Calls Try.prog 9 #[.int .i64 size, .int .i64 want] w fun e w' => e = .returned (.slice none 0 0) ∧ w = w' := by
  go_enter Try.func9, Try.ntmps9
  go_wp2
  go_ret
  exact ⟨rfl, rfl⟩
set_option maxHeartbeats 1000000 in
theorem refPlan_any (size : Nat) (want : Int) (h0 : 1 ≤ size) (h40 : size ≤ 1099511627776) (hw1 : -9223372036854775808 ≤ want) (hw2 : want ≤ 9223372036854775807) (w : World) :
    Calls Try.prog 9 #[.int .i64 size, .int .i64 want] w (RetRow w.heap.size 3 1 (2 * Spl.count size (Spl.wide size want)) (splitCells size (Spl.wide size want) (Spl.count size (Spl.wide size want))) w) := by
  have hwd := Spl.wide_pos size want
  have hcl := Spl.count_le want h0
  have hwd2 : Spl.wide size want ≤ 9223372036854775807 := by unfold Spl.wide; omega
  generalize hW : Spl.wide size want = wd at hwd hcl hwd2 ⊢
  have HW := Lib.hid hW
  clear hW
  have HC := Lib.hid (fun k => Spl.lt_count (k := k) h0 hwd)
  have HS := Lib.hid (fun k => splitCells_succ size wd k)
  have hcp := Spl.count_pos size wd
  have HT : Hid (∀ k, Spl.to size wd k = if k + 1 < Spl.count size wd then (k + 1) * wd else size) := Lib.hid (fun k => rfl)
  have HM := Lib.hid (Spl.succ_mul' · wd)
  generalize hn : Spl.count size wd = n at hcl HC hcp HT ⊢
  clear hn
  go_enter Try.func9, Try.ntmps9
  go_upto_if 12 with (fail)
  go_cut [1] (fun v wc => w = wc ∧ v = .int .i64 (max want 1))
  case first =>
    go_wp2
    all_goals go_meet
    all_goals exact ⟨rfl, val_int (by omega)⟩
  obtain ⟨rfl, rfl⟩ := hcut
  go_upto_if 17 with (fail)
  go_cut [6] (fun v wc => w = wc ∧ v = .int .i64 ((size - 1) / 256 + 1 : Nat))
  case first =>
    by_cases hm : size % 256 = 0
    · have hb : ((size : Int) % 256 != 0) = false := by simp; omega
      go_wp2
      go_meet
      exact ⟨rfl, val_int (by omega)⟩
    · have hb : ((size : Int) % 256 != 0) = true := by simp; omega
      go_wp2
      go_meet
      exact ⟨rfl, val_int (by omega)⟩
  obtain ⟨rfl, rfl⟩ := hcut
  go_upto_if 22 with (fail)
  go_cut [1] (fun v wc => w = wc ∧ v = .int .i64 wd)
  case first =>
    go_wp2
    all_goals go_meet
    all_goals exact ⟨rfl, val_int (by have := HW.out; unfold Spl.wide at this; omega)⟩
  obtain ⟨rfl, rfl⟩ := hcut
  go_wp2
  go_loopg [5, 7] n (fun g out fr wr => ∃ k f : Nat, Hid (g + k = n) ∧ fr = .int .i64 f ∧ Hid (f = k * wd) ∧ k < n ∧ Hid (wr.ownsRow w.heap.size 3 1 out (2 * k) (splitCells size wd k)) ∧ Hid (Below w.heap.size w wr))
  case atStart => exact ⟨0, 0, Lib.hid rfl, rfl, Lib.hid (by simp), hcp, Lib.hid (World.ownsRow_nil _ _ _ _), Lib.hid (Below.refl _ _)⟩
  case round =>
    obtain ⟨k, f, HG, rfl, HF, hk, HO, HB⟩ := hrel
    have hfs := (HC.out k).1 hk
    rw [← HF.out] at hfs
    have hm := HM.out k
    rw [← HF.out] at hm
    have hto := HT.out k
    rw [hm] at hto
    have hc1 := HC.out (k + 1)
    rw [hm] at hc1
    have HF1 : Hid (f + wd = (k + 1) * wd) := Lib.hid hm.symm
    clear hm
    have hsu := HS.out k
    rw [← HF.out] at hsu
    generalize Spl.to size wd k = t at hto hsu
    have HSU := Lib.hid hsu
    clear hsu
    have hsz := HB.out.size
    by_cases hlast : k + 1 < n
    · rw [if_pos hlast] at hto
      have hfw := hc1.1 hlast
      have HTO := Lib.hid hto
      clear hto hc1
      have hcond : decide ((wd : Int) < (size : Int) - (f : Int)) = true := by simp; omega
      go_wp2_with (refine wpList_app rfl _ _ 25 rfl w.heap.size 3 _ 1 8 Try.underlying25 int_info rfl (by decide) _ (2 * k) _ rfl HO.out _ _ 2 2 rfl rfl rfl (by unfold maxLen; omega) (by omega) hsz ?_; intro v' w' hO' hG' hnil)
      go_roundg (gk - 1)
      case rel => exact ⟨k + 1, f + wd, Lib.hid (by have := HG.out; omega), by go_num, HF1, hlast, Lib.hid (by rw [HSU.out, HTO.out, Nat.mul_add]; simpa using hO'.out), Lib.hid (below_row HO.out hG'.out HB.out (Nat.le_refl _) hsz)⟩
      case measure => have := HG.out; omega
    · rw [if_neg hlast] at hto
      have hfw : ¬ f + wd < size := fun h => hlast (hc1.2 h)
      have HTO := Lib.hid hto
      clear hto hc1
      have hcond : decide ((wd : Int) < (size : Int) - (f : Int)) = false := by simp; omega
      go_wp2_with (refine wpList_app rfl _ _ 25 rfl w.heap.size 3 _ 1 8 Try.underlying25 int_info rfl (by decide) _ (2 * k) _ rfl HO.out _ _ 2 2 rfl rfl rfl (by unfold maxLen; omega) (by omega) hsz ?_; intro v' w' hO' hG' hnil)
      go_ret
      have hn1 : n = k + 1 := by omega
      refine ⟨_, rfl, ?_, below_row HO.out hG'.out HB.out (Nat.le_refl _) hsz⟩
      rw [hn1, HSU.out, HTO.out]
      exact hO'.out
end Go.Proofs.Ytmjmfjgigkiajaa
