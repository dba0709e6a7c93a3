/- NetCounts: letters neither come from nowhere nor vanish. -/
import Derived.Test.YtimaifehjgolmaaNetActs
import Derived.Deep.CutBlock
namespace Go.Proofs.Ytimaifehjgolmaa
open Go.RowKit Go.Maps
set_option linter.unusedVariables false
set_option linter.unusedSimpArgs false
set_option maxHeartbeats 2000000 in
set_option maxRecDepth 20000 in
theorem netCounts_walk (W : World) (sa : Option Addr) (sl sc : Nat) (xs : List Act) (hR : RActs W [.slice sa sl sc] xs) :
    Calls Try.prog 7 #[.slice sa sl sc] W fun e w' => e = .returned (.bool true) ∧ Below W.heap.size W w' := by
  obtain ⟨hn, hnc, hcb, hcm, hel⟩ := rsl_get hR
  have HEL := Lib.hid hel
  have hsl : sl * 48 ≤ 140737488351232 := by omega
  clear hR hel hcb hcm
  have hbi : ∀ x : Int, (x != x) = false := fun x => by simp
  go_enter Try.func7, Try.ntmps7
  go_wp2_with fail
  refine (speaks_any W).mono ?_
  rintro e w1 ⟨rfl, hb⟩
  have HB := Lib.hid hb
  clear hb
  go_wp2_with fail
  refine (My.new W w1 3 HB.out).mono ?_
  rintro e w2 ⟨rfl, m2, _⟩
  have M2 := Lib.hid m2
  clear m2 HB
  go_wp2_with fail
  go_loopg [4, 5, 6] sl (fun g u q iv wr => ∃ (k n : Nat) (v : Value) (s : NS), u = .int .i64 (s.fly.length : Int) ∧ q = .int .i64 s.sent ∧ iv = .int .i64 k ∧ k ≤ sl ∧ g = sl - k ∧ n ≤ k ∧ 0 ≤ s.sent ∧ s.sent ≤ k ∧ Hid (My W wr (w1.heap.size + 1) w1.heap.size n v s))
  case atStart => exact ⟨0, 0, _, newNS 3, rfl, rfl, rfl, Nat.zero_le _, rfl, Nat.le_refl _, Int.le_refl _, Int.le_refl _, M2⟩
  case round =>
    obtain ⟨k, n, v, s, rfl, rfl, rfl, hk, hg, hnk, hs0, hsk, MM⟩ := hrel
    subst hg
    clear M2
    have hlen := MM.out.is.ok.len
    by_cases h : k < sl
    · obtain ⟨x, hx⟩ : ∃ x, xs[k]? = some x := ⟨xs[k], List.getElem?_eq_getElem (by omega)⟩
      obtain ⟨b, off, rfl, hbW, hxw, hcell⟩ := HEL.out k x hx
      have hcw : ∀ (i : Nat) (v : Value), x.cells[i]? = some v → wr.cell? ⟨b, off + (k * 5 + i), none⟩ = some v := fun i v hv => by
        rw [← hcell i v hv]
        exact World.cell?_of_block (MM.out.below.block b hbW)
      have d0 : wr.cell? ⟨b, off + k * 5, none⟩ = some (.int .i64 x.what) := hcw 0 _ rfl
      have d1 : wr.cell? ⟨b, off + k * 5 + 1, none⟩ = some (.int .i64 x.a) := hcw 1 _ rfl
      have d2 : wr.cell? ⟨b, off + k * 5 + 2, none⟩ = some (.int .i64 x.b) := hcw 2 _ rfl
      have d3 : wr.cell? ⟨b, off + k * 5 + 3, none⟩ = some (.string x.text) := hcw 3 _ rfl
      have d4 : wr.cell? ⟨b, off + k * 5 + 4, none⟩ = some (.bool x.cut) := hcw 4 _ rfl
      obtain ⟨q, hq, hqc⟩ := tmod5 x.what hxw.w1 hxw.w2
      have wa := Lib.hid (i64_wf hxw.a1 hxw.a2)
      have wb := Lib.hid (i64_wf hxw.b1 hxw.b2)
      clear hcw hcell hx hxw
      obtain ⟨what, ta, tb, tt, tc⟩ := x
      dsimp only at *
      go_upto_region 9 with (fail)
      have HI := Lib.hid (Blk.new wr [.int .i64 what, .int .i64 ta, .int .i64 tb, .string tt, .bool tc] 45)
      have MX := Lib.hid (MM.out.alloc (.cells #[.int .i64 what, .int .i64 ta, .int .i64 tb, .string tt, .bool tc] 45))
      rw [show ([.int .i64 what, .int .i64 ta, .int .i64 tb, .string tt, .bool tc] : List Value).toArray = #[.int .i64 what, .int .i64 ta, .int .i64 tb, .string tt, .bool tc] from rfl] at HI
      generalize wr.alloc (.cells #[.int .i64 what, .int .i64 ta, .int .i64 tb, .string tt, .bool tc] 45) = wx at HI MX ⊢
      have i0 : wx.cell? ⟨wr.heap.size, 0, none⟩ = some (.int .i64 what) := HI.out.cell 0
      have i1 : wx.cell? ⟨wr.heap.size, 1, none⟩ = some (.int .i64 ta) := HI.out.cell 1
      have i2 : wx.cell? ⟨wr.heap.size, 2, none⟩ = some (.int .i64 tb) := HI.out.cell 2
      have i3 : wx.cell? ⟨wr.heap.size, 3, none⟩ = some (.string tt) := HI.out.cell 3
      have i4 : wx.cell? ⟨wr.heap.size, 4, none⟩ = some (.bool tc) := HI.out.cell 4
      clear d0 d1 d2 d3 d4 MM HEL
      go_upto_block 2 with (fail)
      go_cut [4, 5] (fun u p wc => ∃ (n' : Nat) (v' : Value) (s' : NS), u = .int .i64 (s'.fly.length : Int) ∧ p = .int .i64 s'.sent ∧ n' ≤ k + 1 ∧ 0 ≤ s'.sent ∧ s'.sent ≤ k + 1 ∧ Hid (My W wc (w1.heap.size + 1) w1.heap.size n' v' s'))
      case first =>
        rcases hqc with rfl | rfl | rfl | rfl | rfl
        · rcases hop : s.send ta tb tt with ⟨s', i, j⟩
          have hf := send_facts hop
          have HOP := Lib.hid hop
          have HF := Lib.hid hf
          clear hop hf
          go_wp2_with fail
          refine (MX.out.send ta tb tt (by omega) HOP.out).mono ?_
          rintro e w3 ⟨rfl, v3, m3, _⟩
          have M3 := Lib.hid m3
          clear m3
          rcases HF.out with ⟨rfl, f1, f2, rfl⟩ | ⟨f1, rfl⟩
          · clear HF
            have F1 := Lib.hid f1
            have F2 := Lib.hid f2
            clear f1 f2
            go_wp2_with fail
            go_meet
            exact ⟨n, v3, s', val_int (by rw [F1.out]; omega), val_int (by rw [F2.out]), by omega, by rw [F2.out]; omega, by rw [F2.out]; omega, M3⟩
          · clear HF
            have f2 : (j == 0) = false := by simpa using f1
            clear f1
            go_wp2_with fail
            go_meet
            exact ⟨n, v3, s', rfl, rfl, by omega, hs0, by omega, M3⟩
        · rcases hop : s.deliver ta with ⟨s', l, j⟩
          have hf := deliver_facts hop
          have HOP := Lib.hid hop
          have HF := Lib.hid hf
          clear hop hf
          go_wp2_with fail
          refine (MX.out.deliver ta HOP.out).mono ?_
          rintro e w3 ⟨rfl, v3, m3, _⟩
          have M3 := Lib.hid m3
          clear m3
          rcases HF.out with ⟨rfl, f1, f2⟩ | ⟨f1, rfl⟩
          · clear HF
            have F1 := Lib.hid f1
            have F2 := Lib.hid f2
            clear f1 f2
            go_wp2_with fail
            go_meet
            exact ⟨n, v3, s', val_int (by have := F1.out; omega), val_int (by rw [F2.out]), by omega, by rw [F2.out]; omega, by rw [F2.out]; omega, Lib.hid (M3.out.alloc _)⟩
          · clear HF
            have f2 : (j == 0) = false := by simpa using f1
            clear f1
            go_wp2_with fail
            go_meet
            exact ⟨n, v3, s', rfl, rfl, by omega, hs0, by omega, Lib.hid (M3.out.alloc _)⟩
        · rcases hop : s.drop ta with ⟨s', j⟩
          have hf := drop_facts hop
          have HOP := Lib.hid hop
          have HF := Lib.hid hf
          clear hop hf
          go_wp2_with fail
          refine (MX.out.drop ta HOP.out).mono ?_
          rintro e w3 ⟨rfl, v3, m3, _⟩
          have M3 := Lib.hid m3
          clear m3
          rcases HF.out with ⟨rfl, f1, f2⟩ | ⟨f1, rfl⟩
          · clear HF
            have F1 := Lib.hid f1
            have F2 := Lib.hid f2
            clear f1 f2
            go_wp2_with fail
            go_meet
            exact ⟨n, v3, s', val_int (by have := F1.out; omega), val_int (by rw [F2.out]), by omega, by rw [F2.out]; omega, by rw [F2.out]; omega, M3⟩
          · clear HF
            have f2 : (j == 0) = false := by simpa using f1
            clear f1
            go_wp2_with fail
            go_meet
            exact ⟨n, v3, s', rfl, rfl, by omega, hs0, by omega, M3⟩
        · rcases hop : s.double ta with ⟨s', j⟩
          have hf := double_facts hop
          have HOP := Lib.hid hop
          have HF := Lib.hid hf
          clear hop hf
          go_wp2_with fail
          refine (MX.out.double ta HOP.out).mono ?_
          rintro e w3 ⟨rfl, v3, m3, _⟩
          have M3 := Lib.hid m3
          clear m3
          rcases HF.out with ⟨rfl, f1, f2⟩ | ⟨f1, rfl⟩
          · clear HF
            have F1 := Lib.hid f1
            have F2 := Lib.hid f2
            clear f1 f2
            go_wp2_with fail
            go_meet
            exact ⟨n, v3, s', val_int (by have := F1.out; omega), val_int (by rw [F2.out]), by omega, by rw [F2.out]; omega, by rw [F2.out]; omega, M3⟩
          · clear HF
            have f2 : (j == 0) = false := by simpa using f1
            clear f1
            go_wp2_with fail
            go_meet
            exact ⟨n, v3, s', rfl, rfl, by omega, hs0, by omega, M3⟩
        · rcases hop : s.part ta tb tc with ⟨s', j⟩
          have hf := part_facts hop
          have HOP := Lib.hid hop
          have HF := Lib.hid hf
          clear hop hf
          go_wp2_with fail
          refine (MX.out.part ta tb tc wa.out wb.out (by omega) HOP.out).mono ?_
          rintro e w3 ⟨rfl, v3, m3, _⟩
          have M3 := Lib.hid m3
          clear m3
          go_wp2_with fail
          go_meet
          exact ⟨n + 1, v3, s', val_int (by rw [HF.out.1]), val_int (by rw [HF.out.2]), by omega, by rw [HF.out.2]; omega, by rw [HF.out.2]; omega, M3⟩
      obtain ⟨n', v', s', rfl, rfl, hn', hs0', hs', M5⟩ := hcut
      have hfl : ((s'.fly.length : Int) != s'.fly.length) = false := by simp
      have hfl0 : ¬ ((s'.fly.length : Int) < 0) := by omega
      clear hlen hs0 hsk hnk MX HI i0 i1 i2 i3 i4
      go_wp2_with fail
      refine (M5.out.flying).mono ?_
      rintro e w4 ⟨A4, c4, rfl, _, m4, _⟩
      have M4 := Lib.hid m4
      clear m4
      go_wp2_with fail
      go_roundg (sl - (k + 1))
      case measure => omega
      case rel => exact ⟨k + 1, n', v', s', rfl, rfl, val_int (by omega), by omega, rfl, hn', hs0', by omega, M4⟩
    · obtain rfl : k = sl := by omega
      go_wp2_with fail
      go_ret
      exact ⟨rfl, MM.out.below⟩
end Go.Proofs.Ytimaifehjgolmaa
