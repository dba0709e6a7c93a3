/- NetHeld: a letter on a way that is cut stays till the way is mended. -/
import Derived.Test.YtimaifehjgolmaaNetMy
namespace Go.Proofs.Ytimaifehjgolmaa
open Go.RowKit Go.Maps
set_option linter.unusedVariables false
set_option linter.unusedSimpArgs false
theorem wayOf_comm (x y : Int) : wayOf x y = wayOf y x := by unfold wayOf; rw [Int.min_comm, Int.max_comm]
def heldS (x y : Int) (t : ByteArray) (c : Int × Int → Bool) : NS := ⟨4, 1, [⟨1, x, y, t⟩], c⟩
theorem held_send (x y : Int) (t : ByteArray) (hx0 : 0 ≤ x) (hx : x ≤ 3) (hy0 : 0 ≤ y) (hy : y ≤ 3) (ht : t.size ≤ 1048576) : (newNS 4).send x y t = (heldS x y t fun _ => false, 1, 0) := by
  have hk : (newNS 4).knows x y = true := by
    unfold NS.knows newNS
    rw [show min (max (4 : Int) 0) 64 = 4 by omega]
    simp; omega
  unfold NS.send
  rw [hk, if_neg (by decide), if_neg (by omega), if_neg (by decide)]
  rfl
theorem held_part (x y : Int) (t : ByteArray) (c : Int × Int → Bool) (a d : Int) (q : Bool) (ha0 : 0 ≤ a) (ha : a ≤ 3) (hd0 : 0 ≤ d) (hd : d ≤ 3) (hne : a ≠ d) :
    (heldS x y t c).part a d q = (heldS x y t fun p => if p = wayOf a d then q else c p, 0) := by
  have hk : (heldS x y t c).knows a d = true := by
    unfold NS.knows heldS
    simp; omega
  unfold NS.part
  rw [hk, decide_eq_true hne, Bool.and_true, if_pos rfl]
  rfl
theorem held_gone (x y : Int) (t : ByteArray) (c : Int × Int → Bool) (h : c (wayOf x y) = true) : (heldS x y t c).deliver 0 = (heldS x y t c, noLetter, 140) := by
  show (if (heldS x y t c).parted x y then _ else _) = _
  rw [show (heldS x y t c).parted x y = true from h, if_pos rfl]
theorem held_comes (x y : Int) (t : ByteArray) (c : Int × Int → Bool) (h : c (wayOf x y) = false) : (heldS x y t c).deliver 0 = (⟨4, 1, [], c⟩, ⟨1, x, y, t⟩, 0) := by
  show (if (heldS x y t c).parted x y then _ else _) = _
  rw [show (heldS x y t c).parted x y = false from h, if_neg (by decide)]
  rfl
theorem way_ne (x y d : Int) (h : d ≠ y) : wayOf x y ≠ wayOf x d := by
  unfold wayOf
  intro e
  injection e with e1 e2
  omega
set_option maxHeartbeats 2000000 in
set_option maxRecDepth 20000 in
theorem netHeld_walk (a : Int) (wa : (Lit.int .i64 a).wf = true) (b : Int) (wb : (Lit.int .i64 b).wf = true) (body : ByteArray) (wbody : body.size ≤ 140737488351232) (W : World) :
    Calls Try.prog 4 #[.int .i64 a, .int .i64 b, .string body] W fun e w' => e = .returned (.bool true) ∧ Below W.heap.size W w' := by
  have hcase : (0 ≤ a ∧ a ≤ 3 ∧ 0 ≤ b ∧ b ≤ 3 ∧ a ≠ b ∧ body.size ≤ 1048576) ∨ a < 0 ∨ (0 ≤ a ∧ 3 < a) ∨ (0 ≤ a ∧ a ≤ 3 ∧ b < 0) ∨ (0 ≤ a ∧ a ≤ 3 ∧ 0 ≤ b ∧ 3 < b) ∨ (0 ≤ a ∧ a ≤ 3 ∧ 0 ≤ b ∧ b ≤ 3 ∧ a = b) ∨ (0 ≤ a ∧ a ≤ 3 ∧ 0 ≤ b ∧ b ≤ 3 ∧ a ≠ b ∧ 1048576 < body.size) := by omega
  have HK := Lib.hid hcase
  clear hcase
  go_enter Try.func4, Try.ntmps4
  go_wp2_with fail
  refine (speaks_any W).mono ?_
  rintro e w1 ⟨rfl, hb1⟩
  have HB1 := Lib.hid hb1
  clear hb1
  go_upto_region 3 with (fail)
  go_cut [38] (fun v wc => w1 = wc ∧ ∃ q : Bool, v = .bool q ∧ (q = false → 0 ≤ a ∧ a ≤ 3 ∧ 0 ≤ b ∧ b ≤ 3 ∧ a ≠ b ∧ body.size ≤ 1048576))
  case first =>
    rcases HK.out with ⟨h1, h2, h3, h4, h5, h6⟩ | h1 | ⟨h1, h2⟩ | ⟨h1, h2, h3⟩ | ⟨h1, h2, h3, h4⟩ | ⟨h1, h2, h3, h4, h5⟩ | ⟨h1, h2, h3, h4, h5, h6⟩
    case inr.inr.inr.inr.inr.inl =>
      have hab : (a == b) = true := by simpa using h5
      clear h5
      go_wp2
      go_meet
      exact ⟨rfl, _, rfl, by intro h; cases h⟩
    all_goals
      go_wp2
      go_meet
      exact ⟨rfl, _, rfl, by first | (intro h; cases h; done) | (intro _; omega) | (simp; omega)⟩
  obtain ⟨rfl, q, rfl, hq⟩ := hcut
  go_upto_if 38 with (fail)
  go_cut [0, 1, 2] (fun v0 v1 v2 wc => w1 = wc ∧ ∃ (x y : Int) (t : ByteArray), v0 = .int .i64 x ∧ v1 = .int .i64 y ∧ v2 = .string t ∧ 0 ≤ x ∧ x ≤ 3 ∧ 0 ≤ y ∧ y ≤ 3 ∧ x ≠ y ∧ t.size ≤ 1048576)
  case first =>
    cases q
    · obtain ⟨h1, h2, h3, h4, h5, h6⟩ := hq rfl
      go_wp2
      go_meet
      exact ⟨rfl, a, b, body, rfl, rfl, rfl, h1, h2, h3, h4, h5, h6⟩
    · clear hq
      go_wp2
      go_meet
      exact ⟨rfl, 1, 2, ⟨#[120]⟩, rfl, rfl, rfl, by omega, by omega, by omega, by omega, by omega, by decide⟩
  obtain ⟨rfl, x, y, t, rfl, rfl, rfl, h1, h2, h3, h4, h5, h6⟩ := hcut
  clear HK hq
  have wx := Lib.hid (i64_wf (n := x) (by omega) (by omega))
  have wy := Lib.hid (i64_wf (n := y) (by omega) (by omega))
  have HNE := Lib.hid h5
  clear h5
  go_wp2_with fail
  refine (My.new W w1 4 HB1.out).mono ?_
  rintro e w2 ⟨rfl, m2, _⟩
  have M2 := Lib.hid m2
  clear m2
  go_wp2_with fail
  refine (M2.out.send x y t (by decide) (held_send x y t h1 h2 h3 h4 h6)).mono ?_
  rintro e w3 ⟨rfl, v3, m3, _⟩
  have M3 := Lib.hid m3
  clear m3
  go_wp2_with fail
  refine (M3.out.part y x true wy.out wx.out (by decide) (held_part x y t _ y x true h3 h4 h1 h2 (Ne.symm HNE.out))).mono ?_
  rintro e w4 ⟨rfl, v4, m4, _⟩
  have M4 := Lib.hid m4
  clear m4
  generalize hc4 : (fun p : Int × Int => if p = wayOf y x then true else false) = c4 at M4
  have HC4 := Lib.hid hc4
  have hcp : c4 (wayOf x y) = true := by rw [← hc4, wayOf_comm x y]; simp
  have hcp2 : c4 (wayOf y x) = true := by rw [← hc4]; simp
  have CP := Lib.hid hcp
  have CP2 := Lib.hid hcp2
  clear hc4 hcp hcp2
  go_wp2_with fail
  refine (M4.out.parted x y wx.out wy.out).mono ?_
  rintro e w5 ⟨rfl, m5, _⟩
  have M5 := Lib.hid m5
  clear m5
  rw [show (heldS x y t c4).cut (wayOf x y) = true from CP.out]
  go_wp2_with fail
  refine (M5.out.parted y x wy.out wx.out).mono ?_
  rintro e w6 ⟨rfl, m6, _⟩
  have M6 := Lib.hid m6
  clear m6
  rw [show (heldS x y t c4).cut (wayOf y x) = true from CP2.out]
  go_wp2_with fail
  refine (M6.out.deliver 0 (held_gone x y t c4 CP.out)).mono ?_
  rintro e w7 ⟨rfl, v7, m7, _⟩
  have M7 := Lib.hid m7
  clear m7
  go_wp2_with fail
  refine ((M7.out.alloc _).flying).mono ?_
  rintro e w8 ⟨A8, c8, rfl, _, m8, _⟩
  rw [show (heldS x y t c4).fly.length = 1 from rfl]
  have M8 := Lib.hid m8
  clear m8
  go_wp2_with fail
  refine (M8.out.part x y false wx.out wy.out (by decide) (held_part x y t _ x y false h1 h2 h3 h4 HNE.out)).mono ?_
  rintro e w9 ⟨rfl, v9, m9, _⟩
  have M9 := Lib.hid m9
  clear m9
  generalize hc9 : (fun p : Int × Int => if p = wayOf x y then false else c4 p) = c9 at M9
  have CP9 := Lib.hid (show c9 (wayOf x y) = false by rw [← hc9]; simp)
  clear hc9
  go_wp2_with fail
  refine (M9.out.parted x y wx.out wy.out).mono ?_
  rintro e w10 ⟨rfl, m10, _⟩
  have M10 := Lib.hid m10
  clear m10
  rw [show (heldS x y t c9).cut (wayOf x y) = false from CP9.out]
  go_wp2_with fail
  clear HC4 CP CP2 M2 M3 M4 M5 M6 M7 M8 M9 HB1
  go_loopg [10] 4 (fun m kv wr => ∃ (k : Nat) (n : Nat) (v : Value) (c : Int × Int → Bool), kv = .int .i64 k ∧ k ≤ 4 ∧ m = 4 - k ∧ n ≤ k + 2 ∧ Hid (c (wayOf x y) = false) ∧ Hid (My W wr (w1.heap.size + 1) w1.heap.size n v (heldS x y t c)))
  case atStart => exact ⟨0, _, _, c9, rfl, by omega, rfl, by omega, CP9, M10⟩
  case round =>
    obtain ⟨k, n, v, c, rfl, hk, hm, hn, CC, MM⟩ := hrel
    subst hm
    clear M10 CP9
    by_cases hlt : k < 4
    · by_cases e1 : (k : Int) = x
      · have e2 : ((k : Int) == x) = true := by simpa using e1
        have e3 : ((k : Int) != x) = false := by simpa using e1
        clear e1
        go_wp2_with fail
        go_roundg (4 - (k + 1))
        case measure => omega
        case rel => exact ⟨k + 1, n, v, c, val_int (by omega), by omega, rfl, by omega, CC, MM⟩
      · by_cases e4 : (k : Int) = y
        · have e2 : ((k : Int) == y) = true := by simpa using e4
          have e3 : ((k : Int) != y) = false := by simpa using e4
          have e5 : ((k : Int) == x) = false := by simpa using e1
          have e6 : ((k : Int) != x) = true := by simpa using e1
          clear e1 e4
          go_wp2_with fail
          go_roundg (4 - (k + 1))
          case measure => omega
          case rel => exact ⟨k + 1, n, v, c, val_int (by omega), by omega, rfl, by omega, CC, MM⟩
        · have e2 : ((k : Int) == y) = false := by simpa using e4
          have e3 : ((k : Int) != y) = true := by simpa using e4
          have e5 : ((k : Int) == x) = false := by simpa using e1
          have e6 : ((k : Int) != x) = true := by simpa using e1
          have E1 := Lib.hid e1
          have E4 := Lib.hid e4
          clear e1 e4
          go_wp2_with fail
          refine (MM.out.part x k true wx.out (i64_wf (by omega) (by omega)) (by omega) (held_part x y t _ x k true h1 h2 (by omega) (by omega) (Ne.symm E1.out))).mono ?_
          rintro e w11 ⟨rfl, v11, m11, _⟩
          have M11 := Lib.hid m11
          clear m11
          generalize hc11 : (fun p : Int × Int => if p = wayOf x k then true else c p) = c11 at M11
          have CP11 : Hid (c11 (wayOf x y) = false) := Lib.hid (by rw [← hc11]; show (if wayOf x y = wayOf x k then true else c (wayOf x y)) = false; rw [if_neg (way_ne x y k E4.out)]; exact CC.out)
          clear hc11
          go_wp2_with fail
          go_roundg (4 - (k + 1))
          case measure => omega
          case rel => exact ⟨k + 1, n + 1, v11, c11, val_int (by omega), by omega, rfl, by omega, CP11, M11⟩
    · go_wp2_with fail
      refine (MM.out.deliver 0 (held_comes x y t c CC.out)).mono ?_
      rintro e w11 ⟨rfl, v11, m11, _⟩
      have M11 := Lib.hid m11
      clear m11
      go_wp2_with fail
      go_ret
      exact ⟨rfl, (M11.out.alloc _).below⟩
end Go.Proofs.Ytimaifehjgolmaa
