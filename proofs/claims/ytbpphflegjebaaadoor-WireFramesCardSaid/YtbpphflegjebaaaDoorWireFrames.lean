/- The walk of WireFrames. -/
import Derived.Test.YtbpphflegjebaaaDoorWireSpk
import Derived.Test.YtbpphflegjebaaaDoorTexts
import Derived.Test.YtbpphflegjebaaaDoorFrAll
namespace Go.Proofs.YtbpphflegjebaaaDoor
open Go.RowKit Go.Sort
set_option linter.unusedVariables false
set_option linter.unusedSimpArgs false
def nxt (s : ByteArray) (a : Int) : ByteArray × Nat × Nat := if 0 ≤ a ∧ a ≤ (s.size : Int) then Fr4.next s a.toNat else (⟨#[]⟩, 0, 2)
set_option maxHeartbeats 1000000 in
theorem nextI_any (s : ByteArray) (hs : s.size ≤ 140737488351232) (a : Int) (w : World) (ht : Tab w) : Calls Tryd.prog 8 #[.string s, .int .i64 a] w fun e w' => e = .returned (nextV (nxt s a)) ∧ Below w.heap.size w w' := by
  by_cases h : 0 ≤ a ∧ a ≤ (s.size : Int)
  · obtain ⟨k, rfl⟩ : ∃ k : Nat, a = (k : Int) := ⟨a.toNat, by omega⟩
    have e : nxt s (k : Int) = Fr4.next s k := by unfold nxt; rw [if_pos h]; rfl
    rw [e]
    exact next_any s hs k (by omega) w ht
  · have e : nxt s a = (⟨#[]⟩, 0, 2) := by unfold nxt; rw [if_neg h]
    rw [e]
    by_cases h0 : a < 0
    · have t1 : decide (a < 0) = true := by simp; omega
      clear h ht
      go_enter Tryd.func8, Tryd.ntmps8
      go_wp2
      go_ret3
      exact ⟨rfl, Below.refl _ _⟩
    · have t1 : decide (a < 0) = false := by simp; omega
      have t2 : decide ((s.size : Int) < a) = true := by simp; omega
      clear h ht h0
      go_enter Tryd.func8, Tryd.ntmps8
      go_wp2
      go_ret3
      exact ⟨rfl, Below.refl _ _⟩
set_option maxHeartbeats 1000000 in
theorem rnextI_any (s : ByteArray) (hs : s.size ≤ 140737488351232) (a : Int) (w : World) : Calls Tryd.prog 9 #[.string s, .int .i64 a] w fun e w' => e = .returned (nextV (nxt s a)) ∧ Below w.heap.size w w' := by
  by_cases h : 0 ≤ a ∧ a ≤ (s.size : Int)
  · obtain ⟨k, rfl⟩ : ∃ k : Nat, a = (k : Int) := ⟨a.toNat, by omega⟩
    have e : nxt s (k : Int) = Fr4.next s k := by unfold nxt; rw [if_pos h]; rfl
    rw [e]
    exact rnext_any s hs k (by omega) w
  · have e : nxt s a = (⟨#[]⟩, 0, 2) := by unfold nxt; rw [if_neg h]
    rw [e]
    by_cases h0 : a < 0
    · have t1 : decide (a < 0) = true := by simp; omega
      clear h
      go_enter Tryd.func9, Tryd.ntmps9
      go_wp2
      go_ret3
      exact ⟨rfl, Below.refl _ _⟩
    · have t1 : decide (a < 0) = false := by simp; omega
      have t2 : decide ((s.size : Int) < a) = true := by simp; omega
      clear h h0
      go_enter Tryd.func9, Tryd.ntmps9
      go_wp2
      go_ret3
      exact ⟨rfl, Below.refl _ _⟩
set_option maxRecDepth 20000 in
set_option maxHeartbeats 2000000 in
theorem wireFrames_walk (body : ByteArray) (hb : body.size ≤ 140737488351232) (s : ByteArray) (hs : s.size ≤ 140737488351232) (a : Int) (wf : (Lit.int .i64 a).wf = true) (W : World) (hL : laidMetH Tryd.prog Rows.wireFramesRow.laid W) :
    Calls Tryd.prog 3 #[.string body, .string s, .int .i64 a] W fun e w' => e = .returned (.bool true) ∧ Below W.heap.size W w' := by
  have HT : Hid (Tab W) := Lib.hid (tab_of_laid hL)
  have HFR := fun w ht => Lib.hid (frame_any body hb w ht)
  have HRF := fun w => Lib.hid (rframe_any body hb w)
  have HNX := fun w ht => Lib.hid (nextI_any s hs a w ht)
  have HRN := fun w => Lib.hid (rnextI_any s hs a w)
  have HAL := fun w ht => Lib.hid (all_any s hs w ht)
  have HRA := fun w => Lib.hid (rall_any s hs w)
  have HLEN : Hid ((Fr4.all s 0).1.length ≤ 140737488355328) := Lib.hid (by have := Fr4.all_len s.size s 0 (by omega) (Nat.zero_le _); omega)
  obtain ⟨n1, _⟩ := str_eqb (rfl : Fr4.frame body = Fr4.frame body)
  generalize Fr4.frame body = fb at HFR HRF n1
  obtain ⟨⟨b, m, e⟩, hx⟩ : ∃ r, nxt s a = r := ⟨_, rfl⟩
  rw [hx] at HNX HRN
  obtain ⟨n2, _⟩ := str_eqb (rfl : b = b)
  obtain ⟨⟨l, p, q⟩, hy⟩ : ∃ r, Fr4.all s 0 = r := ⟨_, rfl⟩
  rw [hy] at HAL HRA HLEN
  dsimp only at HAL HRA HLEN
  clear hL wf hb hs hx hy
  unfold nextV at HNX HRN
  dsimp only at HNX HRN
  go_enter Tryd.func3, Tryd.ntmps3
  go_wp2_with fail
  refine (wireSpeaks_any W).mono ?_
  rintro ex w1 ⟨rfl, hb1⟩
  have B1 := Lib.hid hb1
  clear hb1
  go_wp2_with fail
  refine (HFR w1 (HT.out.below B1.out)).out.mono ?_
  rintro ex w2 ⟨rfl, hb2⟩
  have B2 := Lib.hid (below_then B1.out B1.out.size hb2)
  clear hb2
  go_wp2_with fail
  refine (HRF w2).out.mono ?_
  rintro ex w3 ⟨rfl, hb3⟩
  have B3 := Lib.hid (below_then B2.out B2.out.size hb3)
  clear hb3
  go_wp2_with fail
  refine (HNX w3 (HT.out.below B3.out)).out.mono ?_
  rintro ex w4 ⟨rfl, hb4⟩
  have B4 := Lib.hid (below_then B3.out B3.out.size hb4)
  clear hb4
  go_wp2_with fail
  refine (HRN w4).out.mono ?_
  rintro ex w5 ⟨rfl, hb5⟩
  have B5 := Lib.hid (below_then B4.out B4.out.size hb5)
  clear hb5
  go_wp2_with fail
  refine (HAL w5 (HT.out.below B5.out)).out.mono ?_
  rintro ex w6 ⟨v1, rfl, ho1, hb6⟩
  have B6 := Lib.hid (below_then B5.out B5.out.size hb6)
  obtain ⟨p1, c1, rfl, hv1⟩ := Vw.of_own ho1
  have V1 := Lib.hid hv1
  clear hb6 hv1 ho1
  go_wp2_with fail
  refine (HRA w6).out.mono ?_
  rintro ex w7 ⟨v2, rfl, ho2, hb7⟩
  have B7 := Lib.hid (below_then B6.out B6.out.size hb7)
  obtain ⟨p2, c2, rfl, hv2⟩ := Vw.of_own ho2
  have V2 := Lib.hid hv2
  have V3 := Lib.hid (V1.out.below hb7 (Nat.le_refl _))
  clear hb7 hv2 ho2
  go_wp2_with fail
  refine (texts_c p1 p2 l.length c1 l.length c2 l l w7 V3.out V2.out HLEN.out HLEN.out).mono ?_
  rintro ex w8 ⟨rfl, nd, rfl⟩
  have B8 := Lib.hid (below_drewN B7.out nd)
  have hd : decide (l = l) = true := decide_eq_true rfl
  go_wp2
  go_ret
  exact ⟨rfl, B8.out⟩
end Go.Proofs.YtbpphflegjebaaaDoor
