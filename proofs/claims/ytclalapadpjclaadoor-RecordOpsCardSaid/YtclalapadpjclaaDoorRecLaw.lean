/- The laws' own functions on messages: message, doc, same, speaks. -/
import Derived.Test.YtclalapadpjclaaDoorEncode
import Derived.Test.YtclalapadpjclaaDoorHeld
namespace Go.Proofs.YtclalapadpjclaaDoor
open Go.RowKit
set_option linter.unusedVariables false
set_option linter.unusedSimpArgs false
theorem int_info : (Tryd.prog.info? 3).map (fun i => (i.zero, i.size, i.bytes)) = some (some (.int .i64 0), 1, 8) := by kernel_rfl
theorem msg_size : (Tryd.prog.info? 28).map (·.size) = some 5 := by kernel_rfl
/-- a message's value, its slices read -/
def MsgIs (w : World) (v : Value) (m : Rec.Msg) : Prop := ∃ pn cn pt ct, v = msgV m.k m.c m.a pn m.N.length cn pt m.T.length ct ∧ Vw w 1 pn m.N.length cn (ints m.N) ∧ Vw w 1 pt m.T.length ct (strs m.T)
set_option maxRecDepth 20000 in
set_option maxHeartbeats 4000000 in
theorem message_c (k c a : Int) (N : List Int) (T : List ByteArray) (pn : Option Addr) (n cn : Nat) (pt : Option Addr) (t ct : Nat) (w : World) (hn : Vw w 1 pn n cn (ints N)) (ht : Vw w 1 pt t ct (strs T))
    (hnb : n * 8 ≤ 281474976710656) (htb : t * 16 ≤ 281474976710656) :
    Calls Tryd.prog 9 #[msgV k c a pn n cn pt t ct] w fun e w' => ∃ qn dn qt dt, e = .returned (msgV k c a qn n dn qt t dt) ∧ Vw w' 1 qn n dn (ints N) ∧ Vw w' 1 qt t dt (strs T) ∧ Below w.heap.size w w' := by
  have HN := Lib.hid hn
  have HT := Lib.hid ht
  have HNB := Lib.hid hnb
  have HTB := Lib.hid htb
  clear hn ht hnb htb
  unfold msgV
  go_enter Tryd.func9, Tryd.ntmps9
  go_upto_region 1 with (fail)
  have hA0 := (Blk.new w [.int .i64 k, .int .i64 c, .int .i64 a, .slice pn n cn, .slice pt t ct] 25).alloc (.cells #[.int .i64 0, .int .i64 0, .int .i64 0, .slice none 0 0, .slice none 0 0] 28)
  have hR0 := Blk.new (w.alloc (.cells #[.int .i64 k, .int .i64 c, .int .i64 a, .slice pn n cn, .slice pt t ct] 25)) [.int .i64 0, .int .i64 0, .int .i64 0, .slice none 0 0, .slice none 0 0] 28
  rw [show (w.alloc (.cells #[.int .i64 k, .int .i64 c, .int .i64 a, .slice pn n cn, .slice pt t ct] 25)).heap.size = w.heap.size + 1 by simp] at hR0
  have hb0 := ((Below.refl _ w).alloc (Nat.le_refl _) (.cells #[.int .i64 k, .int .i64 c, .int .i64 a, .slice pn n cn, .slice pt t ct] 25)).alloc (by simp) (.cells #[.int .i64 0, .int .i64 0, .int .i64 0, .slice none 0 0, .slice none 0 0] 28)
  generalize (w.alloc (.cells #[.int .i64 k, .int .i64 c, .int .i64 a, .slice pn n cn, .slice pt t ct] 25)).alloc (.cells #[.int .i64 0, .int .i64 0, .int .i64 0, .slice none 0 0, .slice none 0 0] 28) = w2 at hA0 hR0 hb0 ⊢
  have L0 : ∀ X, Held w2 (w.heap.size + 1) 5 28 X → X.cell? ⟨w.heap.size, 0, none⟩ = some (.int .i64 k) := fun X h => (h.cell (p := ⟨w.heap.size, 0, none⟩) hA0.lt (by show w.heap.size ≠ _; omega)).trans (hA0.cell 0)
  have L1 : ∀ X, Held w2 (w.heap.size + 1) 5 28 X → X.cell? ⟨w.heap.size, 1, none⟩ = some (.int .i64 c) := fun X h => (h.cell (p := ⟨w.heap.size, 1, none⟩) hA0.lt (by show w.heap.size ≠ _; omega)).trans (hA0.cell 1)
  have L2 : ∀ X, Held w2 (w.heap.size + 1) 5 28 X → X.cell? ⟨w.heap.size, 2, none⟩ = some (.int .i64 a) := fun X h => (h.cell (p := ⟨w.heap.size, 2, none⟩) hA0.lt (by show w.heap.size ≠ _; omega)).trans (hA0.cell 2)
  have L3 : ∀ X, Held w2 (w.heap.size + 1) 5 28 X → X.cell? ⟨w.heap.size, 3, none⟩ = some (.slice pn n cn) := fun X h => (h.cell (p := ⟨w.heap.size, 3, none⟩) hA0.lt (by show w.heap.size ≠ _; omega)).trans (hA0.cell 3)
  have L4 : ∀ X, Held w2 (w.heap.size + 1) 5 28 X → X.cell? ⟨w.heap.size, 4, none⟩ = some (.slice pt t ct) := fun X h => (h.cell (p := ⟨w.heap.size, 4, none⟩) hA0.lt (by show w.heap.size ≠ _; omega)).trans (hA0.cell 4)
  have S0 : Hid (Held w2 (w.heap.size + 1) 5 28 w2.drew) := Lib.hid (Held.start hR0)
  have HB0 := Lib.hid hb0
  have HG1 : Hid (w.heap.size + 1 < w2.heap.size) := Lib.hid hR0.lt
  clear hA0 hR0 hb0
  go_region_held3 (fun X => Held w2 (w.heap.size + 1) 5 28 X)
    (with_reducible first | exact S0.out | assumption | exact Held.alloc (by assumption) _ | exact Held.allocD (by assumption) _ | (repeat refine Held.setCell ?_ _ _); assumption)
    (first
      | (refine step_app0 (by rfl) (.tmp 9) (.tmp 11) 22 (by rfl) 3 _ 1 8 Tryd.underlying22 int_info rfl (by decide) _ (by rfl) pn n cn (ints N) (by rfl) (Held.vw' (by assumption) HN.out HB0.out (by omega)) (by have := HNB.out; unfold maxLen; omega) HNB.out ?_; intro v1 wN hA; obtain ⟨hs, p1, c1, rfl, hv1, hq1, hB1⟩ := Held.app0 (by assumption) hA.out; have HV1 := Lib.hid hv1; have HQ1 := Lib.hid hq1; clear hA hv1 hB1 hq1)
      | (refine step_app0 (by rfl) (.tmp 13) (.tmp 15) 23 (by rfl) 9 _ 1 16 Tryd.underlying23 str_info rfl (by decide) _ (by rfl) pt t ct (strs T) (by rfl) (Held.vw' (by assumption) HT.out HB0.out (by omega)) (by have := HTB.out; unfold maxLen; omega) HTB.out ?_; intro v2 wT hA; obtain ⟨hs, p2, c2, rfl, hv2, hq2, hB2⟩ := Held.app0 (by assumption) hA.out; have HV2 := Lib.hid hv2; have HQ2 := Lib.hid hq2; have HV3 : Hid (Vw wT 1 p1 n c1 (ints N)) := Lib.hid (by with_reducible first | exact HV1.out.below hB2 (Nat.le_refl _) | exact (HV1.out.alloc _).below hB2 (Nat.le_refl _)); obtain ⟨u0, z0, f0⟩ := hs.cellAt 0 (by decide); obtain ⟨u1, z1, f1⟩ := hs.cellAt 1 (by decide); obtain ⟨u2, z2, f2⟩ := hs.cellAt 2 (by decide); obtain ⟨u3, z3, f3⟩ := hs.cellAt 3 (by decide); obtain ⟨u4, z4, f4⟩ := hs.cellAt 4 (by decide); have HSV := Lib.hid hs; clear hA hv2 hB2 HV1 hq2))
  all_goals
    go_wp2_with fail
    have hbk := HSV.out.put5 (.int .i64 k) (.int .i64 c) (.int .i64 a) (.slice p1 n c1) (.slice p2 t c2)
    refine bodyPost_ret (results_cell_row rfl _ _ (w.heap.size + 1) 28 _ (0, 0) _ rfl hbk Tryd.underlying28 rfl msg_size) rfl ?_
    have hne1 : 0 < n → ∀ a, p1 = some a → a.block ≠ w.heap.size + 1 := fun h0 a e => by have := HQ1.out h0 a e; have := HG1.out; omega
    have hne2 : 0 < t → ∀ a, p2 = some a → a.block ≠ w.heap.size + 1 := fun h0 a e => by have := HQ2.out h0 a e; have := HG1.out; omega
    refine ⟨p1, c1, p2, c2, rfl, ?_, ?_, ?_⟩
    · exact ((((HV3.out.set hne1 _ _).set hne1 _ _).set hne1 _ _).set hne1 _ _).set hne1 _ _
    · exact ((((HV2.out.set hne2 _ _).set hne2 _ _).set hne2 _ _).set hne2 _ _).set hne2 _ _
    · exact (((((HSV.out.setCell _ _).setCell _ _).setCell _ _).setCell _ _).setCell _ _).bel HB0.out HB0.out.size (by omega)
theorem dmsg_size : (Tryd.prog.info? 32).map (·.size) = some 5 := by kernel_rfl
set_option maxRecDepth 20000 in
set_option maxHeartbeats 4000000 in
theorem doc_c (k c a : Int) (pn : Option Addr) (n cn : Nat) (pt : Option Addr) (t ct : Nat) (w : World) :
    Calls Tryd.prog 12 #[msgV k c a pn n cn pt t ct] w fun e w' => e = .returned (msgV k c a pn n cn pt t ct) ∧ Below w.heap.size w w' := by
  unfold msgV
  go_enter Tryd.func12, Tryd.ntmps12
  go_wp2_with fail
  have hR0 := Blk.new (w.alloc (.cells #[.int .i64 k, .int .i64 c, .int .i64 a, .slice pn n cn, .slice pt t ct] 25)) [.int .i64 k, .int .i64 c, .int .i64 a, .slice pn n cn, .slice pt t ct] 32
  rw [show (w.alloc (.cells #[.int .i64 k, .int .i64 c, .int .i64 a, .slice pn n cn, .slice pt t ct] 25)).heap.size = w.heap.size + 1 by simp] at hR0
  refine bodyPost_ret (results_cell_row rfl _ _ (w.heap.size + 1) 32 _ (0, 0) _ rfl hR0 Tryd.underlying32 rfl dmsg_size) rfl ⟨rfl, ?_⟩
  exact ((Below.refl _ w).alloc (Nat.le_refl _) _).alloc (by simp) _
set_option maxRecDepth 20000 in
set_option maxHeartbeats 4000000 in
theorem same_c (x y : Rec.Msg) (v u : Value) (w : World) (hv : MsgIs w v x) (hu : MsgIs w u y) (hxn : x.N.length ≤ 140737488355328) (hxt : x.T.length ≤ 140737488355328) (hyn : y.N.length ≤ 140737488355328) (hyt : y.T.length ≤ 140737488355328) :
    Calls Tryd.prog 11 #[v, u] w fun e w' => e = .returned (.bool (decide (x = y))) ∧ Below w.heap.size w w' := by
  obtain ⟨pn, cn, pt, ct, rfl, hn, ht⟩ := hv
  obtain ⟨qn, dn, qt, dt, rfl, kn, kt⟩ := hu
  obtain ⟨k, c, a, N, T⟩ := x
  obtain ⟨k', c', a', N', T'⟩ := y
  unfold msgV
  dsimp only at *
  generalize hnn : N.length = n at *
  generalize htt : T.length = t at *
  generalize hnn' : N'.length = n' at *
  generalize htt' : T'.length = t' at *
  have HNN := Lib.hid hnn
  have HTT := Lib.hid htt
  have HNN' := Lib.hid hnn'
  have HTT' := Lib.hid htt'
  have HN := Lib.hid hn
  have HT := Lib.hid ht
  have KN := Lib.hid kn
  have KT := Lib.hid kt
  have HEQ : Hid (decide ((⟨k, c, a, N, T⟩ : Rec.Msg) = ⟨k', c', a', N', T'⟩) = decide (k = k' ∧ c = c' ∧ a = a' ∧ N = N' ∧ T = T')) := Lib.hid (by simp only [Rec.Msg.mk.injEq])
  generalize decide ((⟨k, c, a, N, T⟩ : Rec.Msg) = ⟨k', c', a', N', T'⟩) = r at HEQ ⊢
  have HBW := Lib.hid ((((Below.refl _ w).alloc (Nat.le_refl _) (.cells #[.int .i64 k, .int .i64 c, .int .i64 a, .slice pn n cn, .slice pt t ct] 28))).alloc (by simp) (.cells #[.int .i64 k', .int .i64 c', .int .i64 a', .slice qn n' dn, .slice qt t' dt] 32))
  clear hn ht kn kt hnn htt hnn' htt'
  by_cases hk : k = k'
  case neg =>
    have t1 : (k != k') = true := bne_iff_ne.2 hk
    have HR : Hid (r = false) := Lib.hid (by rw [HEQ.out]; exact decide_eq_false fun h => hk h.1)
    clear hk
    go_enter Tryd.func11, Tryd.ntmps11
    go_wp2
    go_ret
    exact ⟨ret_bool HR.out.symm, HBW.out⟩
  subst hk
  by_cases hc : c = c'
  case neg =>
    have t1 : (c != c') = true := bne_iff_ne.2 hc
    have HR : Hid (r = false) := Lib.hid (by rw [HEQ.out]; exact decide_eq_false fun h => hc h.2.1)
    clear hc
    go_enter Tryd.func11, Tryd.ntmps11
    go_wp2
    go_ret
    exact ⟨ret_bool HR.out.symm, HBW.out⟩
  subst hc
  by_cases ha : a = a'
  case neg =>
    have t1 : (a != a') = true := bne_iff_ne.2 ha
    have HR : Hid (r = false) := Lib.hid (by rw [HEQ.out]; exact decide_eq_false fun h => ha h.2.2.1)
    clear ha
    go_enter Tryd.func11, Tryd.ntmps11
    go_wp2
    go_ret
    exact ⟨ret_bool HR.out.symm, HBW.out⟩
  subst ha
  by_cases hl : n = n'
  case neg =>
    have t1 : ((n : Int) != (n' : Int)) = true := bne_iff_ne.2 (by omega)
    have t2 : (n != n') = true := bne_iff_ne.2 hl
    have HR : Hid (r = false) := Lib.hid (by rw [HEQ.out]; exact decide_eq_false fun h => hl (by rw [← HNN.out, ← HNN'.out, h.2.2.2.1]))
    clear hl
    go_enter Tryd.func11, Tryd.ntmps11
    go_wp2
    go_ret
    exact ⟨ret_bool HR.out.symm, HBW.out⟩
  subst hl
  by_cases hl : t = t'
  case neg =>
    have t1 : ((t : Int) != (t' : Int)) = true := bne_iff_ne.2 (by omega)
    have t2 : (t != t') = true := bne_iff_ne.2 hl
    have HR : Hid (r = false) := Lib.hid (by rw [HEQ.out]; exact decide_eq_false fun h => hl (by rw [← HTT.out, ← HTT'.out, h.2.2.2.2]))
    clear hl
    go_enter Tryd.func11, Tryd.ntmps11
    go_wp2
    go_ret
    exact ⟨ret_bool HR.out.symm, HBW.out⟩
  subst hl
  go_enter Tryd.func11, Tryd.ntmps11
  go_wp2
  have hA0 := (Blk.new w [.int .i64 k, .int .i64 c, .int .i64 a, .slice pn n cn, .slice pt t ct] 28).alloc (.cells #[.int .i64 k, .int .i64 c, .int .i64 a, .slice qn n dn, .slice qt t dt] 32)
  have hR0 := Blk.new (w.alloc (.cells #[.int .i64 k, .int .i64 c, .int .i64 a, .slice pn n cn, .slice pt t ct] 28)) [.int .i64 k, .int .i64 c, .int .i64 a, .slice qn n dn, .slice qt t dt] 32
  rw [show (w.alloc (.cells #[.int .i64 k, .int .i64 c, .int .i64 a, .slice pn n cn, .slice pt t ct] 28)).heap.size = w.heap.size + 1 by simp] at hR0
  generalize (w.alloc (.cells #[.int .i64 k, .int .i64 c, .int .i64 a, .slice pn n cn, .slice pt t ct] 28)).alloc (.cells #[.int .i64 k, .int .i64 c, .int .i64 a, .slice qn n dn, .slice qt t dt] 32) = w2 at hA0 hR0 HBW ⊢
  have a3 : ∀ j, (w2.drewN j).cell? ⟨w.heap.size, 3, none⟩ = some (.slice pn n cn) := fun _ => hA0.cell 3
  have a4 : ∀ j, (w2.drewN j).cell? ⟨w.heap.size, 4, none⟩ = some (.slice pt t ct) := fun _ => hA0.cell 4
  have b3 : ∀ j, (w2.drewN j).cell? ⟨w.heap.size + 1, 3, none⟩ = some (.slice qn n dn) := fun _ => hR0.cell 3
  have b4 : ∀ j, (w2.drewN j).cell? ⟨w.heap.size + 1, 4, none⟩ = some (.slice qt t dt) := fun _ => hR0.cell 4
  clear hA0 hR0
  go_loopg [5] n (fun g v5 wr => ∃ i q : Nat, v5 = .int .i64 (i : Int) ∧ i + g = n ∧ wr = w2.drewN q ∧ Hid (N.take i = N'.take i))
  case atStart => exact ⟨0, 0, rfl, by omega, rfl, Lib.hid rfl⟩
  case round =>
    obtain ⟨i, q, rfl, hg, rfl, HTK⟩ := hrel
    by_cases hlt : i < n
    · have t1 : decide ((i : Int) < (n : Int)) = true := decide_eq_true (by omega)
      have t1n : decide (i < n) = true := decide_eq_true hlt
      obtain ⟨x, hx⟩ : ∃ x, N[i]? = some x := ⟨N[i]'(by rw [HNN.out]; exact hlt), List.getElem?_eq_getElem _⟩
      obtain ⟨y, hy⟩ : ∃ y, N'[i]? = some y := ⟨N'[i]'(by rw [HNN'.out]; exact hlt), List.getElem?_eq_getElem _⟩
      obtain ⟨b1, o1, rfl, _, c1⟩ := (HN.out.below HBW.out (Nat.le_refl _)).at1 (ints_get hx)
      obtain ⟨b2, o2, rfl, _, c2⟩ := (KN.out.below HBW.out (Nat.le_refl _)).at1 (ints_get hy)
      have d1 : ∀ j, (w2.drewN j).cell? ⟨b1, o1 + i, none⟩ = some (.int .i64 x) := fun _ => c1
      have d2 : ∀ j, (w2.drewN j).cell? ⟨b2, o2 + i, none⟩ = some (.int .i64 y) := fun _ => c2
      have ia : ((i : Int)).toNat = i := by omega
      have pa : (0 : Int) ≤ (i : Int) := by omega
      have lz : (i : Int) < (n : Int) := by omega
      have HXI := Lib.hid hx
      have HYI := Lib.hid hy
      have HG := Lib.hid hg
      clear c1 c2 hx hy hg
      by_cases hxy : x = y
      · subst hxy
        go_wp2
        go_quiet (fail)
        go_wp2
        go_roundg (n - (i + 1))
        case measure => have := HG.out; omega
        case rel => exact ⟨i + 1, _, by first | rfl | go_num, by have := HG.out; omega, rfl, Lib.hid (by rw [Rec.take_snoc HXI.out, Rec.take_snoc HYI.out, HTK.out])⟩
      · have e1 : (x != y) = true := bne_iff_ne.2 hxy
        have HR : Hid (r = false) := Lib.hid (by
          rw [HEQ.out]; refine decide_eq_false fun h => hxy ?_
          have h1 := HXI.out
          rw [h.2.2.2.1, HYI.out] at h1
          exact (Option.some.inj h1).symm)
        clear hxy
        go_wp2
        go_quiet (fail)
        go_wp2
        go_ret
        exact ⟨ret_bool HR.out.symm, below_drewN (below_drewN HBW.out _) _⟩
    · obtain rfl : i = n := by omega
      have t1 : decide ((i : Int) < (i : Int)) = false := decide_eq_false (by omega)
      have t1n : decide (i < i) = false := decide_eq_false (by omega)
      have HNE : Hid (N = N') := by
        have h := HTK.out
        rw [List.take_of_length_le (by rw [HNN.out]; omega), List.take_of_length_le (by rw [HNN'.out]; omega)] at h
        exact Lib.hid h
      clear HTK hg hlt
      go_wp2
      go_loopg [6] t (fun g v6 wr => ∃ j q : Nat, v6 = .int .i64 (j : Int) ∧ j + g = t ∧ wr = w2.drewN q ∧ Hid (T.take j = T'.take j))
      case atStart => exact ⟨0, q, rfl, by omega, rfl, Lib.hid rfl⟩
      case round =>
        obtain ⟨j, q', rfl, hg, rfl, HTK⟩ := hrel
        by_cases hlt : j < t
        · have t2 : decide ((j : Int) < (t : Int)) = true := decide_eq_true (by omega)
          have t2n : decide (j < t) = true := decide_eq_true hlt
          obtain ⟨x, hx⟩ : ∃ x, T[j]? = some x := ⟨T[j]'(by rw [HTT.out]; exact hlt), List.getElem?_eq_getElem _⟩
          obtain ⟨y, hy⟩ : ∃ y, T'[j]? = some y := ⟨T'[j]'(by rw [HTT'.out]; exact hlt), List.getElem?_eq_getElem _⟩
          obtain ⟨b1, o1, rfl, _, c1⟩ := (HT.out.below HBW.out (Nat.le_refl _)).at1 (strs_get hx)
          obtain ⟨b2, o2, rfl, _, c2⟩ := (KT.out.below HBW.out (Nat.le_refl _)).at1 (strs_get hy)
          have d1 : ∀ i, (w2.drewN i).cell? ⟨b1, o1 + j, none⟩ = some (.string x) := fun _ => c1
          have d2 : ∀ i, (w2.drewN i).cell? ⟨b2, o2 + j, none⟩ = some (.string y) := fun _ => c2
          have ia : ((j : Int)).toNat = j := by omega
          have pa : (0 : Int) ≤ (j : Int) := by omega
          have lz : (j : Int) < (t : Int) := by omega
          have HXI := Lib.hid hx
          have HYI := Lib.hid hy
          have HG := Lib.hid hg
          clear c1 c2 hx hy hg
          by_cases hxy : x = y
          · subst hxy
            go_wp2
            go_quiet (fail)
            go_wp2
            go_roundg (t - (j + 1))
            case measure => have := HG.out; omega
            case rel => exact ⟨j + 1, _, by first | rfl | go_num, by have := HG.out; omega, rfl, Lib.hid (by rw [Rec.take_snoc HXI.out, Rec.take_snoc HYI.out, HTK.out])⟩
          · have e1 : (x.toList == y.toList) = false := by
              rw [ByteArray.toList_eq, ByteArray.toList_eq]
              refine beq_eq_false_iff_ne.2 fun e => hxy ?_
              cases x; cases y; simp at e; rw [e]
            have HR : Hid (r = false) := Lib.hid (by
              rw [HEQ.out]; refine decide_eq_false fun h => hxy ?_
              have h1 := HXI.out
              rw [h.2.2.2.2, HYI.out] at h1
              exact (Option.some.inj h1).symm)
            clear hxy
            go_wp2
            go_quiet (fail)
            go_wp2
            go_ret
            exact ⟨ret_bool HR.out.symm, below_drewN (below_drewN HBW.out _) _⟩
        · obtain rfl : j = t := by omega
          have t2 : decide ((j : Int) < (j : Int)) = false := decide_eq_false (by omega)
          have t2n : decide (j < j) = false := decide_eq_false (by omega)
          have HR : Hid (r = true) := by
            have h := HTK.out
            rw [List.take_of_length_le (by rw [HTT.out]; omega), List.take_of_length_le (by rw [HTT'.out]; omega)] at h
            exact Lib.hid (by rw [HEQ.out]; exact decide_eq_true (by simpa using ⟨HNE.out, h⟩))
          clear HTK hg hlt
          go_wp2
          go_ret
          exact ⟨ret_bool HR.out.symm, below_drewN HBW.out _⟩
theorem uv_small (u : Nat) (h : u < 128) : Wire.uv u = [UInt8.ofNat u] := Wire.uv_lt h
def spkMsg : Rec.Msg := ⟨2, 1, 2, [], [⟨#[47]⟩]⟩
theorem spk_enc : Rec.encB spkMsg = [4, 2, 4, 0, 2, 2, 47] := by
  have e0 : Wire.enc 0 = [0] := uv_small 0 (by decide)
  have e1 : Wire.enc 1 = [2] := uv_small 2 (by decide)
  have e2 : Wire.enc 2 = [4] := uv_small 4 (by decide)
  have hv : Rec.validB 2 0 1 = true := by decide
  unfold Rec.encB spkMsg
  simp only [List.length_nil, List.length_cons, Nat.zero_add, hv, if_true]
  unfold Rec.body Rec.encN Rec.encT Rec.txt
  simp only [List.map_cons, List.map_nil, List.length_nil, List.length_cons, Nat.zero_add]
  rw [show ((0 : Nat) : Int) = 0 from rfl, show ((1 : Nat) : Int) = 1 from rfl, show (((⟨#[47]⟩ : ByteArray).size : Nat) : Int) = 1 from rfl, e0, e1, e2]
  rfl
set_option maxRecDepth 20000 in
set_option maxHeartbeats 4000000 in
theorem recSpeaks_any (w : World) (hS : ShTab w) : Calls Tryd.prog 7 #[] w fun e w' => e = .returned (.bool true) ∧ Below w.heap.size w w' := by
  have hV : Vw (w.alloc (.cells #[.string ⟨#[47]⟩] 9)) 1 (some ⟨w.heap.size, 0, none⟩) 1 1 (strs [⟨#[47]⟩]) := by
    refine ⟨Nat.le_refl _, rfl, fun _ => ⟨w.heap.size, 0, rfl, by simp, fun j u hu => ?_⟩⟩
    rw [Nat.zero_add, (Blk.new w [.string ⟨#[47]⟩] 9).cell]
    exact hu
  have hE := Lib.hid (encode_c spkMsg ⟨by decide, by decide, by decide, by decide, by decide, by decide, fun x hx => by cases hx⟩ none 0 (some ⟨w.heap.size, 0, none⟩) 1 (w.alloc (.cells #[.string ⟨#[47]⟩] 9)) (Vw.nil _ _ _ _) hV
    (by
      have h := spk_enc
      unfold Rec.encB at h
      rw [if_pos (by decide)] at h
      rw [h]; decide) (by decide) (by decide) (hS.below ((Below.refl _ w).alloc (Nat.le_refl _) _) (Nat.le_refl _)))
  rw [spk_enc] at hE
  have HB0 := Lib.hid ((Below.refl _ w).alloc (Nat.le_refl _) (.cells #[.string ⟨#[47]⟩] 9))
  clear hV
  go_enter Tryd.func7, Tryd.ntmps7
  go_wp2_with fail
  refine hE.out.mono ?_
  rintro e w1 ⟨rfl, hb⟩
  have HB1 := Lib.hid (below_then HB0.out HB0.out.size hb)
  clear hb
  go_wp2_with fail
  go_ret
  exact ⟨ret_bool (by decide), HB1.out⟩
end Go.Proofs.YtclalapadpjclaaDoor
