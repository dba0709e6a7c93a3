/- record.Of and record.Op. -/
import Derived.Test.YtclalapadpjclaaDoorLetter
import Derived.StillTailTactics
namespace Rec
structure Op where
  kind : Int
  path : ByteArray
  dest : ByteArray
  client : Int
  bc : Int
  ba : Int
  bt : Int
  size : Int
  sum : Int
  quota : Int
  deriving DecidableEq
end Rec
namespace Go.Proofs.YtclalapadpjclaaDoor
open Go.RowKit
set_option linter.unusedVariables false
set_option linter.unusedSimpArgs false
def opCells (o : Rec.Op) : List Value := [.int .i64 o.kind, .string o.path, .string o.dest, .int .i64 o.client, .int .i64 o.bc, .int .i64 o.ba, .int .i64 o.bt, .int .i64 o.size, .int .u32 o.sum, .int .i64 o.quota]
theorem op_size : (Tryd.prog.info? 44).map (·.size) = some 10 := by kernel_rfl
def ofMsg (client call boot : Int) (o : Rec.Op) : Rec.Msg := ⟨1, client, call, [o.kind, o.client, o.bc, o.ba, o.bt, o.size, o.sum, o.quota, boot], [o.path, o.dest]⟩
set_option maxRecDepth 20000 in
set_option maxHeartbeats 4000000 in
theorem of_c (client call boot : Int) (k : Int) (path dest : ByteArray) (cl bc ba bt size sum quota : Int) (h1 : 0 ≤ sum) (h2 : sum ≤ 4294967295) (w : World) :
    Calls Tryd.prog 13 #[.int .i64 client, .int .i64 call, .int .i64 boot, .agg #[.int .i64 k, .string path, .string dest, .int .i64 cl, .int .i64 bc, .int .i64 ba, .int .i64 bt, .int .i64 size, .int .u32 sum, .int .i64 quota]] w fun e w' =>
      ∃ pn pt, e = .returned (msgV 1 client call (some pn) 9 9 (some pt) 2 2) ∧ Vw w' 1 (some pn) 9 9 (ints [k, cl, bc, ba, bt, size, sum, quota, boot]) ∧ Vw w' 1 (some pt) 2 2 (strs [path, dest]) ∧ Below w.heap.size w w' := by
  go_enter Tryd.func13, Tryd.ntmps13
  go_wp2_with fail
  have b1 := ((((Blk.new (w.alloc (.cells #[.int .i64 k, .string path, .string dest, .int .i64 cl, .int .i64 bc, .int .i64 ba, .int .i64 bt, .int .i64 size, .int .u32 sum, .int .i64 quota] 44)) [.int .i64 1, .int .i64 client, .int .i64 call, .slice (some ⟨w.heap.size + 1 + 1 + 1, 0, none⟩) 9 9, .slice (some ⟨w.heap.size + 1 + 1 + 1 + 1, 0, none⟩) 2 2] 28).alloc
    (.cells #[.int .i64 bc, .int .i64 ba, .int .i64 bt] 37)).alloc (.cells #[.int .i64 k, .int .i64 cl, .int .i64 bc, .int .i64 ba, .int .i64 bt, .int .i64 size, .int .i64 sum, .int .i64 quota, .int .i64 boot] 3)).alloc (.cells #[.string path, .string dest] 9))
  have b3 := (Blk.new (((w.alloc (.cells #[.int .i64 k, .string path, .string dest, .int .i64 cl, .int .i64 bc, .int .i64 ba, .int .i64 bt, .int .i64 size, .int .u32 sum, .int .i64 quota] 44)).alloc (.cells #[.int .i64 1, .int .i64 client, .int .i64 call, .slice (some ⟨w.heap.size + 1 + 1 + 1, 0, none⟩) 9 9, .slice (some ⟨w.heap.size + 1 + 1 + 1 + 1, 0, none⟩) 2 2] 28)).alloc
    (.cells #[.int .i64 bc, .int .i64 ba, .int .i64 bt] 37)) [.int .i64 k, .int .i64 cl, .int .i64 bc, .int .i64 ba, .int .i64 bt, .int .i64 size, .int .i64 sum, .int .i64 quota, .int .i64 boot] 3).alloc (.cells #[.string path, .string dest] 9)
  have b4 := Blk.new ((((w.alloc (.cells #[.int .i64 k, .string path, .string dest, .int .i64 cl, .int .i64 bc, .int .i64 ba, .int .i64 bt, .int .i64 size, .int .u32 sum, .int .i64 quota] 44)).alloc (.cells #[.int .i64 1, .int .i64 client, .int .i64 call, .slice (some ⟨w.heap.size + 1 + 1 + 1, 0, none⟩) 9 9, .slice (some ⟨w.heap.size + 1 + 1 + 1 + 1, 0, none⟩) 2 2] 28)).alloc
    (.cells #[.int .i64 bc, .int .i64 ba, .int .i64 bt] 37)).alloc (.cells #[.int .i64 k, .int .i64 cl, .int .i64 bc, .int .i64 ba, .int .i64 bt, .int .i64 size, .int .i64 sum, .int .i64 quota, .int .i64 boot] 3)) [.string path, .string dest] 9
  simp only [World.size_alloc] at b1 b3 b4
  refine bodyPost_ret (results_cell_row rfl _ _ (w.heap.size + 1) 28 _ (0, 0) _ rfl b1 Tryd.underlying28 rfl msg_size) rfl ?_
  refine ⟨⟨w.heap.size + 1 + 1 + 1, 0, none⟩, ⟨w.heap.size + 1 + 1 + 1 + 1, 0, none⟩, rfl, ⟨Nat.le_refl _, rfl, fun _ => ⟨_, 0, rfl, b3.lt, fun j u hu => ?_⟩⟩, ⟨Nat.le_refl _, rfl, fun _ => ⟨_, 0, rfl, b4.lt, fun j u hu => ?_⟩⟩, ?_⟩
  · rw [Nat.zero_add, b3.cell]; exact hu
  · rw [Nat.zero_add, b4.cell]; exact hu
  · exact (((((Below.refl _ w).alloc (Nat.le_refl _) _).alloc (by simp only [World.size_alloc]; omega) _).alloc (by simp only [World.size_alloc]; omega) _).alloc (by simp only [World.size_alloc]; omega) _).alloc (by simp only [World.size_alloc]; omega) _
theorem validB_1 (n t : Nat) : Rec.validB 1 n t = (decide (n = 9) && decide (t = 2)) := rfl
def opZero : Rec.Op := ⟨0, ⟨#[]⟩, ⟨#[]⟩, 0, 0, 0, 0, 0, 0, 0⟩
theorem Blk.put10 {X : World} {g : Nat} {t : TypeId} {cs : List Value} (hb : Blk X g cs t) (hl : cs.length = 10) (a b c d e a' b' c' d' e' : Value) :
    Blk ((((((((((X.setCell ⟨g, 0, none⟩ a).setCell ⟨g, 1, none⟩ b).setCell ⟨g, 2, none⟩ c).setCell ⟨g, 3, none⟩ d).setCell ⟨g, 4, none⟩ e).setCell ⟨g, 5, none⟩ a').setCell ⟨g, 6, none⟩ b').setCell ⟨g, 7, none⟩ c').setCell ⟨g, 8, none⟩ d').setCell ⟨g, 9, none⟩ e') g [a, b, c, d, e, a', b', c', d', e'] t := by
  match cs, hl with
  | [x0, x1, x2, x3, x4, x5, x6, x7, x8, x9], _ => exact (((((((((hb.set 0 a).set 1 b).set 2 c).set 3 d).set 4 e).set 5 a').set 6 b').set 7 c').set 8 d').set 9 e'
theorem below_put10 {B g : Nat} {w X : World} (h : Below B w X) (hg : B ≤ g) (a b c d e a' b' c' d' e' : Value) : Below B w ((((((((((X.setCell ⟨g, 0, none⟩ a).setCell ⟨g, 1, none⟩ b).setCell ⟨g, 2, none⟩ c).setCell ⟨g, 3, none⟩ d).setCell ⟨g, 4, none⟩ e).setCell ⟨g, 5, none⟩ a').setCell ⟨g, 6, none⟩ b').setCell ⟨g, 7, none⟩ c').setCell ⟨g, 8, none⟩ d').setCell ⟨g, 9, none⟩ e') := by
  have f : ∀ (Y : World) (j : Nat) (u : Value), Below B w Y → Below B w (Y.setCell ⟨g, j, none⟩ u) := fun Y j u hY => hY.setCell (p := ⟨g, j, none⟩) hg u
  exact f _ _ _ (f _ _ _ (f _ _ _ (f _ _ _ (f _ _ _ (f _ _ _ (f _ _ _ (f _ _ _ (f _ _ _ (f _ _ _ h)))))))))
/-- what Op answers -/
def opAns (m : Rec.Msg) (o : Rec.Op) (err : Int) : Prop :=
  (∃ n0 n1 n2 n3 n4 n5 n6 n7 n8 t0 t1, m.k = 1 ∧ m.N = [n0, n1, n2, n3, n4, n5, n6, n7, n8] ∧ m.T = [t0, t1] ∧ 0 ≤ n6 ∧ n6 ≤ 4294967295 ∧ o = ⟨n0, t0, t1, n1, n2, n3, n4, n5, n6, n7⟩ ∧ err = 0) ∨
  ((m.k ≠ 1 ∨ m.N.length ≠ 9 ∨ m.T.length ≠ 2 ∨ ∃ x, m.N[6]? = some x ∧ (x < 0 ∨ 4294967295 < x)) ∧ o = opZero ∧ err = 21)
set_option maxRecDepth 20000 in
set_option maxHeartbeats 8000000 in
theorem op_c (m : Rec.Msg) (v : Value) (w : World) (hv : MsgIs w v m) (hm : m.Wf) (hnb : m.N.length ≤ 140737488355328) (htb : m.T.length ≤ 140737488355328) (hS : ShTab w) :
    Calls Tryd.prog 14 #[v] w fun e w' => ∃ o err, opAns m o err ∧ e = .returned (.tuple #[.agg (opCells o).toArray, .int .i64 err]) ∧ Below w.heap.size w w' := by
  obtain ⟨pn, cn, pt, ct, rfl, hn, ht⟩ := hv
  obtain ⟨k, c, a, N, T⟩ := m
  have HVL := fun w' hv hS => Lib.hid (valid_v ⟨k, c, a, N, T⟩ (msgV k c a pn N.length cn pt T.length ct) w' hv hnb htb hS)
  dsimp only at *
  unfold msgV at *
  have HN := Lib.hid hn
  have HT := Lib.hid ht
  have HS := Lib.hid hS
  have HWF := Lib.hid hm
  have HNB := Lib.hid hnb
  have HTB := Lib.hid htb
  clear hn ht hS hm hnb htb
  have hA0 := (Blk.new w [.int .i64 k, .int .i64 c, .int .i64 a, .slice pn N.length cn, .slice pt T.length ct] 28).alloc (.cells (opCells opZero).toArray 44)
  have hR0 := Blk.new (w.alloc (.cells #[.int .i64 k, .int .i64 c, .int .i64 a, .slice pn N.length cn, .slice pt T.length ct] 28)) (opCells opZero) 44
  rw [show (w.alloc (.cells #[.int .i64 k, .int .i64 c, .int .i64 a, .slice pn N.length cn, .slice pt T.length ct] 28)).heap.size = w.heap.size + 1 by simp] at hR0
  have hb0 := ((Below.refl _ w).alloc (Nat.le_refl _) (.cells #[.int .i64 k, .int .i64 c, .int .i64 a, .slice pn N.length cn, .slice pt T.length ct] 28)).alloc (by simp) (.cells (opCells opZero).toArray 44)
  by_cases hk : k = 1
  case neg =>
    have t1 : (k != 1) = true := bne_iff_ne.2 hk
    have HR0 := Lib.hid hR0
    have HB0 := Lib.hid hb0
    have HK := Lib.hid hk
    clear hk hA0 hR0 hb0
    go_enter Tryd.func14, Tryd.ntmps14
    go_wp2_with fail
    refine bodyPost_ret (results_row_tmp rfl _ _ (w.heap.size + 1) 44 _ (0, 0) _ rfl HR0.out Tryd.underlying44 rfl op_size) rfl ?_
    exact ⟨opZero, 21, .inr ⟨.inl HK.out, rfl, rfl⟩, rfl, HB0.out⟩
  subst hk
  have HMV : Hid (∀ X, Below w.heap.size w X → MsgIs X (.agg #[.int .i64 1, .int .i64 c, .int .i64 a, .slice pn N.length cn, .slice pt T.length ct]) ⟨1, c, a, N, T⟩) := Lib.hid fun X h => ⟨pn, cn, pt, ct, rfl, HN.out.below h (Nat.le_refl _), HT.out.below h (Nat.le_refl _)⟩
  have t1 : ((1 : Int) != 1) = false := rfl
  by_cases hv : N.length = 9 ∧ T.length = 2
  case neg =>
    have hvf : Rec.validB 1 N.length T.length = false := by
      rw [validB_1, Bool.and_eq_false_iff]
      by_cases h9 : N.length = 9
      · exact .inr (decide_eq_false fun h => hv ⟨h9, h⟩)
      · exact .inl (decide_eq_false h9)
    have HAN : Hid (opAns ⟨1, c, a, N, T⟩ opZero 21) := Lib.hid (.inr ⟨by
      by_cases h9 : N.length = 9
      · exact .inr (.inr (.inl fun h => hv ⟨h9, h⟩))
      · exact .inr (.inl h9), rfl, rfl⟩)
    rw [hvf] at HVL
    clear hv hvf
    generalize N.length = n at *
    generalize T.length = t at *
    have HR0 := Lib.hid hR0
    have HB0 := Lib.hid hb0
    have HA0 := Lib.hid hA0
    clear hA0 hR0 hb0
    go_enter Tryd.func14, Tryd.ntmps14
    go_wp2_with fail
    refine (HVL _ (HMV.out _ HB0.out) (HS.out.below HB0.out (Nat.le_refl _))).out.mono ?_
    rintro ex w1 ⟨rfl, hb⟩
    have HB1 := Lib.hid (below_then HB0.out HB0.out.size hb)
    have HR1 := Lib.hid (HR0.out.below hb HR0.out.lt)
    have z0 : ∀ j, w1.cell? ⟨w.heap.size + 1, j, none⟩ = [Value.int .i64 0, .string ⟨#[]⟩, .string ⟨#[]⟩, .int .i64 0, .int .i64 0, .int .i64 0, .int .i64 0, .int .i64 0, .int .u32 0, .int .i64 0][j]? := fun j => HR1.out.cell j
    have f0 : ∀ j, w1.frozen? ⟨w.heap.size + 1, j, none⟩ = false := fun j => HR1.out.frozen j
    clear hb
    go_wp2_with fail
    refine bodyPost_ret (results_row_tmp rfl _ _ (w.heap.size + 1) 44 _ (0, 0) _ rfl (HR1.out.put10 rfl _ _ _ _ _ _ _ _ _ _) Tryd.underlying44 rfl op_size) rfl ?_
    exact ⟨opZero, 21, HAN.out, rfl, below_put10 HB1.out (by omega) _ _ _ _ _ _ _ _ _ _⟩
  obtain ⟨h9, h2⟩ := hv
  obtain ⟨n0, n1, n2, n3, n4, n5, n6, n7, n8, rfl⟩ : ∃ n0 n1 n2 n3 n4 n5 n6 n7 n8, N = [n0, n1, n2, n3, n4, n5, n6, n7, n8] := by
    match N, h9 with
    | [n0, n1, n2, n3, n4, n5, n6, n7, n8], _ => exact ⟨_, _, _, _, _, _, _, _, _, rfl⟩
  obtain ⟨t0, t1', rfl⟩ : ∃ t0 t1, T = [t0, t1] := by
    match T, h2 with
    | [t0, t1], _ => exact ⟨_, _, rfl⟩
  have hvt : Rec.validB 1 [n0, n1, n2, n3, n4, n5, n6, n7, n8].length [t0, t1'].length = true := rfl
  rw [hvt] at HVL
  simp only [List.length_cons, List.length_nil, Nat.zero_add, Nat.reduceAdd] at *
  clear hvt h9 h2
  obtain ⟨bn, on, rfl, hbn, _⟩ := HN.out.2.2 (by decide)
  obtain ⟨bt, ot, rfl, hbt, _⟩ := HT.out.2.2 (by decide)
  have hcn : 9 ≤ cn := HN.out.1
  have hct : 2 ≤ ct := HT.out.1
  have KN : Hid (∀ X, Below w.heap.size w X → ∀ j, j < 9 → X.cell? ⟨bn, on + j, none⟩ = (ints [n0, n1, n2, n3, n4, n5, n6, n7, n8])[j]?) := Lib.hid fun X h j hj => by
    obtain ⟨b', o', e, _, hc⟩ := (HN.out.below h (Nat.le_refl _)).2.2 (by decide)
    cases e
    rw [List.getElem?_eq_getElem (by simpa [ints] using hj)]
    exact hc j _ (List.getElem?_eq_getElem _)
  have KT : Hid (∀ X, Below w.heap.size w X → ∀ j, j < 2 → X.cell? ⟨bt, ot + j, none⟩ = (strs [t0, t1'])[j]?) := Lib.hid fun X h j hj => by
    obtain ⟨b', o', e, _, hc⟩ := (HT.out.below h (Nat.le_refl _)).2.2 (by decide)
    cases e
    rw [List.getElem?_eq_getElem (by simpa [strs] using hj)]
    exact hc j _ (List.getElem?_eq_getElem _)
  have HR0 := Lib.hid hR0
  have HB0 := Lib.hid hb0
  have HA0 := Lib.hid hA0
  have HBN := Lib.hid hbn
  have HBT := Lib.hid hbt
  clear hA0 hR0 hb0 hbn hbt
  by_cases hlo : n6 < 0
  · have HAN : Hid (opAns ⟨1, c, a, [n0, n1, n2, n3, n4, n5, n6, n7, n8], [t0, t1']⟩ opZero 21) := Lib.hid (.inr ⟨.inr (.inr (.inr ⟨n6, rfl, .inl hlo⟩)), rfl, rfl⟩)
    have t2 : decide (n6 < 0) = true := decide_eq_true hlo
    clear hlo
    go_enter Tryd.func14, Tryd.ntmps14
    go_wp2_with fail
    refine (HVL _ (HMV.out _ HB0.out) (HS.out.below HB0.out (Nat.le_refl _))).out.mono ?_
    rintro ex w1 ⟨rfl, hb⟩
    have HB1 := Lib.hid (below_then HB0.out HB0.out.size hb)
    have HR1 := Lib.hid (HR0.out.below hb HR0.out.lt)
    have HA1 := Lib.hid (HA0.out.below hb HA0.out.lt)
    have a0 : ∀ j, w1.cell? ⟨w.heap.size, j, none⟩ = [Value.int .i64 1, .int .i64 c, .int .i64 a, .slice (some ⟨bn, on, none⟩) 9 cn, .slice (some ⟨bt, ot, none⟩) 2 ct][j]? := fun j => HA1.out.cell j
    have z0 : ∀ j, w1.cell? ⟨w.heap.size + 1, j, none⟩ = [Value.int .i64 0, .string ⟨#[]⟩, .string ⟨#[]⟩, .int .i64 0, .int .i64 0, .int .i64 0, .int .i64 0, .int .i64 0, .int .u32 0, .int .i64 0][j]? := fun j => HR1.out.cell j
    have f0 : ∀ j, w1.frozen? ⟨w.heap.size + 1, j, none⟩ = false := fun j => HR1.out.frozen j
    have k6 : w1.cell? ⟨bn, on + 6, none⟩ = some (.int .i64 n6) := KN.out _ HB1.out 6 (by decide)
    clear hb
    go_wp2_with fail
    refine bodyPost_ret (results_row_tmp rfl _ _ (w.heap.size + 1) 44 _ (0, 0) _ rfl (HR1.out.put10 rfl _ _ _ _ _ _ _ _ _ _) Tryd.underlying44 rfl op_size) rfl ?_
    exact ⟨opZero, 21, HAN.out, rfl, below_put10 HB1.out (by omega) _ _ _ _ _ _ _ _ _ _⟩
  by_cases hhi : 4294967295 < n6
  · have HAN : Hid (opAns ⟨1, c, a, [n0, n1, n2, n3, n4, n5, n6, n7, n8], [t0, t1']⟩ opZero 21) := Lib.hid (.inr ⟨.inr (.inr (.inr ⟨n6, rfl, .inr hhi⟩)), rfl, rfl⟩)
    have t2 : decide (n6 < 0) = false := decide_eq_false hlo
    have t3 : decide (4294967295 < n6) = true := decide_eq_true hhi
    clear hlo hhi
    go_enter Tryd.func14, Tryd.ntmps14
    go_wp2_with fail
    refine (HVL _ (HMV.out _ HB0.out) (HS.out.below HB0.out (Nat.le_refl _))).out.mono ?_
    rintro ex w1 ⟨rfl, hb⟩
    have HB1 := Lib.hid (below_then HB0.out HB0.out.size hb)
    have HR1 := Lib.hid (HR0.out.below hb HR0.out.lt)
    have HA1 := Lib.hid (HA0.out.below hb HA0.out.lt)
    have a0 : ∀ j, w1.cell? ⟨w.heap.size, j, none⟩ = [Value.int .i64 1, .int .i64 c, .int .i64 a, .slice (some ⟨bn, on, none⟩) 9 cn, .slice (some ⟨bt, ot, none⟩) 2 ct][j]? := fun j => HA1.out.cell j
    have z0 : ∀ j, w1.cell? ⟨w.heap.size + 1, j, none⟩ = [Value.int .i64 0, .string ⟨#[]⟩, .string ⟨#[]⟩, .int .i64 0, .int .i64 0, .int .i64 0, .int .i64 0, .int .i64 0, .int .u32 0, .int .i64 0][j]? := fun j => HR1.out.cell j
    have f0 : ∀ j, w1.frozen? ⟨w.heap.size + 1, j, none⟩ = false := fun j => HR1.out.frozen j
    have k6 : w1.cell? ⟨bn, on + 6, none⟩ = some (.int .i64 n6) := KN.out _ HB1.out 6 (by decide)
    clear hb
    go_wp2_with fail
    refine bodyPost_ret (results_row_tmp rfl _ _ (w.heap.size + 1) 44 _ (0, 0) _ rfl (HR1.out.put10 rfl _ _ _ _ _ _ _ _ _ _) Tryd.underlying44 rfl op_size) rfl ?_
    exact ⟨opZero, 21, HAN.out, rfl, below_put10 HB1.out (by omega) _ _ _ _ _ _ _ _ _ _⟩
  have HAN : Hid (opAns ⟨1, c, a, [n0, n1, n2, n3, n4, n5, n6, n7, n8], [t0, t1']⟩ ⟨n0, t0, t1', n1, n2, n3, n4, n5, n6, n7⟩ 0) := Lib.hid (.inl ⟨n0, n1, n2, n3, n4, n5, n6, n7, n8, t0, t1', rfl, rfl, rfl, by omega, by omega, rfl, rfl⟩)
  have t2 : decide (n6 < 0) = false := decide_eq_false hlo
  have t3 : decide (4294967295 < n6) = false := decide_eq_false hhi
  have hlo' : 0 ≤ n6 := by omega
  have hhi' : n6 ≤ 4294967295 := by omega
  clear hlo hhi
  go_enter Tryd.func14, Tryd.ntmps14
  go_wp2_with fail
  refine (HVL _ (HMV.out _ HB0.out) (HS.out.below HB0.out (Nat.le_refl _))).out.mono ?_
  rintro ex w1 ⟨rfl, hb⟩
  have HB1 := Lib.hid (below_then HB0.out HB0.out.size hb)
  have HR1 := Lib.hid (HR0.out.below hb HR0.out.lt)
  have HA1 := Lib.hid (HA0.out.below hb HA0.out.lt)
  have a0 : ∀ j, w1.cell? ⟨w.heap.size, j, none⟩ = [Value.int .i64 1, .int .i64 c, .int .i64 a, .slice (some ⟨bn, on, none⟩) 9 cn, .slice (some ⟨bt, ot, none⟩) 2 ct][j]? := fun j => HA1.out.cell j
  have k6 : w1.cell? ⟨bn, on + 6, none⟩ = some (.int .i64 n6) := KN.out _ HB1.out 6 (by decide)
  clear hb
  have k0 : w1.cell? ⟨bn, on, none⟩ = some (.int .i64 n0) := KN.out _ HB1.out 0 (by decide)
  have k1 : w1.cell? ⟨bn, on + 1, none⟩ = some (.int .i64 n1) := KN.out _ HB1.out 1 (by decide)
  have k2 : w1.cell? ⟨bn, on + 2, none⟩ = some (.int .i64 n2) := KN.out _ HB1.out 2 (by decide)
  have k3 : w1.cell? ⟨bn, on + 3, none⟩ = some (.int .i64 n3) := KN.out _ HB1.out 3 (by decide)
  have k4 : w1.cell? ⟨bn, on + 4, none⟩ = some (.int .i64 n4) := KN.out _ HB1.out 4 (by decide)
  have k5 : w1.cell? ⟨bn, on + 5, none⟩ = some (.int .i64 n5) := KN.out _ HB1.out 5 (by decide)
  have k7 : w1.cell? ⟨bn, on + 7, none⟩ = some (.int .i64 n7) := KN.out _ HB1.out 7 (by decide)
  have q0 : w1.cell? ⟨bt, ot, none⟩ = some (.string t0) := KT.out _ HB1.out 0 (by decide)
  have q1 : w1.cell? ⟨bt, ot + 1, none⟩ = some (.string t1') := KT.out _ HB1.out 1 (by decide)
  go_upto_region 4 with (fail)
  go_still_tail 36, (by kernel_rfl)
  change wpList _ _ _ _ _ w1.drew
  have HB2 : Hid (Below w.heap.size w w1.drew) := Lib.hid (below_drewN HB1.out 1)
  have HR2 : Hid (Blk w1.drew (w.heap.size + 1) (opCells opZero) 44) := HR1
  clear a0 k0 k1 k2 k3 k4 k5 k6 k7 q0 q1 HA1 HB1 HR1
  generalize w1.drew = w2 at HB2 HR2 ⊢
  have z0 : ∀ j, w2.cell? ⟨w.heap.size + 1, j, none⟩ = [Value.int .i64 0, .string ⟨#[]⟩, .string ⟨#[]⟩, .int .i64 0, .int .i64 0, .int .i64 0, .int .i64 0, .int .i64 0, .int .u32 0, .int .i64 0][j]? := fun j => HR2.out.cell j
  have f0 : ∀ j, w2.frozen? ⟨w.heap.size + 1, j, none⟩ = false := fun j => HR2.out.frozen j
  go_wp2_with fail
  refine bodyPost_ret (results_row_tmp rfl _ _ (w.heap.size + 1) 44 _ (0, 0) _ rfl (HR2.out.put10 rfl _ _ _ _ _ _ _ _ _ _) Tryd.underlying44 rfl op_size) rfl ?_
  exact ⟨_, 0, HAN.out, rfl, below_put10 HB2.out (by omega) _ _ _ _ _ _ _ _ _ _⟩
end Go.Proofs.YtclalapadpjclaaDoor
