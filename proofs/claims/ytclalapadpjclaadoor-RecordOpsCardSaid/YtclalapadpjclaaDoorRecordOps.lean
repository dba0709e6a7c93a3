/- RecordOps: a change as a message, and back: the walk. -/
import Derived.Test.YtclalapadpjclaaDoorRecOp
import Derived.Test.YtclalapadpjclaaDoorArr
import Derived.Lib.QuietBelow
namespace Rec
structure Chg where
  kind : Int
  client : Int
  quota : Int
  path : ByteArray
  dest : ByteArray
  bc : Int
  ba : Int
  bt : Int
  size : Int
  sum : Int
structure Chg.Wf (x : Chg) : Prop where
  k : -9223372036854775808 ≤ x.kind ∧ x.kind ≤ 9223372036854775807
  c : -9223372036854775808 ≤ x.client ∧ x.client ≤ 9223372036854775807
  q : -9223372036854775808 ≤ x.quota ∧ x.quota ≤ 9223372036854775807
  b0 : -9223372036854775808 ≤ x.bc ∧ x.bc ≤ 9223372036854775807
  b1 : -9223372036854775808 ≤ x.ba ∧ x.ba ≤ 9223372036854775807
  b2 : -9223372036854775808 ≤ x.bt ∧ x.bt ≤ 9223372036854775807
  sz : -9223372036854775808 ≤ x.size ∧ x.size ≤ 9223372036854775807
  sm : 0 ≤ x.sum ∧ x.sum ≤ 4294967295
end Rec
namespace Go.Proofs.YtclalapadpjclaaDoor
open Go.RowKit Go.Deep
set_option linter.unusedVariables false
set_option linter.unusedSimpArgs false
def chgCells (x : Rec.Chg) : List Value := [.int .i64 x.kind, .int .i64 x.client, .int .i64 x.quota, .string x.path, .string x.dest, .int .i64 x.bc, .int .i64 x.ba, .int .i64 x.bt, .int .i64 x.size, .int .u32 x.sum]
theorem chg_flat : flat Tryd.prog 20 42 = some [.int .i64, .int .i64, .int .i64, .str, .str, .int .i64, .int .i64, .int .i64, .int .i64, .int .u32] := by kernel_rfl
theorem Leaves.u32_inv {ks : List Leaf} {cs : List Value} (h : Leaves (.int .u32 :: ks) cs) : ∃ n ds, cs = .int .u32 n :: ds ∧ 0 ≤ n ∧ n ≤ 4294967295 ∧ Leaves ks ds := by
  obtain ⟨v, ds, rfl, ⟨n, rfl, hn⟩, h2⟩ := h.cons_inv
  have : 0 ≤ n ∧ n ≤ 4294967295 := by simpa [Lit.wf, IntKind.min, IntKind.max, IntKind.signed, IntKind.bits] using hn
  exact ⟨n, ds, rfl, this.1, this.2, h2⟩
theorem opens_change (w : World) : Opens Tryd.prog w 42 (fun _ cs (x : Rec.Chg) => cs = chgCells x ∧ x.Wf) (fun x => vbulk (chgCells x)) :=
  opens_flat chg_flat chgCells Rec.Chg.Wf fun cs h => by
    obtain ⟨k, d1, rfl, k1, k2, h⟩ := h.i64_inv
    obtain ⟨c, d2, rfl, c1, c2, h⟩ := h.i64_inv
    obtain ⟨q, d3, rfl, q1, q2, h⟩ := h.i64_inv
    obtain ⟨p, d4, rfl, _, h⟩ := h.str_inv
    obtain ⟨t, d5, rfl, _, h⟩ := h.str_inv
    obtain ⟨b0, d6, rfl, b01, b02, h⟩ := h.i64_inv
    obtain ⟨b1, d7, rfl, b11, b12, h⟩ := h.i64_inv
    obtain ⟨b2, d8, rfl, b21, b22, h⟩ := h.i64_inv
    obtain ⟨s, d9, rfl, s1, s2, h⟩ := h.i64_inv
    obtain ⟨m, d10, rfl, m1, m2, h⟩ := h.u32_inv
    obtain rfl := h.nil_inv
    exact ⟨⟨k, c, q, p, t, b0, b1, b2, s, m⟩, rfl, ⟨k1, k2⟩, ⟨c1, c2⟩, ⟨q1, q2⟩, ⟨b01, b02⟩, ⟨b11, b12⟩, ⟨b21, b22⟩, ⟨s1, s2⟩, ⟨m1, m2⟩⟩
def arr3 (x : Int × Int × Int) : List Value := [.int .i64 x.1, .int .i64 x.2.1, .int .i64 x.2.2]
structure Arr3Wf (x : Int × Int × Int) : Prop where
  a : I64 x.1
  b : I64 x.2.1
  c : I64 x.2.2
theorem opens_arr3 (w : World) : Opens Tryd.prog w 35 (fun _ cs (x : Int × Int × Int) => cs = arr3 x ∧ Arr3Wf x) (fun x => vbulk (arr3 x)) :=
  opens_flat (n := 4) (ks := [.int .i64, .int .i64, .int .i64]) (by kernel_rfl) arr3 Arr3Wf fun cs h => by
    obtain ⟨k, d1, rfl, k1, k2, h⟩ := h.i64_inv
    obtain ⟨c, d2, rfl, c1, c2, h⟩ := h.i64_inv
    obtain ⟨q, d3, rfl, q1, q2, h⟩ := h.i64_inv
    obtain rfl := h.nil_inv
    exact ⟨(k, c, q), rfl, ⟨k1, k2⟩, ⟨c1, c2⟩, ⟨q1, q2⟩⟩
theorem op_of {client call boot : Int} {o0 o : Rec.Op} {err : Int} (h1 : 0 ≤ o0.sum) (h2 : o0.sum ≤ 4294967295) (h : opAns (ofMsg client call boot o0) o err) : o = o0 ∧ err = 0 := by
  rcases h with ⟨n0, n1, n2, n3, n4, n5, n6, n7, n8, t0, t1, _, hN, hT, _, _, ho, he⟩ | ⟨h, _⟩
  · simp only [ofMsg, List.cons.injEq, and_true] at hN hT
    obtain ⟨e0, e1, e2, e3, e4, e5, e6, e7, e8⟩ := hN
    obtain ⟨f0, f1⟩ := hT
    refine ⟨?_, he⟩
    rw [ho]
    cases o0
    simp_all
  · rcases h with h | h | h | ⟨x, hx, h⟩
    · exact absurd rfl h
    · exact absurd rfl h
    · exact absurd rfl h
    · simp [ofMsg] at hx
      omega
set_option maxRecDepth 20000 in
set_option maxHeartbeats 8000000 in
theorem recordOps_walk (W : World) (csa : Array Value) (x : Int × Int × Int) (hx : csa.toList = arr3 x ∧ Arr3Wf x) (csc : Array Value) (y : Rec.Chg) (hy : csc.toList = chgCells y ∧ y.Wf) (csl : Array Value) (l : Rec.Msg) (hl : RLetter W csl.toList l)
    (hL : laidMetH Tryd.prog Rows.recordOpsRow.laid W) :
    Calls Tryd.prog 4 #[.agg csa, .agg csc, .agg csl] W fun e w' => e = .returned (.bool true) ∧ Below W.heap.size W w' := by
  have HS := Lib.hid (shtab_of_laid hL)
  obtain ⟨a0, a1, a2⟩ := x
  obtain ⟨k, cl, q, p, t, b0, b1, b2, sz, sm⟩ := y
  obtain rfl : csa = #[.int .i64 a0, .int .i64 a1, .int .i64 a2] := Array.toList_inj.1 hx.1
  obtain rfl : csc = #[.int .i64 k, .int .i64 cl, .int .i64 q, .string p, .string t, .int .i64 b0, .int .i64 b1, .int .i64 b2, .int .i64 sz, .int .u32 sm] := Array.toList_inj.1 hy.1
  obtain ⟨pn, cn, pt, ct, hcs, vn, vt⟩ := hl.val
  obtain rfl : csl = #[.int .i64 l.k, .int .i64 l.c, .int .i64 l.a, .slice pn l.N.length cn, .slice pt l.T.length ct] := Array.toList_inj.1 hcs
  have HX := Lib.hid hx.2
  have HY := Lib.hid hy.2
  have HWF := Lib.hid hl.wf
  have HNB := Lib.hid hl.nb
  have HTB := Lib.hid hl.tb
  have HN := Lib.hid vn
  have HT := Lib.hid vt
  clear hx hy hcs vn vt hl hL
  go_enter Tryd.func4, Tryd.ntmps4
  have B1 := ((Blk.new W [.int .i64 a0, .int .i64 a1, .int .i64 a2] 35).alloc (.cells #[.int .i64 k, .int .i64 cl, .int .i64 q, .string p, .string t, .int .i64 b0, .int .i64 b1, .int .i64 b2, .int .i64 sz, .int .u32 sm] 42)).alloc (.cells #[.int .i64 l.k, .int .i64 l.c, .int .i64 l.a, .slice pn l.N.length cn, .slice pt l.T.length ct] 25)
  have B2 := (Blk.new (W.alloc (.cells #[.int .i64 a0, .int .i64 a1, .int .i64 a2] 35)) [.int .i64 k, .int .i64 cl, .int .i64 q, .string p, .string t, .int .i64 b0, .int .i64 b1, .int .i64 b2, .int .i64 sz, .int .u32 sm] 42).alloc (.cells #[.int .i64 l.k, .int .i64 l.c, .int .i64 l.a, .slice pn l.N.length cn, .slice pt l.T.length ct] 25)
  have B3 := Blk.new ((W.alloc (.cells #[.int .i64 a0, .int .i64 a1, .int .i64 a2] 35)).alloc (.cells #[.int .i64 k, .int .i64 cl, .int .i64 q, .string p, .string t, .int .i64 b0, .int .i64 b1, .int .i64 b2, .int .i64 sz, .int .u32 sm] 42)) [.int .i64 l.k, .int .i64 l.c, .int .i64 l.a, .slice pn l.N.length cn, .slice pt l.T.length ct] 25
  have B0 := (((Below.refl _ W).alloc (Nat.le_refl _) (.cells #[.int .i64 a0, .int .i64 a1, .int .i64 a2] 35)).alloc (by simp only [World.size_alloc]; omega) (.cells #[.int .i64 k, .int .i64 cl, .int .i64 q, .string p, .string t, .int .i64 b0, .int .i64 b1, .int .i64 b2, .int .i64 sz, .int .u32 sm] 42)).alloc (by simp only [World.size_alloc]; omega) (.cells #[.int .i64 l.k, .int .i64 l.c, .int .i64 l.a, .slice pn l.N.length cn, .slice pt l.T.length ct] 25)
  simp only [World.size_alloc] at B1 B2 B3
  go_upto_region 1 with (fail)
  generalize ((W.alloc (.cells #[.int .i64 a0, .int .i64 a1, .int .i64 a2] 35)).alloc (.cells #[.int .i64 k, .int .i64 cl, .int .i64 q, .string p, .string t, .int .i64 b0, .int .i64 b1, .int .i64 b2, .int .i64 sz, .int .u32 sm] 42)).alloc (.cells #[.int .i64 l.k, .int .i64 l.c, .int .i64 l.a, .slice pn l.N.length cn, .slice pt l.T.length ct] 25) = w0 at B0 B1 B2 B3 ⊢
  have r1 : ∀ n j, (w0.drewN n).cell? ⟨W.heap.size, j, none⟩ = [Value.int .i64 a0, .int .i64 a1, .int .i64 a2][j]? := fun n j => B1.cell j
  have HB1 := Lib.hid B1
  have HB2 := Lib.hid B2
  have HB3 := Lib.hid B3
  have HB0 := Lib.hid B0
  clear B0 B1 B2 B3
  go_quiet (fail)
  clear r1
  go_wp2_with fail
  refine (recSpeaks_any _ (HS.out.below (below_drewN HB0.out _) (Nat.le_refl _))).mono ?_
  rintro e w1 ⟨rfl, hb1⟩
  have HB0' := Lib.hid (below_then (below_drewN HB0.out nq) HB0.out.size hb1)
  have HB1' := Lib.hid ((HB1.out.drewN nq).below hb1 HB1.out.lt)
  have HB2' := Lib.hid ((HB2.out.drewN nq).below hb1 HB2.out.lt)
  have HB3' := Lib.hid ((HB3.out.drewN nq).below hb1 HB3.out.lt)
  clear hb1 HB0 HB1 HB2 HB3
  have r1 : ∀ j, w1.cell? ⟨W.heap.size, j, none⟩ = [Value.int .i64 a0, .int .i64 a1, .int .i64 a2][j]? := fun j => HB1'.out.cell j
  have r2 : ∀ j, w1.cell? ⟨W.heap.size + 1, j, none⟩ = [Value.int .i64 k, .int .i64 cl, .int .i64 q, .string p, .string t, .int .i64 b0, .int .i64 b1, .int .i64 b2, .int .i64 sz, .int .u32 sm][j]? := fun j => HB2'.out.cell j
  go_upto_region 5 with (fail)
  clear r1 r2
  have HO1 := Lib.hid (Blk.new w1 [.int .i64 k, .string p, .string t, .int .i64 cl, .int .i64 b0, .int .i64 b1, .int .i64 b2, .int .i64 sz, .int .u32 sm, .int .i64 q] 44)
  have HA1 := Lib.hid (HB1'.out.alloc (.cells ([.int .i64 k, .string p, .string t, .int .i64 cl, .int .i64 b0, .int .i64 b1, .int .i64 b2, .int .i64 sz, .int .u32 sm, .int .i64 q] : List Value).toArray 44))
  have HC1 := Lib.hid (HB2'.out.alloc (.cells ([.int .i64 k, .string p, .string t, .int .i64 cl, .int .i64 b0, .int .i64 b1, .int .i64 b2, .int .i64 sz, .int .u32 sm, .int .i64 q] : List Value).toArray 44))
  have HD1 := Lib.hid (HB3'.out.alloc (.cells ([.int .i64 k, .string p, .string t, .int .i64 cl, .int .i64 b0, .int .i64 b1, .int .i64 b2, .int .i64 sz, .int .u32 sm, .int .i64 q] : List Value).toArray 44))
  have HW1 := Lib.hid (HB0'.out.alloc HB0'.out.size (.cells ([.int .i64 k, .string p, .string t, .int .i64 cl, .int .i64 b0, .int .i64 b1, .int .i64 b2, .int .i64 sz, .int .u32 sm, .int .i64 q] : List Value).toArray 44))
  clear HB1' HB2' HB3' 
  change Code.wp _ _ _ _ (w1.alloc (.cells ([.int .i64 k, .string p, .string t, .int .i64 cl, .int .i64 b0, .int .i64 b1, .int .i64 b2, .int .i64 sz, .int .u32 sm, .int .i64 q] : List Value).toArray 44))
  have HSZ : Hid (W.heap.size ≤ w1.heap.size) := Lib.hid HB0'.out.size
  generalize w1.alloc (.cells ([.int .i64 k, .string p, .string t, .int .i64 cl, .int .i64 b0, .int .i64 b1, .int .i64 b2, .int .i64 sz, .int .u32 sm, .int .i64 q] : List Value).toArray 44) = w2 at HO1 HA1 HC1 HD1 HW1 ⊢
  generalize w1.heap.size = g3 at HO1 HSZ ⊢
  clear HB0'
  have r1 : ∀ j, w2.cell? ⟨W.heap.size, j, none⟩ = [Value.int .i64 a0, .int .i64 a1, .int .i64 a2][j]? := fun j => HA1.out.cell j
  have r3 : ∀ j, w2.cell? ⟨g3, j, none⟩ = [Value.int .i64 k, .string p, .string t, .int .i64 cl, .int .i64 b0, .int .i64 b1, .int .i64 b2, .int .i64 sz, .int .u32 sm, .int .i64 q][j]? := fun j => HO1.out.cell j
  go_wp2_with fail
  clear r1 r3
  refine (of_c a0 a1 a2 k p t cl b0 b1 b2 sz sm q HY.out.sm.1 HY.out.sm.2 w2).mono ?_
  rintro e w3 ⟨qn, qt, rfl, hv1, hv2, hb3⟩
  have HO3 := Lib.hid (HO1.out.below hb3 HO1.out.lt)
  have HA3 := Lib.hid (HA1.out.below hb3 HA1.out.lt)
  have HC3 := Lib.hid (HC1.out.below hb3 HC1.out.lt)
  have HD3 := Lib.hid (HD1.out.below hb3 HD1.out.lt)
  have HW3 := Lib.hid (below_then HW1.out HW1.out.size hb3)
  have HV1 := Lib.hid hv1
  have HV2 := Lib.hid hv2
  clear hb3 HO1 HA1 HC1 HD1 HW1 hv1 hv2
  unfold msgV
  go_upto_region 6 with (fail)
  have HM4 := Lib.hid (Blk.new w3 [Value.int .i64 1, .int .i64 a0, .int .i64 a1, .slice (some qn) 9 9, .slice (some qt) 2 2] 28)
  have HO4 := Lib.hid (HO3.out.alloc (.cells ([Value.int .i64 1, .int .i64 a0, .int .i64 a1, .slice (some qn) 9 9, .slice (some qt) 2 2] : List Value).toArray 28))
  have HA4 := Lib.hid (HA3.out.alloc (.cells ([Value.int .i64 1, .int .i64 a0, .int .i64 a1, .slice (some qn) 9 9, .slice (some qt) 2 2] : List Value).toArray 28))
  have HC4 := Lib.hid (HC3.out.alloc (.cells ([Value.int .i64 1, .int .i64 a0, .int .i64 a1, .slice (some qn) 9 9, .slice (some qt) 2 2] : List Value).toArray 28))
  have HD4 := Lib.hid (HD3.out.alloc (.cells ([Value.int .i64 1, .int .i64 a0, .int .i64 a1, .slice (some qn) 9 9, .slice (some qt) 2 2] : List Value).toArray 28))
  have HW4 := Lib.hid (HW3.out.alloc HW3.out.size (.cells ([Value.int .i64 1, .int .i64 a0, .int .i64 a1, .slice (some qn) 9 9, .slice (some qt) 2 2] : List Value).toArray 28))
  have HV14 := Lib.hid (HV1.out.alloc (.cells ([Value.int .i64 1, .int .i64 a0, .int .i64 a1, .slice (some qn) 9 9, .slice (some qt) 2 2] : List Value).toArray 28))
  have HV24 := Lib.hid (HV2.out.alloc (.cells ([Value.int .i64 1, .int .i64 a0, .int .i64 a1, .slice (some qn) 9 9, .slice (some qt) 2 2] : List Value).toArray 28))
  clear HO3 HA3 HC3 HD3 HV1 HV2
  have HSZ3 : Hid (W.heap.size ≤ w3.heap.size) := Lib.hid HW3.out.size
  clear HW3
  change Code.wp _ _ _ _ (w3.alloc (.cells ([Value.int .i64 1, .int .i64 a0, .int .i64 a1, .slice (some qn) 9 9, .slice (some qt) 2 2] : List Value).toArray 28))
  generalize w3.alloc (.cells ([Value.int .i64 1, .int .i64 a0, .int .i64 a1, .slice (some qn) 9 9, .slice (some qt) 2 2] : List Value).toArray 28) = w4 at HM4 HO4 HA4 HC4 HD4 HW4 HV14 HV24 ⊢
  generalize w3.heap.size = g4 at HM4 HSZ3 ⊢
  have HMS : Hid (∀ X, Below w4.heap.size w4 X → MsgIs X (.agg #[Value.int .i64 1, .int .i64 a0, .int .i64 a1, .slice (some qn) 9 9, .slice (some qt) 2 2]) (ofMsg a0 a1 a2 ⟨k, p, t, cl, b0, b1, b2, sz, sm, q⟩)) := Lib.hid fun X h => ⟨some qn, 9, some qt, 2, rfl, HV14.out.below h (Nat.le_refl _), HV24.out.below h (Nat.le_refl _)⟩
  have HMW : Hid (ofMsg a0 a1 a2 ⟨k, p, t, cl, b0, b1, b2, sz, sm, q⟩).Wf := Lib.hid ⟨(by decide : (-9223372036854775808 : Int) ≤ 1), (by decide : (1 : Int) ≤ 9223372036854775807), HX.out.a.lo, HX.out.a.hi, HX.out.b.lo, HX.out.b.hi, fun z hz => by
    simp only [ofMsg, List.mem_cons, List.not_mem_nil, or_false] at hz
    rcases hz with rfl | rfl | rfl | rfl | rfl | rfl | rfl | rfl | rfl
    · exact HY.out.k
    · exact HY.out.c
    · exact HY.out.b0
    · exact HY.out.b1
    · exact HY.out.b2
    · exact HY.out.sz
    · have h1 := HY.out.sm; dsimp only at h1; omega
    · exact HY.out.q
    · exact ⟨HX.out.c.lo, HX.out.c.hi⟩⟩
  have r4 : ∀ j, w4.cell? ⟨g4, j, none⟩ = [Value.int .i64 1, .int .i64 a0, .int .i64 a1, .slice (some qn) 9 9, .slice (some qt) 2 2][j]? := fun j => HM4.out.cell j
  go_wp2_with fail
  clear r4
  refine (op_c (ofMsg a0 a1 a2 ⟨k, p, t, cl, b0, b1, b2, sz, sm, q⟩) _ w4 (HMS.out w4 (Below.refl _ _)) HMW.out (by decide : 9 ≤ 140737488355328) (by decide : 2 ≤ 140737488355328) (HS.out.below HW4.out (Nat.le_refl _))).mono ?_
  rintro e w5 ⟨o, err, hans, rfl, hb5⟩
  obtain ⟨rfl, rfl⟩ := op_of (by exact HY.out.sm.1) (by exact HY.out.sm.2) hans
  clear hans
  have HO5 := Lib.hid (HO4.out.below hb5 HO4.out.lt)
  have HA5 := Lib.hid (HA4.out.below hb5 HA4.out.lt)
  have HC5 := Lib.hid (HC4.out.below hb5 HC4.out.lt)
  have HD5 := Lib.hid (HD4.out.below hb5 HD4.out.lt)
  have HM5 := Lib.hid (HM4.out.below hb5 HM4.out.lt)
  have HW5 := Lib.hid hb5
  unfold opCells
  dsimp only
  clear hb5 HO4 HA4 HC4 HD4 HM4
  go_upto_region 7 with (fail)
  have HP6 := Lib.hid (Blk.new w5 [.int .i64 k, .string p, .string t, .int .i64 cl, .int .i64 b0, .int .i64 b1, .int .i64 b2, .int .i64 sz, .int .u32 sm, .int .i64 q] 44)
  have HO6 := Lib.hid (HO5.out.alloc (.cells ([.int .i64 k, .string p, .string t, .int .i64 cl, .int .i64 b0, .int .i64 b1, .int .i64 b2, .int .i64 sz, .int .u32 sm, .int .i64 q] : List Value).toArray 44))
  have HA6 := Lib.hid (HA5.out.alloc (.cells ([.int .i64 k, .string p, .string t, .int .i64 cl, .int .i64 b0, .int .i64 b1, .int .i64 b2, .int .i64 sz, .int .u32 sm, .int .i64 q] : List Value).toArray 44))
  have HC6 := Lib.hid (HC5.out.alloc (.cells ([.int .i64 k, .string p, .string t, .int .i64 cl, .int .i64 b0, .int .i64 b1, .int .i64 b2, .int .i64 sz, .int .u32 sm, .int .i64 q] : List Value).toArray 44))
  have HD6 := Lib.hid (HD5.out.alloc (.cells ([.int .i64 k, .string p, .string t, .int .i64 cl, .int .i64 b0, .int .i64 b1, .int .i64 b2, .int .i64 sz, .int .u32 sm, .int .i64 q] : List Value).toArray 44))
  have HM6 := Lib.hid (HM5.out.alloc (.cells ([.int .i64 k, .string p, .string t, .int .i64 cl, .int .i64 b0, .int .i64 b1, .int .i64 b2, .int .i64 sz, .int .u32 sm, .int .i64 q] : List Value).toArray 44))
  have HW6 := Lib.hid (HW5.out.alloc HW5.out.size (.cells ([.int .i64 k, .string p, .string t, .int .i64 cl, .int .i64 b0, .int .i64 b1, .int .i64 b2, .int .i64 sz, .int .u32 sm, .int .i64 q] : List Value).toArray 44))
  clear HO5 HA5 HC5 HD5 HM5 HW5
  change Code.wp _ _ _ _ (w5.alloc (.cells ([.int .i64 k, .string p, .string t, .int .i64 cl, .int .i64 b0, .int .i64 b1, .int .i64 b2, .int .i64 sz, .int .u32 sm, .int .i64 q] : List Value).toArray 44))
  generalize w5.alloc (.cells ([.int .i64 k, .string p, .string t, .int .i64 cl, .int .i64 b0, .int .i64 b1, .int .i64 b2, .int .i64 sz, .int .u32 sm, .int .i64 q] : List Value).toArray 44) = w6 at HP6 HO6 HA6 HC6 HD6 HM6 HW6 ⊢
  generalize w5.heap.size = g5 at HP6 ⊢
  go_cut [119] from 46 to 119 (fun v wc => (∃ d os, wc = Go.Sort.grow (redrawn w6 d) os) ∧ v = .bool false)
  case first =>
    have e1 : ∀ d os j, (Go.Sort.grow (redrawn w6 d) os).cell? ⟨W.heap.size, j, none⟩ = [Value.int .i64 a0, .int .i64 a1, .int .i64 a2][j]? := fun d os j => (HA6.out.below (below_regrown w6 d os) HA6.out.lt).cell j
    have e2 : ∀ d os j, (Go.Sort.grow (redrawn w6 d) os).cell? ⟨W.heap.size + 1, j, none⟩ = [Value.int .i64 k, .int .i64 cl, .int .i64 q, .string p, .string t, .int .i64 b0, .int .i64 b1, .int .i64 b2, .int .i64 sz, .int .u32 sm][j]? := fun d os j => (HC6.out.below (below_regrown w6 d os) HC6.out.lt).cell j
    have e3 : ∀ d os j, (Go.Sort.grow (redrawn w6 d) os).cell? ⟨g3, j, none⟩ = [Value.int .i64 k, .string p, .string t, .int .i64 cl, .int .i64 b0, .int .i64 b1, .int .i64 b2, .int .i64 sz, .int .u32 sm, .int .i64 q][j]? := fun d os j => (HO6.out.below (below_regrown w6 d os) HO6.out.lt).cell j
    have e4 : ∀ d os j, (Go.Sort.grow (redrawn w6 d) os).cell? ⟨g4, j, none⟩ = [Value.int .i64 1, .int .i64 a0, .int .i64 a1, .slice (some qn) 9 9, .slice (some qt) 2 2][j]? := fun d os j => (HM6.out.below (below_regrown w6 d os) HM6.out.lt).cell j
    have e5 : ∀ d os j, (Go.Sort.grow (redrawn w6 d) os).cell? ⟨g5, j, none⟩ = [Value.int .i64 k, .string p, .string t, .int .i64 cl, .int .i64 b0, .int .i64 b1, .int .i64 b2, .int .i64 sz, .int .u32 sm, .int .i64 q][j]? := fun d os j => (HP6.out.below (below_regrown w6 d os) HP6.out.lt).cell j
    have E1 : Hid (∀ d os, Calls Tryd.prog 10 #[.agg #[Value.int .i64 1, .int .i64 a0, .int .i64 a1, .slice (some qn) 9 9, .slice (some qt) 2 2]] (Go.Sort.grow (redrawn w6 d) os) fun e w'' => e = .returned (.bool true) ∧ ∃ q : Regrown, w'' = Go.Sort.grow (redrawn w6 q.d) q.os) := Lib.hid fun d os =>
      Calls.regrown_of (valid_v _ _ _ (HMS.out _ (HW6.out.trans ((below_regrown w6 d os).mono HW6.out.size))) (by decide : 9 ≤ 140737488355328) (by decide : 2 ≤ 140737488355328) (HS.out.below (below_then HW4.out HW4.out.size (HW6.out.trans ((below_regrown w6 d os).mono HW6.out.size))) (Nat.le_refl _)))
    obtain ⟨bn, on, eqn, _, _⟩ := HV14.out.2.2 (by decide)
    obtain ⟨bt, ot, eqt, _, _⟩ := HV24.out.2.2 (by decide)
    obtain rfl := Option.some.inj eqn
    obtain rfl := Option.some.inj eqt
    have kn : ∀ d os j u, (ints [k, cl, b0, b1, b2, sz, sm, q, a2])[j]? = some u → (Go.Sort.grow (redrawn w6 d) os).cell? ⟨bn, on + j, none⟩ = some u := fun d os j u hu => by
      obtain ⟨b', o', e, _, hc⟩ := (HV14.out.below (HW6.out.trans ((below_regrown w6 d os).mono HW6.out.size)) (Nat.le_refl _)).2.2 (by decide)
      cases e
      exact hc j u hu
    have kt : ∀ d os j u, (strs [p, t])[j]? = some u → (Go.Sort.grow (redrawn w6 d) os).cell? ⟨bt, ot + j, none⟩ = some u := fun d os j u hu => by
      obtain ⟨b', o', e, _, hc⟩ := (HV24.out.below (HW6.out.trans ((below_regrown w6 d os).mono HW6.out.size)) (Nat.le_refl _)).2.2 (by decide)
      cases e
      exact hc j u hu
    have k0 : ∀ d os, (Go.Sort.grow (redrawn w6 d) os).cell? ⟨bn, on, none⟩ = some (.int .i64 k) := fun d os => kn d os 0 _ rfl
    have k7 : ∀ d os, (Go.Sort.grow (redrawn w6 d) os).cell? ⟨bn, on + 7, none⟩ = some (.int .i64 q) := fun d os => kn d os 7 _ rfl
    have k8 : ∀ d os, (Go.Sort.grow (redrawn w6 d) os).cell? ⟨bn, on + 8, none⟩ = some (.int .i64 a2) := fun d os => kn d os 8 _ rfl
    have q0 : ∀ d os, (Go.Sort.grow (redrawn w6 d) os).cell? ⟨bt, ot, none⟩ = some (.string p) := fun d os => kt d os 0 _ rfl
    have q1 : ∀ d os, (Go.Sort.grow (redrawn w6 d) os).cell? ⟨bt, ot + 1, none⟩ = some (.string t) := fun d os => kt d os 1 _ rfl
    clear kn kt
    as_aux_lemma =>
      refine wp_region_quiet_below (by kernel_rfl) (by kernel_rfl) ?_
      repeat (quiet_step (first | with_reducible exact E1.out _ _))
      refine wpQuiet_nil ?_
      intro _ hw'
      obtain ⟨⟨dq, osq⟩, hw''⟩ := hw'
      subst hw''
      go_wp2
      go_meet
      exact ⟨⟨dq, osq, rfl⟩, rfl⟩
  obtain ⟨⟨dq, osq, rfl⟩, rfl⟩ := hcut
  have HD7 := Lib.hid (HD6.out.below (below_regrown w6 dq osq) HD6.out.lt)
  have HW7 : Hid (Below W.heap.size W (Go.Sort.grow (redrawn w6 dq) osq)) := Lib.hid (below_then HW4.out HW4.out.size (HW6.out.trans ((below_regrown w6 dq osq).mono HW6.out.size)))
  clear HD6 HA6 HC6 HM6 HO6 HP6 HW6 HW4 HMS HMW HV14 HV24 HX HY HSZ3 HSZ
  generalize Go.Sort.grow (redrawn w6 dq) osq = w7 at HD7 HW7 ⊢
  have HLM : Hid (∀ X, Below W.heap.size W X → MsgIs X (.agg #[Value.int .i64 l.k, .int .i64 l.c, .int .i64 l.a, .slice pn l.N.length cn, .slice pt l.T.length ct]) l) := Lib.hid fun X h => ⟨pn, cn, pt, ct, rfl, HN.out.below h (Nat.le_refl _), HT.out.below h (Nat.le_refl _)⟩
  have r0 : ∀ j, w7.cell? ⟨W.heap.size + 1 + 1, j, none⟩ = [Value.int .i64 l.k, .int .i64 l.c, .int .i64 l.a, .slice pn l.N.length cn, .slice pt l.T.length ct][j]? := fun j => HD7.out.cell j
  go_wp2_with fail
  clear r0
  refine (message_v l _ w7 (HLM.out _ HW7.out) (by have := HNB.out; omega) (by have := HTB.out; omega)).mono ?_
  rintro e w8 ⟨v8, rfl, hm8, hb8⟩
  have HD8 := Lib.hid (HD7.out.below hb8 HD7.out.lt)
  have HW8 := Lib.hid (below_then HW7.out HW7.out.size hb8)
  have HM8 := Lib.hid hm8
  clear hb8 hm8 HD7 HW7
  go_wp2_with fail
  refine (op_c l v8 w8 HM8.out HWF.out (by have := HNB.out; omega) (by have := HTB.out; omega) (HS.out.below HW8.out (Nat.le_refl _))).mono ?_
  rintro e w9 ⟨o, err, hans, rfl, hb9⟩
  have HD9 := Lib.hid (HD8.out.below hb9 HD8.out.lt)
  have HW9 := Lib.hid (below_then HW8.out HW8.out.size hb9)
  clear hb9 HD8 HM8
  have HD10 := Lib.hid (HD9.out.alloc (.cells (opCells o).toArray 44))
  have HO10 := Lib.hid (Blk.new w9 (opCells o) 44)
  have HW10 := Lib.hid (HW9.out.alloc HW9.out.size (.cells (opCells o).toArray 44))
  clear HD9 HW9 HW8
  rcases hans with ⟨n0, n1, n2, n3, n4, n5, n6, n7, n8, t0, t1, hk, hN, hT, h6a, h6b, rfl, rfl⟩ | ⟨hbad, rfl, rfl⟩
  · obtain ⟨lk, lc, la, lN, lT⟩ := l
    dsimp only at *
    subst hk hN hT
    have e9 : [n0, n1, n2, n3, n4, n5, n6, n7, n8].length = 9 := rfl
    have e2 : [t0, t1].length = 2 := rfl
    rw [e9, e2] at *
    obtain ⟨bn, on, rfl, hbn, _⟩ := HN.out.2.2 (by simp)
    obtain ⟨bt, ot, rfl, hbt, _⟩ := HT.out.2.2 (by simp)
    have hcn : 9 ≤ cn := HN.out.1
    have hct : 2 ≤ ct := HT.out.1
    unfold opCells at *
    dsimp only at *
    go_upto_region 10 with (fail)
    change Code.wp _ _ _ _ (w9.alloc (.cells ([.int .i64 n0, .string t0, .string t1, .int .i64 n1, .int .i64 n2, .int .i64 n3, .int .i64 n4, .int .i64 n5, .int .u32 n6, .int .i64 n7] : List Value).toArray 44))
    generalize w9.alloc (.cells ([.int .i64 n0, .string t0, .string t1, .int .i64 n1, .int .i64 n2, .int .i64 n3, .int .i64 n4, .int .i64 n5, .int .u32 n6, .int .i64 n7] : List Value).toArray 44) = w10 at HD10 HO10 HW10 ⊢
    generalize w9.heap.size = g6 at HO10 ⊢
    have kn : ∀ j u, (ints [n0, n1, n2, n3, n4, n5, n6, n7, n8])[j]? = some u → w10.cell? ⟨bn, on + j, none⟩ = some u := fun j u hu => by
      obtain ⟨b', o', e, _, hc⟩ := (HN.out.below HW10.out (Nat.le_refl _)).2.2 (by simp)
      cases e
      exact hc j u hu
    have kt : ∀ j u, (strs [t0, t1])[j]? = some u → w10.cell? ⟨bt, ot + j, none⟩ = some u := fun j u hu => by
      obtain ⟨b', o', e, _, hc⟩ := (HT.out.below HW10.out (Nat.le_refl _)).2.2 (by simp)
      cases e
      exact hc j u hu
    have z0 : ∀ m j, (w10.drewN m).cell? ⟨W.heap.size + 1 + 1, j, none⟩ = [Value.int .i64 1, .int .i64 lc, .int .i64 la, .slice (some ⟨bn, on, none⟩) 9 cn, .slice (some ⟨bt, ot, none⟩) 2 ct][j]? := fun m j => HD10.out.cell j
    have z1 : ∀ m j, (w10.drewN m).cell? ⟨g6, j, none⟩ = [Value.int .i64 n0, .string t0, .string t1, .int .i64 n1, .int .i64 n2, .int .i64 n3, .int .i64 n4, .int .i64 n5, .int .u32 n6, .int .i64 n7][j]? := fun m j => HO10.out.cell j
    have y0 : ∀ j, w10.cell? ⟨W.heap.size + 1 + 1, j, none⟩ = [Value.int .i64 1, .int .i64 lc, .int .i64 la, .slice (some ⟨bn, on, none⟩) 9 cn, .slice (some ⟨bt, ot, none⟩) 2 ct][j]? := fun j => HD10.out.cell j
    have y1 : ∀ j, w10.cell? ⟨g6, j, none⟩ = [Value.int .i64 n0, .string t0, .string t1, .int .i64 n1, .int .i64 n2, .int .i64 n3, .int .i64 n4, .int .i64 n5, .int .u32 n6, .int .i64 n7][j]? := fun j => HO10.out.cell j
    have k0 : ∀ m, (w10.drewN m).cell? ⟨bn, on, none⟩ = some (.int .i64 n0) := fun m => kn 0 _ rfl
    have k1 : ∀ m, (w10.drewN m).cell? ⟨bn, on + 1, none⟩ = some (.int .i64 n1) := fun m => kn 1 _ rfl
    have k2 : ∀ m, (w10.drewN m).cell? ⟨bn, on + 2, none⟩ = some (.int .i64 n2) := fun m => kn 2 _ rfl
    have k3 : ∀ m, (w10.drewN m).cell? ⟨bn, on + 3, none⟩ = some (.int .i64 n3) := fun m => kn 3 _ rfl
    have k4 : ∀ m, (w10.drewN m).cell? ⟨bn, on + 4, none⟩ = some (.int .i64 n4) := fun m => kn 4 _ rfl
    have k5 : ∀ m, (w10.drewN m).cell? ⟨bn, on + 5, none⟩ = some (.int .i64 n5) := fun m => kn 5 _ rfl
    have k6 : ∀ m, (w10.drewN m).cell? ⟨bn, on + 6, none⟩ = some (.int .i64 n6) := fun m => kn 6 _ rfl
    have k6' : w10.cell? ⟨bn, on + 6, none⟩ = some (.int .i64 n6) := kn 6 _ rfl
    have k7 : ∀ m, (w10.drewN m).cell? ⟨bn, on + 7, none⟩ = some (.int .i64 n7) := fun m => kn 7 _ rfl
    have q0 : ∀ m, (w10.drewN m).cell? ⟨bt, ot, none⟩ = some (.string t0) := fun m => kt 0 _ rfl
    have q1 : ∀ m, (w10.drewN m).cell? ⟨bt, ot + 1, none⟩ = some (.string t1) := fun m => kt 1 _ rfl
    have i1 : decide (0 ≤ n6) = true := decide_eq_true h6a
    have i2 : decide (n6 ≤ 4294967295) = true := decide_eq_true h6b
    clear kn kt
    have HFIN := fun nq => Lib.hid (below_drewN HW10.out nq)
    clear HO10 HD10 HW10
    go_wp2_with fail
    as_aux_lemma =>
      go_quiet (fail)
      go_wp2
      go_ret
      exact ⟨rfl, (HFIN _).out⟩
  · unfold opCells opZero
    dsimp only
    go_upto_region 10 with (fail)
    change Code.wp _ _ _ _ (w9.alloc (.cells (opCells opZero).toArray 44))
    generalize w9.alloc (.cells (opCells opZero).toArray 44) = w10 at HD10 HO10 HW10 ⊢
    generalize w9.heap.size = g6 at HO10 ⊢
    have y0 : ∀ j, w10.cell? ⟨W.heap.size + 1 + 1, j, none⟩ = [Value.int .i64 l.k, .int .i64 l.c, .int .i64 l.a, .slice pn l.N.length cn, .slice pt l.T.length ct][j]? := fun j => HD10.out.cell j
    have y1 : ∀ j, w10.cell? ⟨g6, j, none⟩ = [Value.int .i64 0, .string ⟨#[]⟩, .string ⟨#[]⟩, .int .i64 0, .int .i64 0, .int .i64 0, .int .i64 0, .int .i64 0, .int .u32 0, .int .i64 0][j]? := fun j => HO10.out.cell j
    by_cases hk : l.k = 1
    case neg =>
      have i0 : (l.k == 1) = false := beq_eq_false_iff_ne.2 hk
      clear hk hbad
      go_wp2_with fail
      go_ret
      exact ⟨rfl, HW10.out⟩
    have i0 : (l.k == 1) = true := by rw [hk]; rfl
    by_cases h9 : l.N.length = 9
    case neg =>
      have i1 : ((l.N.length : Int) == 9) = false := beq_eq_false_iff_ne.2 (by omega)
      have i2 : (l.N.length == 9) = false := beq_eq_false_iff_ne.2 h9
      clear hk hbad h9
      go_wp2_with fail
      go_ret
      exact ⟨rfl, HW10.out⟩
    by_cases h2 : l.T.length = 2
    case neg =>
      have i1 : ((l.N.length : Int) == 9) = true := by rw [h9]; rfl
      have i2 : (l.N.length == 9) = true := by rw [h9]; rfl
      have i3 : ((l.T.length : Int) == 2) = false := beq_eq_false_iff_ne.2 (by omega)
      have i4 : (l.T.length == 2) = false := beq_eq_false_iff_ne.2 h2
      clear hk hbad h9 h2
      go_wp2_with fail
      go_ret
      exact ⟨rfl, HW10.out⟩
    obtain ⟨x, hx, hbd⟩ : ∃ x, l.N[6]? = some x ∧ (x < 0 ∨ 4294967295 < x) := by
      rcases hbad with h | h | h | h
      · exact absurd hk h
      · exact absurd h9 h
      · exact absurd h2 h
      · exact h
    obtain ⟨bn, on, rfl, hbn, cx⟩ := (HN.out.below HW10.out (Nat.le_refl _)).at1 (ints_get hx)
    have hcn : 9 ≤ cn := by have := HN.out.1; omega
    rw [h9, h2] at y0
    clear hbad hx hbn
    by_cases hlo : x < 0
    · have i5 : decide (0 ≤ x) = false := decide_eq_false (by omega)
      clear hlo hbd
      go_wp2_with fail
      go_ret
      exact ⟨rfl, HW10.out⟩
    · have i5 : decide (0 ≤ x) = true := decide_eq_true (by omega)
      have i6 : decide (x ≤ 4294967295) = false := decide_eq_false (by omega)
      clear hlo hbd
      go_wp2_with fail
      go_ret
      exact ⟨rfl, HW10.out⟩
end Go.Proofs.YtclalapadpjclaaDoor
