/- LeasesScripts: every script of grants, renewals and drops: the walk. -/
import Derived.Test.YtngpmlolpigeoaaLeaseRel
import Derived.Test.YtngpmlolpigeoaaMake
import Derived.Deep.CutBlock
namespace Go.Proofs.Ytngpmlolpigeoaa
open Go.RowKit Go.Maps
set_option linter.unusedVariables false
set_option linter.unusedSimpArgs false
structure LAct where
  what : Int
  client : Int
  now : Int
  path : ByteArray
def LAct.cells (x : LAct) : List Value := [.int .i64 x.what, .int .i64 x.client, .int .i64 x.now, .string x.path]
structure LAct.Wf (x : LAct) : Prop where
  w1 : -9223372036854775808 ≤ x.what
  w2 : x.what ≤ 9223372036854775807
  p1 : x.path.size ≤ 140737488351232
theorem lact_flat : flat Try.prog 8 39 = some [.int .i64, .int .i64, .int .i64, .str] := by kernel_rfl
theorem opens_lact (w : World) : Opens Try.prog w 39 (fun _ cs (x : LAct) => cs = x.cells ∧ x.Wf) (fun x => vbulk x.cells) :=
  opens_flat lact_flat LAct.cells LAct.Wf fun cs h => by
    obtain ⟨k, d1, rfl, k1, k2, ha⟩ := h.i64_inv
    obtain ⟨n, d2, rfl, n1, n2, hb⟩ := ha.i64_inv
    obtain ⟨m, d3, rfl, m1, m2, hc⟩ := hb.i64_inv
    obtain ⟨s, d4, rfl, s1, hd⟩ := hc.str_inv
    obtain rfl := hd.nil_inv
    exact ⟨⟨k, n, m, s⟩, rfl, k1, k2, s1⟩
def RLActs := RSl 4 40 (fun (_ : World) (cs : List Value) (x : LAct) => cs = x.cells ∧ x.Wf)
theorem opens_lacts (w : World) : Opens Try.prog w 33 RLActs (bulkL fun (x : LAct) => vbulk x.cells) :=
  opens_slice Try.underlying33 (by kernel_rfl) (by kernel_rfl) (by decide) (opens_lact w)
theorem tmod4 (k : Int) (h1 : -9223372036854775808 ≤ k) (h2 : k ≤ 9223372036854775807) :
    ∃ q : Int, (wrap64 (k.tmod 4 + 4)).tmod 4 = q ∧ (q = 0 ∨ q = 1 ∨ q = 2 ∨ q = 3) := by
  have e1 := Int.tmod_lt_of_pos k (b := 4) (by decide)
  have e2 := Int.lt_tmod_of_pos k (b := 4) (by decide)
  have : wrap64 (k.tmod 4 + 4) = k.tmod 4 + 4 := by unfold wrap64; omega
  rw [this, Int.tmod_eq_emod_of_nonneg (by omega)]
  exact ⟨_, rfl, by omega⟩
/-- the law's two tables and the reference's, in one world -/
structure Sc (W w : World) (t m tn mn rt : Nat) (len : Int) (L : List ByteArray) (T : Le.Tab) (v : Value) (l : List LR) : Prop where
  a : TabAt w t m L T
  o : TabAt w tn mn [] ⟨clamp len 1, fun _ => none⟩
  r : RefAt w W.heap.size rt v len l
  d1 : m ≠ tn ∧ m ≠ mn ∧ m ≠ rt
  d2 : rt ≠ t ∧ rt ≠ tn ∧ rt ≠ mn
  d3 : ∀ q, v.ownBlock = some q → q ≠ t ∧ q ≠ m ∧ q ≠ tn ∧ q ≠ mn
  lo : W.heap.size ≤ t ∧ W.heap.size ≤ m ∧ W.heap.size ≤ tn ∧ W.heap.size ≤ mn
  below : Below W.heap.size W w
  rel : LRel T l
  len : T.len = clamp len 1
theorem Sc.fr {W w w' : World} {t m tn mn rt : Nat} {len : Int} {L : List ByteArray} {T : Le.Tab} {v : Value} {l : List LR} (h : Sc W w t m tn mn rt len L T v l) (k : Fr w w' (fun _ => False)) : Sc W w' t m tn mn rt len L T v l :=
  ⟨h.a.fr k (fun e => e) (fun e => e), h.o.fr k (fun e => e) (fun e => e), h.r.frNone k, h.d1, h.d2, h.d3, h.lo, h.below.trans (frNone_below k h.below.size), h.rel, h.len⟩
/-- the table has gone on, the reference's not yet -/
structure Sc2 (W w : World) (t m tn mn rt : Nat) (len : Int) (L : List ByteArray) (T : Le.Tab) (v : Value) (l : List LR) : Prop where
  a : TabAt w t m L T
  o : TabAt w tn mn [] ⟨clamp len 1, fun _ => none⟩
  r : RefAt w W.heap.size rt v len l
  below : Below W.heap.size W w
theorem Sc.tab {W w w' : World} {t m tn mn rt : Nat} {len : Int} {L L' : List ByteArray} {T T' : Le.Tab} {v : Value} {l : List LR} (h : Sc W w t m tn mn rt len L T v l) (k : TabTo w t m L' T' w') : Sc2 W w' t m tn mn rt len L' T' v l :=
  ⟨k.1, h.o.fr k.2 (fun e => h.d1.1 (Eq.symm e)) (fun e => h.d1.2.1 (Eq.symm e)), h.r.fr k.2 (fun e => h.d1.2.2 (Eq.symm e)) (fun q e e2 => (h.d3 q e).2.1 e2), h.below.trans (k.frame h.lo.2.1 h.below.size)⟩
theorem Sc.ref {W w w' w'' : World} {t m tn mn rt : Nat} {len : Int} {L L' : List ByteArray} {T T' : Le.Tab} {v : Value} {l l' : List LR} (h : Sc W w t m tn mn rt len L T v l) (h2 : Sc2 W w' t m tn mn rt len L' T' v l) (k : RefTo w' W.heap.size rt v len l' w'') (hs : w.heap.size ≤ w'.heap.size) (hr : LRel T' l') (hl : T'.len = clamp len 1) : ∃ v', Sc W w'' t m tn mn rt len L' T' v' l' := by
  obtain ⟨v', k1, k2⟩ := k
  have hn : ∀ q, q = t ∨ q = m ∨ q = tn ∨ q = mn → ¬ (q = rt ∨ v.ownBlock = some q) := by
    rintro q hq (e | e)
    · have h1 := h.d1
      have h2 := h.d2
      omega
    · have := h.d3 q e
      omega
  refine ⟨v', h2.a.fr k2.fr (hn t (.inl rfl)) (hn m (.inr (.inl rfl))), h2.o.fr k2.fr (hn tn (.inr (.inr (.inl rfl)))) (hn mn (.inr (.inr (.inr rfl)))), k1, h.d1, h.d2, fun q e => ?_, h.lo, ?_, hr, hl⟩
  · rcases k2.lies q e with e | e
    · exact h.d3 q e
    · have h1 := h2.a.blk.lt
      have h3 := h2.a.map.lt
      have h4 := h2.o.blk.lt
      have h5 := h2.o.map.lt
      omega
  · refine h2.below.trans (k2.fr.below (fun q _ e => ?_) h2.below.size)
    rcases e with rfl | e
    · exact h2.r.lo
    · exact (h2.r.row.own.lt q e).1
theorem lrIns_len (p : ByteArray) (c h : Int) (d : List LR) : (lrIns p c h d).length = d.length + 1 := by
  unfold lrIns
  have := congrArg List.length (List.takeWhile_append_dropWhile (p := lrBefore p) (l := d))
  rw [List.length_append] at this
  rw [List.length_append, List.length_cons]
  omega
theorem Le.ins_len (p : ByteArray) (L : List ByteArray) : (Le.ins p L).length ≤ L.length + 1 := by
  unfold Le.ins
  split
  · omega
  · simp
theorem Sc.frS {W w w' : World} {t m tn mn rt : Nat} {len : Int} {L : List ByteArray} {T : Le.Tab} {v : Value} {l : List LR} {B : Nat} (h : Sc W w t m tn mn rt len L T v l) (k : Fr w w' (fun j => B ≤ j)) (hw : W.heap.size ≤ B) (hb : t < B ∧ m < B ∧ tn < B ∧ mn < B ∧ rt < B ∧ ∀ q, v.ownBlock = some q → q < B) : Sc W w' t m tn mn rt len L T v l :=
  ⟨h.a.fr k (by omega) (by omega), h.o.fr k (by omega) (by omega), h.r.fr k (by omega) (fun q e e2 => by have := hb.2.2.2.2.2 q e; omega), h.d1, h.d2, h.d3, h.lo, h.below.trans (k.below (fun q _ e => by omega) h.below.size), h.rel, h.len⟩
theorem Sc.lt {W w : World} {t m tn mn rt : Nat} {len : Int} {L : List ByteArray} {T : Le.Tab} {v : Value} {l : List LR} (h : Sc W w t m tn mn rt len L T v l) : t < w.heap.size ∧ m < w.heap.size ∧ tn < w.heap.size ∧ mn < w.heap.size ∧ rt < w.heap.size ∧ ∀ q, v.ownBlock = some q → q < w.heap.size :=
  ⟨h.a.blk.lt, h.a.map.lt, h.o.blk.lt, h.o.map.lt, h.r.blk.lt, fun q e => (h.r.row.own.lt q e).2⟩
/-- the tables and the act's own block -/
structure Sb (W w : World) (t m tn mn rt : Nat) (len : Int) (L : List ByteArray) (T : Le.Tab) (v : Value) (l : List LR) (ga : Nat) (cs : List Value) : Prop where
  s : Sc W w t m tn mn rt len L T v l
  b : Blk w ga cs 39
  n1 : ga ≠ m ∧ ga ≠ rt
  n2 : ∀ q, v.ownBlock = some q → q ≠ ga
theorem Sb.new {W w : World} {t m tn mn rt : Nat} {len : Int} {L : List ByteArray} {T : Le.Tab} {v : Value} {l : List LR} (h : Sc W w t m tn mn rt len L T v l) (cs : List Value) : Sb W (w.alloc (.cells cs.toArray 39)) t m tn mn rt len L T v l w.heap.size cs := by
  obtain ⟨_, h1, _, _, h2, h3⟩ := h.lt
  exact ⟨h.fr ((Fr.refl w _).alloc _), Blk.new w cs 39, ⟨by omega, by omega⟩, fun q e => by have := h3 q e; omega⟩
theorem Sb.mid {W w w' : World} {t m tn mn rt : Nat} {len : Int} {L L' : List ByteArray} {T T' : Le.Tab} {v : Value} {l : List LR} {ga : Nat} {cs : List Value} (h : Sb W w t m tn mn rt len L T v l ga cs) (k : TabTo w t m L' T' w') : Blk w' ga cs 39 := h.b.fr k.2 (fun e => h.n1.1 e)
theorem Sb.next {W w w' w'' : World} {t m tn mn rt : Nat} {len : Int} {L L' : List ByteArray} {T T' : Le.Tab} {v : Value} {l l' : List LR} {ga : Nat} {cs : List Value} (h : Sb W w t m tn mn rt len L T v l ga cs) (k : TabTo w t m L' T' w') (r : RefTo w' W.heap.size rt v len l' w'') (hr : LRel T' l') (hl : T'.len = T.len) : ∃ v', Sb W w'' t m tn mn rt len L' T' v' l' ga cs := by
  have hq := h.s.tab k
  have hmid := h.mid k
  obtain ⟨v', k1, k2⟩ := r
  obtain ⟨v2, k3⟩ := h.s.ref hq ⟨v', k1, k2⟩ k.2.size hr (hl.trans h.s.len)
  have hv : v2 = v' := by
    have e1 := k3.r.blk.cell 1
    have e2 := k1.blk.cell 1
    rw [e1] at e2
    exact Option.some.inj e2
  subst hv
  refine ⟨v2, k3, hmid.fr k2.fr ?_, h.n1, fun q e => ?_⟩
  · rintro (e | e)
    · exact h.n1.2 e
    · exact h.n2 ga e rfl
  · rcases k2.lies q e with e | e
    · exact h.n2 q e
    · have := hmid.lt
      omega
theorem Sb.fr {W w w' : World} {t m tn mn rt : Nat} {len : Int} {L : List ByteArray} {T : Le.Tab} {v : Value} {l : List LR} {ga : Nat} {cs : List Value} (h : Sb W w t m tn mn rt len L T v l ga cs) (k : Fr w w' (fun _ => False)) : Sb W w' t m tn mn rt len L T v l ga cs := ⟨h.s.fr k, h.b.fr k (fun e => e), h.n1, h.n2⟩
set_option maxRecDepth 20000 in
set_option maxHeartbeats 8000000 in
theorem leasesScripts_walk (W : World) (len : Int) (w0 : (Lit.int .i64 len).wf = true) (sa : Option Addr) (n sc : Nat) (xs : List LAct) (hR : RLActs W [.slice sa n sc] xs) :
    Calls Try.prog 4 #[.int .i64 len, .slice sa n sc] W fun e w' => e = .returned (.bool true) ∧ Below W.heap.size W w' := by
  obtain ⟨hn, hnc, hcb, hcm, hel⟩ := rsl_get hR
  have HEL := Lib.hid hel
  have HBN : Hid (n ≤ 3518437208781) := Lib.hid (by omega)
  have HNC : Hid (xs.length = n) := Lib.hid hn
  clear hR hn hnc hcb hcm hel w0
  go_enter Try.func4, Try.ntmps4
  go_wp2_with fail
  refine (speaks_any W).mono ?_
  rintro _ w1 ⟨rfl, hb⟩
  have HB := Lib.hid hb
  clear hb
  go_wp2_with fail
  refine (new_c len w1).mono ?_
  intro e w2 h2
  obtain ⟨t, m, rfl, ht, ht1, ht2, htb⟩ := h2
  have HT := Lib.hid ht
  have HTB := Lib.hid (And.intro ht1 (And.intro ht2 htb))
  clear ht ht1 ht2 htb
  go_wp2_with fail
  have hb3 : Blk (w2.alloc (.cells #[.int .i64 len, .slice none 0 0] 37)) w2.heap.size [.int .i64 len, .slice none 0 0] 37 := Blk.new w2 [.int .i64 len, .slice none 0 0] 37
  have hf3 : Fr w2 (w2.alloc (.cells #[.int .i64 len, .slice none 0 0] 37)) (fun _ => False) := (Fr.refl w2 _).alloc _
  have HB3 := Lib.hid hb3
  have HF3 := Lib.hid hf3
  have HS3 : Hid ((w2.alloc (.cells #[.int .i64 len, .slice none 0 0] 37)).heap.size = w2.heap.size + 1) := Lib.hid (by simp)
  clear hb3 hf3
  generalize w2.alloc (.cells #[.int .i64 len, .slice none 0 0] 37) = w3 at HB3 HF3 HS3 ⊢
  have HLT : Hid (t < w2.heap.size ∧ m < w2.heap.size) := Lib.hid ⟨HT.out.blk.lt, HT.out.map.lt⟩
  have HSZ : Hid (W.heap.size ≤ w1.heap.size ∧ w1.heap.size ≤ w2.heap.size) := Lib.hid ⟨HB.out.size, HTB.out.2.2.size⟩
  generalize hrt : w2.heap.size = rt at HB3 HS3 HLT HSZ ⊢
  refine (new_c len w3).mono ?_
  intro e w4 h4
  obtain ⟨tn, mn, rfl, h5, h6, h7, h8⟩ := h4
  have hfr : Fr w3 w4 (fun _ => False) := Fr.of_below h8 fun k h1 h2 => absurd h2 (Nat.not_lt.2 h1)
  have S0 : Hid (Sc W w4 t m tn mn rt len [] ⟨clamp len 1, fun _ => none⟩ (.slice none 0 0) []) := Lib.hid (by
    have hl := HLT.out
    have hs := HSZ.out
    have h3 := HS3.out
    have htb := HTB.out
    refine ⟨(HT.out.fr HF3.out (fun e => e) (fun e => e)).fr hfr (fun e => e) (fun e => e), h5, ⟨HB3.out.fr hfr (fun e => e), Recs.nil _ _ _ _, by omega, (fun q e => by cases e)⟩, by omega, by omega, (fun q e => by cases e), by omega, ?_, LRel.new _, rfl⟩
    refine (((HB.out.trans (htb.2.2.mono hs.1)).trans (frNone_below HF3.out (by rw [hrt]; omega)))).trans (h8.mono (by omega)))
  clear h5 h6 h7 h8 hfr HB3 HF3 HS3 HLT HSZ hrt HB HTB HT
  go_wp2_with fail
  go_loopg [8] n (fun g iv wr => ∃ (k : Nat) (L : List ByteArray) (T : Le.Tab) (v : Value) (l : List LR), iv = .int .i64 k ∧ k ≤ n ∧ g = n - k ∧ L.length ≤ k ∧ l.length ≤ k ∧ Hid (Sc W wr t m tn mn rt len L T v l))
  case atStart => exact ⟨0, [], _, _, [], rfl, Nat.zero_le _, rfl, Nat.le_refl _, Nat.le_refl _, S0⟩
  case round =>
    obtain ⟨k, L, T, v, l, rfl, hk, hg, hL, hl, S⟩ := hrel
    subst hg
    clear S0
    have HK : Hid (L.length ≤ k ∧ l.length ≤ k ∧ k ≤ n) := Lib.hid ⟨hL, hl, hk⟩
    clear hL hl hk
    by_cases h : k < n
    · obtain ⟨x, hx⟩ : ∃ x, xs[k]? = some x := ⟨xs[k]'(by have := HNC.out; omega), List.getElem?_eq_getElem _⟩
      have t1 : decide ((k : Int) < (n : Int)) = true := decide_eq_true (by omega)
      have t1n : decide (k < n) = true := decide_eq_true h
      obtain ⟨b, off, rfl, hbW, hxw, hcell⟩ := HEL.out k x hx
      have hcw : ∀ (i : Nat) (v : Value), x.cells[i]? = some v → wr.cell? ⟨b, off + (k * 4 + i), none⟩ = some v := fun i v hv => by
        rw [← hcell i v hv]
        exact World.cell?_of_block (S.out.below.block b hbW)
      have d0 : wr.cell? ⟨b, off + k * 4, none⟩ = some (.int .i64 x.what) := hcw 0 _ rfl
      have d1 : wr.cell? ⟨b, off + k * 4 + 1, none⟩ = some (.int .i64 x.client) := hcw 1 _ rfl
      have d2 : wr.cell? ⟨b, off + k * 4 + 2, none⟩ = some (.int .i64 x.now) := hcw 2 _ rfl
      have d3 : wr.cell? ⟨b, off + k * 4 + 3, none⟩ = some (.string x.path) := hcw 3 _ rfl
      obtain ⟨q, hq, hqc⟩ := tmod4 x.what hxw.w1 hxw.w2
      have HP : Hid (x.path.size ≤ maxLen) := Lib.hid (Nat.le_trans hxw.p1 (by decide))
      have HLK := Lib.hid h
      clear hcw hcell hx hxw h
      obtain ⟨what, tc, tn', tp⟩ := x
      dsimp only at *
      go_upto_region 8 with (fail)
      have MX := Lib.hid (Sb.new S.out [.int .i64 what, .int .i64 tc, .int .i64 tn', .string tp])
      rw [show ([.int .i64 what, .int .i64 tc, .int .i64 tn', .string tp] : List Value).toArray = #[.int .i64 what, .int .i64 tc, .int .i64 tn', .string tp] from rfl] at MX
      generalize wr.alloc (.cells #[.int .i64 what, .int .i64 tc, .int .i64 tn', .string tp] 39) = wx at MX ⊢
      have i0 : wx.cell? ⟨wr.heap.size, 0, none⟩ = some (.int .i64 what) := MX.out.b.cell 0
      clear d0 d1 d2 d3 S HEL
      generalize wr.heap.size = ga at MX i0 ⊢
      go_upto_block 2 with (fail)
      go_cut [] (fun wc => ∃ (L' : List ByteArray) (T' : Le.Tab) (v' : Value) (l' : List LR), L'.length ≤ k + 1 ∧ l'.length ≤ k + 1 ∧ Hid (Sb W wc t m tn mn rt len L' T' v' l' ga [.int .i64 what, .int .i64 tc, .int .i64 tn', .string tp]))
      case first =>
        have i1 : wx.cell? ⟨ga, 1, none⟩ = some (.int .i64 tc) := MX.out.b.cell 1
        have i2 : wx.cell? ⟨ga, 2, none⟩ = some (.int .i64 tn') := MX.out.b.cell 2
        have i3 : wx.cell? ⟨ga, 3, none⟩ = some (.string tp) := MX.out.b.cell 3
        rcases hqc with rfl | rfl | rfl | rfl
        · go_wp2_with fail
          refine (grant_c t m L T tp HP.out tc tn' _ MX.out.s.a (by have := HK.out; have := HBN.out; unfold maxLen; omega)).mono ?_
          rintro e w5 ⟨rfl, h5⟩
          have H5 := Lib.hid h5
          have M5 := Lib.hid (MX.out.s.tab h5)
          have B5 := Lib.hid (MX.out.mid h5)
          clear h5 i0 i1 i2 i3
          have i1 : w5.cell? ⟨ga, 1, none⟩ = some (.int .i64 tc) := B5.out.cell 1
          have i2 : w5.cell? ⟨ga, 2, none⟩ = some (.int .i64 tn') := B5.out.cell 2
          have i3 : w5.cell? ⟨ga, 3, none⟩ = some (.string tp) := B5.out.cell 3
          go_wp2_with fail
          refine (rgrant_c W.heap.size rt v len l tp tc tn' w5 M5.out.r (by have := HK.out; have := HBN.out; omega)).mono ?_
          rintro e w6 ⟨rfl, h6⟩
          obtain ⟨v6, S6⟩ := MX.out.next H5.out h6 (MX.out.s.rel.grant tp tc _) rfl
          have HS6 := Lib.hid S6
          clear h6 S6 i1 i2 i3
          go_wp2_with fail
          go_meet
          exact ⟨_, _, v6, _, Nat.le_trans (Le.ins_len tp L) (by have := HK.out; omega), by rw [lrIns_len]; have := List.length_filter_le (lrNot tp) l; have := HK.out; omega, HS6⟩
        · go_wp2_with fail
          refine (renew_c t m L T tc tn' _ MX.out.s.a (by have := HK.out; have := HBN.out; omega)).mono ?_
          rintro e w5 ⟨rfl, h5⟩
          have H5 := Lib.hid h5
          have M5 := Lib.hid (MX.out.s.tab h5)
          have B5 := Lib.hid (MX.out.mid h5)
          clear h5 i0 i1 i2 i3
          have i1 : w5.cell? ⟨ga, 1, none⟩ = some (.int .i64 tc) := B5.out.cell 1
          have i2 : w5.cell? ⟨ga, 2, none⟩ = some (.int .i64 tn') := B5.out.cell 2
          have i3 : w5.cell? ⟨ga, 3, none⟩ = some (.string tp) := B5.out.cell 3
          go_wp2_with fail
          refine (rrenew_c W.heap.size rt v len l tc tn' w5 M5.out.r (by have := HK.out; have := HBN.out; omega)).mono ?_
          rintro e w6 ⟨rfl, h6⟩
          obtain ⟨v6, S6⟩ := MX.out.next H5.out h6 (MX.out.s.rel.renew tc _) rfl
          have HS6 := Lib.hid S6
          clear h6 S6 i1 i2 i3
          go_wp2_with fail
          go_meet
          exact ⟨_, _, v6, _, by have := HK.out; omega, by rw [List.length_map]; have := HK.out; omega, HS6⟩
        · go_wp2_with fail
          refine (drop_c t m L T tp HP.out _ MX.out.s.a).mono ?_
          rintro e w5 ⟨rfl, h5⟩
          have H5 := Lib.hid h5
          have M5 := Lib.hid (MX.out.s.tab h5)
          have B5 := Lib.hid (MX.out.mid h5)
          clear h5 i0 i1 i2 i3
          have i1 : w5.cell? ⟨ga, 1, none⟩ = some (.int .i64 tc) := B5.out.cell 1
          have i2 : w5.cell? ⟨ga, 2, none⟩ = some (.int .i64 tn') := B5.out.cell 2
          have i3 : w5.cell? ⟨ga, 3, none⟩ = some (.string tp) := B5.out.cell 3
          go_wp2_with fail
          refine (rdrop_c W.heap.size rt v len l tp w5 M5.out.r (by have := HK.out; have := HBN.out; omega)).mono ?_
          rintro e w6 ⟨rfl, h6⟩
          obtain ⟨v6, S6⟩ := MX.out.next H5.out h6 (MX.out.s.rel.drop tp) rfl
          have HS6 := Lib.hid S6
          clear h6 S6 i1 i2 i3
          go_wp2_with fail
          go_meet
          exact ⟨_, _, v6, _, by have := HK.out; omega, by have := List.length_filter_le (lrNot tp) l; have := HK.out; omega, HS6⟩
        · go_wp2_with fail
          go_meet
          exact ⟨L, T, v, l, by have := HK.out; omega, by have := HK.out; omega, MX⟩
      obtain ⟨L', T', v', l', hL', hl', SB⟩ := hcut
      have HK' : Hid (L'.length ≤ k + 1 ∧ l'.length ≤ k + 1) := Lib.hid ⟨hL', hl'⟩
      clear hL' hl' MX i0 HK
      clear v l L T
      have i3 : wc.cell? ⟨ga, 3, none⟩ = some (.string tp) := SB.out.b.cell 3
      go_wp2_with fail
      refine (holder_c t m L' T' tp HP.out wc SB.out.s.a).mono ?_
      rintro e w5 ⟨rfl, h5⟩
      have S5 := Lib.hid (SB.out.fr h5)
      obtain ⟨cv, ov, hcv, hov⟩ : ∃ cv ov, cv = ((T'.g tp).getD (0, 0)).1 ∧ ov = (T'.g tp).isSome := ⟨_, _, rfl, rfl⟩
      rw [← hcv, ← hov]
      have HCV : Hid ((lastF tp l').getD 0 = cv ∧ (lastF tp l').isSome = ov) := Lib.hid (by rw [SB.out.s.rel.last tp, hcv, hov]; cases T'.g tp <;> exact ⟨rfl, rfl⟩)
      obtain ⟨A, c, hv⟩ := S5.out.s.r.row.slice
      rw [List.length_map] at hv
      subst hv
      clear hcv hov h5 SB i3
      go_wp2_with fail
      go_loopg [12, 13, 14] l'.length (fun g dv isv kv wq => ∃ i : Nat, dv = .int .i64 ((lastF tp (l'.take i)).getD 0) ∧ isv = .bool (lastF tp (l'.take i)).isSome ∧ kv = .int .i64 (i : Int) ∧ i ≤ l'.length ∧ g = l'.length - i ∧ Hid (Sb W wq t m tn mn rt len L' T' (.slice A l'.length c) l' ga [.int .i64 what, .int .i64 tc, .int .i64 tn', .string tp]))
      case atStart => exact ⟨0, rfl, rfl, rfl, Nat.zero_le _, rfl, S5⟩
      case round =>
        obtain ⟨i, rfl, rfl, rfl, hi, hg2, SI⟩ := hrel
        subst hg2
        clear S5
        have HI := Lib.hid hi
        clear hi
        have z1 : wr.cell? ⟨rt, 1, none⟩ = some (.slice A l'.length c) := SI.out.s.r.blk.cell 1
        by_cases hlt : i < l'.length
        · have s1 : decide ((i : Int) < (l'.length : Int)) = true := decide_eq_true (by omega)
          have s1n : decide (i < l'.length) = true := decide_eq_true hlt
          obtain ⟨y, hy⟩ : ∃ y, l'[i]? = some y := ⟨l'[i], List.getElem?_eq_getElem _⟩
          obtain ⟨g2, cap2, hv2, _, _, c0, c1, _, _⟩ := SI.out.s.r.at hy
          cases hv2
          have z1d : ∀ d, (wr.drewN d).cell? ⟨rt, 1, none⟩ = some (.slice (some ⟨g2, 0, none⟩) l'.length c) := fun d => z1
          have c0d : ∀ d, (wr.drewN d).cell? ⟨g2, i * 3, none⟩ = some (.string y.1) := fun d => c0
          have c1d : ∀ d, (wr.drewN d).cell? ⟨g2, i * 3 + 1, none⟩ = some (.int .i64 y.2.1) := fun d => c1
          have i3d : ∀ d, (wr.drewN d).cell? ⟨ga, 3, none⟩ = some (.string tp) := fun d => SI.out.b.cell 3
          have ia : ((i : Int)).toNat = i := by omega
          have ip : (0 : Int) ≤ (i : Int) := by omega
          have iz : (i : Int) < (l'.length : Int) := by omega
          have HLI := Lib.hid hlt
          have hln : lrNot tp y = !(y.1.toList == tp.toList) := rfl
          have HTK : Hid (lastF tp (l'.take (i + 1)) = if (y.1.toList == tp.toList) = true then some y.2.1 else lastF tp (l'.take i)) := Lib.hid (by
            rw [List.take_add_one, hy]
            refine (lastF_snoc tp _ y).trans ?_
            rw [hln]
            cases (y.1.toList == tp.toList) <;> rfl)
          have kw : i + 1 < 4000000000001 := by have := HK'.out; have := HBN.out; have := HLK.out; omega
          generalize lastF tp (l'.take i) = lo at HTK ⊢
          cases hq : (y.1.toList == tp.toList) with
          | true =>
            rw [hq] at HTK
            have hqp : y.1.toList = tp.toList := eq_of_beq hq
            clear hy hlt hln c0 c1
            go_upto_region 23 with (fail)
            go_quiet (fail)
            have SJ := Lib.hid (SI.out.fr ((Fr.refl wr (fun _ => False)).drewN nq))
            have z3 : (wr.drewN nq).cell? ⟨rt, 1, none⟩ = some (.slice (some ⟨g2, 0, none⟩) l'.length c) := z1
            have c3 : (wr.drewN nq).cell? ⟨g2, i * 3 + 1, none⟩ = some (.int .i64 y.2.1) := c1d nq
            clear SI z1 z1d c0d c1d i3d hq hqp
            generalize wr.drewN nq = w6 at SJ z3 c3 ⊢
            go_wp2_with fail
            clear kw
            go_roundg (l'.length - (i + 1))
            case measure => have := HLI.out; omega
            case rel => exact ⟨i + 1, by rw [HTK.out]; rfl, by rw [HTK.out]; rfl, by first | rfl | go_num, by have := HLI.out; omega, rfl, SJ⟩
          | false =>
            rw [hq] at HTK
            have hqp : ¬ (y.1.toList = tp.toList) := fun e => by rw [e, beq_self_eq_true] at hq; cases hq
            clear hy hlt hln c0 c1
            go_upto_region 23 with (fail)
            go_quiet (fail)
            have SJ := Lib.hid (SI.out.fr ((Fr.refl wr (fun _ => False)).drewN nq))
            clear SI z1 z1d c0d c1d i3d hq hqp
            generalize wr.drewN nq = w6 at SJ ⊢
            go_wp2_with fail
            clear kw
            go_roundg (l'.length - (i + 1))
            case measure => have := HLI.out; omega
            case rel => exact ⟨i + 1, by rw [HTK.out]; rfl, by rw [HTK.out]; rfl, by first | rfl | go_num, by have := HLI.out; omega, rfl, SJ⟩
        · have s1 : decide ((i : Int) < (l'.length : Int)) = false := decide_eq_false (by omega)
          have s1n : decide (i < l'.length) = false := decide_eq_false hlt
          have hfull : l'.take i = l' := List.take_of_length_le (by omega)
          rw [hfull, HCV.out.1, HCV.out.2]
          clear hfull hlt
          go_upto_region 25 with (fail)
          have i2 : wr.cell? ⟨ga, 2, none⟩ = some (.int .i64 tn') := SI.out.b.cell 2
          have HLW : Hid (L'.length < 8796093022208 ∧ l'.length < 4000000000000) := Lib.hid (by have := HK'.out; have := HBN.out; have := HLK.out; omega)
          clear z1 HCV
          go_wp2_with fail
          refine (due_c t m L' T' tn' wr SI.out.s.a HLW.out.1).mono ?_
          intro e w6 h6
          obtain ⟨ss, v6, rfl, hd, ho, hf6⟩ := h6
          obtain rfl := SI.out.s.rel.due SI.out.s.len hd
          rw [List.length_map, texts_toB] at ho
          have hnl : ((l'.filter (lrDue (clamp tn' 0) (clamp len 1))).map (·.1)).length ≤ l'.length := by rw [List.length_map]; exact List.length_filter_le _ _
          have HRD := Lib.hid (fun (w : World) (h : RefAt w W.heap.size rt (.slice A l'.length c) len l') => rdue_c W.heap.size rt (.slice A l'.length c) len l' tn' w h HLW.out.2)
          unfold RDuePost at HRD
          generalize (l'.filter (lrDue (clamp tn' 0) (clamp len 1))).map (·.1) = nm at ho hnl HRD
          have HNM : Hid (nm.length < 4000000000000) := Lib.hid (Nat.lt_of_le_of_lt hnl HLW.out.2)
          obtain ⟨A6, c6, rfl⟩ := own_slice ho
          have HO6 := Lib.hid ho
          have SJ := Lib.hid (SI.out.fr hf6)
          have HLT := Lib.hid SI.out.s.lt
          have HSZ : Hid (W.heap.size ≤ wr.heap.size ∧ ga < wr.heap.size) := Lib.hid ⟨SI.out.s.below.size, SI.out.b.lt⟩
          have HF6 : Hid (Fr wr w6 (fun _ => False)) := Lib.hid hf6
          clear hd ho hf6 hnl i2 SI
          generalize wr.heap.size = B at HO6 HLT HSZ
          have i2 : w6.cell? ⟨ga, 2, none⟩ = some (.int .i64 tn') := SJ.out.b.cell 2
          go_upto_region 26 with (fail)
          have hcc : (cv != cv) = false := by simp
          have hoo : (ov != ov) = false := by simp
          go_wp2_with fail
          refine (HRD.out w6 SJ.out.s.r).mono ?_
          intro e w7 h7
          obtain ⟨v7, rfl, ho7, hf7⟩ := h7
          have HO7 := Lib.hid ho7
          have HO67 := Lib.hid (own_fr HO6.out hf7 (fun _ _ e => e))
          have SK := Lib.hid (SJ.out.fr hf7)
          clear ho7 hf7 HO6 SJ i2
          go_wp2_with fail
          refine (texts_same B w6.heap.size _ v7 nm w7 HO67.out HO7.out (by have := HNM.out; omega)).mono ?_
          rintro e w8 ⟨rfl, hf8⟩
          have HO8 := Lib.hid (own_fr HO67.out hf8 (fun _ _ e => e))
          have SL := Lib.hid (SK.out.s.fr hf8)
          clear hf8 HO67 HO7 SK
          go_wp2_with fail
          go_loopg [16] nm.length (fun g kv wq => ∃ (i : Nat) (xs2 : List Value), kv = .int .i64 (i : Int) ∧ i ≤ nm.length ∧ g = nm.length - i ∧ Hid (wq.ownsRow B 9 1 (.slice A6 nm.length c6) nm.length xs2) ∧ Hid (Fr w8 wq (fun j => B ≤ j)))
          case atStart => exact ⟨0, _, rfl, Nat.zero_le _, rfl, HO8, Lib.hid (Fr.refl _ _)⟩
          case round =>
            obtain ⟨i, xs2, rfl, hi, hg2, HX, HFX⟩ := hrel
            subst hg2
            have HI := Lib.hid hi
            clear hi HO8
            by_cases hlt : i < nm.length
            · have s1 : decide ((i : Int) < (nm.length : Int)) = true := decide_eq_true (by omega)
              have s1n : decide (i < nm.length) = true := decide_eq_true hlt
              obtain ⟨g3, cp, hv3, hB3, hl3, hC⟩ := own_some HX.out (by omega)
              cases hv3
              have HB3 := Lib.hid hB3
              have hxl : xs2.length = nm.length * 1 := HX.out.1
              obtain ⟨z, hz⟩ : ∃ z, xs2[i]? = some z := ⟨xs2[i]'(by omega), List.getElem?_eq_getElem _⟩
              have cz : wr.cell? ⟨g3, i, none⟩ = some z := (HX.out.cellAt i (by omega)).trans hz
              have fz : wr.frozen? ⟨g3, i, none⟩ = false := HX.out.frozenAt i
              have HX2 := Lib.hid (HX.out.stored i (.string ⟨#[115, 112, 111, 105, 108, 116]⟩)).1
              have HFX2 := Lib.hid (Fr.setCell HFX.out ⟨g3, i, none⟩ (.string ⟨#[115, 112, 111, 105, 108, 116]⟩) (fun _ => HB3.out))
              have HLI := Lib.hid hlt
              have ia : ((i : Int)).toNat = i := by omega
              have ip : (0 : Int) ≤ (i : Int) := by omega
              have iz : (i : Int) < (nm.length : Int) := by omega
              have kw : i + 1 < 4000000000001 := by have := HNM.out; omega
              clear hC hxl hz hlt hB3 hl3 HX HFX
              go_wp2_with fail
              clear kw
              go_roundg (nm.length - (i + 1))
              case measure => have := HLI.out; omega
              case rel => exact ⟨i + 1, _, by first | rfl | go_num, by have := HLI.out; omega, rfl, HX2, HFX2⟩
            · have s1 : decide ((i : Int) < (nm.length : Int)) = false := decide_eq_false (by omega)
              have s1n : decide (i < nm.length) = false := decide_eq_false hlt
              have SZ := Lib.hid (SL.out.frS HFX.out HSZ.out.1 HLT.out)
              have kw2 : k + 1 < 4000000000001 := by have := HLK.out; have := HBN.out; omega
              clear hlt HX HFX
              go_wp2_with fail
              clear kw2
              go_roundg (n - (k + 1))
              case measure => have := HLK.out; omega
              case rel => exact ⟨k + 1, L', T', _, l', by first | rfl | go_num, by have := HLK.out; omega, rfl, HK'.out.1, HK'.out.2, SZ⟩
    · have t1 : decide ((k : Int) < (n : Int)) = false := decide_eq_false (by have := HK.out; omega)
      have t1n : decide (k < n) = false := decide_eq_false h
      clear h HEL
      go_wp2_with fail
      refine (due_c tn mn [] ⟨clamp len 1, fun _ => none⟩ 1099511627776 wr S.out.o (by decide)).mono ?_
      intro e w6 h6
      obtain ⟨A, cq, rfl, hf⟩ := h6.noneDue (fun x => rfl)
      have HE := Lib.hid (S.out.below.trans (frNone_below hf S.out.below.size))
      clear h6 hf S
      go_wp2_with fail
      go_ret
      exact ⟨rfl, HE.out⟩
end Go.Proofs.Ytngpmlolpigeoaa
