/- The walk of TopAskedOnce. -/
import Derived.Test.YtiaknanflgdmoaaAskI
import Derived.Test.YtiaknanflgdmoaaMake
import Derived.Deep.CutBlock
namespace Go.Proofs.Ytiaknanflgdmoaa
open Go.RowKit Go.Maps
set_option linter.unusedVariables false
set_option linter.unusedSimpArgs false
theorem opens_choices (w : World) : Opens Try.prog w 22 RInts (bulkL fun x => vbulk [.int .i64 x]) := opens_ints Try.underlying22 (by kernel_rfl) (by kernel_rfl) (by kernel_rfl) w
theorem txt1 : txt (dec 1) = ⟨#[49]⟩ := by rw [dec_small (by decide)]; rfl
theorem at_facts (k len : Nat) (hk : k < 9223372036854775808) (hl : 0 < len) (hl2 : len ≤ 65536) : ∃ q r : Nat, (k : Int).tdiv 5 = (q : Int) ∧ (k : Int) / 5 = (q : Int) ∧ wrap64 (q : Int) = (q : Int) ∧ (q : Int).tmod (len : Int) = (r : Int) ∧ r < len := by
  refine ⟨k / 5, k / 5 % len, ?_, by omega, by unfold wrap64; omega, ?_, Nat.mod_lt _ hl⟩
  · rw [Int.tdiv_eq_ediv_of_nonneg (by omega)]; omega
  · rw [Int.tmod_eq_emod_of_nonneg (by omega)]; simp
theorem wrap_next (n : Nat) (h : n < 1152921504606846976) : IntKind.i64.wrap ((n : Int) + 1) = ((n + 1 : Nat) : Int) := by rw [IntKind.wrap_i64]; omega
theorem wrap64_next (n : Nat) (h : n < 1152921504606846976) : wrap64 ((n : Int) + 1) = ((n + 1 : Nat) : Int) := by unfold wrap64; omega
theorem ne_lit0 {q : Nat} (h : ¬ q = 0) : ((q : Int) == 0) = false := by simp; omega
theorem ne_lit1 {q : Nat} (h : ¬ q = 1) : ((q : Int) == 1) = false := by simp; omega
theorem ge_two {q : Nat} (h : ¬ q = 0) (h2 : ¬ q = 1) : decide (q < 2) = false := by simp; omega
theorem le_next {a b : Nat} (h : a ≤ b) : a ≤ b + 1 := by omega
theorem lt_big {c i sl : Nat} (h : c ≤ i + 1) (h2 : i < sl) (h3 : sl * 8 ≤ 140737488351232) : c < 1000000000000000000 := by omega
theorem lt_big2 {c i sl : Nat} (h : c ≤ i) (h2 : i < sl) (h3 : sl * 8 ≤ 140737488351232) : c < 1152921504606846976 := by omega
theorem nd_le1 (i : Nat) : 4 * i ≤ 4 * i + 2 := by omega
theorem q_le1 (i : Nat) : 4 * i + 1 ≤ 4 * i + 3 := by omega
theorem q_le2 (i : Nat) : 4 * i + 1 + 1 ≤ 4 * i + 3 := by omega
theorem sent_lt1 {s : Int} {i sl : Nat} (h : s ≤ ((4 * i + 1 : Nat) : Int)) (h2 : i < sl) (h3 : sl * 8 ≤ 140737488351232) : s < 4611686018427387904 := by omega
theorem lt_bigx {x c i sl : Nat} (h0 : x ≤ c) (h : c ≤ i + 1) (h2 : i < sl) (h3 : sl * 8 ≤ 140737488351232) : x < 1000000000000000000 := by omega
theorem lt_bigy {x l c i sl : Nat} (h0 : x ≤ l) (h1 : l ≤ c) (h : c ≤ i + 1) (h2 : i < sl) (h3 : sl * 8 ≤ 140737488351232) : x < 1000000000000000000 := by omega
theorem lt_max {i sl : Nat} (h2 : i < sl) (h3 : sl * 8 ≤ 140737488351232) : 4 * i < maxLen := by unfold maxLen; omega
theorem lt_max1 {i sl : Nat} (h2 : i < sl) (h3 : sl * 8 ≤ 140737488351232) : 4 * i + 1 < maxLen := by unfold maxLen; omega
theorem nd_le3 (i : Nat) : 4 * i + 1 ≤ 4 * i + 2 := by omega
theorem rtx_tail (x : Nat) : (rtx x).extract 1 ((dec x).length + 1) = txt (dec x) := by
  apply ByteArray.ext
  unfold rtx txt
  rw [ByteArray.data_extract]
  apply Array.ext'
  simp
theorem lt_big3 {c i sl : Nat} (h : c ≤ i + 1) (h2 : i < sl) (h3 : sl * 8 ≤ 140737488351232) : c < 1152921504606846976 := by omega
theorem lt_big4 {c i sl : Nat} (h : c ≤ i + 1) (h2 : i < sl) (h3 : sl * 8 ≤ 140737488351232) : c + 1 < 1000000000000000000 := by omega
theorem sent_lt {s : Int} {i sl : Nat} (h : s ≤ ((4 * i + 3 : Nat) : Int)) (h2 : i < sl) (h3 : sl * 8 ≤ 140737488351232) : s < 4611686018427387904 := by omega
theorem nd_le2 (i : Nat) : 4 * i + 2 ≤ 4 * (i + 1) := by omega
theorem q_le3 (i : Nat) : 4 * i + 3 + 1 ≤ 4 * (i + 1) + 1 := by omega
theorem q_le4 (i : Nat) : 4 * i + 3 ≤ 4 * (i + 1) + 1 := by omega
theorem mod_facts (k : Nat) : ∃ q : Nat, (k : Int).tmod 5 = (q : Int) ∧ (k : Int) % 5 = (q : Int) ∧ q < 5 := by
  refine ⟨k % 5, ?_, by omega, Nat.mod_lt _ (by decide)⟩
  rw [Int.tmod_eq_emod_of_nonneg (by omega)]; omega
theorem five (q : Nat) (h : q < 5) (h2 : ¬ q < 2) : q = 2 ∨ q = 3 ∨ q = 4 := by omega
theorem Trio.mono {W w : World} {b k : Nat} {v : Value} {s : NS} {bc : Nat} {cl : Cl} {bd : Nat} {mv : Value} {nd : Nat} {f : View} (h : Trio W w b k v s bc cl bd mv nd f) {m : Nat} (hm : nd ≤ m) : Trio W w b k v s bc cl bd mv m f :=
  ⟨h.my, h.ca, h.de.mono hm, h.hbc, h.hbd, h.hmv⟩
theorem neg_facts (x : Int) (h1 : -9223372036854775808 ≤ x) (h : x < 0) : ∃ k : Nat, -(x + 1) = (k : Int) ∧ k < 9223372036854775808 := ⟨(-(x + 1)).toNat, by omega, by omega⟩
set_option maxRecDepth 20000 in
set_option maxHeartbeats 16000000 in
theorem topAskedOnce_walk (W : World) (sa : Option Addr) (sl sc : Nat) (xs : List Int) (hR : RInts W [.slice sa sl sc] xs) :
    Calls Try.prog 3 #[.slice sa sl sc] W fun e w' => e = .returned (.bool true) ∧ Below W.heap.size W w' := by
  obtain ⟨hn, hnc, hcb, hcm, hel⟩ := rsl_get hR
  have HEL := Lib.hid hel
  have hsl : sl * 8 ≤ 140737488351232 := by omega
  clear hR hel hcb hcm
  go_enter Try.func3, Try.ntmps3
  go_wp2_with fail
  refine (My.new W W 2 (Below.refl _ W)).mono ?_
  rintro e w1 ⟨rfl, m1, hb1⟩
  have M1 := Lib.hid m1
  have HB1 := Lib.hid hb1
  clear m1 hb1
  have hsz0 : W.heap.size ≤ w1.heap.size := HB1.out.size
  have hs1 := M1.out.is.lt
  go_wp2_with fail
  refine (newCaller_any 2 9 w1).mono ?_
  rintro e w2 ⟨rfl, hw2⟩
  have M2 : Hid (My W w2 (W.heap.size + 1) W.heap.size 0 (.slice none 0 0) (newNS 2)) := Lib.hid (by rw [hw2]; exact M1.out.alloc _)
  have C2 : Hid (CallerAt w2 w1.heap.size ⟨clamp 2 1, clamp 9 1, 0, false, 0, 0⟩) := Lib.hid (by rw [hw2]; exact Blk.new _ _ _)
  have HB2 : Hid (w1.heap.size < w2.heap.size) := Lib.hid (by rw [hw2]; simp)
  clear hw2
  go_upto_region 4 with (fail)
  have D3 := Lib.hid (DeskAt.new w2)
  have T3 : Hid (Trio W (w2.alloc (.cells #[.map none] 29)) (W.heap.size + 1) W.heap.size (.slice none 0 0) (newNS 2) w1.heap.size ⟨clamp 2 1, clamp 9 1, 0, false, 0, 0⟩ w2.heap.size (.map none) 0 (fun _ => none)) :=
    Lib.hid ⟨M2.out.alloc _, C2.out.alloc _, D3.out, hsz0, by have := HB2.out; omega, fun j e => by (cases e)⟩
  generalize w2.alloc (.cells #[.map none] 29) = w3 at T3 ⊢
  clear M2 C2 D3 M1 HB1 hs1
  generalize w1.heap.size = bc at *
  generalize w2.heap.size = bd at *
  generalize hbb : W.heap.size + 1 = b at *
  generalize hkk : W.heap.size = kb at T3
  have I3 := Lib.hid AInv.first
  go_wp2_with fail
  refine (start_any bc _ 0 w3 T3.out.ca).mono ?_
  rintro e w4 ⟨rfl, c4⟩
  have T4 := Lib.hid (T3.out.caller c4)
  rw [show ((Cl.start ⟨clamp 2 1, clamp 9 1, 0, false, 0, 0⟩ 0).call) = 1 by show wrap64 (0 + 1) = _; unfold wrap64; omega]
  have hu4 : (Cl.start ⟨clamp 2 1, clamp 9 1, 0, false, 0, 0⟩ 0).under = true := rfl
  clear c4 T3
  generalize Cl.start ⟨clamp 2 1, clamp 9 1, 0, false, 0, 0⟩ 0 = cl at T4 I3 hu4 ⊢
  rcases hop : (newNS 2).send 0 1 (txt (dec 1)) with ⟨s5, i5, j5⟩
  have I5 := Lib.hid (I3.out.sendCall hop (Nat.le_refl _) (Nat.le_refl _))
  rw [txt1] at hop
  have HOP := Lib.hid hop
  clear hop I3
  go_wp2_with fail
  refine (T4.out.my.send 0 1 _ (by show (0 : Int) < _; decide) HOP.out).mono ?_
  rintro e w5 ⟨rfl, v5, m5, r5⟩
  have T5 := Lib.hid (T4.out.net m5 r5)
  clear m5 r5 T4 HOP
  generalize newNS 2 = s0 at *
  have HU5 := Lib.hid hu4
  clear hu4
  go_wp2_with fail
  go_loopg [6, 7, 8] sl (fun g nv lv iv wr => ∃ (i now last call : Nat) (v : Value) (s : NS) (cl : Cl) (mv : Value) (f : View), nv = .int .i64 now ∧ lv = .int .i64 last ∧ iv = .int .i64 i ∧ i ≤ sl ∧ now ≤ i ∧ call ≤ i + 1 ∧ g = sl - i ∧ Hid (Trio W wr b kb v s bc cl bd mv (4 * i) f) ∧ Hid (AInv s cl f call last (4 * i + 1)) ∧ Hid (cl.under = true))
  case atStart => exact ⟨0, 0, 0, 1, v5, s5, cl, _, _, rfl, rfl, rfl, Nat.zero_le _, Nat.le_refl _, Nat.le_refl _, rfl, T5, I5, HU5⟩
  case round =>
    obtain ⟨i, now, last, call, v, s, cl, mv, f, rfl, rfl, rfl, hi, hnow, hcall, hg, TT, II, HU⟩ := hrel
    subst hg
    clear T5 I5 HU5
    by_cases h : i < sl
    · obtain ⟨x, hx⟩ : ∃ x, xs[i]? = some x := ⟨xs[i], List.getElem?_eq_getElem (by omega)⟩
      obtain ⟨bx, off, rfl, hbW, hxw, hcell⟩ := HEL.out i x hx
      have hi0 : (0 : Int) ≤ (i : Int) := by omega
      have d0 : wr.cell? ⟨bx, off + i, none⟩ = some (.int .i64 x) := by
        have := hcell 0 (.int .i64 x) rfl
        rw [Nat.mul_one, Nat.add_zero] at this
        rw [← this]
        exact World.cell?_of_block (TT.out.my.below.block bx hbW)
      have hx1 := hxw.lo
      have hx2 := hxw.hi
      clear hcell hx hxw HEL hbW
      go_upto_if 42 with (fail)
      go_cut [9] (fun kv wc => wr = wc ∧ ∃ k : Nat, kv = .int .i64 k ∧ k < 9223372036854775808)
      case first =>
        by_cases hx0 : x < 0
        · go_wp2
          go_meet
          exact ⟨rfl, (-(x + 1)).toNat, val_int (by omega), by omega⟩
        · go_wp2
          go_meet
          exact ⟨rfl, x.toNat, val_int (by omega), by omega⟩
      obtain ⟨rfl, k, rfl, hk63⟩ := hcut
      clear d0 hx1 hx2
      go_wp2_with fail
      refine (TT.out.my.flying).mono ?_
      rintro e w6 ⟨A6, c6, rfl, -, -, hb6⟩
      have T6 := Lib.hid (TT.out.fr hb6)
      clear hb6 TT
      have hlm : s.fly.length ≤ 65536 := T6.out.my.is.ok.len
      go_upto_if 50 with (fail)
      go_cut [11] (fun av wc => w6 = wc ∧ ∃ ix : Nat, av = .int .i64 ix ∧ (s.fly.length = 0 ∧ ix = 0 ∨ ix < s.fly.length))
      case first =>
        generalize s.fly.length = len at *
        by_cases hl0 : 0 < len
        · have hl1 : ((len : Int) == 0) = false := by simp; omega
          have hl2 : (0 : Int) < (len : Int) := by omega
          obtain ⟨q, r, q1, q2, q3, q4, hll⟩ := at_facts k len hk63 hl0 hlm
          have HLL := Lib.hid hll
          clear hll hk63 hlm hl0
          go_wp2
          go_meet
          exact ⟨by first | rfl | trivial, r, by first | rfl | trivial, .inr HLL.out⟩
        · obtain rfl : len = 0 := by omega
          go_wp2
          go_meet
          exact ⟨by first | rfl | trivial, 0, by first | rfl | trivial, .inl (by first | exact ⟨rfl, rfl⟩ | trivial)⟩
      obtain ⟨rfl, ix, rfl, hat⟩ := hcut
      go_wp2_with fail
      refine (call_any bc cl w6 T6.out.ca).mono ?_
      rintro e w7 ⟨rfl, n7, rfl⟩
      rw [II.out.ccall, HU.out]
      have T7 := Lib.hid (T6.out.drewN n7)
      clear T6
      generalize w6.drewN n7 = w7 at T7 ⊢
      obtain ⟨q5, p1, p2, p3⟩ := mod_facts k
      have HP3 := Lib.hid p3
      have HAT := Lib.hid hat
      have HSL := Lib.hid hsl
      have HCA := Lib.hid hcall
      have HNW := Lib.hid hnow
      have HS := Lib.hid (show s.sent < 4611686018427387904 by have := II.out.sent; omega)
      clear p3 hk63 hat hlm hsl hcall hnow
      go_upto_block 2 with (fail)
      clear p1 p2
      go_cut [6, 7] (fun nv lv wc => ∃ (now' last' : Nat) (v : Value) (s : NS) (cl : Cl) (mv : Value) (f : View), nv = .int .i64 now' ∧ lv = .int .i64 last' ∧ now' ≤ i + 1 ∧ Hid (Trio W wc b kb v s bc cl bd mv (4 * i + 2) f) ∧ Hid (AInv s cl f call last' (4 * i + 3)))
      case first =>
        go_upto_if 73 with (fail)
        go_cut [73] (fun v wc => w7 = wc ∧ v = .bool (decide (q5 < 2)))
        case first =>
          by_cases e0 : q5 = 0
          · subst e0
            go_wp2
            go_meet
            exact ⟨rfl, rfl⟩
          · have e1 : ((q5 : Int) == 0) = false := ne_lit0 e0
            by_cases e2 : q5 = 1
            · subst e2
              go_wp2
              go_meet
              exact ⟨rfl, rfl⟩
            · have e3 : ((q5 : Int) == 1) = false := ne_lit1 e2
              have E4 := Lib.hid (ge_two e0 e2)
              go_wp2
              go_meet
              exact ⟨rfl, by rw [E4.out]⟩
        obtain ⟨rfl, rfl⟩ := hcut
        by_cases h2 : q5 < 2
        · rw [decide_eq_true h2]
          clear h2
          have HS' := HS
          by_cases hf : s.fly = []
          · as_aux_lemma =>
              have hix : ix = 0 := by
                rcases HAT.out with ⟨_, e⟩ | e
                · exact e
                · rw [hf] at e; exact absurd e (Nat.not_lt_zero _)
              have HOP : Hid (s.deliver (ix : Int) = (s, noLetter, 2)) := Lib.hid (by rw [hix]; exact AInv.deliver0 hf)
              have hl1 : ¬ (0 : Int) < (s.fly.length : Int) := by rw [hf]; exact fun e => absurd e (by decide)
              have hl3 : decide ((0 : Int) < (s.fly.length : Int)) = false := decide_eq_false hl1
              have hl4 : ¬ 0 < s.fly.length := by rw [hf]; exact fun e => absurd e (by decide)
              have hl5 : decide (0 < s.fly.length) = false := decide_eq_false hl4
              clear hf hix
              go_wp2_with fail
              refine (T7.out.my.deliver ix HOP.out).mono ?_
              rintro e w8 ⟨rfl, v8, m8, r8⟩
              have T8 := Lib.hid ((T7.out.net m8 r8).alloc (.cells #[.int .i64 noLetter.num, .int .i64 noLetter.src, .int .i64 noLetter.dst, .string noLetter.txt] 39))
              clear m8 r8
              go_wp2_with fail
              go_meet
              exact ⟨now, last, _, _, _, _, _, rfl, rfl, le_next HNW.out, Lib.hid (T8.out.mono (nd_le1 i)), Lib.hid (II.out.mono (q_le1 i))⟩
          · have hix : ix < s.fly.length := by
              rcases HAT.out with ⟨e, _⟩ | e
              · exact absurd (List.eq_nil_of_length_eq_zero e) hf
              · exact e
            obtain ⟨s8, l, hop, hgl, I8⟩ := II.out.deliver hix
            have HOP := Lib.hid hop
            have HI8 := Lib.hid I8
            have hl1 : (0 : Int) < (s.fly.length : Int) := by omega
            have hl2 : ((s.fly.length : Int) == 0) = false := by simp; exact hf
            have hl3 : decide ((0 : Int) < (s.fly.length : Int)) = true := decide_eq_true hl1
            have hl5 : decide (0 < s.fly.length) = true := decide_eq_true (Int.ofNat_lt.1 hl1)
            have HS8 : Hid (s8.sent < 4611686018427387904) := Lib.hid (sent_lt1 I8.sent h HSL.out)
            clear hop hix hf I8 HAT
            go_wp2_with fail
            refine (T7.out.my.deliver ix HOP.out).mono ?_
            rintro e w8 ⟨rfl, v8, m8, r8⟩
            have T8 := Lib.hid (T7.out.net m8 r8)
            clear m8 r8
            go_upto_region 26 with (fail)
            have HX := Lib.hid (Blk.new w8 [.int .i64 l.num, .int .i64 l.src, .int .i64 l.dst, .string l.txt] 39)
            rw [show ([.int .i64 l.num, .int .i64 l.src, .int .i64 l.dst, .string l.txt] : List Value).toArray = #[.int .i64 l.num, .int .i64 l.src, .int .i64 l.dst, .string l.txt] from rfl] at HX
            have TX := Lib.hid (T8.out.alloc (.cells #[.int .i64 l.num, .int .i64 l.src, .int .i64 l.dst, .string l.txt] 39))
            clear T8
            generalize w8.heap.size = gl at HX ⊢
            generalize w8.alloc (.cells #[.int .i64 l.num, .int .i64 l.src, .int .i64 l.dst, .string l.txt] 39) = wx at TX HX ⊢
            have z2 : wx.cell? ⟨gl, 2, none⟩ = some (.int .i64 l.dst) := HX.out.cell 2
            have z3 : wx.cell? ⟨gl, 3, none⟩ = some (.string l.txt) := HX.out.cell 3
            rcases hgl with ⟨hd, x, hx1, hx2, ht⟩ | ⟨hd, x, hx1, hx2, ht⟩
            · rw [hd] at z2
              rw [ht] at z3 HX
              have HX2 := Lib.hid hx2
              have HX1 := Lib.hid hx1
              have HXB := Lib.hid (lt_bigx hx2 HCA.out h HSL.out)
              clear hd ht hx1 hx2
              go_wp2_with fail
              refine (value_c x HXB.out wx).mono ?_
              rintro e w9 ⟨rfl, rfl⟩
              by_cases hnew : last < x
              · as_aux_lemma =>
                  obtain ⟨a1, a2, I9⟩ := HI8.out.askNew hnew HX2.out
                  have HA := Lib.hid (ask_any bd mv (4 * i) f 1 x (by decide) wx TX.out.de (lt_max h HSL.out))
                  rw [a1] at HA
                  have HA2 := Lib.hid a2
                  have HI9 := Lib.hid I9
                  have hn1 : ¬ (x : Int) ≤ (last : Int) := fun e => absurd (Int.ofNat_le.1 e) (Nat.not_le.2 hnew)
                  have hn2 : decide ((x : Int) ≤ (last : Int)) = false := decide_eq_false hn1
                  have hn3 : ¬ x ≤ last := Nat.not_le.2 hnew
                  have hn4 : decide (x ≤ last) = false := decide_eq_false hn3
                  have hta : (⟨#[114]⟩ : ByteArray) ++ txt (dec x) = rtx x := txt_app 114 (dec x)
                  have hS : (txt (dec x)).size ≤ 18 := by rw [txt_size]; exact dec_len x 17 HXB.out
                  clear a1 a2 I9 hnew
                  generalize txt (dec x) = td at *
                  go_wp2_with fail
                  refine HA.out.mono ?_
                  rintro e w10 ⟨rfl, mv10, d10, r10⟩
                  have T10 := Lib.hid (TX.out.desk d10 r10)
                  have HX10 := Lib.hid (HX.out.fr r10.fr (TX.out.de.offB (by decide) HX.out))
                  clear HA z2 z3 d10 r10
                  have z3 : w10.cell? ⟨gl, 3, none⟩ = some (.string td) := HX10.out.cell 3
                  have HR := Lib.hid (reply_any bd mv10 (4 * i + 1) _ 1 x (by decide) (rtx x) w10 T10.out.de (lt_max1 h HSL.out))
                  rw [HA2.out] at HR
                  go_wp2_with fail
                  refine HR.out.mono ?_
                  rintro e w11 ⟨rfl, mv11, d11, r11⟩
                  have T11 := Lib.hid (T10.out.desk d11 r11)
                  clear HR z3 d11 r11 hS hta
                  rcases hop : s8.send 1 0 (rtx x) with ⟨s', i12, j12⟩
                  have I12 := Lib.hid (HI9.out.sendRep hop HX1.out (Nat.le_refl _))
                  have HOP2 := Lib.hid hop
                  clear hop
                  go_wp2_with fail
                  refine (T11.out.my.send 1 0 _ HS8.out HOP2.out).mono ?_
                  rintro e w12 ⟨rfl, v12, m12, r12⟩
                  have T12 := Lib.hid (T11.out.net m12 r12)
                  clear m12 r12
                  go_wp2_with fail
                  go_meet
                  exact ⟨now, x, _, _, _, _, _, rfl, rfl, le_next HNW.out, T12, Lib.hid (I12.out.mono (q_le2 i))⟩
              · as_aux_lemma =>
                  have hask := HI8.out.askOld HX1.out (Nat.not_lt.1 hnew)
                  have HA := Lib.hid (ask_any bd mv (4 * i) f 1 x (by decide) wx TX.out.de (lt_max h HSL.out))
                  rw [hask] at HA
                  clear hask
                  by_cases hxl : x = last
                  · rw [if_pos hxl] at HA
                    have HXL := Lib.hid hxl
                    clear hnew z2 z3 hxl
                    go_wp2_with fail
                    refine HA.out.mono ?_
                    rintro e w10 ⟨rfl, mv10, d10, r10⟩
                    have T10 := Lib.hid (TX.out.desk d10 r10)
                    clear HA d10 r10
                    rcases hop : s8.send 1 0 (rtx x) with ⟨s', i12, j12⟩
                    have I12 := Lib.hid (HI8.out.sendRep hop HX1.out (Nat.le_of_eq HXL.out))
                    have HOP2 := Lib.hid hop
                    clear hop
                    go_wp2_with fail
                    refine (T10.out.my.send 1 0 _ HS8.out HOP2.out).mono ?_
                    rintro e w12 ⟨rfl, v12, m12, r12⟩
                    have T12 := Lib.hid (T10.out.net m12 r12)
                    clear m12 r12
                    go_wp2_with fail
                    go_meet
                    exact ⟨now, last, _, _, _, _, _, rfl, rfl, le_next HNW.out, Lib.hid (T12.out.mono (nd_le3 i)), Lib.hid (I12.out.mono (q_le2 i))⟩
                  · rw [if_neg hxl] at HA
                    clear hnew z2 z3 hxl
                    go_wp2_with fail
                    refine HA.out.mono ?_
                    rintro e w10 ⟨rfl, mv10, d10, r10⟩
                    have T10 := Lib.hid (TX.out.desk d10 r10)
                    clear HA d10 r10
                    go_wp2_with fail
                    go_meet
                    exact ⟨now, last, _, _, _, _, _, rfl, rfl, le_next HNW.out, Lib.hid (T10.out.mono (nd_le3 i)), Lib.hid (HI8.out.mono (q_le1 i))⟩
            · as_aux_lemma =>
                rw [hd] at z2
                rw [ht] at z3
                have HXB := Lib.hid (lt_bigy hx2 HI8.out.lc HCA.out h HSL.out)
                have hrs : (rtx x).size = (dec x).length + 1 := by unfold rtx; rw [txt_size]; rfl
                have HGT := HI8.out.got HU.out x
                have hn1 : ¬ (last : Int) < (x : Int) := fun e => absurd (Int.ofNat_lt.1 e) (Nat.not_lt.2 hx2)
                have hn2 : decide ((last : Int) < (x : Int)) = false := decide_eq_false hn1
                have hn3 : ¬ last < x := Nat.not_lt.2 hx2
                have hn4 : decide (last < x) = false := decide_eq_false hn3
                obtain ⟨I9, g9⟩ := HGT
                have HI9 := Lib.hid I9
                have HG9 := Lib.hid g9
                clear hd ht hx1 hx2 I9 g9
                have hex : (rtx x).extract 1 ((dec x).length + 1) = txt (dec x) := rtx_tail x
                obtain ⟨bq, hbq⟩ : ∃ bq : Bool, bq = decide ((x : Int) = (call : Int)) := ⟨_, rfl⟩
                rw [← hbq] at HG9
                have hbe : ((x : Int) == (call : Int)) = bq := by rw [hbq]; rfl
                clear hbq
                go_wp2_with fail
                refine (value_c x HXB.out wx).mono ?_
                rintro e w9 ⟨rfl, rfl⟩
                clear z2 z3 hex hrs
                go_wp2_with fail
                refine (got_any bc cl x wx TX.out.ca).mono ?_
                rintro e w10 ⟨rfl, c10⟩
                have T10 := Lib.hid (TX.out.caller c10)
                rw [HG9.out]
                clear c10
                cases bq
                · go_wp2_with fail
                  go_meet
                  exact ⟨now, last, _, _, _, _, _, rfl, rfl, le_next HNW.out, Lib.hid (T10.out.mono (nd_le1 i)), Lib.hid (HI9.out.mono (q_le1 i))⟩
                · go_wp2_with fail
                  go_meet
                  exact ⟨now, last, _, _, _, _, _, rfl, rfl, le_next HNW.out, Lib.hid (T10.out.mono (nd_le1 i)), Lib.hid (HI9.out.mono (q_le1 i))⟩
        · rw [decide_eq_false h2]
          rcases five q5 HP3.out h2 with rfl | rfl | rfl
          · as_aux_lemma =>
              clear h2
              rcases hop : s.drop ix with ⟨s', j⟩
              have HOP := Lib.hid hop
              have I8 := Lib.hid (II.out.drop hop)
              clear hop
              go_wp2_with fail
              refine (T7.out.my.drop ix HOP.out).mono ?_
              rintro e w8 ⟨rfl, v8, m8, r8⟩
              have T8 := Lib.hid (T7.out.net m8 r8)
              clear m8 r8
              go_wp2_with fail
              go_meet
              exact ⟨now, last, _, _, _, _, _, rfl, rfl, le_next HNW.out, Lib.hid (T8.out.mono (nd_le1 i)), Lib.hid (I8.out.mono (q_le1 i))⟩
          · as_aux_lemma =>
              clear h2
              rcases hop : s.double ix with ⟨s', j⟩
              have HOP := Lib.hid hop
              have I8 := Lib.hid (II.out.double hop)
              clear hop
              go_wp2_with fail
              refine (T7.out.my.double ix HOP.out).mono ?_
              rintro e w8 ⟨rfl, v8, m8, r8⟩
              have T8 := Lib.hid (T7.out.net m8 r8)
              clear m8 r8
              go_wp2_with fail
              go_meet
              exact ⟨now, last, _, _, _, _, _, rfl, rfl, le_next HNW.out, Lib.hid (T8.out.mono (nd_le1 i)), Lib.hid (I8.out.mono (q_le1 i))⟩
          · as_aux_lemma =>
              clear h2
              have hnw : IntKind.i64.wrap ((now : Int) + 1) = ((now + 1 : Nat) : Int) := wrap_next now (lt_big2 HNW.out h HSL.out)
              have hnw2 : wrap64 ((now : Int) + 1) = ((now + 1 : Nat) : Int) := wrap64_next now (lt_big2 HNW.out h HSL.out)
              have HN1 : Hid (now + 1 ≤ i + 1) := Lib.hid (Nat.succ_le_succ HNW.out)
              generalize now + 1 = nw1 at hnw hnw2 HN1
              go_wp2_with fail
              refine (tick_any bc cl II.out.wf nw1 w7 T7.out.ca).mono ?_
              rintro e w8 ⟨rfl, c8⟩
              have T8 := Lib.hid (T7.out.caller c8)
              have I8 := Lib.hid (II.out.tick nw1)
              clear c8 hnw hnw2
              generalize (cl.tick nw1).1 = r1
              generalize (cl.tick nw1).2 = cl8 at T8 I8
              by_cases h1 : r1 = 1
              · subst h1
                go_wp2_with fail
                refine (decimal_c call (lt_big HCA.out h HSL.out) w8).mono ?_
                rintro e w9 ⟨rfl, hb9⟩
                have T9 := Lib.hid (T8.out.fr hb9)
                clear hb9
                rcases hop : s.send 0 1 (txt (dec call)) with ⟨s', i9, j9⟩
                have I9 := Lib.hid (I8.out.sendCall hop I8.out.c1 (Nat.le_refl _))
                have HOP := Lib.hid hop
                clear hop
                go_wp2_with fail
                refine (T9.out.my.send 0 1 _ HS.out HOP.out).mono ?_
                rintro e w10 ⟨rfl, v10, m10, r10⟩
                have T10 := Lib.hid (T9.out.net m10 r10)
                clear m10 r10
                go_wp2_with fail
                go_meet
                exact ⟨nw1, last, _, _, _, _, _, rfl, rfl, HN1.out, Lib.hid (T10.out.mono (nd_le1 i)), Lib.hid (I9.out.mono (q_le2 i))⟩
              · have h1' : (r1 == 1) = false := by simpa using h1
                go_wp2_with fail
                go_meet
                exact ⟨nw1, last, _, _, _, _, _, rfl, rfl, HN1.out, Lib.hid (T8.out.mono (nd_le1 i)), Lib.hid (I8.out.mono (q_le1 i))⟩
      obtain ⟨now', last', v8, s8, cl8, mv8, f8, rfl, rfl, hn8, T8, I8⟩ := hcut
      have HN8 := Lib.hid hn8
      clear hn8 HAT HS T7
      go_wp2_with fail
      refine (call_any bc cl8 _ T8.out.ca).mono ?_
      rintro e w9 ⟨rfl, n9, rfl⟩
      have T9 := Lib.hid (T8.out.drewN n9)
      clear T8
      generalize World.drewN _ n9 = w9 at T9 ⊢
      have hi1 : IntKind.i64.wrap ((i : Int) + 1) = ((i + 1 : Nat) : Int) := wrap_next i (lt_big2 (Nat.le_refl _) h HSL.out)
      have hi2 : wrap64 ((i : Int) + 1) = ((i + 1 : Nat) : Int) := wrap64_next i (lt_big2 (Nat.le_refl _) h HSL.out)
      generalize hun : cl8.under = un
      have HUN := Lib.hid hun
      clear hun
      cases un
      · as_aux_lemma =>
          obtain ⟨I10, hc10, hu10⟩ := I8.out.start now' (lt_big3 HCA.out h HSL.out)
          go_wp2_with fail
          refine (start_any bc cl8 now' w9 T9.out.ca).mono ?_
          rintro e w10 ⟨rfl, c10⟩
          have T10 := Lib.hid (T9.out.caller c10)
          rw [hc10]
          have II10 := Lib.hid I10
          have HU10 := Lib.hid hu10
          clear I10 hc10 hu10 c10
          generalize cl8.start now' = cl10 at T10 II10 HU10
          go_wp2_with fail
          refine (decimal_c (call + 1) (lt_big4 HCA.out h HSL.out) w10).mono ?_
          rintro e w11 ⟨rfl, hb11⟩
          have T11 := Lib.hid (T10.out.fr hb11)
          clear hb11
          rcases hop : s8.send 0 1 (txt (dec (call + 1))) with ⟨s', i12, j12⟩
          have I12 := Lib.hid (II10.out.sendCall hop II10.out.c1 (Nat.le_refl _))
          have HOP := Lib.hid hop
          have HS8 := Lib.hid (sent_lt I8.out.sent h HSL.out)
          clear hop
          go_wp2_with fail
          refine (T11.out.my.send 0 1 _ HS8.out HOP.out).mono ?_
          rintro e w12 ⟨rfl, v12, m12, r12⟩
          have T12 := Lib.hid (T11.out.net m12 r12)
          clear m12 r12
          go_wp2_with fail
          go_roundg (sl - (i + 1))
          case measure => omega
          case rel => exact ⟨i + 1, now', last', call + 1, v12, _, _, _, _, rfl, rfl, rfl, h, HN8.out, Nat.succ_le_succ HCA.out, rfl, Lib.hid (T12.out.mono (nd_le2 i)), Lib.hid (I12.out.mono (q_le3 i)), HU10⟩
      · as_aux_lemma =>
          go_wp2_with fail
          go_roundg (sl - (i + 1))
          case measure => omega
          case rel => exact ⟨i + 1, now', last', call, v8, _, _, _, _, rfl, rfl, rfl, h, HN8.out, le_next HCA.out, rfl, Lib.hid (T9.out.mono (nd_le2 i)), Lib.hid (I8.out.mono (q_le4 i)), HUN⟩
    · go_wp2
      go_ret
      exact ⟨rfl, TT.out.my.below⟩
end Go.Proofs.Ytiaknanflgdmoaa
