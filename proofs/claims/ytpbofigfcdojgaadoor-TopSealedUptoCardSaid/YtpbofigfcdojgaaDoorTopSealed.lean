/- TopSealed: no change of up to four bytes in a row lets a body be read that was not written: the walk. -/
import Derived.Test.YtpbofigfcdojgaaDoorAll
import Derived.Test.YtpbofigfcdojgaaDoorView
import Derived.Test.YtpbofigfcdojgaaDoorMake
import Derived.Test.YtpbofigfcdojgaaDoorPSealed
import Derived.Lib.ConvBytes
namespace Go.Proofs.YtpbofigfcdojgaaDoor
open Go.RowKit Go.Sort
set_option linter.unusedVariables false
set_option linter.unusedSimpArgs false
theorem opens_bodies (w : World) : Opens Tryd.prog w 22 RStrs (bulkL fun x => vbulk [.string x]) := opens_strs Tryd.underlying22 (by kernel_rfl) (by kernel_rfl) (by kernel_rfl) w
theorem bulk_strs (xs : List ByteArray) : bulkL (fun x : ByteArray => vbulk [.string x]) xs = ((xs.map (·.data.toList)).map fun l => l.length + 1).sum + 1 := by
  unfold bulkL
  congr 1
  induction xs with
  | nil => rfl
  | cons x xs ih =>
    rw [List.map_cons, List.sum_cons, ih, List.map_cons, List.map_cons, List.sum_cons]
    congr 1
theorem strs_take (bs : List ByteArray) (m : Nat) : (strs bs).take m = strs (bs.take m) := by simp [strs, List.map_take]
theorem flat_sum : ∀ ls : List ByteArray, (Fr4.flat ls).length + ls.length ≤ 13 * ((ls.map (·.data.toList)).map fun l => l.length + 1).sum
  | [] => Nat.le_refl _
  | x :: ls => by
    have := flat_sum ls
    rw [Fr4.flat, List.map_cons, List.map_cons, List.sum_cons, List.length_append, Fr4.fl_length, List.length_cons]
    omega
theorem flat_snoc {bs : List ByteArray} {i : Nat} {b : ByteArray} (h : bs[i]? = some b) (hb : b.size ≤ 1048576) {c : ByteArray} (hc : c.data.toList = Fr4.flat (bs.take i)) : (c ++ Fr4.frame b).data.toList = Fr4.flat (bs.take (i + 1)) := by
  rw [List.take_add_one, h, Fr4.flat_app, ← hc]
  simp only [ByteArray.data_append, Array.toList_append, Fr4.frame_list b hb]
  simp [Fr4.flat]
theorem frame_size (b : ByteArray) (hb : b.size ≤ 1048576) : (Fr4.frame b).size = b.size + 12 := by
  have h := congrArg List.length (Fr4.frame_list b hb)
  rw [Fr4.fl_length] at h
  have h1 : (Fr4.frame b).data.toList.length = (Fr4.frame b).size := by simp
  have h2 : b.data.toList.length = b.size := by simp
  omega
theorem bytesWorld_below (w : World) (e : TypeId) (s : ByteArray) : Below w.heap.size w (Lib.bytesWorld w e s) :=
  ⟨rfl, rfl, rfl, by rw [Lib.bytesWorld_size]; omega, fun k hk => Lib.bytesWorld_at_old w e s k hk⟩
theorem bytesWorld_cells (w : World) (e : TypeId) (s : ByteArray) : Cells (Lib.bytesWorld w e s) w.heap.size (bytes s.data.toList) := by
  intro j hj
  rw [bytes_length] at hj
  have hj' : j < s.size := by simpa using hj
  refine ⟨?_, ?_⟩
  · rw [Lib.bytesWorld_cell w e s j hj']
    simp [bytes, hj']
  · simp [World.frozen?, Lib.bytesWorld_at_new, Lib.bytesCells]
    omega
theorem strs_get {l : List ByteArray} {i : Nat} {x : ByteArray} (h : l[i]? = some x) : (strs l)[i]? = some (.string x) := by simp [strs, h]
theorem brst_end (l : List UInt8) (m c k d : Nat) (h : l.length ≤ m + k) : Crc.brst l m c (k + d) = Crc.brst l m c k := by
  induction d with
  | zero => rfl
  | succ d ih => rw [← Nat.add_assoc, Crc.brst_out _ _ _ _ (by omega), ih]
theorem bseen_end (n m c k d : Nat) (h : n ≤ m + k) : Crc.bseen n m c (k + d) = Crc.bseen n m c k := by
  induction d with
  | zero => rfl
  | succ d ih => rw [← Nat.add_assoc, Crc.bseen_succ, ih]; simp; intro _; omega
theorem bseen_none (l : List UInt8) (m c : Nat) : ∀ k, Crc.bseen l.length m c k = false → Crc.brst l m c k = l
  | 0, _ => Crc.brst_zero l m c
  | k + 1, h => by
    rw [Crc.bseen_succ, Bool.or_eq_false_iff] at h
    have ih := bseen_none l m c k h.1
    by_cases hx : Crc.xbyte c k = 0
    · rw [Crc.brst_none _ _ _ _ hx, ih]
    · rw [Crc.brst_out _ _ _ _ (by have h2 := h.2; simp [hx] at h2; omega), ih]
/-- what is read of frames with a burst over them -/
theorem burst_all (bs : List ByteArray) (s t : ByteArray) (hs : s.data.toList = Fr4.flat bs) (hb : ∀ b ∈ bs, b.size ≤ 1048576) (m c : Nat) (hm : m < s.size) (ht : t.data.toList = Crc.brst s.data.toList m c 4) :
    ∃ j p, j ≤ bs.length ∧ Fr4.all t 0 = (bs.take j, p, if Crc.bseen s.size m c 4 then 24 else 0) ∧ Crc.bseen s.size m c 4 = decide (j < bs.length) := by
  have hsl : s.data.toList.length = s.size := by simp
  cases hsn : Crc.bseen s.size m c 4 with
  | true =>
    have hl : t.data.toList.length = s.data.toList.length := by rw [ht]; simp [Crc.brst]
    have hD := Crc.brst_diff s.data.toList m c (by omega)
    have h2 := hsn
    unfold Crc.bseen at h2
    obtain ⟨i, hi, h3⟩ := List.any_eq_true.1 h2
    rw [Bool.and_eq_true] at h3
    have hi4 : i < 4 := List.mem_range.1 hi
    have hin : m + i < s.size := of_decide_eq_true h3.2
    obtain ⟨j, p, hj, he⟩ := Fr4.sealed bs t 0 hb (Nat.zero_le _) (by rw [List.drop_zero, hl, hs]) (by
      rw [List.drop_zero, ht, ← hs]
      exact ⟨m, (List.range (min 4 (s.data.toList.length - m))).map (Crc.xbyte c), _, by simp; omega, hD⟩) (by
      rw [List.drop_zero, ht, ← hs, hD]
      refine ⟨Crc.xbyte c i, List.mem_append_right _ (List.mem_append_left _ (List.mem_map.2 ⟨i, List.mem_range.2 (by omega), rfl⟩)), ?_⟩
      simpa using h3.1)
    exact ⟨j, p, by omega, by rw [he]; rfl, by simp [hj]⟩
  | false =>
    have h0 := bseen_none s.data.toList m c 4 (by rw [hsl]; exact hsn)
    rw [h0] at ht
    obtain rfl : t = s := Fr4.ba_eq.2 ht
    refine ⟨bs.length, t.size, Nat.le_refl _, ?_, by simp⟩
    rw [Fr4.cuts_all bs t hb hs, List.take_length]
    rfl
theorem xbyte_i (c k : Nat) : (c : Int) / 2 ^ (8 * k) % 256 = ((Crc.xbyte c k).toNat : Int) := by
  unfold Crc.xbyte
  rw [UInt8.toNat_ofNat']
  have : ((2 : Int) ^ (8 * k)) = ((2 ^ (8 * k) : Nat) : Int) := by simp
  rw [this, ← Int.natCast_ediv]
  rfl
theorem brst_size (s : ByteArray) (m c k : Nat) : (⟨(Crc.brst s.data.toList m c k).toArray⟩ : ByteArray).size = s.size := by
  show ((Crc.brst s.data.toList m c k).toArray).size = s.data.size
  simp [Crc.brst]
theorem frame_a (w : World) (ht : Tab w) : Calls Tryd.prog 4 #[.string (⟨#[97]⟩ : ByteArray)] w fun e w' => (∃ f : ByteArray, e = .returned (.string f) ∧ f.toList.isEmpty = false) ∧ Below w.heap.size w w' :=
  (frame_any ⟨#[97]⟩ (by decide) w ht).mono fun e w' ⟨he, hb⟩ => ⟨⟨_, he, by
    rw [ByteArray.toList_eq]
    have h2 : (Fr4.frame ⟨#[97]⟩).data.toList ≠ [] := by
      intro h
      have h1 := frame_size ⟨#[97]⟩ (by decide)
      have h3 : (Fr4.frame ⟨#[97]⟩).data.toList.length = (Fr4.frame ⟨#[97]⟩).size := by simp
      rw [h] at h3
      rw [← h3] at h1
      exact absurd h1 (by decide)
    simpa [List.isEmpty_iff] using h2⟩, hb⟩
set_option maxRecDepth 20000 in
set_option maxHeartbeats 8000000 in
theorem topSealed_walk (W : World) (A : Option Addr) (n c : Nat) (bs : List ByteArray) (hx : RStrs W [.slice A n c] bs) (hbk : bulkL (fun x : ByteArray => vbulk [.string x]) bs ≤ 1048576) (cut : Int) (wf : (Lit.int .i64 cut).wf = true) (ch : Int) (wf2 : (Lit.int .u32 ch).wf = true) (hL : laidMetH Tryd.prog Rows.topSealedUptoRow.laid W) :
    Calls Tryd.prog 3 #[.slice A n c, .int .i64 cut, .int .u32 ch] W fun e w' => e = .returned (.bool true) ∧ Below W.heap.size W w' := by
  have HT : Hid (Tab W) := Lib.hid (tab_of_laid hL)
  obtain ⟨hln, hcb, hwf, hV0⟩ := vw_rsl1 hx
  have hV : Vw W 1 A n c (strs bs) := hV0
  have hfs := flat_sum bs
  rw [bulk_strs] at hbk
  have HFS : Hid ((Fr4.flat bs).length ≤ 13631488) := Lib.hid (by omega)
  have hn : n ≤ 13631488 := by omega
  obtain ⟨ch, rfl, hch⟩ := u32_nat wf2
  have HV := Lib.hid hV
  have HLN := Lib.hid hln
  have HCH := Lib.hid hch
  clear hx hbk hL hcb hwf hV0 hV hfs hln wf2 hch
  have HN := Lib.hid hn
  go_enter Tryd.func3, Tryd.ntmps3
  go_wp2
  go_loopg [7, 8] n (fun g sv iv wr => ∃ (i : Nat) (cur : ByteArray), sv = .string cur ∧ iv = .int .i64 (i : Int) ∧ i ≤ n ∧ i + g = n ∧ cur.size ≤ 13631488 ∧ Hid (cur.data.toList = Fr4.flat (bs.take i)) ∧ Hid (∀ b ∈ bs.take i, b.size ≤ 65536) ∧ Hid (Below W.heap.size W wr))
  case atStart => exact ⟨0, ⟨#[]⟩, rfl, rfl, Nat.zero_le _, by omega, by decide, Lib.hid rfl, Lib.hid (by simp), Lib.hid (Below.refl _ _)⟩
  case round =>
    obtain ⟨i, cur, rfl, rfl, hi, hg, hcs, HC, HSM, HB⟩ := hrel
    by_cases hlt : i < n
    · have t1 : decide ((i : Int) < (n : Int)) = true := by simp; omega
      obtain ⟨x, hx⟩ : ∃ x, bs[i]? = some x := ⟨bs[i]'(by rw [HLN.out]; exact hlt), List.getElem?_eq_getElem _⟩
      obtain ⟨b1, o1, hA, hblt, cx⟩ := HV.out.at1 (strs_get hx)
      subst hA
      have d1 : wr.cell? ⟨b1, o1 + i, none⟩ = some (.string x) := (HB.out.cell (p := ⟨b1, o1 + i, none⟩) hblt).trans cx
      have ia : ((i : Int)).toNat = i := by omega
      have pa : (0 : Int) ≤ (i : Int) := by omega
      have hltz : (i : Int) < (n : Int) := by omega
      have HXI := Lib.hid hx
      have HBL := Lib.hid hblt
      clear cx hx hblt
      by_cases hbig : x.size ≤ 65536
      · have t2 : decide ((65536 : Int) < (x.size : Int)) = false := by simp; omega
        have HBIG := Lib.hid hbig
        have HFRM := frame_any x (by omega) wr (HT.out.below HB.out)
        have hfz := frame_size x (by omega)
        have hsn := flat_snoc HXI.out (by omega) HC.out
        have hfb : (cur ++ Fr4.frame x).size ≤ (Fr4.flat bs).length := by
          have h := congrArg List.length hsn
          have h2 : (cur ++ Fr4.frame x).data.toList.length = (cur ++ Fr4.frame x).size := by simp
          have h3 := congrArg List.length (Fr4.flat_app (bs.take (i + 1)) (bs.drop (i + 1)))
          rw [List.take_append_drop, List.length_append] at h3
          omega
        generalize Fr4.frame x = f at HFRM hfz hsn hfb
        have HFR := Lib.hid HFRM
        have HSN := Lib.hid hsn
        have HCS : Hid ((cur ++ f).size ≤ 13631488) := Lib.hid (by have := HFS.out; omega)
        have hfs2 : f.size ≤ 65548 := by omega
        clear HFRM hsn hfb hfz
        have HG := Lib.hid hg
        clear hbig hg
        go_wp2_with fail
        refine HFR.out.mono ?_
        rintro ex w2 ⟨rfl, hb2⟩
        have HB2 := Lib.hid (below_then HB.out HB.out.size hb2)
        clear hb2
        go_wp2_with fail
        go_roundg (n - (i + 1))
        case measure => have := HG.out; omega
        case rel =>
          refine ⟨i + 1, cur ++ f, rfl, by first | rfl | go_num, by omega, by omega, HCS.out, HSN, Lib.hid ?_, HB2⟩
          · intro b hb
            rw [List.take_add_one, HXI.out] at hb
            rcases List.mem_append.1 hb with h | h
            · exact HSM.out b h
            · obtain rfl : b = x := by simpa using h
              exact HBIG.out
      · have t2 : decide ((65536 : Int) < (x.size : Int)) = true := by simp; omega
        have HBIG := Lib.hid hbig
        clear hbig
        go_wp2
        go_ret
        exact ⟨rfl, HB.out⟩
    · obtain rfl : i = n := by omega
      have hcur : cur.data.toList = Fr4.flat bs := by rw [HC.out, List.take_of_length_le (by rw [HLN.out]; omega)]
      have hsm : ∀ b ∈ bs, b.size ≤ 1048576 := fun b hb => by have := HSM.out b (by rw [List.take_of_length_le (by rw [HLN.out]; omega)]; exact hb); omega
      have HA0 := fun w ht => Lib.hid (all_any cur (by omega) w ht)
      rw [Fr4.cuts_all bs cur hsm hcur] at HA0
      dsimp only at HA0
      have HCUR := Lib.hid hcur
      have HSMA := Lib.hid hsm
      have t1 : decide ((i : Int) < (i : Int)) = false := by simp
      clear hcur hsm HC HSM hlt hi hg
      go_wp2_with fail
      refine (HA0 wr (HT.out.below HB.out)).out.mono ?_
      rintro ex w2 ⟨v1, rfl, ho1, hb2⟩
      have HB2 := Lib.hid (below_then HB.out HB.out.size hb2)
      obtain ⟨p1, c1, rfl, hv1⟩ := Vw.of_own ho1
      have hln2 : bs.length = i := HLN.out
      rw [hln2]
      clear ho1 hv1 hb2 HA0 hln2
      have HFA := Lib.hid (frame_a w2 (HT.out.below HB2.out))
      go_wp2_with fail
      refine HFA.out.mono ?_
      rintro ex w3 ⟨⟨f, rfl, hf⟩, hb3⟩
      have HB3 := Lib.hid (below_then HB2.out HB2.out.size hb3)
      have ci : ((i : Int) != (i : Int)) = false := by simp
      have cs : ((cur.size : Int) != (cur.size : Int)) = false := by simp
      clear hb3 HFA HB2
      by_cases hc : cut < 0 ∨ (cur.size : Int) ≤ cut
      · by_cases h0 : cut < 0
        · have t2 : decide (cut < 0) = true := by simp; omega
          clear hc h0
          go_wp2
          go_ret
          exact ⟨rfl, HB3.out⟩
        · have t2 : decide (cut < 0) = false := by simp; omega
          have t3 : decide ((cur.size : Int) ≤ cut) = true := by simp; omega
          clear hc h0
          go_wp2
          go_ret
          exact ⟨rfl, HB3.out⟩
      · obtain ⟨m, rfl⟩ : ∃ k : Nat, cut = (k : Int) := ⟨cut.toNat, by omega⟩
        have hm : m < cur.size := by omega
        have t2 : decide ((m : Int) < 0) = false := decide_eq_false (by omega)
        have t3 : decide ((cur.size : Int) ≤ (m : Int)) = false := decide_eq_false (by omega)
        have t3n : decide (cur.size ≤ m) = false := decide_eq_false (by omega)
        have HM := Lib.hid hm
        have HCS := Lib.hid hcs
        clear hc hm
        have hcv := fun w => Lib.run_convert_string_bytes (P := Tryd.prog) w 9 28 5 cur Tryd.underlying9 Tryd.underlying28 Tryd.underlying5
        go_wp2_with fail
        clear hcv
        have HBW := Lib.hid (below_then HB3.out HB3.out.size (bytesWorld_below w3 5 cur))
        have HCW : Hid (Cells (Lib.bytesWorld w3 5 cur) w3.heap.size (bytes cur.data.toList)) := Lib.hid (bytesWorld_cells w3 5 cur)
        have HSZ := Lib.hid (Lib.bytesWorld_size w3 5 cur)
        generalize Lib.bytesWorld w3 5 cur = wb at HBW HCW HSZ ⊢
        go_loopg [13, 14] 4 (fun g sn iv wr => ∃ k : Nat, iv = .int .i64 (k : Int) ∧ k + g = 4 ∧ m + k ≤ cur.size ∧ sn = .bool (Crc.bseen cur.size m ch k) ∧ Hid (Cells wr w3.heap.size (bytes (Crc.brst cur.data.toList m ch k))) ∧ Hid (Below W.heap.size W wr))
        case atStart => exact ⟨0, rfl, rfl, by have := HM.out; omega, rfl, Lib.hid (by rw [Crc.brst_zero]; exact HCW.out), HBW⟩
        case round =>
          clear HBW HCW
          obtain ⟨k, rfl, hg, hmk, rfl, HC, HB4⟩ := hrel
          have hin : ((cur.size : Int) - (m : Int)) = ((cur.size - m : Nat) : Int) := by omega
          obtain ⟨r, hr⟩ : ∃ r : Nat, r = cur.size - m := ⟨_, rfl⟩
          rw [← hr] at hin
          have HR := Lib.hid hr
          have e8 : IntKind.i64.wrap ((cur.size : Int) - (m : Int)) = (r : Int) := by rw [hin]; have := HCS.out; rw [IntKind.wrap_i64]; omega
          clear hr
          by_cases hlt : k < 4 ∧ m + k < cur.size
          · obtain ⟨hk4, hin⟩ := hlt
            have q1 : decide ((k : Int) < 4) = true := decide_eq_true (by omega)
            have q1n : decide (k < 4) = true := decide_eq_true hk4
            have q2 : decide ((k : Int) < (r : Int)) = true := decide_eq_true (by have := HR.out; omega)
            have q2n : decide (k < r) = true := decide_eq_true (by have := HR.out; omega)
            have hX := xbyte_i ch k
            have hsn := Crc.bseen_succ cur.size m ch k
            rw [show decide (m + k < cur.size) = true from decide_eq_true hin, Bool.and_true] at hsn
            have hb2 := fun a => Crc.brst_in cur.data.toList m ch k (a := a)
            generalize Crc.xbyte ch k = x at hX hsn hb2
            have hgt := List.getElem?_eq_getElem (l := Crc.brst cur.data.toList m ch k) (i := m + k) (by simpa [Crc.brst] using hin)
            generalize (Crc.brst cur.data.toList m ch k)[m + k]'(by simpa [Crc.brst] using hin) = old at hgt
            obtain ⟨hc1, hc2⟩ := HC.out.get (bytes_get hgt)
            obtain ⟨y, hy⟩ : ∃ y : UInt8, y = old ^^^ x := ⟨_, rfl⟩
            have e9 : bits .xor .u8 (old.toNat : Int) (x.toNat : Int) = (y.toNat : Int) := by rw [u8_xor_nat _ _ old.toNat_lt x.toNat_lt, ← UInt8.toNat_xor, hy]
            have hst := HC.out.set (m + k) (.int .u8 (y.toNat : Int)) (by rw [bytes_length]; simpa [Crc.brst] using hin)
            rw [bytes_set, hy, ← hb2 _ hgt, ← hy] at hst
            have HST := Lib.hid hst
            have HSN := Lib.hid hsn
            generalize Crc.bseen cur.size m ch k = sb at HSN
            have HIN := Lib.hid hin
            have HK4 := Lib.hid hk4
            have HG := Lib.hid hg
            have pm : (0 : Int) ≤ (m : Int) + (k : Int) := by omega
            clear hst hsn hb2 hgt hy hg hmk
            have HB5 := Lib.hid (HB4.out.setCell (p := (⟨w3.heap.size, m + k, none⟩ : Addr)) HB3.out.size (.int .u8 (y.toNat : Int)))
            cases sb with
            | true =>
              go_wp2_with fail
              go_roundg (4 - (k + 1))
              case measure => have := HG.out; omega
              case rel => exact ⟨k + 1, by first | rfl | go_num, by have := HK4.out; omega, by have := HIN.out; omega, by rw [HSN.out]; rfl, HST, HB5⟩
            | false =>
              by_cases hx0 : x.toNat = 0
              · have q3 : ((x.toNat : Int) != 0) = false := by rw [hx0]; rfl
                have q4 : (x.toNat != 0) = false := by rw [hx0]; rfl
                have q5 : (x != 0) = false := by simpa using UInt8.toNat_inj.1 hx0
                have HQ5 := Lib.hid q5
                clear q5 hx0
                go_wp2_with fail
                go_roundg (4 - (k + 1))
                case measure => have := HG.out; omega
                case rel => exact ⟨k + 1, by first | rfl | go_num, by have := HK4.out; omega, by have := HIN.out; omega, by rw [HSN.out, HQ5.out]; rfl, HST, HB5⟩
              · have q3 : ((x.toNat : Int) != 0) = true := bne_iff_ne.2 (by omega)
                have q4 : (x.toNat != 0) = true := bne_iff_ne.2 hx0
                have q5 : (x != 0) = true := bne_iff_ne.2 (fun h => hx0 (by rw [h]; rfl))
                have HQ5 := Lib.hid q5
                clear q5 hx0
                go_wp2_with fail
                go_roundg (4 - (k + 1))
                case measure => have := HG.out; omega
                case rel => exact ⟨k + 1, by first | rfl | go_num, by have := HK4.out; omega, by have := HIN.out; omega, by rw [HSN.out, HQ5.out]; rfl, HST, HB5⟩
          · have hend : Crc.brst cur.data.toList m ch k = Crc.brst cur.data.toList m ch 4 ∧ Crc.bseen cur.size m ch k = Crc.bseen cur.size m ch 4 := by
              by_cases h4 : k = 4
              · subst h4; exact ⟨rfl, rfl⟩
              · have h5 : m + k = cur.size := by omega
                obtain ⟨d, hd⟩ : ∃ d, 4 = k + d := ⟨4 - k, by omega⟩
                rw [hd]
                exact ⟨(brst_end _ _ _ _ _ (by simp; omega)).symm, (bseen_end _ _ _ _ _ (by omega)).symm⟩
            obtain ⟨j, p, hj, hall, hsj⟩ := burst_all bs cur ⟨(Crc.brst cur.data.toList m ch 4).toArray⟩ HCUR.out HSMA.out m ch HM.out (by simp)
            have HA1 := fun w ht => Lib.hid (all_any ⟨(Crc.brst cur.data.toList m ch 4).toArray⟩ (by have := HCS.out; rw [brst_size]; omega) w ht)
            rw [hall] at HA1
            dsimp only at HA1
            have hC4 := HC.out
            rw [hend.1] at hC4
            rw [hend.2, hsj]
            rw [hsj] at HA1
            have hcv : ∀ n, (convert 28 9 (.slice (some ⟨w3.heap.size, 0, none⟩) cur.size n)).run Tryd.prog wr = .ok (.string ⟨(Crc.brst cur.data.toList m ch 4).toArray⟩) wr := fun n =>
              conv_bytes hC4 _ _ 5 _ Tryd.underlying28 Tryd.underlying5 Tryd.underlying9 _ (by simp [Crc.brst])
            generalize (Crc.brst cur.data.toList m ch 4).toArray = sa at HA1 hcv
            obtain ⟨b, e, hb1, hb2, hb3⟩ : ∃ (b : Bool) (e : Nat), decide (j < bs.length) = b ∧ e = (if b = true then 24 else 0) ∧ (b = true ∨ j = bs.length) := ⟨decide (j < bs.length), _, rfl, rfl, by
              by_cases h : j < bs.length
              · exact .inl (decide_eq_true h)
              · exact .inr (by omega)⟩
            rw [hb1] at HA1 ⊢
            rw [← hb2] at HA1
            have hln2 : bs.length = i := HLN.out
            rw [hln2] at hb1 hb3 hj
            have hjl : (bs.take j).length = j := by rw [List.length_take]; omega
            rw [hjl] at HA1
            have q0 : (k < 4 → decide ((k : Int) < 4) = true ∧ decide (k < 4) = true ∧ decide ((k : Int) < (r : Int)) = false ∧ decide (k < r) = false) := fun h => ⟨decide_eq_true (by omega), decide_eq_true h, decide_eq_false (by have := HR.out; omega), decide_eq_false (by have := HR.out; omega)⟩
            have q0' : (¬ k < 4 → decide ((k : Int) < 4) = false ∧ decide (k < 4) = false) := fun h => ⟨decide_eq_false (by omega), decide_eq_false h⟩
            have Q0 := Lib.hid q0
            have Q0' := Lib.hid q0'
            have HB1 := Lib.hid hb1
            have HB2' := Lib.hid hb2
            have HB3' := Lib.hid hb3
            have HJ := Lib.hid hj
            have HJL := Lib.hid hjl
            clear q0 q0' hb1 hb2 hb3 hj hjl hln2 hall hsj hend hC4 hlt hmk hg HC
            go_upto_region 16 with (fail)
            go_cut [80] (fun v wc => wr = wc ∧ v = .bool false)
            case first =>
              by_cases h4 : k < 4
              · obtain ⟨q1, q2, q3, q4⟩ := Q0.out h4
                clear h4
                go_wp2
                all_goals go_meet
                all_goals exact ⟨rfl, rfl⟩
              · obtain ⟨q1, q2⟩ := Q0'.out h4
                clear h4
                go_wp2
                all_goals go_meet
                all_goals exact ⟨rfl, rfl⟩
            obtain ⟨rfl, rfl⟩ := hcut
            go_wp2_with fail
            refine (HA1 wr (HT.out.below HB4.out)).out.mono ?_
            rintro ex w5 ⟨v2, rfl, ho2, hb5⟩
            have HB5 := Lib.hid (below_then HB4.out HB4.out.size hb5)
            obtain ⟨p5, c5, rfl, hv5⟩ := Vw.of_own ho2
            have V5 := Lib.hid hv5
            clear ho2 hv5 hb5 HA1 hcv
            go_wp2_with fail
            go_loopg [16] j (fun g iv wr => ∃ q : Nat, iv = .int .i64 (q : Int) ∧ q + g = j ∧ ∃ nd, wr = w5.drewN nd)
            case atStart => exact ⟨0, rfl, by omega, 0, rfl⟩
            case round =>
              obtain ⟨q, rfl, hg, nd, rfl⟩ := hrel
              have HB6 := Lib.hid (below_drewN HB5.out nd)
              by_cases hq : q < j
              · have t4 : decide ((q : Int) < (j : Int)) = true := decide_eq_true (by omega)
                have t4n : decide (q < j) = true := decide_eq_true hq
                have hqi : q < i := by have := HJ.out; omega
                have t5 : decide ((i : Int) ≤ (q : Int)) = false := decide_eq_false (by omega)
                have t5n : decide (i ≤ q) = false := decide_eq_false (by omega)
                obtain ⟨x, hx⟩ : ∃ x, bs[q]? = some x := ⟨bs[q]'(by rw [HLN.out]; exact hqi), List.getElem?_eq_getElem _⟩
                obtain ⟨b1, o1, rfl, h1l, e1⟩ := HV.out.at1 (strs_get hx)
                obtain ⟨b2, o2, rfl, h2l, e2⟩ := V5.out.at1 (strs_get (by rw [List.getElem?_take_of_lt hq]; exact hx))
                have d1 : ∀ j, (w5.drewN j).cell? ⟨b1, o1 + q, none⟩ = some (.string x) := fun _ => (HB5.out.cell (p := ⟨b1, o1 + q, none⟩) h1l).trans e1
                have d2 : ∀ j, (w5.drewN j).cell? ⟨b2, o2 + q, none⟩ = some (.string x) := fun _ => e2
                have ia : ((q : Int)).toNat = q := by omega
                have pa : (0 : Int) ≤ (q : Int) := by omega
                have lz : (q : Int) < (j : Int) := by omega
                have lz2 : (q : Int) < (i : Int) := by omega
                have HG := Lib.hid hg
                clear e1 e2 hx h1l h2l hg
                go_wp2
                go_quiet (fail)
                go_wp2
                go_roundg (j - (q + 1))
                case measure => have := HG.out; omega
                case rel => exact ⟨q + 1, by first | rfl | go_num, by have := HG.out; omega, _, rfl⟩
              · obtain rfl : q = j := by omega
                have t4 : decide ((q : Int) < (q : Int)) = false := decide_eq_false (by omega)
                have t4n : decide (q < q) = false := decide_eq_false (by omega)
                clear hq hg
                cases b with
                | true =>
                  obtain rfl : e = 24 := HB2'.out
                  have h1 : q < i := of_decide_eq_true HB1.out
                  have t5 : decide ((q : Int) < (i : Int)) = true := decide_eq_true (by omega)
                  have t5n : decide (q < i) = true := decide_eq_true h1
                  clear h1
                  go_wp2
                  go_ret
                  exact ⟨rfl, HB6.out⟩
                | false =>
                  obtain rfl : e = 0 := HB2'.out
                  have h1 : ¬ q < i := of_decide_eq_false HB1.out
                  have t5 : decide ((q : Int) < (i : Int)) = false := decide_eq_false (by omega)
                  have t5n : decide (q < i) = false := decide_eq_false h1
                  clear h1
                  go_wp2
                  go_ret
                  exact ⟨rfl, HB6.out⟩
end Go.Proofs.YtpbofigfcdojgaaDoor
