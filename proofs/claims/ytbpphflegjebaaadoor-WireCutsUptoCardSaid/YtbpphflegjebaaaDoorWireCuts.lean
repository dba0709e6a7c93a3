/- The walk of WireCuts. (Under way.) -/
import Derived.Test.YtbpphflegjebaaaDoorWireSpk
import Derived.Test.YtbpphflegjebaaaDoorTexts
import Derived.Test.YtbpphflegjebaaaDoorMake
import Derived.Test.YtbpphflegjebaaaDoorPCuts
namespace Go.Proofs.YtbpphflegjebaaaDoor
open Go.RowKit Go.Sort
set_option linter.unusedVariables false
set_option linter.unusedSimpArgs false
theorem int_info : (Tryd.prog.info? 3).map (fun i => (i.zero, i.size, i.bytes)) = some (some (.int .i64 0), 1, 8) := by kernel_rfl
theorem opens_bodies (w : World) : Opens Tryd.prog w 29 RStrs (bulkL fun x => vbulk [.string x]) := opens_strs Tryd.underlying29 (by kernel_rfl) (by kernel_rfl) (by kernel_rfl) w
def fls (bs : List ByteArray) (i : Nat) : Nat := (Fr4.flat (bs.take i)).length
def endv (bs : List ByteArray) (i : Nat) : List Value := (List.range i).map fun j => Value.int .i64 (fls bs (j + 1) : Int)
theorem endv_snoc (bs : List ByteArray) (i : Nat) : endv bs i ++ [.int .i64 (fls bs (i + 1) : Int)] = endv bs (i + 1) := by simp [endv, List.range_succ]
theorem bulk_strs (xs : List ByteArray) : bulkL (fun x : ByteArray => vbulk [.string x]) xs = ((xs.map (·.data.toList)).map fun l => l.length + 1).sum + 1 := by
  unfold bulkL
  congr 1
  induction xs with
  | nil => rfl
  | cons x xs ih =>
    rw [List.map_cons, List.sum_cons, ih, List.map_cons, List.map_cons, List.sum_cons]
    congr 1
theorem endv_get (bs : List ByteArray) {n m : Nat} (h : m < n) : (endv bs n)[m]? = some (.int .i64 (fls bs (m + 1) : Int)) := by
  unfold endv
  rw [List.getElem?_map, List.getElem?_range h]; rfl
theorem Vw.take1 {w : World} {n c m : Nat} {p : Option Addr} {xs : List Value} (h : Vw w 1 p n c xs) (hm : m ≤ n) : Vw w 1 p m c (xs.take m) := by
  obtain ⟨h1, h2, h3⟩ := h
  refine ⟨by omega, by rw [List.length_take]; omega, fun h0 => ?_⟩
  obtain ⟨b, off, e, hb, hc⟩ := h3 (by omega)
  refine ⟨b, off, e, hb, fun j u hu => hc j u ?_⟩
  by_cases hj : j < m
  · rwa [List.getElem?_take_of_lt hj] at hu
  · rw [List.getElem?_eq_none (by rw [List.length_take]; omega)] at hu; cases hu
theorem strs_take (bs : List ByteArray) (m : Nat) : (strs bs).take m = strs (bs.take m) := by simp [strs, List.map_take]
theorem byte_of_wf {ch : Int} (h : (Lit.int .u8 ch).wf = true) : ∃ x : UInt8, ch = (x.toNat : Int) := by
  obtain ⟨h1, h2⟩ : 0 ≤ ch ∧ ch ≤ 255 := by simpa [Lit.wf, IntKind.min, IntKind.max, IntKind.signed, IntKind.bits] using h
  exact ⟨UInt8.ofNat ch.toNat, by rw [UInt8.toNat_ofNat']; omega⟩
theorem flat_sum : ∀ ls : List ByteArray, (Fr4.flat ls).length + ls.length ≤ 13 * ((ls.map (·.data.toList)).map fun l => l.length + 1).sum
  | [] => Nat.le_refl _
  | x :: ls => by
    have := flat_sum ls
    rw [Fr4.flat, List.map_cons, List.map_cons, List.sum_cons, List.length_append, Fr4.fl_length, List.length_cons]
    omega
theorem fls_succ {bs : List ByteArray} {i : Nat} {b : ByteArray} (h : bs[i]? = some b) : fls bs (i + 1) = fls bs i + (b.data.toList.length + 12) := by
  unfold fls
  rw [List.take_add_one, h, Fr4.flat_app, List.length_append]
  simp [Fr4.flat, Fr4.fl_length]
theorem fls_le (bs : List ByteArray) (i : Nat) : fls bs i ≤ (Fr4.flat bs).length := by
  have := congrArg List.length (Fr4.flat_app (bs.take i) (bs.drop i))
  rw [List.take_append_drop, List.length_append] at this
  unfold fls
  omega
theorem flat_snoc {bs : List ByteArray} {i : Nat} {b : ByteArray} (h : bs[i]? = some b) (hb : b.size ≤ 1048576) {c : ByteArray} (hc : c.data.toList = Fr4.flat (bs.take i)) : (c ++ Fr4.frame b).data.toList = Fr4.flat (bs.take (i + 1)) := by
  rw [List.take_add_one, h, Fr4.flat_app, ← hc]
  simp only [ByteArray.data_append, Array.toList_append, Fr4.frame_list b hb]
  simp [Fr4.flat]
theorem frame_size (b : ByteArray) (hb : b.size ≤ 1048576) : (Fr4.frame b).size = b.size + 12 := by
  have h := congrArg List.length (Fr4.frame_list b hb)
  rw [Fr4.fl_length] at h
  have h1 : (Fr4.frame b).data.toList.length = (Fr4.frame b).size := by simp
  have h2 : b.data.toList.length = b.size := by simp
  omega
theorem bytesWorld_below (w : World) (e : TypeId) (s : ByteArray) : Below w.heap.size w (Lib.bytesWorld w e s) :=
  ⟨rfl, rfl, rfl, by rw [Lib.bytesWorld_size]; omega, fun k hk => Lib.bytesWorld_at_old w e s k hk⟩
theorem bytesWorld_cells (w : World) (e : TypeId) (s : ByteArray) : Cells (Lib.bytesWorld w e s) w.heap.size (bytes s.data.toList) := by
  intro j hj
  rw [bytes_length] at hj
  have hj' : j < s.size := by simpa using hj
  refine ⟨?_, ?_⟩
  · rw [Lib.bytesWorld_cell w e s j hj']
    simp [bytes, hj']
  · simp [World.frozen?, Lib.bytesWorld_at_new, Lib.bytesCells]
    omega
set_option maxRecDepth 20000 in
set_option maxHeartbeats 8000000 in
theorem wireCuts_walk (W : World) (A : Option Addr) (n c : Nat) (bs : List ByteArray) (hx : RStrs W [.slice A n c] bs) (hbk : bulkL (fun x : ByteArray => vbulk [.string x]) bs ≤ 1048576) (cut : Int) (wf : (Lit.int .i64 cut).wf = true) (ch : Int) (wf2 : (Lit.int .u8 ch).wf = true) (hL : laidMetH Tryd.prog Rows.wireCutsUptoRow.laid W) :
    Calls Tryd.prog 4 #[.slice A n c, .int .i64 cut, .int .u8 ch] W fun e w' => e = .returned (.bool true) ∧ Below W.heap.size W w' := by
  have HT : Hid (Tab W) := Lib.hid (tab_of_laid hL)
  obtain ⟨hln, hcb, hwf, hV0⟩ := vw_rsl1 hx
  have hV : Vw W 1 A n c (strs bs) := hV0
  have hfs := flat_sum bs
  rw [bulk_strs] at hbk
  have HFS : Hid ((Fr4.flat bs).length ≤ 13631488) := Lib.hid (by omega)
  have hn : n ≤ 13631488 := by omega
  have HV := Lib.hid hV
  have HLN := Lib.hid hln
  clear hx hbk hL hcb hwf hV0 hV hfs hln
  have HN := Lib.hid hn
  go_enter Tryd.func4, Tryd.ntmps4
  go_wp2_with fail
  refine (wireSpeaks_any W).mono ?_
  rintro ex w1 ⟨rfl, hb1⟩
  have B1 := Lib.hid hb1
  clear hb1
  go_wp2
  go_loopg [7, 8, 9] n (fun g sv ev iv wr => ∃ (i : Nat) (cur : ByteArray), sv = .string cur ∧ iv = .int .i64 (i : Int) ∧ i ≤ n ∧ i + g = n ∧ cur.size ≤ 13631488 ∧ Hid (cur.data.toList = Fr4.flat (bs.take i)) ∧ Hid (∀ b ∈ bs.take i, b.size ≤ 65536) ∧
      Hid (wr.ownsRow W.heap.size 3 1 ev i (endv bs i)) ∧ Hid (Below W.heap.size W wr))
  case atStart => exact ⟨0, ⟨#[]⟩, rfl, rfl, Nat.zero_le _, by omega, by decide, Lib.hid rfl, Lib.hid (by simp), Lib.hid (World.ownsRow_nil _ _ _ _), B1⟩
  case round =>
    obtain ⟨i, cur, rfl, rfl, hi, hg, hcs, HC, HSM, HO, HB⟩ := hrel
    by_cases hlt : i < n
    · have t1 : decide ((i : Int) < (n : Int)) = true := by simp; omega
      obtain ⟨x, hx⟩ : ∃ x, bs[i]? = some x := ⟨bs[i]'(by rw [HLN.out]; exact hlt), List.getElem?_eq_getElem _⟩
      obtain ⟨b1, o1, hA, hblt, cx⟩ := HV.out.at1 (strs_get hx)
      subst hA
      have d1 : wr.cell? ⟨b1, o1 + i, none⟩ = some (.string x) := (HB.out.cell (p := ⟨b1, o1 + i, none⟩) hblt).trans cx
      have ia : ((i : Int)).toNat = i := by omega
      have pa : (0 : Int) ≤ (i : Int) := by omega
      have hltz : (i : Int) < (n : Int) := by omega
      have HXI := Lib.hid hx
      have HBL := Lib.hid hblt
      clear cx hx hblt
      by_cases hbig : x.size ≤ 65536
      · have t2 : decide ((65536 : Int) < (x.size : Int)) = false := by simp; omega
        have HBIG := Lib.hid hbig
        have HFRM := frame_any x (by omega) wr (HT.out.below HB.out)
        have hfz := frame_size x (by omega)
        have hsn := flat_snoc HXI.out (by omega) HC.out
        have hfl : (cur ++ Fr4.frame x).size = fls bs (i + 1) := by
          have h := congrArg List.length hsn
          have h2 : (cur ++ Fr4.frame x).data.toList.length = (cur ++ Fr4.frame x).size := by simp
          unfold fls; omega
        have hfb := fls_le bs (i + 1)
        generalize Fr4.frame x = f at HFRM hfz hsn hfl
        have HFR := Lib.hid HFRM
        have HSN := Lib.hid hsn
        have hfl2 : (cur.size : Int) + (f.size : Int) = (fls bs (i + 1) : Int) := by rw [← hfl, ByteArray.size_append]; omega
        have HCS : Hid ((cur ++ f).size ≤ 13631488) := Lib.hid (by have := HFS.out; omega)
        have HFL := Lib.hid hfl
        have HFL2 := Lib.hid hfl2
        have hfs2 : f.size ≤ 65548 := by omega
        clear HFRM hsn hfb hfz hfl hfl2
        have HG := Lib.hid hg
        clear hbig hg
        go_wp2_with fail
        refine HFR.out.mono ?_
        rintro ex w2 ⟨rfl, hb2⟩
        have HB2 := Lib.hid (below_then HB.out HB.out.size hb2)
        have HO2 := Lib.hid (own_below HO.out hb2 (Nat.le_refl _))
        clear hb2
        go_wp2_with (at_builtin; refine wpList_appw rfl _ _ 36 rfl W.heap.size 3 _ 1 8 Tryd.underlying36 int_info rfl (by decide) _ i _ rfl HO2.out _ _ 1 1 rfl rfl rfl (by have := HN.out; unfold maxLen; omega) (by have := HN.out; omega) HB2.out.size ?_; intro v' w3 hO hG)
        go_roundg (n - (i + 1))
        case measure => have := HG.out; omega
        case rel =>
          refine ⟨i + 1, cur ++ f, rfl, by first | rfl | go_num, by omega, by omega, HCS.out, HSN, Lib.hid ?_, Lib.hid ?_, Lib.hid (below_row HO2.out hG.out HB2.out (Nat.le_refl _) HB2.out.size)⟩
          · intro b hb
            rw [List.take_add_one, HXI.out] at hb
            rcases List.mem_append.1 hb with h | h
            · exact HSM.out b h
            · obtain rfl : b = x := by simpa using h
              exact HBIG.out
          · rw [← endv_snoc, ← HFL2.out]; exact hO.out
      · have t2 : decide ((65536 : Int) < (x.size : Int)) = true := by simp; omega
        have HBIG := Lib.hid hbig
        clear hbig
        go_wp2
        go_ret
        exact ⟨rfl, HB.out⟩
    · obtain rfl : i = n := by omega
      have hcur : cur.data.toList = Fr4.flat bs := by rw [HC.out, List.take_of_length_le (by rw [HLN.out]; omega)]
      have hsm : ∀ b ∈ bs, b.size ≤ 1048576 := fun b hb => by have := HSM.out b (by rw [List.take_of_length_le (by rw [HLN.out]; omega)]; exact hb); omega
      have HA0 := fun w ht => Lib.hid (all_any cur (by omega) w ht)
      rw [Fr4.cuts_all bs cur hsm hcur] at HA0
      dsimp only at HA0
      have HCUR := Lib.hid hcur
      have HSMA := Lib.hid hsm
      obtain ⟨pe, ce, rfl, hve⟩ := Vw.of_own HO.out
      have VE := Lib.hid hve
      have t1 : decide ((i : Int) < (i : Int)) = false := by simp
      clear hcur hsm hve HC HSM HO hlt hi hg
      go_wp2_with fail
      refine (HA0 wr (HT.out.below HB.out)).out.mono ?_
      rintro ex w2 ⟨v1, rfl, ho1, hb2⟩
      have HB2 := Lib.hid (below_then HB.out HB.out.size hb2)
      obtain ⟨p1, c1, rfl, hv1⟩ := Vw.of_own ho1
      have V1 := Lib.hid hv1
      have VE2 := Lib.hid (VE.out.below hb2 (Nat.le_refl _))
      clear ho1 hv1 hb2 HA0
      go_wp2_with fail
      refine (texts_c p1 A bs.length c1 i c bs bs w2 V1.out (HV.out.below HB2.out (Nat.le_refl _)) (by have := HLN.out; omega) (by omega)).mono ?_
      rintro ex w3 ⟨rfl, nd, rfl⟩
      have HB3 := Lib.hid (below_drewN HB2.out nd)
      have VE3 := Lib.hid (VE2.out.drewN nd)
      generalize w2.drewN nd = w3 at HB3 VE3 ⊢
      rw [show decide (bs = bs) = true from decide_eq_true rfl]
      clear V1 VE2 VE HB2
      by_cases hc : cut < 0 ∨ (cur.size : Int) ≤ cut
      · by_cases h0 : cut < 0
        · have t2 : decide (cut < 0) = true := by simp; omega
          clear hc h0
          go_wp2
          go_ret
          exact ⟨rfl, HB3.out⟩
        · have t2 : decide (cut < 0) = false := by simp; omega
          have t3 : decide ((cur.size : Int) ≤ cut) = true := by simp; omega
          clear hc h0
          go_wp2
          go_ret
          exact ⟨rfl, HB3.out⟩
      · obtain ⟨k, rfl⟩ : ∃ k : Nat, cut = (k : Int) := ⟨cut.toNat, by omega⟩
        have hk : k < cur.size := by omega
        have t2 : decide ((k : Int) < 0) = false := decide_eq_false (by omega)
        have t3 : decide ((cur.size : Int) ≤ (k : Int)) = false := decide_eq_false (by omega)
        have t3n : decide (cur.size ≤ k) = false := decide_eq_false (by omega)
        have HK := Lib.hid hk
        have HCS := Lib.hid hcs
        clear hc hk hcs
        go_wp2
        go_loopg [13, 14] i (fun g nv lv wr => ∃ (m L : Nat), nv = .int .i64 (m : Int) ∧ lv = .int .i64 (L : Int) ∧ m ≤ i ∧ m + g = i ∧ Hid (L = fls bs m) ∧ L ≤ k ∧ w3 = wr)
        case atStart => exact ⟨0, 0, rfl, rfl, Nat.zero_le _, by omega, Lib.hid rfl, Nat.zero_le _, rfl⟩
        case round =>
          obtain ⟨m, L, rfl, rfl, hm, hg, HL, hLk, rfl⟩ := hrel
          have hmi : m < i := by
            by_cases h : m < i
            · exact h
            · exfalso
              have h1 : m = i := by omega
              have h2 : fls bs i = cur.size := by
                unfold fls
                rw [List.take_of_length_le (by rw [HLN.out]; omega), ← HCUR.out]; simp
              have := HL.out; have := HK.out; rw [h1] at *; omega
          obtain ⟨b2, o2, rfl, hb2l, d2⟩ := VE3.out.at1 (endv_get bs hmi)
          have t4 : decide ((m : Int) < (i : Int)) = true := decide_eq_true (by omega)
          have t4n : decide (m < i) = true := decide_eq_true hmi
          have ma : ((m : Int)).toNat = m := by omega
          have mp : (0 : Int) ≤ (m : Int) := by omega
          have mz : (m : Int) < (i : Int) := by omega
          have HG := Lib.hid hg
          have HLK := Lib.hid hLk
          obtain ⟨N, hN⟩ : ∃ N, N = fls bs (m + 1) := ⟨_, rfl⟩
          rw [← hN] at d2
          have HNN := Lib.hid hN
          clear hg hLk hb2l hN
          by_cases hle : N ≤ k
          · have t5 : decide ((N : Int) ≤ (k : Int)) = true := decide_eq_true (by omega)
            have t5n : decide (N ≤ k) = true := decide_eq_true hle
            have HLE := Lib.hid hle
            clear hle
            go_wp2
            go_roundg (i - (m + 1))
            case measure => have := HG.out; omega
            case rel => exact ⟨m + 1, N, by first | rfl | go_num, rfl, by omega, by omega, HNN, HLE.out, rfl⟩
          · have t5 : decide ((N : Int) ≤ (k : Int)) = false := decide_eq_false (by omega)
            have t5n : decide (N ≤ k) = false := decide_eq_false hle
            have HLE := Lib.hid hle
            clear hle
            have hmb : m < bs.length := by rw [HLN.out]; exact hmi
            obtain ⟨bm, rest, hme, hdr⟩ : ∃ bm rest, bs[m]? = some bm ∧ bs.drop m = bm :: rest := ⟨bs[m], bs.drop (m + 1), List.getElem?_eq_getElem hmb, List.drop_eq_getElem_cons hmb⟩
            have hNN : N = L + (Fr4.fl bm.data.toList).length := by rw [HNN.out, fls_succ hme, HL.out, Fr4.fl_length]
            have hcutl : (cur.extract 0 k).data.toList = (Fr4.flat bs).take k := by rw [Fr4.ex_list, HCUR.out]; simp
            have HA1 := fun w ht => Lib.hid (all_any (cur.extract 0 k) (by have := HCS.out; have := HK.out; rw [ByteArray.size_extract]; omega) w ht)
            have hLf : (Fr4.flat (bs.take m)).length = L := HL.out.symm
            rw [Fr4.cuts_cut bs HSMA.out m _ _ hdr k (by rw [hLf]; exact HLK.out) (by rw [hLf]; have := HLE.out; omega) _ hcutl, hLf] at HA1
            dsimp only at HA1
            have HDR := Lib.hid hdr
            have HNE := Lib.hid hNN
            have HLF := Lib.hid hLf
            obtain ⟨b3, o3, rfl, _, _⟩ := HV.out.at1 (strs_get hme)
            have HVM := Lib.hid (HV.out.take1 (by omega : m ≤ i))
            rw [strs_take] at HVM
            have sk : (k : Int) ≤ (cur.size : Int) := by have := HK.out; omega
            have skn : k ≤ cur.size := by have := HK.out; omega
            have ka : ((k : Int)).toNat = k := by omega
            have kp : (0 : Int) ≤ (k : Int) := by omega
            have hic : i ≤ c := HV.out.1
            have smn : m ≤ c := by omega
            have smz : (m : Int) ≤ (c : Int) := by omega
            have hml : (bs.take m).length = m := by rw [List.length_take]; omega
            have HML := Lib.hid hml
            clear hmb hdr hme hNN hcutl hLf
            have hee : ∃ e : Nat, e = (if k = L then 0 else 23) := ⟨_, rfl⟩
            obtain ⟨e, hee⟩ := hee
            rw [← hee] at HA1
            have HEE := Lib.hid hee
            clear hee
            go_wp2_with fail
            refine (HA1 w3 (HT.out.below HB3.out)).out.mono ?_
            rintro ex w4 ⟨v2, rfl, ho2, hb4⟩
            have HB4 := Lib.hid (below_then HB3.out HB3.out.size hb4)
            obtain ⟨p4, c4, rfl, hv4⟩ := Vw.of_own ho2
            have V4 : Hid (Vw w4 1 p4 m c4 (strs (bs.take m))) := Lib.hid (by have h := hv4; rwa [hml] at h)
            clear ho2 hv4 hb4 HA1
            go_wp2_with fail
            refine (texts_c p4 (some ⟨b3, o3, none⟩) m c4 m c (bs.take m) (bs.take m) w4 V4.out (HVM.out.below HB4.out (Nat.le_refl _)) (by omega) (by omega)).mono ?_
            rintro ex w5 ⟨rfl, nd2, rfl⟩
            have HB5 := Lib.hid (below_drewN HB4.out nd2)
            generalize w4.drewN nd2 = w5 at HB5 ⊢
            rw [show decide (bs.take m = bs.take m) = true from decide_eq_true rfl]
            clear V4 HB4 HB3
            have HV5 := Lib.hid (HVM.out.below HB5.out (Nat.le_refl _))
            obtain ⟨x, rfl⟩ : ∃ x : UInt8, ch = (x.toNat : Int) := byte_of_wf wf2
            obtain ⟨a, ha⟩ : ∃ a, cur.data.toList[k]? = some a := ⟨_, List.getElem?_eq_getElem (by simpa using HK.out)⟩
            have HAC := Lib.hid ha
            obtain ⟨y, hy⟩ : ∃ y : UInt8, y = a ^^^ x := ⟨_, rfl⟩
            have e8 : bits .xor .u8 (a.toNat : Int) (x.toNat : Int) = (y.toNat : Int) := by rw [u8_xor_nat _ _ a.toNat_lt x.toNat_lt, ← UInt8.toNat_xor, hy]
            have HY := Lib.hid hy
            clear hy
            have hcv := fun w => Lib.run_convert_string_bytes (P := Tryd.prog) w 9 37 5 cur Tryd.underlying9 Tryd.underlying37 Tryd.underlying5
            clear ha wf wf2
            by_cases hkL : k = L
            · have e0 : e = 0 := by rw [HEE.out, if_pos hkL]
              subst e0
              have q1 : ((L : Int) == (k : Int)) = true := by rw [hkL]; exact beq_self_eq_true _
              have q2 : (L == k) = true := by rw [hkL]; exact beq_self_eq_true _
              by_cases hch : x.toNat = 0
              · have q3 : ((x.toNat : Int) == 0) = true := by rw [hch]; rfl
                have q4 : (x.toNat == 0) = true := by rw [hch]; rfl
                clear hkL hch hcv
                go_wp2
                go_ret
                exact ⟨rfl, HB5.out⟩
              · have q3 : ((x.toNat : Int) == 0) = false := beq_eq_false_iff_ne.2 (by omega)
                have q4 : (x.toNat == 0) = false := beq_eq_false_iff_ne.2 hch
                have HCH := Lib.hid hch
                clear hkL hch
                go_upto_region 27 with (fail)
                clear hcv
                have HBW := Lib.hid (below_then HB5.out HB5.out.size (bytesWorld_below w5 5 cur))
                have HCW : Hid (Cells (Lib.bytesWorld w5 5 cur) w5.heap.size (bytes cur.data.toList)) := Lib.hid (bytesWorld_cells w5 5 cur)
                generalize Lib.bytesWorld w5 5 cur = wb at HBW HCW ⊢
                obtain ⟨hc1, hc2⟩ := HCW.out.get (bytes_get HAC.out)
                have hst := HCW.out.set k (.int .u8 (bits .xor .u8 (a.toNat : Int) (x.toNat : Int))) (by rw [bytes_length]; simpa using HK.out)
                rw [e8, bytes_set] at hst
                have HST := Lib.hid hst
                have HBS := Lib.hid (HBW.out.setCell (p := (⟨w5.heap.size, k, none⟩ : Addr)) HB5.out.size (.int .u8 (y.toNat : Int)))
                have hx0 : x ≠ 0 := fun h => HCH.out (by rw [h]; rfl)
                have HA2 := fun w ht => Lib.hid (all_any ⟨(cur.data.toList.set k y).toArray⟩ (by have := HCS.out; show (cur.data.toList.set k y).toArray.size ≤ _; simp; omega) w ht)
                rw [Fr4.cuts_bad bs HSMA.out m bm rest HDR.out k (by rw [HLF.out]; exact HLK.out) (by rw [HLF.out]; have := HLE.out; have := HNE.out; omega) a x (by rw [← HCUR.out]; exact HAC.out) hx0 _ (by rw [← HCUR.out, ← HY.out]), HLF.out] at HA2
                dsimp only at HA2
                have hcv2 : ∀ n, (convert 37 9 (.slice (some ⟨w5.heap.size, 0, none⟩) cur.size n)).run Tryd.prog (wb.setCell ⟨w5.heap.size, k, none⟩ (.int .u8 (y.toNat : Int))) = .ok (.string ⟨(cur.data.toList.set k y).toArray⟩) (wb.setCell ⟨w5.heap.size, k, none⟩ (.int .u8 (y.toNat : Int))) := fun n =>
                  conv_bytes HST.out _ _ 5 _ Tryd.underlying37 Tryd.underlying5 Tryd.underlying9 _ (by simp)
                generalize (cur.data.toList.set k y).toArray = sa at HA2 hcv2
                go_wp2_with fail
                generalize wb.setCell ⟨w5.heap.size, k, none⟩ (.int .u8 (y.toNat : Int)) = w6 at HBS ⊢
                clear hcv2
                refine (HA2 w6 (HT.out.below HBS.out)).out.mono ?_
                rintro ex w7 ⟨v6, rfl, ho6, hb6⟩
                have HB6 := Lib.hid (below_then HBS.out HBS.out.size hb6)
                obtain ⟨p6, c6, rfl, hv6⟩ := Vw.of_own ho6
                have V6 : Hid (Vw w7 1 p6 m c6 (strs (bs.take m))) := Lib.hid (by have h := hv6; rwa [hml] at h)
                clear ho6 hv6 hb6 HA2
                go_wp2_with fail
                refine (texts_c p6 (some ⟨b3, o3, none⟩) m c6 m c (bs.take m) (bs.take m) w7 V6.out (HVM.out.below HB6.out (Nat.le_refl _)) (by omega) (by omega)).mono ?_
                rintro ex w8 ⟨rfl, nd3, rfl⟩
                have HB7 := Lib.hid (below_drewN HB6.out nd3)
                generalize w7.drewN nd3 = w8 at HB7 ⊢
                rw [show decide (bs.take m = bs.take m) = true from decide_eq_true rfl]
                go_wp2
                go_ret
                exact ⟨rfl, HB7.out⟩
            · have e0 : e = 23 := by rw [HEE.out, if_neg hkL]
              subst e0
              have q1 : ((L : Int) == (k : Int)) = false := beq_eq_false_iff_ne.2 (by omega)
              have q2 : (L == k) = false := beq_eq_false_iff_ne.2 (fun h => hkL h.symm)
              have q5 : ((L : Int) != (k : Int)) = true := bne_iff_ne.2 (by omega)
              have q6 : (L != k) = true := bne_iff_ne.2 (fun h => hkL h.symm)
              by_cases hch : x.toNat = 0
              · have q3 : ((x.toNat : Int) == 0) = true := by rw [hch]; rfl
                have q4 : (x.toNat == 0) = true := by rw [hch]; rfl
                clear hkL hch hcv
                go_wp2
                go_ret
                exact ⟨rfl, HB5.out⟩
              · have q3 : ((x.toNat : Int) == 0) = false := beq_eq_false_iff_ne.2 (by omega)
                have q4 : (x.toNat == 0) = false := beq_eq_false_iff_ne.2 hch
                have HCH := Lib.hid hch
                clear hkL hch
                go_upto_region 27 with (fail)
                clear hcv
                have HBW := Lib.hid (below_then HB5.out HB5.out.size (bytesWorld_below w5 5 cur))
                have HCW : Hid (Cells (Lib.bytesWorld w5 5 cur) w5.heap.size (bytes cur.data.toList)) := Lib.hid (bytesWorld_cells w5 5 cur)
                generalize Lib.bytesWorld w5 5 cur = wb at HBW HCW ⊢
                obtain ⟨hc1, hc2⟩ := HCW.out.get (bytes_get HAC.out)
                have hst := HCW.out.set k (.int .u8 (bits .xor .u8 (a.toNat : Int) (x.toNat : Int))) (by rw [bytes_length]; simpa using HK.out)
                rw [e8, bytes_set] at hst
                have HST := Lib.hid hst
                have HBS := Lib.hid (HBW.out.setCell (p := (⟨w5.heap.size, k, none⟩ : Addr)) HB5.out.size (.int .u8 (y.toNat : Int)))
                have hx0 : x ≠ 0 := fun h => HCH.out (by rw [h]; rfl)
                have HA2 := fun w ht => Lib.hid (all_any ⟨(cur.data.toList.set k y).toArray⟩ (by have := HCS.out; show (cur.data.toList.set k y).toArray.size ≤ _; simp; omega) w ht)
                rw [Fr4.cuts_bad bs HSMA.out m bm rest HDR.out k (by rw [HLF.out]; exact HLK.out) (by rw [HLF.out]; have := HLE.out; have := HNE.out; omega) a x (by rw [← HCUR.out]; exact HAC.out) hx0 _ (by rw [← HCUR.out, ← HY.out]), HLF.out] at HA2
                dsimp only at HA2
                have hcv2 : ∀ n, (convert 37 9 (.slice (some ⟨w5.heap.size, 0, none⟩) cur.size n)).run Tryd.prog (wb.setCell ⟨w5.heap.size, k, none⟩ (.int .u8 (y.toNat : Int))) = .ok (.string ⟨(cur.data.toList.set k y).toArray⟩) (wb.setCell ⟨w5.heap.size, k, none⟩ (.int .u8 (y.toNat : Int))) := fun n =>
                  conv_bytes HST.out _ _ 5 _ Tryd.underlying37 Tryd.underlying5 Tryd.underlying9 _ (by simp)
                generalize (cur.data.toList.set k y).toArray = sa at HA2 hcv2
                go_wp2_with fail
                generalize wb.setCell ⟨w5.heap.size, k, none⟩ (.int .u8 (y.toNat : Int)) = w6 at HBS ⊢
                clear hcv2
                refine (HA2 w6 (HT.out.below HBS.out)).out.mono ?_
                rintro ex w7 ⟨v6, rfl, ho6, hb6⟩
                have HB6 := Lib.hid (below_then HBS.out HBS.out.size hb6)
                obtain ⟨p6, c6, rfl, hv6⟩ := Vw.of_own ho6
                have V6 : Hid (Vw w7 1 p6 m c6 (strs (bs.take m))) := Lib.hid (by have h := hv6; rwa [hml] at h)
                clear ho6 hv6 hb6 HA2
                go_wp2_with fail
                refine (texts_c p6 (some ⟨b3, o3, none⟩) m c6 m c (bs.take m) (bs.take m) w7 V6.out (HVM.out.below HB6.out (Nat.le_refl _)) (by omega) (by omega)).mono ?_
                rintro ex w8 ⟨rfl, nd3, rfl⟩
                have HB7 := Lib.hid (below_drewN HB6.out nd3)
                generalize w7.drewN nd3 = w8 at HB7 ⊢
                rw [show decide (bs.take m = bs.take m) = true from decide_eq_true rfl]
                go_wp2
                go_ret
                exact ⟨rfl, HB7.out⟩
end Go.Proofs.YtbpphflegjebaaaDoor
