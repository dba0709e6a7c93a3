/- NetOnce: what is neither lost nor doubled arrives once, as it was sent. -/
import Derived.Test.YtimaifehjgolmaaNetActs
import Derived.Test.YtimaifehjgolmaaMake
import Derived.Deep.CutBlock
namespace Go.Proofs.Ytimaifehjgolmaa
open Go.RowKit Go.Maps
set_option linter.unusedVariables false
set_option linter.unusedSimpArgs false
theorem opens_bodies (w : World) : Opens Try.prog w 22 RStrs (bulkL fun x => vbulk [.string x]) := opens_strs Try.underlying22 (by kernel_rfl) (by kernel_rfl) (by kernel_rfl) w
theorem opens_order (w : World) : Opens Try.prog w 23 RInts (bulkL fun x => vbulk [.int .i64 x]) := opens_ints Try.underlying23 (by kernel_rfl) (by kernel_rfl) (by kernel_rfl) w
def mkL (j : Nat) (t : ByteArray) : Letter := ⟨(j : Int) + 1, (j : Int) % 3, ((j : Int) + 1) % 3, t⟩
def onceL (bs : List ByteArray) : List Letter := bs.mapIdx mkL
theorem onceL_snoc (bs : List ByteArray) (t : ByteArray) : onceL (bs ++ [t]) = onceL bs ++ [mkL bs.length t] := by simp [onceL]
def onceS (L : List Letter) (n : Nat) : NS := ⟨3, n, L, fun _ => false⟩
theorem once_send (bs : List ByteArray) (t : ByteArray) (k : Nat) (hk : bs.length = k) (h1 : t.size ≤ 1048576) (h2 : k < 65536) :
    (onceS (onceL bs) k).send ((k : Int) % 3) (((k : Int) + 1) % 3) t = (onceS (onceL (bs ++ [t])) (k + 1), (k : Int) + 1, 0) := by
  have hkn : (onceS (onceL bs) k).knows ((k : Int) % 3) (((k : Int) + 1) % 3) = true := by
    unfold NS.knows onceS
    simp; omega
  have hl : (onceS (onceL bs) k).fly.length = k := by simp [onceS, onceL, hk]
  unfold NS.send
  rw [hkn, if_neg (by decide), if_neg (by omega), if_neg (by rw [hl]; omega), onceL_snoc, hk]
  rfl
/-- What is left under way: letters that were sent, none of them seen. -/
structure Left (bs : List ByteArray) (L : List Letter) (ss : List Bool) : Prop where
  nd : L.Pairwise (fun a b => a.num ≠ b.num)
  one : ∀ l ∈ L, ∃ j t, bs[j]? = some t ∧ l = mkL j t ∧ ss[j]? = some false
theorem Left.start (bs : List ByteArray) : Left bs (onceL bs) (List.replicate bs.length false) := by
  refine ⟨?_, fun l hl => ?_⟩
  · unfold onceL
    rw [List.pairwise_iff_getElem]
    intro i j hi hj hij
    rw [List.getElem_mapIdx, List.getElem_mapIdx]
    show (i : Int) + 1 ≠ (j : Int) + 1
    omega
  · obtain ⟨j, hj⟩ := List.mem_iff_getElem?.1 hl
    simp only [onceL, List.getElem?_mapIdx, Option.map_eq_some_iff] at hj
    obtain ⟨t, ht, rfl⟩ := hj
    exact ⟨j, t, ht, rfl, by rw [List.getElem?_replicate, if_pos (List.getElem?_eq_some_iff.1 ht).1]⟩
theorem Left.take {bs : List ByteArray} {L : List Letter} {ss : List Bool} (h : Left bs L ss) {k j : Nat} {t : ByteArray} (hk : L[k]? = some (mkL j t)) : Left bs (L.eraseIdx k) (ss.set j true) := by
  refine ⟨h.nd.sublist (List.eraseIdx_sublist L k), fun l hl => ?_⟩
  obtain ⟨i, t', ht, rfl, hs⟩ := h.one l (List.mem_of_mem_eraseIdx hl)
  refine ⟨i, t', ht, rfl, ?_⟩
  obtain ⟨m, hm, hml⟩ := List.mem_eraseIdx_iff_getElem?.1 hl
  have hne : i ≠ j := by
    rintro rfl
    have hp := List.pairwise_iff_getElem.1 h.nd
    have e1 := List.getElem?_eq_some_iff.1 hml
    have e2 := List.getElem?_eq_some_iff.1 hk
    obtain ⟨l1, e1⟩ := e1
    obtain ⟨l2, e2⟩ := e2
    rcases Nat.lt_or_ge m k with h1 | h1
    · have := hp m k l1 l2 h1
      rw [e1, e2] at this; exact this rfl
    · have := hp k m l2 l1 (by omega)
      rw [e1, e2] at this; exact this rfl
  rw [List.getElem?_set_ne (Ne.symm hne)]; exact hs
theorem once_deliver (L : List Letter) (n k : Nat) (l : Letter) (h : L[k]? = some l) : (onceS L n).deliver k = (onceS (L.eraseIdx k) n, l, 0) := by
  have hl : k < L.length := (List.getElem?_eq_some_iff.1 h).1
  have hh : (onceS L n).has k = true := by unfold NS.has onceS; simp; omega
  unfold NS.deliver
  rw [hh, Int.toNat_natCast, show (onceS L n).fly[k]? = some l from h]
  simp only
  rw [show (onceS L n).parted l.src l.dst = false from rfl, if_neg (by decide)]
  rfl
theorem once_none (n : Nat) : (onceS [] n).deliver 0 = (onceS [] n, noLetter, 2) := rfl
set_option maxHeartbeats 2000000 in
set_option maxRecDepth 20000 in
theorem netOnce_walk (W : World) (ba : Option Addr) (bl bc : Nat) (bs : List ByteArray) (hB : RStrs W [.slice ba bl bc] bs) (oa : Option Addr) (ol oc : Nat) (os : List Int) (hO : RInts W [.slice oa ol oc] os) :
    Calls Try.prog 3 #[.slice ba bl bc, .slice oa ol oc] W fun e w' => e = .returned (.bool true) ∧ Below W.heap.size W w' := by
  obtain ⟨hn, hnc, hcb, hcm, hel⟩ := rsl_get hB
  obtain ⟨hn2, hnc2, hcb2, hcm2, hel2⟩ := rsl_get hO
  have HEL := Lib.hid hel
  have HEL2 := Lib.hid hel2
  have hbl : bl * 16 ≤ 140737488351232 := by omega
  have hol : ol * 8 ≤ 140737488351232 := by omega
  have hmk := fun w => run_make1 (P := Try.prog) 30 4 (.bool false) 1 Try.underlying30 (by kernel_rfl) rfl bl (by omega) (by omega) w
  have HMK := Lib.hid hmk
  clear hmk hB hO hel hcb hcm hel2 hcb2 hcm2
  have hbi : ∀ x : Int, (x != x) = false := fun x => by simp
  go_enter Try.func3, Try.ntmps3
  go_wp2_with fail
  refine (speaks_any W).mono ?_
  rintro e w1 ⟨rfl, hb⟩
  have HB := Lib.hid hb
  clear hb
  go_wp2_with fail
  refine (My.new W w1 3 HB.out).mono ?_
  rintro e w2 ⟨rfl, m2, _⟩
  have M2 := Lib.hid m2
  clear m2
  go_wp2_with fail
  go_loopg [6] bl (fun g iv wr => ∃ (k : Nat) (v : Value), iv = .int .i64 k ∧ k ≤ bl ∧ k ≤ 65536 ∧ g = bl - k ∧ Hid (My W wr (w1.heap.size + 1) w1.heap.size 0 v (onceS (onceL (bs.take k)) k)))
  case atStart => exact ⟨0, _, rfl, Nat.zero_le _, Nat.zero_le _, rfl, M2⟩
  case round =>
    obtain ⟨k, v, rfl, hk, hk2, hg, MM⟩ := hrel
    subst hg
    clear M2
    have hq0 : 0 ≤ (k : Int) := by omega
    by_cases h : k < bl
    · obtain ⟨t, ht⟩ : ∃ t, bs[k]? = some t := ⟨bs[k], List.getElem?_eq_getElem (by omega)⟩
      obtain ⟨b, off, rfl, hbW, htw, hcell⟩ := HEL.out k t ht
      have dW : W.cell? ⟨b, off + k, none⟩ = some (.string t) := by
        have := hcell 0 (.string t) rfl
        rwa [Nat.mul_one, Nat.add_zero] at this
      have DW := Lib.hid dW
      clear dW
      have d0 : wr.cell? ⟨b, off + k, none⟩ = some (.string t) := by
        rw [← DW.out]
        exact World.cell?_of_block (MM.out.below.block b hbW)
      have hbk : (bs.take k).length = k := by rw [List.length_take]; omega
      have htk : bs.take (k + 1) = bs.take k ++ [t] := by
        rw [List.take_succ_eq_append_getElem (by omega)]
        congr 2
        exact (List.getElem?_eq_some_iff.1 ht).2
      have HTK := Lib.hid htk
      have HBK := Lib.hid hbk
      clear htk hbk hcell ht HEL HEL2 HMK
      have HBW := Lib.hid hbW
      clear hbW
      have HD : ∀ w', Below W.heap.size W w' → w'.cell? ⟨b, off + k, none⟩ = some (.string t) := fun w' hb => (World.cell?_of_block (w := W) (hb.block b HBW.out)).trans DW.out
      have HDD := Lib.hid HD
      clear HD
      by_cases h1 : 1048576 < t.size
      · rcases hop : (onceS (onceL (bs.take k)) k).send ((k : Int) % 3) (((k : Int) + 1) % 3) t with ⟨s', i, j⟩
        have HOP := Lib.hid hop
        clear hop
        go_wp2_with fail
        refine (MM.out.send _ _ t (by show (k : Int) < _; omega) HOP.out).mono ?_
        rintro e w3 ⟨rfl, v3, m3, r3⟩
        have M3 := Lib.hid m3
        have d1 := HDD.out w3 m3.below
        clear m3 r3
        go_wp2_with fail
        go_ret
        exact ⟨rfl, M3.out.below⟩
      · by_cases h2 : 65536 ≤ k
        · have h3 : decide ((65536 : Int) ≤ (k : Int)) = true := by simpa using (by omega)
          rcases hop : (onceS (onceL (bs.take k)) k).send ((k : Int) % 3) (((k : Int) + 1) % 3) t with ⟨s', i, j⟩
          have HOP := Lib.hid hop
          clear hop h2
          go_wp2_with fail
          refine (MM.out.send _ _ t (by show (k : Int) < _; omega) HOP.out).mono ?_
          rintro e w3 ⟨rfl, v3, m3, r3⟩
          have M3 := Lib.hid m3
          have d1 := HDD.out w3 m3.below
          clear m3 r3
          go_wp2_with fail
          go_ret
          exact ⟨rfl, M3.out.below⟩
        · have h3 : decide ((65536 : Int) ≤ (k : Int)) = false := by simpa using (by omega)
          have HOP := Lib.hid (once_send (bs.take k) t k HBK.out (by omega) (by omega))
          rw [← HTK.out] at HOP
          have H2 := Lib.hid h2
          clear h2
          go_wp2_with fail
          refine (MM.out.send _ _ t (by show (k : Int) < _; omega) HOP.out).mono ?_
          rintro e w3 ⟨rfl, v3, m3, r3⟩
          have M3 := Lib.hid m3
          have d1 := HDD.out w3 m3.below
          clear m3 r3
          go_wp2_with fail
          go_roundg (bl - (k + 1))
          case measure => omega
          case rel => exact ⟨k + 1, v3, val_int (by omega), by omega, by have := H2.out; omega, rfl, M3⟩
    · obtain rfl : k = bl := by omega
      have hmk := HMK.out
      have hl0 := Left.start bs
      rw [List.take_of_length_le (by omega)] at MM
      rw [hn] at hl0
      have HL0 := Lib.hid hl0
      clear hl0
      go_wp2_with fail
      have MM0 := MM
      have MA := Lib.hid (MM.out.alloc (.cells (rep k (.bool false)) 4))
      have HS := Lib.hid (Blk.make wr k (.bool false) 4)
      have HBR := Lib.hid MM.out.below.size
      have hls : (onceL bs).length = k := by simp [onceL, hn]
      have HLS := Lib.hid hls
      clear hls
      rw [show List.replicate k (Value.bool false) = (List.replicate k false).map .bool by simp] at HS
      have hlr : (List.replicate k false).length = k := by simp
      have HLR := Lib.hid hlr
      clear hlr hmk HMK MM
      have HVG : Hid (v.ownBlock ≠ some wr.heap.size ∧ wr.heap.size ≠ w1.heap.size + 1 ∧ wr.heap.size ≠ w1.heap.size) := Lib.hid (by have h := MM0.out.is.lt; exact ⟨fun e => by have := h.2.2 _ e; omega, by omega, by omega⟩)
      clear MM0
      have hg0 : wr.heap.size < (wr.alloc (.cells (rep k (.bool false)) 4)).heap.size := by simp
      have HG0 := Lib.hid hg0
      clear hg0
      generalize hwr : wr.heap.size = g at HS HBR HG0 HVG ⊢
      clear hwr
      generalize wr.alloc (.cells (rep k (.bool false)) 4) = wq at MA HS HG0 ⊢
      generalize List.replicate k false = ss at HS HL0 HLR
      have hvg : v.ownBlock ≠ some g ∧ g ≠ w1.heap.size + 1 ∧ g ≠ w1.heap.size := HVG.out
      have HV0 := Lib.hid hvg
      clear hvg HVG
      go_loopg [10] k (fun m iv wr' => ∃ (i : Nat) (v : Value) (L : List Letter) (ss : List Bool), iv = .int .i64 i ∧ i ≤ k ∧ m = k - i ∧ L.length + i = k ∧ ss.length = k ∧ g < wr'.heap.size ∧ Hid (v.ownBlock ≠ some g ∧ g ≠ w1.heap.size + 1 ∧ g ≠ w1.heap.size) ∧ Hid (My W wr' (w1.heap.size + 1) w1.heap.size 0 v (onceS L k)) ∧ Hid (Left bs L ss) ∧ Hid (Blk wr' g (ss.map .bool) 4))
      case atStart => exact ⟨0, v, onceL bs, ss, rfl, Nat.zero_le _, rfl, HLS.out, HLR.out, HG0.out, HV0, MA, HL0, HS⟩
      case round =>
        obtain ⟨i, v, L, ss, rfl, hi, hm, hL, hss, hgl, HV, MM, HL, HS⟩ := hrel
        subst hm
        clear HLS HLR HG0 HV0 MA HL0
        by_cases hlt : i < k
        · go_upto_region 17 with (fail)
          go_cut [76] (fun v wc => wr = wc ∧ ∃ q : Bool, v = .bool q ∧ (q = true → ∃ o, os[i]? = some o ∧ 0 < o))
          case first =>
            by_cases h1 : i < ol
            · obtain ⟨o, ho⟩ : ∃ o, os[i]? = some o := ⟨os[i], List.getElem?_eq_getElem (by omega)⟩
              obtain ⟨b, off, rfl, hbW, how, hcell⟩ := HEL2.out i o ho
              have dW := hcell 0 (.int .i64 o) rfl
              rw [Nat.mul_one, Nat.add_zero] at dW
              have d0 : wr.cell? ⟨b, off + i, none⟩ = some (.int .i64 o) := (World.cell?_of_block (w := W) (MM.out.below.block b hbW)).trans dW
              have HOO := Lib.hid ho
              clear hcell how dW ho HEL HEL2
              by_cases h2 : 0 < o
              · go_wp2
                go_meet
                exact ⟨rfl, _, rfl, fun _ => ⟨o, HOO.out, h2⟩⟩
              · go_wp2
                go_meet
                exact ⟨rfl, _, rfl, fun e => by first | (simp at e; done) | (simp at e; omega)⟩
            · go_wp2
              go_meet
              exact ⟨rfl, _, rfl, fun e => by simp at e⟩
          obtain ⟨rfl, q, rfl, hq⟩ := hcut
          go_upto_if 76 with (fail)
          go_cut [11] (fun v wc => wr = wc ∧ ∃ kk : Nat, v = .int .i64 kk ∧ kk + i < k)
          case first =>
            cases q
            · clear hq
              go_wp2
              go_meet
              exact ⟨rfl, 0, rfl, by omega⟩
            · obtain ⟨o, ho, h2⟩ := hq rfl
              obtain ⟨b, off, rfl, hbW, how, hcell⟩ := HEL2.out i o ho
              have dW := hcell 0 (.int .i64 o) rfl
              rw [Nat.mul_one, Nat.add_zero] at dW
              have d0 : wr.cell? ⟨b, off + i, none⟩ = some (.int .i64 o) := (World.cell?_of_block (w := W) (MM.out.below.block b hbW)).trans dW
              have h1 : i < ol := by have := (List.getElem?_eq_some_iff.1 ho).1; omega
              have h3 := how.hi
              have h4 : ((k : Int) - i == 0) = false := by simp; omega
              have h5 : 0 < (k : Int) - i := by omega
              clear hcell how dW ho HEL HEL2 hq
              go_wp2
              go_meet
              have h6 := Int.emod_nonneg o (b := (k : Int) - i) (by omega)
              have h7 := Int.emod_lt_of_pos o h5
              exact ⟨rfl, (o % ((k : Int) - i)).toNat, val_int (by omega), by omega⟩
          obtain ⟨rfl, kk, rfl, hkk⟩ := hcut
          clear hq
          obtain ⟨l, hl⟩ : ∃ l, L[kk]? = some l := ⟨L[kk]'(by omega), List.getElem?_eq_getElem _⟩
          obtain ⟨j, t, ht, rfl, hsj⟩ := HL.out.one l (List.mem_of_getElem? hl)
          have hj : j < k := by have := (List.getElem?_eq_some_iff.1 ht).1; omega
          have HOP : Hid ((onceS L k).deliver kk = (onceS (L.eraseIdx kk) k, ⟨(j : Int) + 1, (j : Int) % 3, ((j : Int) + 1) % 3, t⟩, 0)) := Lib.hid (once_deliver L k kk _ hl)
          have HL2 := Lib.hid (HL.out.take hl)
          obtain ⟨b, off, rfl, hbW, _, hcell⟩ := HEL.out j t ht
          have dW := hcell 0 (.string t) rfl
          rw [Nat.mul_one, Nat.add_zero] at dW
          have DW := Lib.hid dW
          have HBW := Lib.hid hbW
          have hel1 : (L.eraseIdx kk).length + (i + 1) = k := by rw [List.length_eraseIdx, if_pos (by omega)]; omega
          have HEL1 := Lib.hid hel1
          have HSJ := Lib.hid hsj
          clear hcell dW hbW hsj ht hl HEL HEL2 hel1
          go_wp2_with fail
          refine (MM.out.deliver kk HOP.out).mono ?_
          rintro e w3 ⟨rfl, v3, m3, r3⟩
          have HS3 := Lib.hid (HS.out.fr r3.fr (by rintro (e | e | e); exact HV.out.2.1 e; exact HV.out.2.2 e; exact HV.out.1 e))
          have hv3 : v3.ownBlock ≠ some g := by
            rcases r3.lies with e | ⟨g', e, hg'⟩
            · rw [e]; exact HV.out.1
            · rw [e]; intro e'; have := Option.some.inj e'; omega
          have HV3 := Lib.hid hv3
          have hgl3 : g < w3.heap.size := Nat.lt_of_lt_of_le hgl r3.fr.size
          have M3 := Lib.hid m3
          clear m3 r3 hv3 HS MM
          go_upto_region 20 with (fail)
          have MX := Lib.hid (M3.out.alloc (.cells #[.int .i64 ((j : Int) + 1), .int .i64 ((j : Int) % 3), .int .i64 (((j : Int) + 1) % 3), .string t] 32))
          have HX := Lib.hid (Blk.new w3 [.int .i64 ((j : Int) + 1), .int .i64 ((j : Int) % 3), .int .i64 (((j : Int) + 1) % 3), .string t] 32)
          have HSX := Lib.hid (HS3.out.alloc (.cells #[.int .i64 ((j : Int) + 1), .int .i64 ((j : Int) % 3), .int .i64 (((j : Int) + 1) % 3), .string t] 32))
          rw [show ([.int .i64 ((j : Int) + 1), .int .i64 ((j : Int) % 3), .int .i64 (((j : Int) + 1) % 3), .string t] : List Value).toArray = #[.int .i64 ((j : Int) + 1), .int .i64 ((j : Int) % 3), .int .i64 (((j : Int) + 1) % 3), .string t] from rfl] at HX
          have hgx : g < (w3.alloc (.cells #[.int .i64 ((j : Int) + 1), .int .i64 ((j : Int) % 3), .int .i64 (((j : Int) + 1) % 3), .string t] 32)).heap.size := by simp; omega
          generalize hgl : w3.heap.size = gl at HX ⊢
          generalize w3.alloc (.cells #[.int .i64 ((j : Int) + 1), .int .i64 ((j : Int) % 3), .int .i64 (((j : Int) + 1) % 3), .string t] 32) = wx at MX HX HSX hgx ⊢
          have z0 : wx.cell? ⟨gl, 0, none⟩ = some (.int .i64 ((j : Int) + 1)) := HX.out.cell 0
          have z1 : wx.cell? ⟨gl, 1, none⟩ = some (.int .i64 ((j : Int) % 3)) := HX.out.cell 1
          have z2 : wx.cell? ⟨gl, 2, none⟩ = some (.int .i64 (((j : Int) + 1) % 3)) := HX.out.cell 2
          have z3 : wx.cell? ⟨gl, 3, none⟩ = some (.string t) := HX.out.cell 3
          have zs : wx.cell? ⟨g, j, none⟩ = some (.bool false) := (HSX.out.cell j).trans (by simp [HSJ.out])
          have zfz : wx.frozen? ⟨g, j, none⟩ = false := HSX.out.frozen j
          have zb : wx.cell? ⟨b, off + j, none⟩ = some (.string t) := (World.cell?_of_block (w := W) (MX.out.below.block b HBW.out)).trans DW.out
          have HGX : ∀ n, g < ((wx.setCell ⟨g, j, none⟩ (.bool true)).drewN n).heap.size := fun n => by show g < (wx.setCell ⟨g, j, none⟩ (.bool true)).heap.size; rw [World.size_setCell]; exact hgx
          have hgx0 := Lib.hid HGX
          clear HGX
          have hw1 : IntKind.i64.wrap ((j : Int) + 1 - 1) = (j : Int) := by rw [IntKind.wrap_i64]; omega
          have hj0 : (0 : Int) ≤ (j : Int) := by omega
          have hj1 : (j : Int) < (k : Int) := by omega
          have hj2 : ¬ ((j : Int) + 1 < 1) := by omega
          have hj3 : ¬ ((k : Int) < (j : Int) + 1) := by omega
          go_quiet (fail)
          clear zb z1 z2 z3 hj2 hj3
          go_wp2_with fail
          go_roundg (k - (i + 1))
          case measure => omega
          case rel =>
            have hB2 := (HSX.out.set j (.bool true)).drewN nq
            rw [show (ss.map Value.bool).set j (.bool true) = (ss.set j true).map .bool by simp [List.map_set]] at hB2
            have hf2 : Fr wx (wx.setCell ⟨g, j, none⟩ (.bool true)) (fun x => x = g) := (Fr.refl wx _).setCell _ _ fun _ => rfl
            exact ⟨i + 1, v3, L.eraseIdx kk, ss.set j true, val_int (by omega), by omega, rfl, HEL1.out, (List.length_set ..).trans hss, hgx0.out nq, Lib.hid ⟨HV3.out, HV.out.2⟩, Lib.hid ((MX.out.other hf2 HBR.out HV.out.2.1 HV.out.2.2 HV3.out).drewN nq), HL2, Lib.hid hB2⟩
        · obtain rfl : L = [] := List.eq_nil_of_length_eq_zero (by omega)
          clear HEL HEL2 HL HS
          go_wp2_with fail
          refine (MM.out.deliver 0 (once_none k)).mono ?_
          rintro e w3 ⟨rfl, v3, m3, _⟩
          have M3 := Lib.hid m3
          clear m3
          go_wp2_with fail
          refine ((M3.out.alloc _).flying).mono ?_
          rintro e w4 ⟨A4, c4, rfl, _, m4, _⟩
          have M4 := Lib.hid m4
          clear m4
          rw [show (onceS [] k).fly.length = 0 from rfl]
          go_wp2_with fail
          go_ret
          exact ⟨rfl, M4.out.below⟩
end Go.Proofs.Ytimaifehjgolmaa
