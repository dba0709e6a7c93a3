/- record.Encode. -/
import Derived.Test.YtclalapadpjclaaDoorRecord
import Derived.Test.YtclalapadpjclaaDoorWire
import Derived.Test.YtclalapadpjclaaDoorApp
import Derived.ChangeKeysEq
namespace Rec
structure Msg where
  k : Int
  c : Int
  a : Int
  N : List Int
  T : List ByteArray
  deriving DecidableEq
structure Msg.Wf (m : Msg) : Prop where
  k1 : -9223372036854775808 ≤ m.k
  k2 : m.k ≤ 9223372036854775807
  c1 : -9223372036854775808 ≤ m.c
  c2 : m.c ≤ 9223372036854775807
  a1 : -9223372036854775808 ≤ m.a
  a2 : m.a ≤ 9223372036854775807
  n1 : ∀ x ∈ m.N, -9223372036854775808 ≤ x ∧ x ≤ 9223372036854775807
def txt (s : ByteArray) : List UInt8 := Wire.enc s.size ++ s.data.toList
def encN (l : List Int) : List UInt8 := (l.map Wire.enc).flatten
def encT (l : List ByteArray) : List UInt8 := (l.map txt).flatten
def body (m : Msg) : List UInt8 := encN [m.k, m.c, m.a, m.N.length] ++ encN m.N ++ (Wire.enc m.T.length ++ encT m.T)
def encB (m : Msg) : List UInt8 := if validB m.k m.N.length m.T.length then body m else []
theorem encN_snoc (l : List Int) (x : Int) : encN (l ++ [x]) = encN l ++ Wire.enc x := by simp [encN]
theorem encT_snoc (l : List ByteArray) (x : ByteArray) : encT (l ++ [x]) = encT l ++ txt x := by simp [encT]
theorem take_snoc {α : Type} {l : List α} {i : Nat} {x : α} (h : l[i]? = some x) : l.take (i + 1) = l.take i ++ [x] := by rw [List.take_add_one, h]; rfl
theorem encN_take_le (l : List Int) (i : Nat) : (encN (l.take i)).length ≤ (encN l).length := by
  conv => rhs; rw [← List.take_append_drop i l]
  simp only [encN, List.map_append, List.flatten_append, List.length_append]; omega
theorem encT_take_le (l : List ByteArray) (i : Nat) : (encT (l.take i)).length ≤ (encT l).length := by
  conv => rhs; rw [← List.take_append_drop i l]
  simp only [encT, List.map_append, List.flatten_append, List.length_append]; omega
end Rec
namespace Go.Proofs.YtclalapadpjclaaDoor
open Go.RowKit
set_option linter.unusedVariables false
set_option linter.unusedSimpArgs false
def ints (l : List Int) : List Value := l.map (Value.int .i64)
theorem ints_len (l : List Int) : (ints l).length = l.length := by simp [ints]
theorem ints_get {l : List Int} {i : Nat} {x : Int} (h : l[i]? = some x) : (ints l)[i]? = some (.int .i64 x) := by simp [ints, h]
theorem strs_get {l : List ByteArray} {i : Nat} {x : ByteArray} (h : l[i]? = some x) : (strs l)[i]? = some (.string x) := by simp [strs, h]
theorem run_index_arr {P : Program} {t e : TypeId} {n : Nat} (h : P.underlying t = some (.array n e)) (he : P.plainKey e = true) {i : TypeInfo} (hinfo : P.info? e = some i) (hc : P.cellsOf e = 1) {cs : Array Value} {j : Nat} {v : Value} (hj : j < n) (hv : cs[j]? = some v) (w : World) :
    (Instr.index t (.agg cs) (.int .i64 (j : Int))).run P w = .ok v w := by
  simp [Instr.index, run_underlying h, asIntOf, run_sizeOf w hinfo, hc, run_part_plain w he hv, Sem.run_bind, hj]
theorem index4 {k c a n v : Value} {j : Nat} (hj : j < 4) (hv : (#[k, c, a, n] : Array Value)[j]? = some v) (w : World) : (Instr.index 61 (.agg #[k, c, a, n]) (.int .i64 (j : Int))).run Tryd.prog w = .ok v w := by
  obtain ⟨i, hi⟩ : ∃ i, Tryd.prog.info? 3 = some i := ⟨_, rfl⟩
  exact run_index_arr Tryd.underlying61 (by kernel_rfl) hi (by kernel_rfl) hj hv w
theorem packR_keep {w2 wr : World} {b : Nat} {v : Value} (h : PackR w2 b (.slice none 0 0) wr v) {p : Addr} (hp : p.block < b) (hb : b < w2.heap.size) : wr.cell? p = w2.cell? p :=
  h.fr.cell (by omega) (by rintro (e | e); omega; cases e)
set_option maxRecDepth 20000 in
set_option maxHeartbeats 4000000 in
theorem encode_c (m : Rec.Msg) (hm : m.Wf) (pn : Option Addr) (cn : Nat) (pt : Option Addr) (ct : Nat) (w : World) (hN : Vw w 1 pn m.N.length cn (ints m.N)) (hT : Vw w 1 pt m.T.length ct (strs m.T))
    (hl : (Rec.body m).length ≤ 140737488355328) (hn : m.N.length ≤ 140737488355328) (ht : m.T.length ≤ 140737488355328) (hS : ShTab w) :
    Calls Tryd.prog 8 #[msgV m.k m.c m.a pn m.N.length cn pt m.T.length ct] w fun e w' => e = .returned (.string ⟨(Rec.encB m).toArray⟩) ∧ Below w.heap.size w w' := by
  have HV := fun w hT => Lib.hid (valid_c m.k m.c m.a pn m.N.length cn pt m.T.length ct hn ht w hT)
  have HB0 : Hid (Rec.encB m = if Rec.validB m.k m.N.length m.T.length then Rec.body m else []) := Lib.hid rfl
  generalize Rec.validB m.k m.N.length m.T.length = b at HV HB0
  have HN := Lib.hid hN
  have HT := Lib.hid hT
  have HS := Lib.hid hS
  have HL : Hid ((Rec.encN [m.k, m.c, m.a, m.N.length]).length + (Rec.encN m.N).length + ((Wire.enc m.T.length).length + (Rec.encT m.T).length) ≤ 140737488355328) := Lib.hid (by
    unfold Rec.body at hl
    simp only [List.length_append] at hl
    exact hl)
  have HWF := Lib.hid hm
  have HBD : Hid (Rec.body m = Rec.encN [m.k, m.c, m.a, m.N.length] ++ Rec.encN m.N ++ (Wire.enc m.T.length ++ Rec.encT m.T)) := Lib.hid rfl
  obtain ⟨k, c, a, N, T⟩ := m
  dsimp only at *
  generalize hnn : N.length = n at *
  generalize htt : T.length = t at *
  have HNN := Lib.hid hnn
  have HTT := Lib.hid htt
  have HNB := Lib.hid hn
  have HTB := Lib.hid ht
  generalize Rec.encB ⟨k, c, a, N, T⟩ = eb at HB0 ⊢
  generalize Rec.body ⟨k, c, a, N, T⟩ = bd at HB0 HBD
  clear hN hT hS hl hm hnn htt
  unfold msgV at *
  cases b with
  | false =>
    obtain rfl : eb = [] := HB0.out
    go_enter Tryd.func8, Tryd.ntmps8
    go_wp2_with fail
    refine (HV _ (HS.out.below ((Below.refl _ w).alloc (Nat.le_refl _) _) (Nat.le_refl _))).out.mono ?_
    rintro ex w1 ⟨rfl, hb⟩
    have HB := Lib.hid (((Below.refl _ w).alloc (Nat.le_refl _) _).trans (hb.mono (by simp)))
    clear hb
    go_wp2_with fail
    go_ret
    exact ⟨rfl, HB.out⟩
  | true =>
    obtain rfl : eb = bd := HB0.out
    clear HB0
    go_enter Tryd.func8, Tryd.ntmps8
    go_wp2_with fail
    refine (HV _ (HS.out.below ((Below.refl _ w).alloc (Nat.le_refl _) _) (Nat.le_refl _))).out.mono ?_
    rintro ex w1 ⟨rfl, hb⟩
    have HB1 := Lib.hid (((Below.refl _ w).alloc (Nat.le_refl _) (.cells #[.int .i64 k, .int .i64 c, .int .i64 a, .slice pn n cn, .slice pt t ct] 28)).trans (hb.mono (by simp)))
    have hs1 : w.heap.size + 1 ≤ w1.heap.size := by have := hb.size; simpa using this
    have HM1 := Lib.hid ((Blk.new w [.int .i64 k, .int .i64 c, .int .i64 a, .slice pn n cn, .slice pt t ct] 28).below hb (by simp))
    have HP1 := Lib.hid (PackAt.new w1)
    have HM2 := Lib.hid (HM1.out.alloc (.cells #[.slice none 0 0] 60))
    have HB2 := Lib.hid (HB1.out.alloc (by omega) (.cells #[.slice none 0 0] 60))
    have hsz : w1.heap.size < (w1.alloc (.cells #[.slice none 0 0] 60)).heap.size := by simp
    have HSZ := Lib.hid hsz
    have HS1 := Lib.hid hs1
    clear hb hs1 hsz
    go_upto_region 4 with (fail)
    generalize hbb : w1.heap.size = b at *
    generalize w1.alloc (.cells #[.slice none 0 0] 60) = w2 at HP1 HM2 HB2 HSZ ⊢
    have HKC : Hid (∀ wr v, PackR w2 b (.slice none 0 0) wr v → ∀ j, wr.cell? ⟨w.heap.size, j, none⟩ = [Value.int .i64 k, .int .i64 c, .int .i64 a, .slice pn n cn, .slice pt t ct][j]?) := Lib.hid fun wr v h j =>
      (packR_keep h (p := ⟨w.heap.size, j, none⟩) (by show w.heap.size < b; have := HS1.out; omega) HSZ.out).trans (HM2.out.cell j)
    have HKN : Hid (∀ wr v, PackR w2 b (.slice none 0 0) wr v → Vw wr 1 pn n cn (ints N) ∧ Vw wr 1 pt t ct (strs T)) := Lib.hid fun wr v h => by
      have hb := HB2.out.trans (h.below (B := w.heap.size) (by have := HS1.out; omega) (fun k e => by cases e) HB2.out.size)
      exact ⟨HN.out.below hb (Nat.le_refl _), HT.out.below hb (Nat.le_refl _)⟩
    clear HM1 HB1 HM2
    have d0 := HKC.out _ _ (PackR.refl w2 b _) 0
    have d1 := HKC.out _ _ (PackR.refl w2 b _) 1
    have d2 := HKC.out _ _ (PackR.refl w2 b _) 2
    have d3 := HKC.out _ _ (PackR.refl w2 b _) 3
    simp only [List.getElem?_cons_zero, List.getElem?_cons_succ] at d0 d1 d2 d3
    go_wp2_with fail
    clear d0 d1 d2 d3
    go_loopg [23, 5] 4 (fun g iv xv wr => ∃ (i : Nat) (v : Value), iv = .int .i64 (i : Int) ∧ i + g = 4 ∧ Hid (PackAt wr b v (Rec.encN ([k, c, a, (n : Int)].take i))) ∧ Hid (PackR w2 b (.slice none 0 0) wr v))
    case atStart => exact ⟨0, _, rfl, rfl, HP1, Lib.hid (PackR.refl _ _ _)⟩
    case round =>
      clear HP1
      obtain ⟨i, v, rfl, hg, HP, HR⟩ := hrel
      have hi4 : i = 0 ∨ i = 1 ∨ i = 2 ∨ i = 3 ∨ i = 4 := by omega
      rcases hi4 with rfl | rfl | rfl | rfl | rfl
      · have ix : ∀ w, (Instr.index 61 (.agg #[.int .i64 k, .int .i64 c, .int .i64 a, .int .i64 (n : Int)]) (.int .i64 0)).run Tryd.prog w = .ok (.int .i64 k) w := fun w => index4 (j := 0) (by decide) rfl w
        go_wp2_with fail
        clear ix
        refine (pint_any b v _ ((k : Int)) HWF.out.k1 HWF.out.k2 wr HP.out (by
          have h1 := Rec.encN_take_le [k, c, a, (n : Int)] 1
          have h2 := HL.out
          rw [show [k, c, a, (n : Int)].take 1 = [k, c, a, (n : Int)].take 0 ++ [((k : Int))] from rfl, Rec.encN_snoc] at h1
          omega)).mono ?_
        rintro ex w3 ⟨rfl, v3, hp, hr⟩
        have HP3 := Lib.hid hp
        have HR3 := Lib.hid (HR.out.trans hr)
        clear hp hr
        go_wp2_with fail
        go_roundg 3
        case measure => omega
        case rel =>
          refine ⟨1, v3, by first | rfl | go_num, rfl, ?_, HR3⟩
          rw [show [k, c, a, (n : Int)].take 1 = [k, c, a, (n : Int)].take 0 ++ [((k : Int))] from rfl, Rec.encN_snoc]
          exact HP3
      · have ix : ∀ w, (Instr.index 61 (.agg #[.int .i64 k, .int .i64 c, .int .i64 a, .int .i64 (n : Int)]) (.int .i64 1)).run Tryd.prog w = .ok (.int .i64 c) w := fun w => index4 (j := 1) (by decide) rfl w
        go_wp2_with fail
        clear ix
        refine (pint_any b v _ ((c : Int)) HWF.out.c1 HWF.out.c2 wr HP.out (by
          have h1 := Rec.encN_take_le [k, c, a, (n : Int)] 2
          have h2 := HL.out
          rw [show [k, c, a, (n : Int)].take 2 = [k, c, a, (n : Int)].take 1 ++ [((c : Int))] from rfl, Rec.encN_snoc] at h1
          omega)).mono ?_
        rintro ex w3 ⟨rfl, v3, hp, hr⟩
        have HP3 := Lib.hid hp
        have HR3 := Lib.hid (HR.out.trans hr)
        clear hp hr
        go_wp2_with fail
        go_roundg 2
        case measure => omega
        case rel =>
          refine ⟨2, v3, by first | rfl | go_num, rfl, ?_, HR3⟩
          rw [show [k, c, a, (n : Int)].take 2 = [k, c, a, (n : Int)].take 1 ++ [((c : Int))] from rfl, Rec.encN_snoc]
          exact HP3
      · have ix : ∀ w, (Instr.index 61 (.agg #[.int .i64 k, .int .i64 c, .int .i64 a, .int .i64 (n : Int)]) (.int .i64 2)).run Tryd.prog w = .ok (.int .i64 a) w := fun w => index4 (j := 2) (by decide) rfl w
        go_wp2_with fail
        clear ix
        refine (pint_any b v _ ((a : Int)) HWF.out.a1 HWF.out.a2 wr HP.out (by
          have h1 := Rec.encN_take_le [k, c, a, (n : Int)] 3
          have h2 := HL.out
          rw [show [k, c, a, (n : Int)].take 3 = [k, c, a, (n : Int)].take 2 ++ [((a : Int))] from rfl, Rec.encN_snoc] at h1
          omega)).mono ?_
        rintro ex w3 ⟨rfl, v3, hp, hr⟩
        have HP3 := Lib.hid hp
        have HR3 := Lib.hid (HR.out.trans hr)
        clear hp hr
        go_wp2_with fail
        go_roundg 1
        case measure => omega
        case rel =>
          refine ⟨3, v3, by first | rfl | go_num, rfl, ?_, HR3⟩
          rw [show [k, c, a, (n : Int)].take 3 = [k, c, a, (n : Int)].take 2 ++ [((a : Int))] from rfl, Rec.encN_snoc]
          exact HP3
      · have ix : ∀ w, (Instr.index 61 (.agg #[.int .i64 k, .int .i64 c, .int .i64 a, .int .i64 (n : Int)]) (.int .i64 3)).run Tryd.prog w = .ok (.int .i64 (n : Int)) w := fun w => index4 (j := 3) (by decide) rfl w
        go_wp2_with fail
        clear ix
        refine (pint_any b v _ ((n : Int)) (by omega) (by have := HNB.out; omega) wr HP.out (by
          have h1 := Rec.encN_take_le [k, c, a, (n : Int)] 4
          have h2 := HL.out
          rw [show [k, c, a, (n : Int)].take 4 = [k, c, a, (n : Int)].take 3 ++ [((n : Int))] from rfl, Rec.encN_snoc] at h1
          omega)).mono ?_
        rintro ex w3 ⟨rfl, v3, hp, hr⟩
        have HP3 := Lib.hid hp
        have HR3 := Lib.hid (HR.out.trans hr)
        clear hp hr
        go_wp2_with fail
        go_roundg 0
        case measure => omega
        case rel =>
          refine ⟨4, v3, by first | rfl | go_num, rfl, ?_, HR3⟩
          rw [show [k, c, a, (n : Int)].take 4 = [k, c, a, (n : Int)].take 3 ++ [((n : Int))] from rfl, Rec.encN_snoc]
          exact HP3
      · have HP' : Hid (PackAt wr b v (Rec.encN [k, c, a, (n : Int)])) := HP
        have c3 := HKC.out _ _ HR.out 3
        simp only [List.getElem?_cons_zero, List.getElem?_cons_succ] at c3
        clear HP hg
        go_wp2_with fail
        clear c3
        go_loopg [32, 7] n (fun g iv xv wr => ∃ (i : Nat) (v : Value), iv = .int .i64 (i : Int) ∧ i + g = n ∧ Hid (PackAt wr b v (Rec.encN [k, c, a, (n : Int)] ++ Rec.encN (N.take i))) ∧ Hid (PackR w2 b (.slice none 0 0) wr v))
        case atStart => exact ⟨0, v, rfl, by omega, Lib.hid (by rw [List.take_zero, show Rec.encN [] = [] from rfl, List.append_nil]; exact HP'.out), HR⟩
        case round =>
          clear HP' HR
          obtain ⟨i, v, rfl, hg, HP, HR⟩ := hrel
          by_cases hlt : i < n
          · have t1 : decide ((i : Int) < (n : Int)) = true := decide_eq_true (by omega)
            have t1n : decide (i < n) = true := decide_eq_true hlt
            obtain ⟨x, hx⟩ : ∃ x, N[i]? = some x := ⟨N[i]'(by rw [HNN.out]; exact hlt), List.getElem?_eq_getElem _⟩
            obtain ⟨b1, o1, rfl, _, cx⟩ := (HKN.out _ _ HR.out).1.at1 (ints_get hx)
            have ia : ((i : Int)).toNat = i := by omega
            have pa : (0 : Int) ≤ (i : Int) := by omega
            have lz : (i : Int) < (n : Int) := by omega
            have hxw := HWF.out.n1 x (List.mem_of_getElem? hx)
            have htk := Rec.take_snoc hx
            have HTK := Lib.hid htk
            have hle : (Rec.encN (N.take i) ++ Wire.enc x).length ≤ (Rec.encN N).length := by rw [← Rec.encN_snoc, ← htk]; exact Rec.encN_take_le N (i + 1)
            have HLE := Lib.hid hle
            have HXW := Lib.hid hxw
            have HG := Lib.hid hg
            clear hx hxw htk hle hg hlt
            go_wp2_with fail
            refine (pint_any b v _ x HXW.out.1 HXW.out.2 wr HP.out (by
              have h1 := HLE.out; have h2 := HL.out
              simp only [List.length_append] at h1 ⊢; omega)).mono ?_
            rintro ex w3 ⟨rfl, v3, hp, hr⟩
            have HP3 := Lib.hid hp
            have HR3 := Lib.hid (HR.out.trans hr)
            clear hp hr cx
            go_wp2_with fail
            go_roundg (n - (i + 1))
            case measure => have := HG.out; omega
            case rel =>
              refine ⟨i + 1, v3, by first | rfl | go_num, by have := HG.out; omega, ?_, HR3⟩
              rw [HTK.out, Rec.encN_snoc, ← List.append_assoc]
              exact HP3
          · obtain rfl : i = n := by omega
            have t1 : decide ((i : Int) < (i : Int)) = false := decide_eq_false (by omega)
            have t1n : decide (i < i) = false := decide_eq_false (by omega)
            have HP' : Hid (PackAt wr b v (Rec.encN [k, c, a, (i : Int)] ++ Rec.encN N)) := by
              rw [List.take_of_length_le (by rw [HNN.out]; omega)] at HP; exact HP
            have c4 := HKC.out _ _ HR.out 4
            simp only [List.getElem?_cons_zero, List.getElem?_cons_succ] at c4
            clear HP hg hlt
            go_wp2_with fail
            refine (pint_any b v _ (t : Int) (by omega) (by have := HTB.out; omega) wr HP'.out (by
              have h2 := HL.out
              simp only [List.length_append] at h2 ⊢; omega)).mono ?_
            rintro ex w3 ⟨rfl, v3, hp, hr⟩
            have HP3 := Lib.hid hp
            have HR3 := Lib.hid (HR.out.trans hr)
            clear hp hr c4 HP' HR
            have c4 := HKC.out _ _ HR3.out 4
            simp only [List.getElem?_cons_zero, List.getElem?_cons_succ] at c4
            go_wp2_with fail
            clear c4
            go_loopg [46, 9] t (fun g iv xv wr => ∃ (j : Nat) (v : Value), iv = .int .i64 (j : Int) ∧ j + g = t ∧ Hid (PackAt wr b v ((Rec.encN [k, c, a, (i : Int)] ++ Rec.encN N) ++ Wire.enc t ++ Rec.encT (T.take j))) ∧ Hid (PackR w2 b (.slice none 0 0) wr v))
            case atStart => exact ⟨0, v3, rfl, by omega, Lib.hid (by rw [List.take_zero, show Rec.encT [] = [] from rfl, List.append_nil]; exact HP3.out), HR3⟩
            case round =>
              clear HP3 HR3
              obtain ⟨j, v, rfl, hg, HP, HR⟩ := hrel
              by_cases hlt : j < t
              · have t2 : decide ((j : Int) < (t : Int)) = true := decide_eq_true (by omega)
                have t2n : decide (j < t) = true := decide_eq_true hlt
                obtain ⟨x, hx⟩ : ∃ x, T[j]? = some x := ⟨T[j]'(by rw [HTT.out]; exact hlt), List.getElem?_eq_getElem _⟩
                obtain ⟨b1, o1, rfl, _, cx⟩ := (HKN.out _ _ HR.out).2.at1 (strs_get hx)
                have ia : ((j : Int)).toNat = j := by omega
                have pa : (0 : Int) ≤ (j : Int) := by omega
                have lz : (j : Int) < (t : Int) := by omega
                have htk := Rec.take_snoc hx
                have HTK := Lib.hid htk
                have hle : (Rec.encT (T.take j) ++ Rec.txt x).length ≤ (Rec.encT T).length := by rw [← Rec.encT_snoc, ← htk]; exact Rec.encT_take_le T (j + 1)
                have HLE := Lib.hid hle
                have HG := Lib.hid hg
                clear hx htk hle hg hlt
                go_wp2_with fail
                refine (ptext_any b v _ x wr HP.out (by
                  have h1 := HLE.out; have h2 := HL.out
                  unfold Rec.txt at h1
                  simp only [List.length_append] at h1 ⊢; omega)).mono ?_
                rintro ex w3 ⟨rfl, v3, hp, hr⟩
                have HP3 := Lib.hid hp
                have HR3 := Lib.hid (HR.out.trans hr)
                clear hp hr cx
                go_wp2_with fail
                go_roundg (t - (j + 1))
                case measure => have := HG.out; omega
                case rel =>
                  refine ⟨j + 1, v3, by first | rfl | go_num, by have := HG.out; omega, ?_, HR3⟩
                  rw [HTK.out, Rec.encT_snoc, ← List.append_assoc]
                  exact HP3
              · obtain rfl : j = t := by omega
                have t2 : decide ((j : Int) < (j : Int)) = false := decide_eq_false (by omega)
                have t2n : decide (j < j) = false := decide_eq_false (by omega)
                have HP' : Hid (PackAt wr b v eb) := by
                  rw [List.take_of_length_le (by rw [HTT.out]; omega), List.append_assoc, ← HBD.out] at HP; exact HP
                have HB := Lib.hid (HB2.out.trans (HR.out.below (B := w.heap.size) (by have := HS1.out; omega) (fun k e => by cases e) HB2.out.size))
                clear HP hg hlt
                go_wp2_with fail
                refine (pbytes_any b v _ wr HP'.out).mono ?_
                rintro ex w3 ⟨rfl, rfl⟩
                go_wp2_with fail
                go_ret
                exact ⟨rfl, HB.out⟩
end Go.Proofs.YtclalapadpjclaaDoor
