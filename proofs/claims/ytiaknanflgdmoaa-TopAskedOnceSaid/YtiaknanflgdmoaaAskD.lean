/- decimal and value. -/
import Derived.Test.YtiaknanflgdmoaaAsk
import Derived.Test.YtiaknanflgdmoaaAskP
namespace Go.Proofs.Ytiaknanflgdmoaa
open Go.RowKit Go.Maps
set_option linter.unusedVariables false
set_option linter.unusedSimpArgs false
def txt (l : List UInt8) : ByteArray := ⟨l.toArray⟩
theorem txt_app (d : UInt8) (S : List UInt8) : (⟨#[d]⟩ : ByteArray) ++ txt S = txt (d :: S) := by
  apply ByteArray.ext
  simp [txt]
theorem txt_size (S : List UInt8) : (txt S).size = S.length := by simp [txt, ByteArray.size]
set_option maxHeartbeats 1000000 in
theorem decimal_c (x : Nat) (hx : x < 1000000000000000000) (w : World) :
    Calls Try.prog 18 #[.int .i64 x] w fun e w' => e = .returned (.string (txt (dec x))) ∧ Below w.heap.size w w' := by
  have hT : txt (dec x) = txt (dec x ++ []) := by simp
  have HL := Lib.hid (dec_len x 17 hx)
  rw [hT]
  clear hT
  have hW := Lib.hid (Below.refl w.heap.size w)
  go_enter Try.func18, Try.ntmps18
  go_wp2
  go_loopg [0, 3] x (fun g xv sv wr => ∃ (m : Nat) (S : List UInt8), xv = .int .i64 m ∧ sv = .string (txt S) ∧ g = m ∧ m < 1000000000000000000 ∧ Hid (dec x ++ [] = dec m ++ S) ∧ Hid (Below w.heap.size w wr))
  case atStart => exact ⟨x, [], rfl, rfl, rfl, hx, Lib.hid rfl, hW⟩
  case round =>
    obtain ⟨m, S, rfl, rfl, hg, hm, HE, HB⟩ := hrel
    clear hW
    have hd := digit_toNat (m % 10) (by omega)
    have hB := Blk.new wr (bytes [UInt8.ofNat (48 + m % 10)]) 5
    have hcv := conv_bytes (P := Try.prog) hB.cells 68 9 5 1 Try.underlying68 Try.underlying5 Try.underlying9 1 rfl
    rw [show (bytes [UInt8.ofNat (48 + m % 10)]).toArray = #[.int .u8 (48 + m % 10)] by simp [bytes]; omega] at hcv
    have m0 : (0 : Int) ≤ (m : Int) := by omega
    have e1 : ((m : Int) % 10 + 48) % 256 = 48 + (m : Int) % 10 := by omega
    have hS : (txt S).size ≤ 18 := by
      have h1 := congrArg List.length HE.out
      simp only [List.length_append, List.append_nil] at h1
      have := HL.out
      rw [txt_size]; omega
    generalize hdd : UInt8.ofNat (48 + m % 10) = d at hcv
    have hta := txt_app d S
    have hBW : Hid (Below w.heap.size w (wr.alloc (.cells #[.int .u8 (48 + m % 10)] 5))) := Lib.hid (HB.out.alloc HB.out.size _)
    have HDD := Lib.hid hdd
    clear hd hB hdd
    by_cases h10 : m < 10
    · have h1 : decide ((m : Int) / 10 < 1) = true := by simp; omega
      have HFin : Hid (dec x ++ [] = d :: S) := Lib.hid (by rw [HE.out, dec_small h10, HDD.out]; rfl)
      go_wp2
      go_ret
      exact ⟨by rw [HFin.out]; rfl, hBW.out⟩
    · have h1 : decide ((m : Int) / 10 < 1) = false := by simp; omega
      have HFin : Hid (dec x ++ [] = dec (m / 10) ++ (d :: S)) := Lib.hid (by rw [HE.out, dec_big h10, HDD.out, List.append_assoc]; rfl)
      go_wp2
      go_roundg (m / 10)
      case measure => omega
      case rel => exact ⟨m / 10, d :: S, by simp, rfl, rfl, by omega, HFin, hBW⟩
set_option maxHeartbeats 1000000 in
theorem valueL_c (L : List UInt8) (hl : L.length ≤ 18) (hd : ∀ b ∈ L, 48 ≤ b.toNat ∧ b.toNat ≤ 57) (hvx : val L < 1000000000000000000) (w : World) :
    Calls Try.prog 11 #[.string (txt L)] w fun e w' => e = .returned (.int .i64 (val L)) ∧ w = w' := by
  have HD := Lib.hid hd
  have hsz := txt_size L
  have HV := Lib.hid hvx
  clear hd hvx
  go_enter Try.func11, Try.ntmps11
  go_wp2
  go_loopg [3, 4] L.length (fun g nv iv wr => w = wr ∧ ∃ i : Nat, nv = .int .i64 (val (L.take i)) ∧ iv = .int .i64 i ∧ i ≤ L.length ∧ g = L.length - i)
  case atStart => exact ⟨rfl, 0, rfl, rfl, Nat.zero_le _, rfl⟩
  case round =>
    obtain ⟨rfl, i, rfl, rfl, hi, hg⟩ := hrel
    by_cases h : i < L.length
    · obtain ⟨b, hb⟩ : ∃ b, L[i]? = some b := ⟨L[i], List.getElem?_eq_getElem h⟩
      have hbd := HD.out b (List.mem_of_getElem? hb)
      have htk : L.take (i + 1) = L.take i ++ [b] := by
        rw [List.take_succ_eq_append_getElem h]
        congr 2
        exact (List.getElem?_eq_some_iff.1 hb).2
      have hv1 := val_snoc (L.take i) b
      rw [← htk] at hv1
      have hv2 := val_take_le L (i + 1)
      have hv3 := HV.out
      have hbb : ∀ h', (txt L)[i]'h' = b := fun h' => by
        have := (List.getElem?_eq_some_iff.1 hb).2
        simpa [txt, ByteArray.getElem_eq_getElem_data] using this
      have HV1 := Lib.hid hv1
      generalize hvi : val (L.take i) = p at hv1 HV1 ⊢
      have e3 : ((b.toNat : Int) - 48) % 256 = (b.toNat : Int) - 48 := by omega
      have e4 : wrap64 (10 * (p : Int)) = 10 * (p : Int) := by unfold wrap64; omega
      have e5 : wrap64 (10 * (p : Int) + ((b.toNat : Int) - 48)) = 10 * (p : Int) + ((b.toNat : Int) - 48) := by unfold wrap64; omega
      have hbi : (0 : Int) ≤ (i : Int) := by omega
      have hlt : decide (i < L.length) = true := by simp [h]
      have HH := Lib.hid h
      have HBD := Lib.hid hbd
      have HV2 := Lib.hid hv2
      clear hv1 htk hb hvi hbd hv2 hv3
      go_wp2
      go_roundg (L.length - (i + 1))
      case measure => omega
      case rel =>
        refine ⟨rfl, i + 1, ?_, val_int (by omega), by have := HH.out; omega, rfl⟩
        rw [HV1.out]
        have := HBD.out
        exact val_int (by omega)
    · have hE : L.take i = L := List.take_of_length_le (by omega)
      rw [hE]
      have hlt : decide (i < L.length) = false := by simp [h]
      go_wp2
      go_ret
      exact ⟨rfl, rfl⟩
theorem value_c (x : Nat) (hx : x < 1000000000000000000) (w : World) :
    Calls Try.prog 11 #[.string (txt (dec x))] w fun e w' => e = .returned (.int .i64 x) ∧ w = w' := by
  have := valueL_c (dec x) (dec_len x 17 hx) (dec_digit x) (by rw [val_dec]; exact hx) w
  rwa [val_dec] at this
end Go.Proofs.Ytiaknanflgdmoaa
