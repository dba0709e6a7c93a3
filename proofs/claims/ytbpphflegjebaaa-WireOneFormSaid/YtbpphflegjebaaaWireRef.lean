/- The contracts of the document's numbers, texts and bools. -/
import Derived.Test.YtbpphflegjebaaaWire
namespace Go.Proofs.Ytbpphflegjebaaa
open Go.RowKit
set_option linter.unusedVariables false
set_option linter.unusedSimpArgs false
theorem bytes_push128 {w : World} {base e : Nat} {v : Value} {l : List UInt8} {u : Nat} {x : Int} (h : w.ownsRow base e 1 v (l.length + 1) (bytes l ++ [Value.int .u8 x])) (hu : u < 128) (hx : x = u) : w.ownsRow base e 1 v (l ++ [UInt8.ofNat u]).length (bytes (l ++ [UInt8.ofNat u])) := by
  have e1 : (UInt8.ofNat u).toNat = u := by rw [UInt8.toNat_ofNat']; omega
  rw [← bytes_app, List.length_append, show bytes [UInt8.ofNat u] = [Value.int .u8 ((UInt8.ofNat u).toNat : Int)] from rfl, e1, ← hx]
  exact h
set_option maxRecDepth 20000 in
set_option maxHeartbeats 1000000 in
theorem refInt_any (n : Int) (h1 : -9223372036854775808 ≤ n) (h2 : n ≤ 9223372036854775807) (w : World) :
    Calls Try.prog 12 #[.int .i64 n] w fun e w' => e = .returned (.string ⟨(Wire.enc n).toArray⟩) ∧ Below w.heap.size w w' := by
  have HL := Lib.hid (Wire.uv_len10 (Wire.zz_lt h1 h2))
  have hzl := Wire.zz_lt h1 h2
  have HN : Hid (IntKind.u64.wrap (IntKind.u64.wrap (bits BinOp.xor IntKind.u64 IntKind.u64.max (IntKind.u64.wrap n) * 2) + 1) = (Wire.zz n : Int) ∨ 0 ≤ n) := Lib.hid (by
    by_cases h : 0 ≤ n
    · exact .inr h
    · refine .inl ?_
      have e0 : IntKind.u64.wrap n = ((n + 18446744073709551616).toNat : Int) := by rw [IntKind.wrap_u64]; omega
      have em : IntKind.u64.max = ((18446744073709551615 : Nat) : Int) := by decide
      rw [e0, em, bits_xor_u64_nat _ _ (by decide) (by omega), Nat.xor_comm, xor_ones _ (by omega), IntKind.wrap_u64, IntKind.wrap_u64]
      unfold Wire.zz
      rw [if_neg h]; omega)
  have HP : Hid (0 ≤ n → IntKind.u64.wrap (IntKind.u64.wrap n * 2) = (Wire.zz n : Int)) := Lib.hid (by
    intro h
    rw [IntKind.wrap_u64, IntKind.wrap_u64]
    unfold Wire.zz
    rw [if_pos h]; omega)
  show Calls Try.prog 12 #[.int .i64 n] w fun e w' => e = .returned (.string ⟨(Wire.uv (Wire.zz n)).toArray⟩) ∧ Below w.heap.size w w'
  generalize hU : Wire.zz n = u0 at HL hzl HN HP ⊢
  clear hU
  go_enter Try.func12, Try.ntmps12
  go_upto_if 10 with (fail)
  go_cut [3] (fun v wc => w = wc ∧ v = .int .u64 u0)
  case first =>
    by_cases hn : n < 0
    · go_wp2
      go_meet
      exact ⟨rfl, val_int (HN.out.resolve_right (by omega))⟩
    · go_wp2
      go_meet
      exact ⟨rfl, val_int (HP.out (by omega))⟩
  obtain ⟨rfl, rfl⟩ := hcut
  clear h1 h2 HN HP
  go_wp2
  go_loopg [3, 4] u0 (fun g uval out wr => ∃ (u : Nat) (l : List UInt8), uval = .int .u64 u ∧ u ≤ g ∧ u < 18446744073709551616 ∧ Hid (l ++ Wire.uv u = Wire.uv u0) ∧ Hid (wr.ownsRow w.heap.size 5 1 out l.length (bytes l)) ∧ Hid (Below w.heap.size w wr))
  case atStart => exact ⟨u0, [], rfl, Nat.le_refl _, hzl, Lib.hid rfl, Lib.hid (World.ownsRow_nil _ _ _ _), Lib.hid (Below.refl _ _)⟩
  case round =>
    obtain ⟨u, l, rfl, hug, hul, HE, HO, HB⟩ := hrel
    have hsz := HB.out.size
    have hle : l.length + 1 ≤ 10 := by
      have h := HL.out
      rw [← HE.out, List.length_append] at h
      have := Wire.uv_pos u
      omega
    have HUL := Lib.hid hul
    by_cases h : u < 128
    · have hz : ((u : Int) / 128 == 0) = true := by simp; omega
      go_wp2_with (at_builtin; refine wpList_app rfl _ _ 23 rfl w.heap.size 5 _ 1 1 Try.underlying23 u8_info rfl (by decide) _ l.length _ rfl HO.out _ _ 1 1 rfl rfl rfl (by unfold maxLen; omega) (by omega) hsz ?_; intro v' w' hO hG hN; have hO2 := bytes_push128 hO.out h (by omega); have hcv := conv_own (P := Try.prog) hO2 23 9 5 Try.underlying23 Try.underlying5 Try.underlying9; clear hO2)
      go_ret
      exact ⟨ret_str (by rw [← HE.out, Wire.uv_lt h]), below_row HO.out hG.out HB.out (Nat.le_refl _) hsz⟩
    · have hz : ((u : Int) / 128 == 0) = false := by simp; omega
      go_wp2_with (at_builtin; refine wpList_app rfl _ _ 23 rfl w.heap.size 5 _ 1 1 Try.underlying23 u8_info rfl (by decide) _ l.length _ rfl HO.out _ _ 1 1 rfl rfl rfl (by unfold maxLen; omega) (by omega) hsz ?_; intro v' w' hO hG hN)
      go_roundg (u / 128)
      case measure => omega
      case rel =>
        refine ⟨u / 128, l ++ [UInt8.ofNat (u % 128 + 128)], val_int (by omega), Nat.le_refl _, by omega, Lib.hid (by rw [← HE.out, Wire.uv_ge h]; simp), Lib.hid ?_, Lib.hid (below_row HO.out hG.out HB.out (Nat.le_refl _) hsz)⟩
        have e : (UInt8.ofNat (u % 128 + 128)).toNat = u % 128 + 128 := by rw [UInt8.toNat_ofNat']; omega
        have := hO.out
        rw [← bytes_app, List.length_append, show bytes [UInt8.ofNat (u % 128 + 128)] = [Value.int .u8 ((UInt8.ofNat (u % 128 + 128)).toNat : Int)] from rfl, e]
        simpa using this
theorem str_app (a b : List UInt8) : (⟨a.toArray⟩ : ByteArray) ++ ⟨b.toArray⟩ = ⟨(a ++ b).toArray⟩ := by
  apply ByteArray.ext; simp
theorem str_self (s : ByteArray) : (⟨s.data.toList.toArray⟩ : ByteArray) = s := by apply ByteArray.ext; simp
set_option maxHeartbeats 1000000 in
theorem refText_any (s : ByteArray) (hs : s.size ≤ 140737488351232) (w : World) :
    Calls Try.prog 14 #[.string s] w fun e w' => e = .returned (.string ⟨(Wire.enc s.size ++ s.data.toList).toArray⟩) ∧ Below w.heap.size w w' := by
  have hlen : (Wire.enc s.size).length ≤ 10 := Wire.uv_len10 (Wire.zz_lt (by omega) (by omega))
  go_enter Try.func14, Try.ntmps14
  go_wp2_with fail
  refine (refInt_any s.size (by omega) (by omega) w).mono ?_
  rintro e w1 ⟨rfl, hb⟩
  have HB := Lib.hid hb
  clear hb
  go_wp2_with fail
  go_ret
  exact ⟨ret_str (by rw [← str_app, str_self]), HB.out⟩
set_option maxHeartbeats 1000000 in
theorem refBool_any (x : Bool) (w : World) :
    Calls Try.prog 16 #[.bool x] w fun e w' => e = .returned (.string ⟨#[if x then 1 else 0]⟩) ∧ w = w' := by
  cases x
  all_goals
    go_enter Try.func16, Try.ntmps16
    go_wp2_with fail
    go_ret
    exact ⟨rfl, rfl⟩
end Go.Proofs.Ytbpphflegjebaaa
