/- The contracts of the document's frames: four, Frame. -/
import Derived.Test.YtbpphflegjebaaaDoorFrame
import Derived.Test.YtbpphflegjebaaaDoorCrcRef
namespace Go.Proofs.YtbpphflegjebaaaDoor
open Go.RowKit Go.Sort
set_option linter.unusedVariables false
set_option linter.unusedSimpArgs false
theorem u8_info4 : (Tryd.prog.info? 5).map (fun i => (i.zero, i.size, i.bytes)) = some (some (.int .u8 0), 1, 1) := by kernel_rfl
def div4 (n : Nat) : Nat → Nat
  | 0 => n
  | k + 1 => div4 n k / 256
theorem div4_lt (n : Nat) (h : n < 4294967296) : ∀ k, div4 n k < 4294967296
  | 0 => h
  | k + 1 => by have := div4_lt n h k; unfold div4; omega
theorem le4_take (n k : Nat) (hk : k < 4) (h : n < 4294967296) : (Fr4.le4 n).take (k + 1) = (Fr4.le4 n).take k ++ [UInt8.ofNat (div4 n k)] := by
  match k, hk with
  | 0, _ => rfl
  | 1, _ => rfl
  | 2, _ => simp [Fr4.le4, div4, Nat.div_div_eq_div_mul]
  | 3, _ => simp [Fr4.le4, div4, Nat.div_div_eq_div_mul]
theorem le4_push {w : World} {base e : Nat} {v : Value} {n k : Nat} {x : Int} (h : w.ownsRow base e 1 v (k + 1) (bytes ((Fr4.le4 n).take k) ++ [Value.int .u8 x])) (hk : k < 4) (hn : n < 4294967296) (hx : x = ((div4 n k % 256 : Nat) : Int)) :
    w.ownsRow base e 1 v (k + 1) (bytes ((Fr4.le4 n).take (k + 1))) := by
  have e1 : (UInt8.ofNat (div4 n k)).toNat = div4 n k % 256 := by rw [UInt8.toNat_ofNat']
  rw [le4_take n k hk hn, ← bytes_app, show bytes [UInt8.ofNat (div4 n k)] = [Value.int .u8 ((UInt8.ofNat (div4 n k)).toNat : Int)] from rfl, e1, ← hx]
  exact h
theorem conv_le4 {w : World} {base e : Nat} {v : Value} {n : Nat} (h : w.ownsRow base e 1 v 4 (bytes ((Fr4.le4 n).take 4))) : (convert 37 9 v).run Tryd.prog w = .ok (.string (Fr4.four n)) w :=
  conv_own (P := Tryd.prog) (l := Fr4.le4 n) h 37 9 5 Tryd.underlying37 Tryd.underlying5 Tryd.underlying9
set_option maxRecDepth 20000 in
set_option maxHeartbeats 1000000 in
theorem rfour_any (n : Nat) (hn : n < 4294967296) (w : World) : Calls Tryd.prog 18 #[.int .u32 (n : Int)] w fun e w' => e = .returned (.string (Fr4.four n)) ∧ Below w.heap.size w w' := by
  have HN := Lib.hid hn
  go_enter Tryd.func18, Tryd.ntmps18
  go_wp2
  go_loopg [0, 3, 4] 4 (fun g nv out iv wr => ∃ (k : Nat), nv = .int .u32 (div4 n k : Int) ∧ iv = .int .i64 (k : Int) ∧ k + g = 4 ∧ Hid (wr.ownsRow w.heap.size 5 1 out k (bytes ((Fr4.le4 n).take k))) ∧ Hid (Below w.heap.size w wr))
  case atStart => exact ⟨0, rfl, rfl, rfl, Lib.hid (World.ownsRow_nil _ _ _ _), Lib.hid (Below.refl _ _)⟩
  case round =>
    obtain ⟨k, rfl, rfl, hk, HO, HB⟩ := hrel
    have hsz := HB.out.size
    have HD := Lib.hid (div4_lt n HN.out k)
    have HD1 := Lib.hid (show div4 n (k + 1) = div4 n k / 256 from rfl)
    by_cases h4 : k < 4
    · have t1 : decide ((k : Int) < 4) = true := by simp; omega
      go_wp2_with (at_builtin; refine wpList_app rfl _ _ 37 rfl w.heap.size 5 _ 1 1 Tryd.underlying37 u8_info4 rfl (by decide) _ k _ rfl HO.out _ _ 1 1 rfl rfl rfl (by unfold maxLen; omega) (by omega) hsz ?_; intro v' w' hO hG hN)
      go_roundg (4 - (k + 1))
      case measure => omega
      case rel =>
        refine ⟨k + 1, val_int ?_, by first | rfl | go_num, by omega, Lib.hid (le4_push hO.out h4 HN.out ?_), Lib.hid (below_row HO.out hG.out HB.out (Nat.le_refl _) hsz)⟩
        · rw [HD1.out]; have := HD.out; omega
        · have := HD.out; omega
    · obtain rfl : k = 4 := by omega
      have hcv := conv_le4 HO.out
      go_wp2
      go_ret
      exact ⟨rfl, HB.out⟩
theorem rsumb_any (s : ByteArray) (w : World) (hs : s.size ≤ maxLen) : Calls Tryd.prog 19 #[.string s] w fun e w' => e = .returned (.int .u32 ((Crc.ext 0 s.data.toList : Nat) : Int)) ∧ Below w.heap.size w w' :=
  (refSum_any s w hs).mono fun e w' ⟨h1, h2⟩ => ⟨h1, h2 ▸ Below.refl _ _⟩
set_option maxHeartbeats 1000000 in
theorem rframe_any (b : ByteArray) (hb : b.size ≤ 140737488351232) (w : World) : Calls Tryd.prog 7 #[.string b] w fun e w' => e = .returned (.string (Fr4.frame b)) ∧ Below w.heap.size w w' := by
  by_cases h : b.size ≤ 1048576
  · have hg : decide ((1048576 : Int) < (b.size : Int)) = false := by simp; omega
    have HF : Hid (Fr4.frame b = Fr4.four b.size ++ Fr4.sum (Fr4.four b.size) ++ b ++ Fr4.sum b) := Lib.hid (by unfold Fr4.frame; rw [if_pos h])
    have hm : (b.size : Int) % 4294967296 = (b.size : Int) := by omega
    have s1 : ∀ n, (Fr4.four n).size = 4 := fun n => rfl
    have s2 : ∀ x, (Fr4.sum x).size = 4 := fun n => rfl
    have HH := Lib.hid h
    go_enter Tryd.func7, Tryd.ntmps7
    go_wp2_with fail
    refine (rfour_any b.size (by omega) w).mono ?_
    rintro e w1 ⟨rfl, hb1⟩
    have B1 := Lib.hid hb1
    clear hb1
    go_wp2_with fail
    refine (refSum_any _ w1 (by rw [s1]; decide)).mono ?_
    rintro e w' ⟨rfl, rfl⟩
    go_wp2_with fail
    refine (rfour_any _ (ext_lt0 _) w1).mono ?_
    rintro e w2 ⟨rfl, hb2⟩
    have B2 := Lib.hid (below_then B1.out B1.out.size hb2)
    clear hb2
    rw [show Fr4.four (Crc.ext 0 (Fr4.four b.size).data.toList) = Fr4.sum (Fr4.four b.size) from rfl]
    go_wp2_with fail
    refine (refSum_any b w2 (by unfold maxLen; omega)).mono ?_
    rintro e w' ⟨rfl, rfl⟩
    go_wp2_with fail
    refine (rfour_any _ (ext_lt0 _) w2).mono ?_
    rintro e w3 ⟨rfl, hb3⟩
    have B3 := Lib.hid (below_then B2.out B2.out.size hb3)
    clear hb3
    rw [show Fr4.four (Crc.ext 0 b.data.toList) = Fr4.sum b from rfl]
    go_wp2
    go_ret
    exact ⟨ret_str HF.out.symm, B3.out⟩
  · have hg : decide ((1048576 : Int) < (b.size : Int)) = true := by simp; omega
    have HF : Hid (Fr4.frame b = ⟨#[]⟩) := Lib.hid (by unfold Fr4.frame; rw [if_neg h])
    clear h
    go_enter Tryd.func7, Tryd.ntmps7
    go_wp2
    go_ret
    exact ⟨ret_str HF.out.symm, Below.refl _ _⟩
theorem rfour_reg (n : Nat) (hn : n < 4294967296) (w : World) (p : Nat) (os : Array Obj) :
    Calls Tryd.prog 18 #[.int .u32 (n : Int)] (grow (redrawn w p) os) fun e w'' => e = .returned (.string (Fr4.four n)) ∧ ∃ q : Regrown, w'' = grow (redrawn w q.d) q.os :=
  Calls.regrown_of (rfour_any n hn _)
theorem rsum_reg (s : ByteArray) (w : World) (hs : s.size ≤ maxLen) (p : Nat) (os : Array Obj) :
    Calls Tryd.prog 19 #[.string s] (grow (redrawn w p) os) fun e w'' => e = .returned (.int .u32 ((Crc.ext 0 s.data.toList : Nat) : Int)) ∧ ∃ q : Regrown, w'' = grow (redrawn w q.d) q.os :=
  Calls.regrown_of (rsumb_any s _ hs)
end Go.Proofs.YtbpphflegjebaaaDoor
