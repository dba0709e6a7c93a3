/- The checksum of every text, and of every text behind another one, is the polynomial's. -/
import Derived.Test.YtmejgkcclgkgjaaDoorCrcRef
namespace Go.Proofs.YtmejgkcclgkgjaaDoor
open Go.RowKit
set_option linter.unusedVariables false
set_option linter.unusedSimpArgs false
set_option maxHeartbeats 400000 in
theorem crcSpeaks_any (w : World) (ht : Tab w) : Calls Tryd.prog 10 #[] w fun e w' => e = .returned (.bool true) ∧ w = w' := by
  have HT : Hid (Tab w) := Lib.hid ht
  clear ht
  go_enter Tryd.func10, Tryd.ntmps10
  go_wp2_with fail
  refine (sum_any _ w (by decide) HT.out).mono ?_
  rintro e w' ⟨rfl, rfl⟩
  go_wp2_with fail
  go_ret
  exact ⟨ret_bool (by decide +kernel), rfl⟩
set_option maxHeartbeats 400000 in
theorem crcSums_walk0 (s : ByteArray) (hs : s.size ≤ maxLen) (c : Nat) (hc : c < 4294967296) (w : World) (ht : Tab w) :
    Calls Tryd.prog 3 #[.string s, .int .u32 c] w fun e w' => e = .returned (.bool true) ∧ w = w' := by
  have HT : Hid (Tab w) := Lib.hid ht
  clear ht
  go_enter Tryd.func3, Tryd.ntmps3
  go_wp2_with fail
  refine (crcSpeaks_any w HT.out).mono ?_
  rintro e w' ⟨rfl, rfl⟩
  go_wp2_with (first | (go_at_call 11; refine (sum_any s _ hs HT.out).mono ?_; rintro e w' ⟨rfl, rfl⟩) | (go_at_call 12; refine (refSum_any s _ hs).mono ?_; rintro e w' ⟨rfl, rfl⟩) | (go_at_call 13; refine (extend_any s c _ hs hc HT.out).mono ?_; rintro e w' ⟨rfl, rfl⟩) | (go_at_call 14; refine (refExt_any s c _ hs hc).mono ?_; rintro e w' ⟨rfl, rfl⟩))
  go_ret
  exact ⟨rfl, rfl⟩
theorem crcSums_walk (a0 : ByteArray) (w0 : a0.size ≤ 140737488351232) (a1 : Int) (w1 : (Lit.int .u32 a1).wf = true) (W : World) (hL : laidMetH Tryd.prog Rows.crcSumsRow.laid W) :
    Calls Tryd.prog 3 #[.string a0, .int .u32 a1] W fun e w' => e = .returned (.bool true) ∧ Below W.heap.size W w' := by
  obtain ⟨c, rfl, hc⟩ := u32_nat w1
  refine (crcSums_walk0 a0 (by unfold maxLen; omega) c hc W (tab_of_laid hL)).mono ?_
  rintro e w' ⟨rfl, rfl⟩
  exact ⟨rfl, Below.refl _ _⟩
end Go.Proofs.YtmejgkcclgkgjaaDoor
