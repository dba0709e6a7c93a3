/- A checksum can be taken in two steps, or put together from two. -/
import Derived.Test.YtmejgkcclgkgjaaDoorCrcJoin
import Derived.Test.YtmejgkcclgkgjaaDoorCrcSums
namespace Go.Proofs.YtmejgkcclgkgjaaDoor
open Go.RowKit
set_option linter.unusedVariables false
set_option linter.unusedSimpArgs false
theorem app_data (a b : ByteArray) : (a ++ b).data.toList = a.data.toList ++ b.data.toList := by simp
set_option maxHeartbeats 1000000 in
theorem crcExtends_walk (a0 : ByteArray) (w0 : a0.size ≤ 140737488351232) (a1 : ByteArray) (w1 : a1.size ≤ 140737488351232) (W : World) (hL : laidMetH Tryd.prog Rows.crcExtendsRow.laid W) :
    Calls Tryd.prog 8 #[.string a0, .string a1] W fun e w' => e = .returned (.bool true) ∧ Below W.heap.size W w' := by
  have HT := Lib.hid (tab_of_laid hL)
  clear hL
  have e0 := Crc.ext_append 0 a0.data.toList a1.data.toList
  have ej := Crc.ext_join a0.data.toList a1.data.toList
  have l0 := Crc.ext_lt (c := 0) (by decide) a0.data.toList
  have l1 := Crc.ext_lt (c := 0) (by decide) a1.data.toList
  have hlen : a1.data.toList.length = a1.size := by simp
  rw [hlen] at ej
  have E0 := Lib.hid e0; have EJ := Lib.hid ej; have L0 := Lib.hid l0; have L1 := Lib.hid l1
  clear e0 ej l0 l1 hlen
  have hs : (a0 ++ a1).size ≤ maxLen := by unfold maxLen; rw [ByteArray.size_append]; omega
  have HS := Lib.hid hs
  clear hs
  by_cases hn : a1.size ≤ 65536
  · have hn' : ¬ 65536 < a1.size := by omega
    go_enter Tryd.func8, Tryd.ntmps8
    go_wp2_with (first
      | (go_at_call 10; refine (crcSpeaks_any _ HT.out).mono ?_; rintro e w' ⟨rfl, rfl⟩)
      | (go_at_call 13; refine (extend_any _ _ _ (by unfold maxLen; omega) L0.out HT.out).mono ?_; rintro e w' ⟨rfl, rfl⟩; rw [← E0.out, ← app_data])
      | (go_at_call 11; refine (sum_any _ _ (by first | exact HS.out | (unfold maxLen; omega)) (by first | exact HT.out | exact HT2.out)).mono ?_; rintro e w' ⟨rfl, rfl⟩)
      | (go_at_call 20; refine (join_any _ _ L0.out L1.out a1.size hn _ HT.out).mono ?_; rintro e w2 ⟨rfl, hb⟩; rw [← EJ.out, ← app_data]; have HB := Lib.hid hb; have HT2 := Lib.hid (HT.out.below hb); clear hb))
    go_ret
    exact ⟨rfl, HB.out⟩
  · have hn' : 65536 < a1.size := by omega
    go_enter Tryd.func8, Tryd.ntmps8
    go_wp2_with (first
      | (go_at_call 10; refine (crcSpeaks_any _ HT.out).mono ?_; rintro e w' ⟨rfl, rfl⟩)
      | (go_at_call 13; refine (extend_any _ _ _ (by unfold maxLen; omega) L0.out HT.out).mono ?_; rintro e w' ⟨rfl, rfl⟩; rw [← E0.out, ← app_data])
      | (go_at_call 11; refine (sum_any _ _ (by first | exact HS.out | (unfold maxLen; omega)) (by exact HT.out)).mono ?_; rintro e w' ⟨rfl, rfl⟩)
      | (go_at_call 20; refine (join_no _ _ _ (by omega) _).mono ?_; rintro e w2 ⟨rfl, rfl⟩))
    go_ret
    exact ⟨rfl, Below.refl _ _⟩
end Go.Proofs.YtmejgkcclgkgjaaDoor
