/- The contract of the document's All. -/
import Derived.Test.YtbpphflegjebaaaDoorFrNext
import Derived.Test.YtbpphflegjebaaaDoorAll
namespace Go.Proofs.YtbpphflegjebaaaDoor
open Go.RowKit Go.Sort
set_option linter.unusedVariables false
set_option linter.unusedSimpArgs false
set_option maxRecDepth 20000 in
set_option maxHeartbeats 2000000 in
theorem rall_any (s : ByteArray) (hs : s.size ≤ 140737488351232) (w : World) : Calls Tryd.prog 11 #[.string s] w fun e w' => ∃ v, e = .returned (.tuple #[v, .int .i64 ((Fr4.all s 0).2.1 : Int), .int .i64 ((Fr4.all s 0).2.2 : Int)]) ∧
    w'.ownsRow w.heap.size 9 1 v (Fr4.all s 0).1.length (strs (Fr4.all s 0).1) ∧ Below w.heap.size w w' := by
  have HSZ := Lib.hid hs
  clear hs
  go_enter Tryd.func11, Tryd.ntmps11
  go_wp2
  go_loopg [5, 6] (s.size + 1) (fun g v kv wr => ∃ (k : Nat) (acc : List ByteArray), kv = .int .i64 (k : Int) ∧ k ≤ s.size ∧ Hid (k + g = s.size + 1) ∧ Hid (12 * acc.length ≤ k) ∧ Hid (wr.ownsRow w.heap.size 9 1 v acc.length (strs acc)) ∧ Hid (Below w.heap.size w wr) ∧
      Hid (acc ++ (Fr4.all s k).1 = (Fr4.all s 0).1 ∧ (Fr4.all s k).2 = (Fr4.all s 0).2))
  case atStart => exact ⟨0, [], rfl, Nat.zero_le _, Lib.hid (by omega), Lib.hid (Nat.zero_le _), Lib.hid (World.ownsRow_nil _ _ _ _), Lib.hid (Below.refl _ _), Lib.hid ⟨rfl, rfl⟩⟩
  case round =>
    obtain ⟨k, acc, rfl, hk, HG, HACC, HO, HB, HA⟩ := hrel
    have HK := Lib.hid hk
    have HC := Lib.hid (rnext_any s HSZ.out k hk wr)
    obtain ⟨⟨b, m, e⟩, hn⟩ : ∃ r, Fr4.next s k = r := ⟨_, rfl⟩
    rw [hn] at HC
    have HM : Hid (e = 0 → k + 12 ≤ m ∧ m ≤ s.size) := Lib.hid (fun h => by have := Fr4.next_ok12 hk (by rw [hn]; exact h); rw [hn] at this; exact this)
    have HX : Hid (e = 0 → Fr4.all s k = (b :: (Fr4.all s m).1, (Fr4.all s m).2)) := Lib.hid (fun h => by have := Fr4.all_more hk (by rw [hn]; exact h); rw [hn] at this; exact this)
    have HE : Hid (e ≠ 0 → Fr4.all s k = ([], k, if e = 3 then 0 else e)) := Lib.hid (fun h => by have := Fr4.all_end (s := s) (a := k) (by rw [hn]; exact h); rw [hn] at this; exact this)
    clear hn hk
    go_wp2_with fail
    refine HC.out.mono ?_
    rintro ex w1 ⟨rfl, hb1⟩
    have HB1 := Lib.hid (below_then HB.out HB.out.size hb1)
    have HO1 := Lib.hid (own_below HO.out hb1 (Nat.le_refl _))
    clear hb1 HC HB HO
    unfold nextV
    by_cases he : e = 0
    · subst he
      obtain ⟨hm1, hm2⟩ := HM.out rfl
      have HX2 := Lib.hid (HX.out rfl)
      clear HX HM HE
      have HM2 := Lib.hid hm1
      have HM3 := Lib.hid hm2
      clear hm1 hm2
      go_wp2_with (at_builtin; refine wpList_appw rfl _ _ 29 rfl w.heap.size 9 _ 1 16 Tryd.underlying29 str_info rfl (by decide) _ acc.length _ rfl HO1.out [.string b] 9 1 1 rfl rfl rfl (by have := HACC.out; have := HK.out; have := HSZ.out; unfold maxLen; omega) (by have := HACC.out; have := HK.out; have := HSZ.out; omega) HB1.out.size ?_; intro v' w2 hO hG)
      go_roundg (s.size + 1 - m)
      case measure => have := HG.out; have := HM2.out; have := HM3.out; omega
      case rel =>
        refine ⟨m, acc ++ [b], rfl, HM3.out, Lib.hid (by have := HM3.out; omega), Lib.hid (by rw [List.length_append]; have := HACC.out; have := HM2.out; simp; omega), ?_, ?_, ?_⟩
        · rw [← strs_snoc, List.length_append]; exact hO
        · exact Lib.hid (below_row HO1.out hG.out HB1.out (Nat.le_refl _) HB1.out.size)
        · have h := HA.out
          rw [HX2.out] at h
          exact Lib.hid ⟨by rw [List.append_assoc]; exact h.1, h.2⟩
    · have t1 : ((e : Int) != 0) = true := by simp; omega
      have t2 : (e != 0) = true := by simp; omega
      have t5 : ((e : Int) == 0) = false := by simp; omega
      have t6 : (e == 0) = false := by simp; omega
      have hx := HE.out he
      have h := HA.out
      rw [hx] at h
      by_cases h3 : e = 3
      · rw [if_pos h3] at h
        subst h3
        have HD := Lib.hid h
        clear h hx t1 t2 t5 t6 he HE
        go_wp2
        go_ret3
        exact all_fin HD.out HO1.out HB1.out
      · have t3 : ((e : Int) == 3) = false := by simp; omega
        have t4 : (e == 3) = false := by simp; omega
        rw [if_neg h3] at h
        have HD := Lib.hid h
        clear h hx he HE h3
        go_wp2
        go_ret3
        exact all_fin HD.out HO1.out HB1.out
end Go.Proofs.YtbpphflegjebaaaDoor
