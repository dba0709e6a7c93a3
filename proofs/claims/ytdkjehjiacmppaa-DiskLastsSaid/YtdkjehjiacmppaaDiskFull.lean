/- DiskFull: a write without room changes nothing: the walk. (Printed by XDiskFull.py.) -/
import Derived.Test.YtdkjehjiacmppaaDiskSpk
namespace Go.Proofs.Ytdkjehjiacmppaa
open Go.RowKit Go.Maps
set_option linter.unusedVariables false
set_option linter.unusedSimpArgs false
theorem append_full {S : DkSt} {x d : ByteArray} (hv : validB x = true) (h : S.cap - S.used < d.size) : S.append x d = (S, 40) := by
  unfold DkSt.append
  rw [hv, if_neg (by decide), if_pos h]
theorem append_ok {S : DkSt} {x d : ByteArray} (hv : validB x = true) (h : ¬ S.cap - S.used < d.size) : S.append x d = (DkSt.make { S with used := S.used + d.size } (.app x d), 0) := by
  unfold DkSt.append
  rw [hv, if_neg (by decide), if_neg h]
def sB : ByteArray := ⟨#[98]⟩
theorem vA : validB sA = true := by decide
theorem vB : validB sB = true := by decide
theorem sBA : sB ≠ sA := by decide
noncomputable def fS0 (R : Int) : DkSt := ⟨R, 0, noFiles, noFiles, []⟩
noncomputable def fS1 (R : Int) (a : ByteArray) : DkSt := ⟨R, a.size, noFiles, oneF sA a.data.toList, [.app sA a]⟩
noncomputable def fS2 (R : Int) (a : ByteArray) : DkSt := ⟨R, 0, noFiles, noFiles, [.app sA a, .del sA]⟩
theorem full01 (R : Int) (a : ByteArray) (h : (a.size : Int) ≤ R) : (fS0 R).append sA a = (fS1 R a, 0) := by
  rw [append_ok vA (by show ¬ R - 0 < (a.size : Int); omega)]
  unfold DkSt.make fS0 fS1 Chg.do
  simp only [noFiles_put, noFiles_at, List.nil_append, Int.zero_add]
theorem full0x (R : Int) (a : ByteArray) (h : ¬ (a.size : Int) ≤ R) : (fS0 R).append sA a = (fS0 R, 40) := append_full vA (by show R - 0 < (a.size : Int); omega)
theorem full1_at (R : Int) (a : ByteArray) : (fS1 R a).held.at sA = a.data.toList := oneF_at _ _
theorem full1_atB (R : Int) (a : ByteArray) : (fS1 R a).held.at sB = [] := by show (oneF sA _).at sB = []; unfold Files.at oneF; rw [if_neg sBA]; rfl
theorem full1_B (R : Int) (a : ByteArray) : ((fS1 R a).held sB).isSome = false := by show (oneF sA a.data.toList sB).isSome = false; unfold oneF; rw [if_neg sBA]; rfl
theorem bsize (a : ByteArray) : a.data.toList.length = a.size := by rw [Array.length_toList]; rfl
theorem empty_of {a : ByteArray} (h : (a.size : Int) ≤ 0) : a = ByteArray.empty := ByteArray.ext (Array.toList_inj.1 (List.eq_nil_of_length_eq_zero (by rw [bsize]; omega)))
theorem full12 (R : Int) (a : ByteArray) : (fS1 R a).delete sA = (fS2 R a, 0) := by
  unfold DkSt.delete
  rw [show ((fS1 R a).held sA).isSome = true from by show (oneF sA _ sA).isSome = true; rw [oneF_some]; rfl, if_neg (by decide), full1_at, bsize]
  unfold DkSt.make fS1 fS2 Chg.do
  simp only [Int.sub_self]
  congr 2
  funext y
  unfold Files.del oneF noFiles
  by_cases e : y = sA <;> simp [e]
set_option maxRecDepth 20000 in
set_option maxHeartbeats 8000000 in
theorem diskFull_walk (room : Int) (w0 : (Lit.int .i64 room).wf = true) (a : ByteArray) (ha : a.size ≤ 140737488351232) (b : ByteArray) (hb : b.size ≤ 140737488351232) (W : World) :
    Calls Try.prog 4 #[.int .i64 room, .string a, .string b] W fun e w' => e = .returned (.bool true) ∧ Below W.heap.size W w' := by
  have hwf : -9223372036854775808 ≤ room ∧ room ≤ 9223372036854775807 := by
    have := w0
    simp [Lit.wf, IntKind.min, IntKind.max, IntKind.signed, IntKind.bits] at this
    omega
  have HWF := Lib.hid hwf
  have HAS := Lib.hid ha
  have HBS := Lib.hid hb
  clear w0 hwf ha hb
  go_enter Try.func4, Try.ntmps4
  go_wp2_with fail
  refine (speaks_any W).mono ?_
  rintro _ w1 ⟨rfl, hb⟩
  have HB := Lib.hid hb
  clear hb
  go_wp2_with fail
  refine (new_c room w1).mono ?_
  intro e w2 h2
  obtain ⟨B, b0, ml, mh, rfl, hm2⟩ := My.new HB.out h2
  clear h2
  rcases Int.lt_or_le room 0 with hr | hr
  · have r1 : ¬ 0 ≤ room := by omega
    rw [show max room 0 = 0 by omega] at hm2
    have M2 : Hid (My W w2 B b0 ml mh (.slice none 0 0) [] [] (fS0 0)) := Lib.hid hm2
    have HR : Hid ((0 : Int) ≤ 0 ∧ (0 : Int) ≤ 9223372036854775807) := Lib.hid (by decide)
    clear hm2 hr HB
    by_cases h1 : (a.size : Int) ≤ (0 : Int)
    · obtain rfl : a = ByteArray.empty := empty_of h1
      have H1 := Lib.hid h1
      have HC := Lib.hid (append_c B b0 ml mh _ [] [] (fS0 0) sA ByteArray.empty w2 M2.out.at_ ⟨Int.le_refl _, HR.out.1, HR.out.2⟩ (by have := HAS.out; omega) (by decide) (by have := HAS.out; show (noFiles.at sA).length + ByteArray.empty.size ≤ _; rw [noFiles_at]; simp only [List.length_nil]; omega) (by show 0 < _; decide))
      rw [full01 (0 : Int) ByteArray.empty h1] at HC
      clear h1
      go_wp2_with fail
      refine HC.out.mono ?_
      intro e w3 h3
      obtain ⟨rfl, cv3, Lh3, hL3, h4, h5⟩ := h3
      have M3 : Hid (My W w3 B b0 ml mh cv3 [] Lh3 (fS1 (0 : Int) ByteArray.empty)) := Lib.hid (M2.out.step h4 h5)
      have HL3 : Hid (Lh3.length ≤ 1) := Lib.hid hL3
      clear h4 h5 hL3 HC M2
      have HC2 := Lib.hid (append_c B b0 ml mh cv3 [] Lh3 (fS1 (0 : Int) ByteArray.empty) sB b w3 M3.out.at_ ⟨by show (0 : Int) ≤ (ByteArray.empty.size : Int); omega, H1.out, HR.out.2⟩ (by have := HBS.out; omega) (by have := HL3.out; unfold maxLen; omega) (by have := HBS.out; rw [full1_atB]; simp only [List.length_nil]; omega) (by show 1 < _; decide))
      have a1 : IntKind.i64.wrap ((0 : Int) - (ByteArray.empty.size : Int)) = (0 : Int) - (ByteArray.empty.size : Int) := by rw [IntKind.wrap_i64]; have := H1.out; have := HR.out; omega
      have a2 : wrap64 ((0 : Int) - (ByteArray.empty.size : Int)) = (0 : Int) - (ByteArray.empty.size : Int) := by unfold wrap64; have := H1.out; have := HR.out; omega
      by_cases h2 : (b.size : Int) ≤ (0 : Int) - (ByteArray.empty.size : Int)
      · obtain rfl : b = ByteArray.empty := empty_of h2
        rw [append_ok vB (by show ¬ (0 : Int) - (ByteArray.empty.size : Int) < (ByteArray.empty.size : Int); omega)] at HC2
        clear h2
        go_wp2_with fail
        refine HC2.out.mono ?_
        intro e w4 h4
        obtain ⟨rfl, cv4, Lh4, hL4, h5, h6⟩ := h4
        have M4 := Lib.hid (M3.out.step h5 h6)
        clear h5 h6 hL4 HC2
        go_wp2
        go_ret
        exact ⟨rfl, M4.out.below⟩
      · have q2 : ¬ b = ByteArray.empty := fun e => h2 (by rw [e]; decide)
        rw [append_full vB (by show (0 : Int) - (ByteArray.empty.size : Int) < (b.size : Int); omega)] at HC2
        clear h2
        go_wp2_with fail
        refine HC2.out.mono ?_
        intro e w4 h4
        obtain ⟨rfl, cv4, Lh4, hL4, h5, h6⟩ := h4
        have M4 : Hid (My W w4 B b0 ml mh cv4 [] Lh4 (fS1 (0 : Int) ByteArray.empty)) := Lib.hid (M3.out.step h5 h6)
        have HL4 : Hid (Lh4.length ≤ 2) := Lib.hid (by have := HL3.out; omega)
        clear h5 h6 hL4 HC2
        have hrd := read_c B b0 ml mh cv4 [] Lh4 (fS1 (0 : Int) ByteArray.empty) sB (by decide) w4 M4.out.at_
        rw [full1_atB, full1_B, if_neg (by decide)] at hrd
        have HRD := Lib.hid hrd
        have HUS := Lib.hid (used_c B b0 ml mh cv4 [] Lh4 (fS1 (0 : Int) ByteArray.empty) w4 M4.out.at_)
        have hdl := delete_c B b0 ml mh cv4 [] Lh4 (fS1 (0 : Int) ByteArray.empty) sA (by decide) w4 M4.out.at_ (by rw [full1_at, bsize]; show (0 : Int) ≤ (ByteArray.empty.size : Int) - (ByteArray.empty.size : Int) ∧ (ByteArray.empty.size : Int) ≤ _; have := HAS.out; omega) (by have := HL4.out; unfold maxLen; omega) (by show 1 < _; decide)
        rw [full12] at hdl
        have HDL := Lib.hid hdl
        have hus : (fS1 (0 : Int) ByteArray.empty).used = (ByteArray.empty.size : Int) := rfl
        have ne1 : ((ByteArray.empty.size : Int) != (ByteArray.empty.size : Int)) = false := by simp
        clear hrd hdl
        go_wp2_with fail
        refine HRD.out.mono ?_
        rintro _ _ ⟨rfl, rfl⟩
        go_wp2_with fail
        refine HUS.out.mono ?_
        rintro _ _ ⟨rfl, rfl⟩
        go_wp2_with fail
        refine HDL.out.mono ?_
        intro e w5 h5
        obtain ⟨rfl, cv5, Lh5, hL5, h6, h7⟩ := h5
        have M5 : Hid (My W w5 B b0 ml mh cv5 [] Lh5 (fS2 (0 : Int) ByteArray.empty)) := Lib.hid (M4.out.step h6 h7)
        have HL5 : Hid (Lh5.length ≤ 3) := Lib.hid (by have := HL4.out; omega)
        clear h6 h7 hL5 HRD HUS HDL hus ne1
        have HC3 := Lib.hid (append_c B b0 ml mh cv5 [] Lh5 (fS2 (0 : Int) ByteArray.empty) sB b w5 M5.out.at_ ⟨Int.le_refl _, HR.out.1, HR.out.2⟩ (by have := HBS.out; omega) (by have := HL5.out; unfold maxLen; omega) (by have := HBS.out; show (noFiles.at sB).length + b.size ≤ _; rw [noFiles_at]; simp only [List.length_nil]; omega) (by show 2 < _; decide))
        by_cases h3 : (b.size : Int) ≤ (0 : Int)
        · exact absurd (empty_of h3) q2
        · skip
          rw [append_full vB (by show (0 : Int) - 0 < (b.size : Int); omega)] at HC3
          clear h3
          go_wp2_with fail
          refine HC3.out.mono ?_
          intro e w6 h6
          obtain ⟨rfl, cv6, Lh6, hL6, h7, h8⟩ := h6
          have M6 := Lib.hid (M5.out.step h7 h8)
          clear h7 h8 hL6 HC3
          go_wp2
          go_ret
          exact ⟨rfl, M6.out.below⟩
    · have q1 : ¬ a = ByteArray.empty := fun e => h1 (by rw [e]; decide)
      have HC := Lib.hid (append_c B b0 ml mh _ [] [] (fS0 0) sA a w2 M2.out.at_ ⟨Int.le_refl _, HR.out.1, HR.out.2⟩ (by have := HAS.out; omega) (by decide) (by have := HAS.out; show (noFiles.at sA).length + a.size ≤ _; rw [noFiles_at]; simp only [List.length_nil]; omega) (by show 0 < _; decide))
      rw [full0x (0 : Int) a h1] at HC
      clear h1
      go_wp2_with fail
      refine HC.out.mono ?_
      intro e w3 h3
      obtain ⟨rfl, cv3, Lh3, hL3, h4, h5⟩ := h3
      have M3 : Hid (My W w3 B b0 ml mh cv3 [] Lh3 (fS0 0)) := Lib.hid (M2.out.step h4 h5)
      have HL3 : Hid (Lh3.length ≤ 1) := Lib.hid hL3
      clear h4 h5 hL3 HC M2
      have HC2 := Lib.hid (append_c B b0 ml mh cv3 [] Lh3 (fS0 0) sB b w3 M3.out.at_ ⟨Int.le_refl _, HR.out.1, HR.out.2⟩ (by have := HBS.out; omega) (by have := HL3.out; unfold maxLen; omega) (by have := HBS.out; show (noFiles.at sB).length + b.size ≤ _; rw [noFiles_at]; simp only [List.length_nil]; omega) (by show 0 < _; decide))
      have a1 : IntKind.i64.wrap (0 : Int) = (0 : Int) := by rw [IntKind.wrap_i64]; have := HR.out; omega
      have a2 : wrap64 (0 : Int) = (0 : Int) := by unfold wrap64; have := HR.out; omega
      by_cases h2 : (b.size : Int) ≤ (0 : Int)
      · obtain rfl : b = ByteArray.empty := empty_of h2
        rw [append_ok vB (by show ¬ (0 : Int) - 0 < (ByteArray.empty.size : Int); omega)] at HC2
        clear h2
        go_wp2_with fail
        refine HC2.out.mono ?_
        intro e w4 h4
        obtain ⟨rfl, cv4, Lh4, hL4, h5, h6⟩ := h4
        have M4 := Lib.hid (M3.out.step h5 h6)
        clear h5 h6 hL4 HC2
        go_wp2
        go_ret
        exact ⟨rfl, M4.out.below⟩
      · have q2 : ¬ b = ByteArray.empty := fun e => h2 (by rw [e]; decide)
        rw [append_full vB (by show (0 : Int) - 0 < (b.size : Int); omega)] at HC2
        clear h2
        go_wp2_with fail
        refine HC2.out.mono ?_
        intro e w4 h4
        obtain ⟨rfl, cv4, Lh4, hL4, h5, h6⟩ := h4
        have M4 : Hid (My W w4 B b0 ml mh cv4 [] Lh4 (fS0 0)) := Lib.hid (M3.out.step h5 h6)
        clear h5 h6 hL4 HC2
        have hrd := read_c B b0 ml mh cv4 [] Lh4 (fS0 0) sB (by decide) w4 M4.out.at_
        rw [show (fS0 0).held.at sB = [] from rfl, show ((fS0 0).held sB).isSome = false from rfl, if_neg (by decide)] at hrd
        have HRD := Lib.hid hrd
        have HUS := Lib.hid (used_c B b0 ml mh cv4 [] Lh4 (fS0 0) w4 M4.out.at_)
        have hus : (fS0 0).used = 0 := rfl
        clear hrd
        go_wp2_with fail
        refine HRD.out.mono ?_
        rintro _ _ ⟨rfl, rfl⟩
        go_wp2_with fail
        refine HUS.out.mono ?_
        rintro _ _ ⟨rfl, rfl⟩
        go_wp2
        go_ret
        exact ⟨rfl, M4.out.below⟩
  · rw [show max room 0 = room by omega] at hm2
    have M2 : Hid (My W w2 B b0 ml mh (.slice none 0 0) [] [] (fS0 room)) := Lib.hid hm2
    have HR : Hid (0 ≤ room ∧ room ≤ 9223372036854775807) := Lib.hid ⟨hr, HWF.out.2⟩
    clear hm2 HB
    by_cases h1 : (a.size : Int) ≤ room
    · have q1 : decide ((a.size : Int) ≤ room) = true := decide_eq_true h1
      have H1 := Lib.hid h1
      have HC := Lib.hid (append_c B b0 ml mh _ [] [] (fS0 room) sA a w2 M2.out.at_ ⟨Int.le_refl _, HR.out.1, HR.out.2⟩ (by have := HAS.out; omega) (by decide) (by have := HAS.out; show (noFiles.at sA).length + a.size ≤ _; rw [noFiles_at]; simp only [List.length_nil]; omega) (by show 0 < _; decide))
      rw [full01 room a h1] at HC
      clear h1
      go_wp2_with fail
      refine HC.out.mono ?_
      intro e w3 h3
      obtain ⟨rfl, cv3, Lh3, hL3, h4, h5⟩ := h3
      have M3 : Hid (My W w3 B b0 ml mh cv3 [] Lh3 (fS1 room a)) := Lib.hid (M2.out.step h4 h5)
      have HL3 : Hid (Lh3.length ≤ 1) := Lib.hid hL3
      clear h4 h5 hL3 HC M2
      have HC2 := Lib.hid (append_c B b0 ml mh cv3 [] Lh3 (fS1 room a) sB b w3 M3.out.at_ ⟨by show (0 : Int) ≤ (a.size : Int); omega, H1.out, HR.out.2⟩ (by have := HBS.out; omega) (by have := HL3.out; unfold maxLen; omega) (by have := HBS.out; rw [full1_atB]; simp only [List.length_nil]; omega) (by show 1 < _; decide))
      have a1 : IntKind.i64.wrap (room - (a.size : Int)) = room - (a.size : Int) := by rw [IntKind.wrap_i64]; have := H1.out; have := HR.out; omega
      have a2 : wrap64 (room - (a.size : Int)) = room - (a.size : Int) := by unfold wrap64; have := H1.out; have := HR.out; omega
      by_cases h2 : (b.size : Int) ≤ room - (a.size : Int)
      · have q2 : decide ((b.size : Int) ≤ room - (a.size : Int)) = true := decide_eq_true h2
        rw [append_ok vB (by show ¬ room - (a.size : Int) < (b.size : Int); omega)] at HC2
        clear h2
        go_wp2_with fail
        refine HC2.out.mono ?_
        intro e w4 h4
        obtain ⟨rfl, cv4, Lh4, hL4, h5, h6⟩ := h4
        have M4 := Lib.hid (M3.out.step h5 h6)
        clear h5 h6 hL4 HC2
        go_wp2
        go_ret
        exact ⟨rfl, M4.out.below⟩
      · have q2 : decide ((b.size : Int) ≤ room - (a.size : Int)) = false := decide_eq_false h2
        rw [append_full vB (by show room - (a.size : Int) < (b.size : Int); omega)] at HC2
        clear h2
        go_wp2_with fail
        refine HC2.out.mono ?_
        intro e w4 h4
        obtain ⟨rfl, cv4, Lh4, hL4, h5, h6⟩ := h4
        have M4 : Hid (My W w4 B b0 ml mh cv4 [] Lh4 (fS1 room a)) := Lib.hid (M3.out.step h5 h6)
        have HL4 : Hid (Lh4.length ≤ 2) := Lib.hid (by have := HL3.out; omega)
        clear h5 h6 hL4 HC2
        have hrd := read_c B b0 ml mh cv4 [] Lh4 (fS1 room a) sB (by decide) w4 M4.out.at_
        rw [full1_atB, full1_B, if_neg (by decide)] at hrd
        have HRD := Lib.hid hrd
        have HUS := Lib.hid (used_c B b0 ml mh cv4 [] Lh4 (fS1 room a) w4 M4.out.at_)
        have hdl := delete_c B b0 ml mh cv4 [] Lh4 (fS1 room a) sA (by decide) w4 M4.out.at_ (by rw [full1_at, bsize]; show (0 : Int) ≤ (a.size : Int) - (a.size : Int) ∧ (a.size : Int) ≤ _; have := HAS.out; omega) (by have := HL4.out; unfold maxLen; omega) (by show 1 < _; decide)
        rw [full12] at hdl
        have HDL := Lib.hid hdl
        have hus : (fS1 room a).used = (a.size : Int) := rfl
        have ne1 : ((a.size : Int) != (a.size : Int)) = false := by simp
        clear hrd hdl
        go_wp2_with fail
        refine HRD.out.mono ?_
        rintro _ _ ⟨rfl, rfl⟩
        go_wp2_with fail
        refine HUS.out.mono ?_
        rintro _ _ ⟨rfl, rfl⟩
        go_wp2_with fail
        refine HDL.out.mono ?_
        intro e w5 h5
        obtain ⟨rfl, cv5, Lh5, hL5, h6, h7⟩ := h5
        have M5 : Hid (My W w5 B b0 ml mh cv5 [] Lh5 (fS2 room a)) := Lib.hid (M4.out.step h6 h7)
        have HL5 : Hid (Lh5.length ≤ 3) := Lib.hid (by have := HL4.out; omega)
        clear h6 h7 hL5 HRD HUS HDL hus ne1
        have HC3 := Lib.hid (append_c B b0 ml mh cv5 [] Lh5 (fS2 room a) sB b w5 M5.out.at_ ⟨Int.le_refl _, HR.out.1, HR.out.2⟩ (by have := HBS.out; omega) (by have := HL5.out; unfold maxLen; omega) (by have := HBS.out; show (noFiles.at sB).length + b.size ≤ _; rw [noFiles_at]; simp only [List.length_nil]; omega) (by show 2 < _; decide))
        by_cases h3 : (b.size : Int) ≤ room
        · have q3 : decide ((b.size : Int) ≤ room) = true := decide_eq_true h3
          rw [append_ok vB (by show ¬ room - 0 < (b.size : Int); omega)] at HC3
          clear h3
          go_wp2_with fail
          refine HC3.out.mono ?_
          intro e w6 h6
          obtain ⟨rfl, cv6, Lh6, hL6, h7, h8⟩ := h6
          have M6 := Lib.hid (M5.out.step h7 h8)
          clear h7 h8 hL6 HC3
          go_wp2
          go_ret
          exact ⟨rfl, M6.out.below⟩
        · have q3 : decide ((b.size : Int) ≤ room) = false := decide_eq_false h3
          rw [append_full vB (by show room - 0 < (b.size : Int); omega)] at HC3
          clear h3
          go_wp2_with fail
          refine HC3.out.mono ?_
          intro e w6 h6
          obtain ⟨rfl, cv6, Lh6, hL6, h7, h8⟩ := h6
          have M6 := Lib.hid (M5.out.step h7 h8)
          clear h7 h8 hL6 HC3
          go_wp2
          go_ret
          exact ⟨rfl, M6.out.below⟩
    · have q1 : decide ((a.size : Int) ≤ room) = false := decide_eq_false h1
      have HC := Lib.hid (append_c B b0 ml mh _ [] [] (fS0 room) sA a w2 M2.out.at_ ⟨Int.le_refl _, HR.out.1, HR.out.2⟩ (by have := HAS.out; omega) (by decide) (by have := HAS.out; show (noFiles.at sA).length + a.size ≤ _; rw [noFiles_at]; simp only [List.length_nil]; omega) (by show 0 < _; decide))
      rw [full0x room a h1] at HC
      clear h1
      go_wp2_with fail
      refine HC.out.mono ?_
      intro e w3 h3
      obtain ⟨rfl, cv3, Lh3, hL3, h4, h5⟩ := h3
      have M3 : Hid (My W w3 B b0 ml mh cv3 [] Lh3 (fS0 room)) := Lib.hid (M2.out.step h4 h5)
      have HL3 : Hid (Lh3.length ≤ 1) := Lib.hid hL3
      clear h4 h5 hL3 HC M2
      have HC2 := Lib.hid (append_c B b0 ml mh cv3 [] Lh3 (fS0 room) sB b w3 M3.out.at_ ⟨Int.le_refl _, HR.out.1, HR.out.2⟩ (by have := HBS.out; omega) (by have := HL3.out; unfold maxLen; omega) (by have := HBS.out; show (noFiles.at sB).length + b.size ≤ _; rw [noFiles_at]; simp only [List.length_nil]; omega) (by show 0 < _; decide))
      have a1 : IntKind.i64.wrap room = room := by rw [IntKind.wrap_i64]; have := HR.out; omega
      have a2 : wrap64 room = room := by unfold wrap64; have := HR.out; omega
      by_cases h2 : (b.size : Int) ≤ room
      · have q2 : decide ((b.size : Int) ≤ room) = true := decide_eq_true h2
        rw [append_ok vB (by show ¬ room - 0 < (b.size : Int); omega)] at HC2
        clear h2
        go_wp2_with fail
        refine HC2.out.mono ?_
        intro e w4 h4
        obtain ⟨rfl, cv4, Lh4, hL4, h5, h6⟩ := h4
        have M4 := Lib.hid (M3.out.step h5 h6)
        clear h5 h6 hL4 HC2
        go_wp2
        go_ret
        exact ⟨rfl, M4.out.below⟩
      · have q2 : decide ((b.size : Int) ≤ room) = false := decide_eq_false h2
        rw [append_full vB (by show room - 0 < (b.size : Int); omega)] at HC2
        clear h2
        go_wp2_with fail
        refine HC2.out.mono ?_
        intro e w4 h4
        obtain ⟨rfl, cv4, Lh4, hL4, h5, h6⟩ := h4
        have M4 : Hid (My W w4 B b0 ml mh cv4 [] Lh4 (fS0 room)) := Lib.hid (M3.out.step h5 h6)
        clear h5 h6 hL4 HC2
        have hrd := read_c B b0 ml mh cv4 [] Lh4 (fS0 room) sB (by decide) w4 M4.out.at_
        rw [show (fS0 room).held.at sB = [] from rfl, show ((fS0 room).held sB).isSome = false from rfl, if_neg (by decide)] at hrd
        have HRD := Lib.hid hrd
        have HUS := Lib.hid (used_c B b0 ml mh cv4 [] Lh4 (fS0 room) w4 M4.out.at_)
        have hus : (fS0 room).used = 0 := rfl
        clear hrd
        go_wp2_with fail
        refine HRD.out.mono ?_
        rintro _ _ ⟨rfl, rfl⟩
        go_wp2_with fail
        refine HUS.out.mono ?_
        rintro _ _ ⟨rfl, rfl⟩
        go_wp2
        go_ret
        exact ⟨rfl, M4.out.below⟩
end Go.Proofs.Ytdkjehjiacmppaa
