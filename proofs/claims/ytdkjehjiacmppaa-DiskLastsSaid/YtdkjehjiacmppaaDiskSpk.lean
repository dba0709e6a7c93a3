/- disk: the law's own word: what isn't synced is torn. -/
import Derived.Test.YtdkjehjiacmppaaDisk8
namespace Go.Proofs.Ytdkjehjiacmppaa
open Go.RowKit Go.Maps
set_option linter.unusedVariables false
set_option linter.unusedSimpArgs false
/-- a disk of the law's own -/
structure My (W w : World) (B b ml mh : Nat) (cv : Value) (Ll Lh : List ByteArray) (S : DkSt) : Prop where
  at_ : DkAt w B b ml mh cv Ll Lh S
  lo : W.heap.size ≤ B
  below : Below W.heap.size W w
theorem My.step {W w w' : World} {B b ml mh mh' : Nat} {cv cv' : Value} {Ll Lh Ll' Lh' : List ByteArray} {S S' : DkSt} (h : My W w B b ml mh cv Ll Lh S) (h1 : DkAt w' B b ml mh' cv' Ll' Lh' S') (h2 : DkR w b ml mh cv w' mh' cv') : My W w' B b ml mh' cv' Ll' Lh' S' :=
  ⟨h1, h.lo, h.below.trans (h2.fr.below (fun k _ e => Nat.le_trans h.lo (h.at_.low k e)) h.below.size)⟩
theorem My.new {W w w' : World} {cap : Int} {e : Ending} (hb : Below W.heap.size W w) (h : DkNew w cap e w') : ∃ B b ml mh, e = .returned (.pointer (some ⟨b, 0, none⟩)) ∧ My W w' B b ml mh (.slice none 0 0) [] [] ⟨max cap 0, 0, noFiles, noFiles, []⟩ := by
  obtain ⟨b, ml, mh, rfl, h1, h2⟩ := h
  exact ⟨_, b, ml, mh, rfl, h1, hb.size, below_then hb hb.size h2⟩
theorem My.fr {W w w' : World} {B b ml mh : Nat} {cv : Value} {Ll Lh : List ByteArray} {S : DkSt} (h : My W w B b ml mh cv Ll Lh S) (k : Fr w w' (fun _ => False)) : My W w' B b ml mh cv Ll Lh S :=
  ⟨h.at_.frNone k, h.lo, h.below.trans (k.below (fun k _ e => e.elim) h.below.size)⟩
def sA : ByteArray := ⟨#[97]⟩
def sAbc : ByteArray := ⟨#[97, 98, 99]⟩
def sDe : ByteArray := ⟨#[100, 101]⟩
noncomputable def spk0 : DkSt := ⟨9, 0, noFiles, noFiles, []⟩
noncomputable def spk1 : DkSt := ⟨9, 3, noFiles, oneF sA [97, 98, 99], [.app sA sAbc]⟩
noncomputable def spk2 : DkSt := ⟨9, 3, oneF sA [97, 98, 99], oneF sA [97, 98, 99], []⟩
noncomputable def spk3 : DkSt := ⟨9, 5, oneF sA [97, 98, 99], oneF sA [97, 98, 99, 100, 101], [.app sA sDe]⟩
noncomputable def spk4 : DkSt := ⟨9, 4, oneF sA [97, 98, 99, 100], oneF sA [97, 98, 99, 100], []⟩
theorem noFiles_at (x : ByteArray) : noFiles.at x = [] := rfl
theorem spk01 : spk0.append sA sAbc = (spk1, 0) := by
  unfold DkSt.append spk0 spk1 DkSt.make Chg.do
  rw [show validB sA = true from by decide, if_neg (by decide), if_neg (by decide)]
  simp only [noFiles_put, noFiles_at]
  rfl
theorem spk1_last : crashLast spk1 spk1.chg.length 0 = oneF sA [97, 98, 99] := by
  show (noFiles.put sA (noFiles.at sA ++ [97, 98, 99])) = _
  rw [noFiles_put, noFiles_at]
  rfl
theorem spk12 : spk1.sync = spk2 := by
  unfold DkSt.sync DkSt.crash DkSt.crashed
  rw [spk1_last, oneF_total]
  rfl
theorem spk23 : spk2.append sA sDe = (spk3, 0) := by
  unfold DkSt.append spk2 spk3 DkSt.make Chg.do
  rw [show validB sA = true from by decide, if_neg (by decide), if_neg (by decide)]
  simp only [oneF_put, oneF_at]
  rfl
theorem spk3_last : crashLast spk3 0 1 = oneF sA [97, 98, 99, 100] := by
  show (if (0 : Int) < 1 then (oneF sA [97, 98, 99]).put sA ((oneF sA [97, 98, 99]).at sA ++ cutB sDe 1) else oneF sA [97, 98, 99]) = _
  rw [if_pos (by decide), oneF_put, oneF_at]
  rfl
theorem spk34 : spk3.crash 0 1 = spk4 := by
  unfold DkSt.crash DkSt.crashed
  rw [spk3_last, oneF_total]
  rfl
set_option maxRecDepth 20000 in
set_option maxHeartbeats 4000000 in
theorem speaks_any (w : World) : Calls Try.prog 9 #[] w fun e w' => e = .returned (.bool true) ∧ Below w.heap.size w w' := by
  go_enter Try.func9, Try.ntmps9
  go_wp2_with fail
  refine (new_c 9 w).mono ?_
  intro e w1 h1
  obtain ⟨B, b, ml, mh, rfl, hm1⟩ := My.new (Below.refl _ w) h1
  have M1 : Hid (My w w1 B b ml mh (.slice none 0 0) [] [] spk0) := Lib.hid hm1
  clear h1 hm1
  go_wp2_with fail
  refine (append_c B b ml mh _ [] [] spk0 sA sAbc w1 M1.out.at_ ⟨by decide, by decide, by decide⟩ (by decide) (by decide) (by decide) (by decide)).mono ?_
  rw [spk01]
  intro e w2 h2
  obtain ⟨rfl, cv2, Lh2, hL2, h3, h4⟩ := h2
  have M2 : Hid (My w w2 B b ml mh cv2 [] Lh2 spk1) := Lib.hid (M1.out.step h3 h4)
  have HL2 : Hid (Lh2.length ≤ 1) := Lib.hid hL2
  clear h3 h4 hL2
  go_wp2_with fail
  refine (sync_c B b ml mh cv2 [] Lh2 spk1 w2 M2.out.at_ (by decide) (by decide) ?_ (by rw [spk1_last]; exact oneF_small _ _ (by decide))).mono ?_
  · intro i c hc
    cases i with
    | zero => cases hc; show (noFiles.at sA).length + sAbc.size ≤ _; decide
    | succ i => cases hc
  rw [spk12]
  intro e w3 h3
  obtain ⟨rfl, mh3, cv3, Ll3, hL3, h5, h6⟩ := h3
  have M3 : Hid (My w w3 B b ml mh3 cv3 Ll3 Ll3 spk2) := Lib.hid (M2.out.step h5 h6)
  have HL3 : Hid (Ll3.length ≤ 2) := Lib.hid hL3
  clear h5 h6 hL3
  go_wp2_with fail
  refine (append_c B b ml mh3 cv3 Ll3 Ll3 spk2 sA sDe w3 M3.out.at_ ⟨by decide, by decide, by decide⟩ (by decide) (by have := HL3.out; unfold maxLen; omega) (by show ((oneF sA [97, 98, 99]).at sA).length + 2 ≤ _; rw [oneF_at]; decide) (by decide)).mono ?_
  rw [spk23]
  intro e w4 h4
  obtain ⟨rfl, cv4, Lh4, hL4, h5, h6⟩ := h4
  have M4 : Hid (My w w4 B b ml mh3 cv4 Ll3 Lh4 spk3) := Lib.hid (M3.out.step h5 h6)
  clear h5 h6 hL4
  go_wp2_with fail
  refine (crash_c B b ml mh3 cv4 Ll3 Lh4 spk3 0 1 w4 M4.out.at_ (by have := HL3.out; show Ll3.length + 1 + 1 < maxLen; unfold maxLen; omega) (by decide) ?_ (by rw [spk3_last]; exact oneF_small _ _ (by decide))).mono ?_
  · intro i c hc
    cases i with
    | zero => cases hc; show ((oneF sA [97, 98, 99]).at sA).length + 2 ≤ _; rw [oneF_at]; decide
    | succ i => cases hc
  rw [spk34]
  intro e w5 h5
  obtain ⟨rfl, mh5, cv5, Ll5, hL5, h6, h7⟩ := h5
  have M5 : Hid (My w w5 B b ml mh5 cv5 Ll5 Ll5 spk4) := Lib.hid (M4.out.step h6 h7)
  clear h6 h7 hL5
  go_wp2_with fail
  have hrd := read_c B b ml mh5 cv5 Ll5 Ll5 spk4 sA (by decide) w5 M5.out.at_
  rw [show spk4.held.at sA = [97, 98, 99, 100] from oneF_at _ _, show (spk4.held sA).isSome = true from by show (oneF sA _ sA).isSome = true; rw [oneF_some]; rfl, if_pos rfl] at hrd
  refine hrd.mono ?_
  rintro _ _ ⟨rfl, rfl⟩
  go_wp2
  go_ret
  exact ⟨rfl, M5.out.below⟩
end Go.Proofs.Ytdkjehjiacmppaa
