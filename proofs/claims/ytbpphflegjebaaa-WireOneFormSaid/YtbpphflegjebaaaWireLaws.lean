/- The walks of the laws on packs. -/
import Derived.Test.YtbpphflegjebaaaWireRef
namespace Go.Proofs.Ytbpphflegjebaaa
open Go.RowKit
set_option linter.unusedVariables false
set_option linter.unusedSimpArgs false
theorem PackAt.new (w : World) : PackAt (w.alloc (.cells #[.slice none 0 0] 25)) w.heap.size (.slice none 0 0) [] :=
  ⟨Blk.new w [.slice none 0 0] 25, World.ownsRow_nil _ _ _ _, fun k h => by cases h⟩
theorem PackAt.fr {w w' : World} {b : Nat} {v : Value} {l : List UInt8} {S : Nat → Prop} (h : PackAt w b v l) (hf : Fr w w' S) (hb : ¬ S b) (hv : ∀ k, v.ownBlock = some k → ¬ S k) : PackAt w' b v l :=
  ⟨h.blk.fr hf hb, own_fr h.own hf hv, h.ne⟩
theorem PackAt.alloc {w : World} {b : Nat} {v : Value} {l : List UInt8} (h : PackAt w b v l) (o : Obj) : PackAt (w.alloc o) b v l :=
  h.fr ((Fr.refl w (fun _ => False)).alloc o) (fun e => e) (fun _ _ e => e)
theorem PackR.below {w w' : World} {b : Nat} {v v' : Value} (h : PackR w b v w' v') {B : Nat} (hb : B ≤ b) (hv : ∀ k, v.ownBlock = some k → B ≤ k) (hs : B ≤ w.heap.size) : Below B w w' :=
  h.fr.below (fun k _ e => by rcases e with rfl | e; exact hb; exact hv k e) hs
theorem enc_64 : Wire.enc 64 = [128, 1] := by
  unfold Wire.enc
  rw [show Wire.zz 64 = 128 by decide, Wire.uv_ge (by decide), Wire.uv_lt (by decide)]; rfl
theorem enc_2 : Wire.enc 2 = [4] := by
  unfold Wire.enc
  rw [show Wire.zz 2 = 4 by decide, Wire.uv_lt (by decide)]; rfl
set_option maxHeartbeats 1000000 in
theorem wireSpeaks_any (w : World) : Calls Try.prog 8 #[] w fun e w' => e = .returned (.bool true) ∧ Below w.heap.size w w' := by
  have HN := Lib.hid (PackAt.new w)
  go_enter Try.func8, Try.ntmps8
  go_wp2_with fail
  refine (pint_any w.heap.size _ [] 64 (by decide) (by decide) _ HN.out (by rw [enc_64]; decide)).mono ?_
  rintro e w1 ⟨rfl, v1, hP1, hR1⟩
  have HP1 := Lib.hid hP1
  have HR1 := Lib.hid hR1
  clear hP1 hR1
  go_wp2_with fail
  refine (ptext_any w.heap.size v1 _ _ w1 HP1.out (by rw [enc_64]; decide +kernel)).mono ?_
  rintro e w2 ⟨rfl, v2, hP2, hR2⟩
  have HP2 := Lib.hid hP2
  have HR2 := Lib.hid (HR1.out.trans hR2)
  clear hP2 hR2
  go_wp2_with fail
  refine (pbytes_any w.heap.size v2 _ w2 HP2.out).mono ?_
  rintro e w3 ⟨rfl, rfl⟩
  go_wp2_with fail
  go_ret
  exact ⟨ret_bool (by rw [enc_64, enc_2]; decide), ((Below.refl _ w).alloc (Nat.le_refl _) _).trans (HR2.out.below (Nat.le_refl _) (fun k h => by cases h) (by simp))⟩
set_option maxHeartbeats 1000000 in
theorem wireSizes_walk (a0 : Int) (w0 : (Lit.int .i64 a0).wf = true) (a1 : Int) (w1 : (Lit.int .i64 a1).wf = true) (W : World) :
    Calls Try.prog 3 #[.int .i64 a0, .int .i64 a1] W fun e w' => e = .returned (.bool true) ∧ Below W.heap.size W w' := by
  obtain ⟨x1, x2⟩ : -9223372036854775808 ≤ a0 ∧ a0 ≤ 9223372036854775807 := by simpa [Lit.wf, IntKind.min, IntKind.max, IntKind.signed, IntKind.bits] using w0
  obtain ⟨y1, y2⟩ : -9223372036854775808 ≤ a1 ∧ a1 ≤ 9223372036854775807 := by simpa [Lit.wf, IntKind.min, IntKind.max, IntKind.signed, IntKind.bits] using w1
  clear w0 w1
  have la := Wire.uv_len10 (Wire.zz_lt x1 x2)
  have lb := Wire.uv_len10 (Wire.zz_lt y1 y2)
  have pa := Wire.uv_pos (Wire.zz a0)
  have one : Hid (-64 ≤ a0 ∧ a0 < 64 → (Wire.enc a0).length = 1) := Lib.hid fun h => by
    unfold Wire.enc
    rw [Wire.uv_lt (by unfold Wire.zz; split <;> omega)]; rfl
  have mon : Hid (0 ≤ a0 → a0 ≤ a1 → (Wire.enc a0).length ≤ (Wire.enc a1).length) := Lib.hid fun h h2 => by
    unfold Wire.enc
    refine Wire.uv_mono _ _ ?_
    unfold Wire.zz
    rw [if_pos h, if_pos (by omega)]; omega
  have HP := fun b v l w (hP : PackAt w b v l) hl => Lib.hid (pint_any b v l a0 x1 x2 w hP hl)
  have HQ := fun b v l w (hP : PackAt w b v l) hl => Lib.hid (pint_any b v l a1 y1 y2 w hP hl)
  change (Wire.enc a0).length ≤ 10 at la
  change (Wire.enc a1).length ≤ 10 at lb
  change 1 ≤ (Wire.enc a0).length at pa
  generalize Wire.enc a0 = ea at HP la pa one mon
  generalize Wire.enc a1 = eb at HQ lb mon
  have hea : ([] ++ ea).length ≤ 140737488355328 := by simp; omega
  have heb : ([] ++ eb).length ≤ 140737488355328 := by simp; omega
  have HEA := Lib.hid hea; have HEB := Lib.hid heb
  clear hea heb
  go_enter Try.func3, Try.ntmps3
  go_wp2_with fail
  refine (wireSpeaks_any W).mono ?_
  rintro e w1 ⟨rfl, hb⟩
  have HB := Lib.hid hb
  clear hb
  have HN1 := Lib.hid ((PackAt.new w1).alloc (.cells #[.slice none 0 0] 25))
  have HN2 := Lib.hid (PackAt.new (w1.alloc (.cells #[.slice none 0 0] 25)))
  rw [show (w1.alloc (.cells #[.slice none 0 0] 25)).heap.size = w1.heap.size + 1 by simp] at HN2
  go_wp2_with fail
  refine (HP _ _ _ _ HN1.out HEA.out).out.mono ?_
  rintro e w2 ⟨rfl, v1, hP1, hR1⟩
  have hsz := hR1.fr.size
  rw [show ((w1.alloc (.cells #[.slice none 0 0] 25)).alloc (.cells #[.slice none 0 0] 25)).heap.size = w1.heap.size + 1 + 1 by simp] at hsz
  have HN3 := Lib.hid (HN2.out.fr hR1.fr (fun e => by rcases e with e | e; omega; cases e) (fun k e => by cases e))
  have HP1 := Lib.hid hP1
  have HR1 := Lib.hid hR1
  clear hP1 hR1
  go_wp2_with fail
  refine (HQ _ _ _ _ HN3.out HEB.out).out.mono ?_
  rintro e w3 ⟨rfl, v2, hP2, hR2⟩
  have HP3 := Lib.hid (HP1.out.fr hR2.fr (fun e => by rcases e with e | e; omega; cases e) (fun k e => by
    intro h; rcases h with h | h
    · rcases HR1.out.lies with e' | ⟨g, e', hg⟩
      · rw [e'] at e; cases e
      · rw [e'] at e; have := Option.some.inj e; simp at hg; omega
    · cases h))
  have HP2 := Lib.hid hP2
  have hbel : Below W.heap.size W w3 := by
    have h1 := HB.out.size
    have b1 := (HB.out.alloc h1 (.cells #[.slice none 0 0] 25)).alloc (by simp; omega) (.cells #[.slice none 0 0] 25)
    exact (b1.trans (HR1.out.below (B := W.heap.size) h1 (fun k h => by cases h) (by simp; omega))).trans (hR2.below (by omega) (fun k h => by cases h) (by omega))
  have HBel := Lib.hid hbel
  clear hP2 hR2 hbel
  go_wp2_with fail
  refine (pbytes_any w1.heap.size v1 _ w3 HP3.out).mono ?_
  rintro e w4 ⟨rfl, rfl⟩
  go_wp2_with fail
  refine (pbytes_any (w1.heap.size + 1) v2 _ w3 HP2.out).mono ?_
  rintro e w4 ⟨rfl, rfl⟩
  have hend : a0 < 0 ∨ a1 < a0 ∨ (¬ a0 < 0 ∧ ¬ a1 < a0 ∧ ea.length ≤ eb.length) := by
    by_cases h0 : a0 < 0
    · exact .inl h0
    · by_cases h1 : a1 < a0
      · exact .inr (.inl h1)
      · exact .inr (.inr ⟨h0, h1, mon.out (by omega) (by omega)⟩)
  have hone : (-64 ≤ a0 ∧ a0 < 64 ∧ ((ea.length : Int) != 1) = false) ∨ (-64 ≤ a0 ∧ ¬ a0 < 64) ∨ ¬ -64 ≤ a0 := by
    by_cases h1 : -64 ≤ a0
    · by_cases h2 : a0 < 64
      · exact .inl ⟨h1, h2, by have := one.out ⟨h1, h2⟩; simp; omega⟩
      · exact .inr (.inl ⟨h1, h2⟩)
    · exact .inr (.inr h1)
  have hgt : 0 < ea.length := by omega
  rcases hone with ⟨h1, h2, h3⟩ | ⟨h1, h2⟩ | h1
  all_goals rcases hend with h4 | h4 | ⟨h4, h5, h6⟩
  all_goals try (exfalso; omega)
  all_goals
    go_wp2_with fail
    all_goals (go_ret; exact ⟨ret_bool (by simp; try omega), HBel.out⟩)
end Go.Proofs.Ytbpphflegjebaaa
