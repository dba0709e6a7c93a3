/- speaks of the laws on packs. -/
import Derived.Test.YtbpphflegjebaaaDoorWire
namespace Go.Proofs.YtbpphflegjebaaaDoor
open Go.RowKit
set_option linter.unusedVariables false
set_option linter.unusedSimpArgs false
theorem PackAt.new (w : World) : PackAt (w.alloc (.cells #[.slice none 0 0] 40)) w.heap.size (.slice none 0 0) [] :=
  ⟨Blk.new w [.slice none 0 0] 40, World.ownsRow_nil _ _ _ _, fun k h => by cases h⟩
theorem PackAt.fr {w w' : World} {b : Nat} {v : Value} {l : List UInt8} {S : Nat → Prop} (h : PackAt w b v l) (hf : Fr w w' S) (hb : ¬ S b) (hv : ∀ k, v.ownBlock = some k → ¬ S k) : PackAt w' b v l :=
  ⟨h.blk.fr hf hb, own_fr h.own hf hv, h.ne⟩
theorem PackAt.alloc {w : World} {b : Nat} {v : Value} {l : List UInt8} (h : PackAt w b v l) (o : Obj) : PackAt (w.alloc o) b v l :=
  h.fr ((Fr.refl w (fun _ => False)).alloc o) (fun e => e) (fun _ _ e => e)
theorem PackR.below {w w' : World} {b : Nat} {v v' : Value} (h : PackR w b v w' v') {B : Nat} (hb : B ≤ b) (hv : ∀ k, v.ownBlock = some k → B ≤ k) (hs : B ≤ w.heap.size) : Below B w w' :=
  h.fr.below (fun k _ e => by rcases e with rfl | e; exact hb; exact hv k e) hs
theorem enc_64 : Wire.enc 64 = [128, 1] := by
  unfold Wire.enc
  rw [show Wire.zz 64 = 128 by decide, Wire.uv_ge (by decide), Wire.uv_lt (by decide)]; rfl
theorem enc_2 : Wire.enc 2 = [4] := by
  unfold Wire.enc
  rw [show Wire.zz 2 = 4 by decide, Wire.uv_lt (by decide)]; rfl
set_option maxHeartbeats 1000000 in
theorem wireSpeaks_any (w : World) : Calls Tryd.prog 5 #[] w fun e w' => e = .returned (.bool true) ∧ Below w.heap.size w w' := by
  have HN := Lib.hid (PackAt.new w)
  go_enter Tryd.func5, Tryd.ntmps5
  go_wp2_with fail
  refine (pint_any w.heap.size _ [] 64 (by decide) (by decide) _ HN.out (by rw [enc_64]; decide)).mono ?_
  rintro e w1 ⟨rfl, v1, hP1, hR1⟩
  have HP1 := Lib.hid hP1
  have HR1 := Lib.hid hR1
  clear hP1 hR1
  go_wp2_with fail
  refine (ptext_any w.heap.size v1 _ _ w1 HP1.out (by rw [enc_64]; decide +kernel)).mono ?_
  rintro e w2 ⟨rfl, v2, hP2, hR2⟩
  have HP2 := Lib.hid hP2
  have HR2 := Lib.hid (HR1.out.trans hR2)
  clear hP2 hR2
  go_wp2_with fail
  refine (pbytes_any w.heap.size v2 _ w2 HP2.out).mono ?_
  rintro e w3 ⟨rfl, rfl⟩
  go_wp2_with fail
  go_ret
  exact ⟨ret_bool (by rw [enc_64, enc_2]; decide), ((Below.refl _ w).alloc (Nat.le_refl _) _).trans (HR2.out.below (Nat.le_refl _) (fun k h => by cases h) (by simp))⟩
end Go.Proofs.YtbpphflegjebaaaDoor
