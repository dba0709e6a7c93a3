/- mahoutlaw19's speaks. -/
import Derived.Test.YtgeeaddbapjikaaCopied
namespace Go.Proofs.Ytgeeaddbapjikaa
open Go.RowKit Go.Proofs.Ytgeeaddbapjikaa.St
set_option linter.unusedVariables false
set_option linter.unusedSimpArgs false
namespace Mg
theorem eqPrA (a b c d : ByteArray) (w : World) : (Op.equalIn 10000 33 (.agg #[.string a, .string b]) (.agg #[.string c, .string d])).run Try.prog w = .ok (a == c && b == d) w := by
  have u3 := Try.underlying9
  have h := run_equalIn_struct (P := Try.prog) w 9999 33 #[.string a, .string b] #[.string c, .string d] (by kernel_rfl) (by kernel_rfl)
  rw [show (10000 : Nat) = 9999 + 1 from rfl, h]
  have hf : ((Try.prog.fieldsOf 33).toList.map fun f => (f.name, f.type, f.offset)) = [("Key", 9, 0), ("Value", 9, 1)] := by kernel_rfl
  generalize (Try.prog.fieldsOf 33).toList = fs at hf
  obtain ⟨f1, f2, rfl, e1, e2⟩ := two_map _ hf
  simp only [Prod.mk.injEq] at e1 e2
  obtain ⟨n1, t1, o1⟩ := e1
  obtain ⟨n2, t2, o2⟩ := e2
  simp only [Op.eqFields, n1, t1, o1, n2, t2, o2]
  have p1 := Try.isAgg9
  have p2 := Try.sizeOf9
  go_simp
  by_cases h1 : a.toList = c.toList <;> by_cases h2 : b.toList = d.toList <;> simp [h1, h2, beq_toListBytes]
def spkR (h : Nat) : Nat → Rn
  | 0 => ⟨h, 0, 1, [(⟨#[98]⟩, ⟨#[49]⟩)]⟩
  | 1 => ⟨h + 1, 0, 1, [(⟨#[97]⟩, ⟨#[50]⟩)]⟩
  | _ => ⟨0, 0, 0, []⟩
theorem spk_b1 (h : Nat) : best (spkR h) (fun _ => 0) 2 = some 1 := by
  rw [best_succ, best_succ]
  have e0 : best (spkR h) (fun _ => 0) 0 = none := rfl
  rw [e0, pick_first (show act (spkR h) (fun _ => 0) 0 from Nat.zero_lt_one), pick_some (show act (spkR h) (fun _ => 0) 1 from Nat.zero_lt_one)]
  have hk : bl (key (spkR h) (1, 0)) (key (spkR h) (0, 0)) = true := by
    show bl ⟨#[97]⟩ ⟨#[98]⟩ = true
    rw [bl_lt]; decide
  rw [if_pos hk]
theorem spk_b2 (h : Nat) : best (spkR h) (bump (fun _ => 0) 1) 2 = some 0 := by
  rw [best_succ, best_succ]
  have e0 : best (spkR h) (bump (fun _ => 0) 1) 0 = none := rfl
  rw [e0, pick_first (show act (spkR h) (bump (fun _ => 0) 1) 0 from Nat.zero_lt_one), pick_no (show ¬ act (spkR h) (bump (fun _ => 0) 1) 1 from Nat.lt_irrefl 1)]
theorem spk_out (h : Nat) : out (spkR h) 2 (todo (spkR h) (fun _ => 0) 2) (fun _ => 0) = [(⟨#[97]⟩, ⟨#[50]⟩), (⟨#[98]⟩, ⟨#[49]⟩)] := by
  show out (spkR h) 2 2 (fun _ => 0) = _
  unfold out
  rw [spk_b1]
  simp only
  unfold out
  rw [spk_b2]
  rfl
theorem spk_runs {w : World} {h base : Nat} (h1 : Blk w h [.string ⟨#[98]⟩, .string ⟨#[49]⟩] 33) (h2 : Blk w (h + 1) [.string ⟨#[97]⟩, .string ⟨#[50]⟩] 33) (hb : h + 1 < base) : RunsAt w base (spkR h) := by
  refine ⟨fun i hi => ?_, fun i k p hp => ?_, fun i => ?_⟩
  · match i, hi with
    | 0, _ => show h < base; omega
    | 1, _ => exact hb
    | n + 2, hi => exact absurd hi (Nat.lt_irrefl 0)
  · match i, hp with
    | 0, hp =>
      match k, hp with
      | 0, hp => cases hp; exact ⟨h1.cell 0, h1.cell 1⟩
      | k + 1, hp => cases hp
    | 1, hp =>
      match k, hp with
      | 0, hp => cases hp; exact ⟨h2.cell 0, h2.cell 1⟩
      | k + 1, hp => cases hp
    | n + 2, hp => cases hp
  · match i with
    | 0 => exact Nat.le_refl 1
    | 1 => exact Nat.le_refl 1
    | n + 2 => exact Nat.le_refl 0
theorem spk_sl {w : World} {h base : Nat} (h3 : Blk w (h + 2) [.slice (some ⟨h, 0, none⟩) 1 1, .slice (some ⟨h + 1, 0, none⟩) 1 1] 29) (hb : h + 2 < base) : RunSl w base (some ⟨h + 2, 0, none⟩) 2 (spkR h) := by
  refine ⟨fun i hi => ⟨h + 2, 0, rfl, hb, .inr ?_⟩⟩
  match i, hi with
  | 0, _ => exact ⟨Nat.zero_lt_one, h3.cell 0⟩
  | 1, _ => exact ⟨Nat.zero_lt_one, h3.cell 1⟩
set_option maxHeartbeats 2000000 in
theorem speaks_c (W : World) : Calls Try.prog 8 #[] W fun e w' => e = .returned (.bool true) ∧ Below W.heap.size W w' := by
  have X1 := Blk.new W [.string ⟨#[98]⟩, .string ⟨#[49]⟩] 33
  have X2 := Blk.new (W.alloc (.cells #[.string ⟨#[98]⟩, .string ⟨#[49]⟩] 33)) [.string ⟨#[97]⟩, .string ⟨#[50]⟩] 33
  have X3 := Blk.new ((W.alloc (.cells #[.string ⟨#[98]⟩, .string ⟨#[49]⟩] 33)).alloc (.cells #[.string ⟨#[97]⟩, .string ⟨#[50]⟩] 33)) [.slice (some ⟨W.heap.size, 0, none⟩) 1 1, .slice (some ⟨W.heap.size + 1, 0, none⟩) 1 1] 29
  have s1 : (W.alloc (.cells #[.string ⟨#[98]⟩, .string ⟨#[49]⟩] 33)).heap.size = W.heap.size + 1 := by simp
  have s2 : ((W.alloc (.cells #[.string ⟨#[98]⟩, .string ⟨#[49]⟩] 33)).alloc (.cells #[.string ⟨#[97]⟩, .string ⟨#[50]⟩] 33)).heap.size = W.heap.size + 2 := by simp
  rw [s1] at X2
  rw [s2] at X3
  have Y1 := (X1.alloc (.cells #[.string ⟨#[97]⟩, .string ⟨#[50]⟩] 33)).alloc (.cells #[.slice (some ⟨W.heap.size, 0, none⟩) 1 1, .slice (some ⟨W.heap.size + 1, 0, none⟩) 1 1] 29)
  have Y2 := X2.alloc (.cells #[.slice (some ⟨W.heap.size, 0, none⟩) 1 1, .slice (some ⟨W.heap.size + 1, 0, none⟩) 1 1] 29)
  have hB : Below W.heap.size W (((W.alloc (.cells #[.string ⟨#[98]⟩, .string ⟨#[49]⟩] 33)).alloc (.cells #[.string ⟨#[97]⟩, .string ⟨#[50]⟩] 33)).alloc (.cells #[.slice (some ⟨W.heap.size, 0, none⟩) 1 1, .slice (some ⟨W.heap.size + 1, 0, none⟩) 1 1] 29)) :=
    (((Below.refl _ W).alloc (Nat.le_refl _) _).alloc (by simp) _).alloc (by simp; omega) _
  have HY1 := Lib.hid Y1
  have HY2 := Lib.hid Y2
  have HX3 := Lib.hid X3
  have HB := Lib.hid hB
  have heq := eqPrA
  clear X1 X2 X3 Y1 Y2 s1 s2 hB
  go_enter Try.func8, Try.ntmps8
  go_wp2_with fail
  change Hid (Blk (((W.alloc (.cells #[.string ⟨#[98]⟩, .string ⟨#[49]⟩] 33)).alloc (.cells #[.string ⟨#[97]⟩, .string ⟨#[50]⟩] 33)).alloc (.cells #[.slice (some ⟨W.heap.size, 0, none⟩) 1 1, .slice (some ⟨W.heap.size + 1, 0, none⟩) 1 1] 29)) W.heap.size [.string ⟨#[98]⟩, .string ⟨#[49]⟩] 33) at HY1
  change Hid (Blk (((W.alloc (.cells #[.string ⟨#[98]⟩, .string ⟨#[49]⟩] 33)).alloc (.cells #[.string ⟨#[97]⟩, .string ⟨#[50]⟩] 33)).alloc (.cells #[.slice (some ⟨W.heap.size, 0, none⟩) 1 1, .slice (some ⟨W.heap.size + 1, 0, none⟩) 1 1] 29)) (W.heap.size + 1) [.string ⟨#[97]⟩, .string ⟨#[50]⟩] 33) at HY2
  change Hid (Blk (((W.alloc (.cells #[.string ⟨#[98]⟩, .string ⟨#[49]⟩] 33)).alloc (.cells #[.string ⟨#[97]⟩, .string ⟨#[50]⟩] 33)).alloc (.cells #[.slice (some ⟨W.heap.size, 0, none⟩) 1 1, .slice (some ⟨W.heap.size + 1, 0, none⟩) 1 1] 29)) (W.heap.size + 2) [.slice (some ⟨W.heap.size, 0, none⟩) 1 1, .slice (some ⟨W.heap.size + 1, 0, none⟩) 1 1] 29) at HX3
  generalize ((W.alloc (.cells #[.string ⟨#[98]⟩, .string ⟨#[49]⟩] 33)).alloc (.cells #[.string ⟨#[97]⟩, .string ⟨#[50]⟩] 33)).alloc (.cells #[.slice (some ⟨W.heap.size, 0, none⟩) 1 1, .slice (some ⟨W.heap.size + 1, 0, none⟩) 1 1] 29) = w3 at *
  have hlt := HX3.out.lt
  have HM := Lib.hid (merge_c w3 w3.heap.size (some ⟨W.heap.size + 2, 0, none⟩) 2 2 (spkR W.heap.size) (by decide) (by rw [spk_out]; decide) (spk_sl HX3.out hlt) (spk_runs HY1.out HY2.out (by omega)) (Nat.le_refl _))
  rw [spk_out] at HM
  clear hlt
  refine HM.out.mono ?_
  rintro e w4 ⟨v, rfl, hr, hb⟩
  obtain ⟨g, cap, hv, _, _, hcell, _⟩ := hr.some (by decide)
  subst hv
  have c0 : w4.cell? ⟨g, 0, none⟩ = some (.string ⟨#[97]⟩) := hcell 0 _ 0 _ rfl rfl
  have c1 : w4.cell? ⟨g, 1, none⟩ = some (.string ⟨#[50]⟩) := hcell 0 _ 1 _ rfl rfl
  have HB2 := Lib.hid (HB.out.trans (hb.mono HB.out.size))
  have hq1 : ((⟨#[97]⟩ : ByteArray) == ⟨#[97]⟩) = true := rfl
  have hq2 : ((⟨#[50]⟩ : ByteArray) == ⟨#[50]⟩) = true := rfl
  clear hr hb hcell HM HY1 HY2 HX3
  go_wp2_with fail
  go_ret
  exact ⟨rfl, HB2.out⟩
end Mg
end Go.Proofs.Ytgeeaddbapjikaa
