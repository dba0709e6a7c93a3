/- plan: the law's own word on the nearer one. (Under way.) -/
import Derived.Test.YtmggalbdlabcmaaPlan2
namespace Go.Proofs.Ytmggalbdlabcmaa
open Go.RowKit Go.Lib St Fl
set_option linter.unusedVariables false
set_option linter.unusedSimpArgs false
theorem i1 : Is 4607182418800017408 false 1 := ⟨52, by rfl⟩
theorem i5 : Is 4617315517961601024 false 5 := ⟨50, by rfl⟩
theorem i8 : Is 4620693217682128896 false 8 := ⟨49, by rfl⟩
theorem i9 : Is 4621256167635550208 false 9 := ⟨49, by rfl⟩
def spkT : List (Int × List Spot) := [(0, [(4617315517961601024, 0)]), (0, [(4607182418800017408, 0), (4621256167635550208, 0)])]
def spkZ : Spot := (4620693217682128896, 0)
theorem spk_pick : pickP (farsS spkZ spkT) = 1 := by
  have e1 : dS spkZ (4617315517961601024, 0) = 9 := by
    show distI (pl 4620693217682128896) (pl 0) (pl 4617315517961601024) (pl 0) = 9
    rw [pl_yes i8 (by omega), pl_yes i5 (by omega), pl_yes is_zero (by omega)]; rfl
  have e2 : dS spkZ (4607182418800017408, 0) = 49 := by
    show distI (pl 4620693217682128896) (pl 0) (pl 4607182418800017408) (pl 0) = 49
    rw [pl_yes i8 (by omega), pl_yes i1 (by omega), pl_yes is_zero (by omega)]; rfl
  have e3 : dS spkZ (4621256167635550208, 0) = 1 := by
    show distI (pl 4620693217682128896) (pl 0) (pl 4621256167635550208) (pl 0) = 1
    rw [pl_yes i8 (by omega), pl_yes i9 (by omega), pl_yes is_zero (by omega)]; rfl
  have f1 : farS spkZ [(4617315517961601024, 0)] = 9 := by unfold farS; rw [List.map_cons, e1]; rfl
  have f2 : farS spkZ [(4607182418800017408, 0), (4621256167635550208, 0)] = 1 := by unfold farS; rw [List.map_cons, List.map_cons, e2, e3]; rfl
  show pickP [farS spkZ _, farS spkZ _] = 1
  rw [f1, f2]
  rfl
theorem spk_at (w : World) : TasksAt (((w.alloc (.cells #[.complex .f64 4617315517961601024 0] 31)).alloc (.cells #[.complex .f64 4607182418800017408 0, .complex .f64 4621256167635550208 0] 31)).alloc (.cells #[.int .i64 0, .slice (some ⟨w.heap.size, 0, none⟩) 1 1, .int .i64 0, .slice (some ⟨w.heap.size + 1, 0, none⟩) 2 2] 29)) (some ⟨w.heap.size + 1 + 1, 0, none⟩) 2 2 spkT := by
  have b1 := ((Blk.new w [.complex .f64 4617315517961601024 0] 31).alloc (.cells #[.complex .f64 4607182418800017408 0, .complex .f64 4621256167635550208 0] 31)).alloc (.cells #[.int .i64 0, .slice (some ⟨w.heap.size, 0, none⟩) 1 1, .int .i64 0, .slice (some ⟨w.heap.size + 1, 0, none⟩) 2 2] 29)
  have b2 := (Blk.new (w.alloc (.cells #[.complex .f64 4617315517961601024 0] 31)) [.complex .f64 4607182418800017408 0, .complex .f64 4621256167635550208 0] 31).alloc (.cells #[.int .i64 0, .slice (some ⟨w.heap.size, 0, none⟩) 1 1, .int .i64 0, .slice (some ⟨w.heap.size + 1, 0, none⟩) 2 2] 29)
  have b3 := Blk.new ((w.alloc (.cells #[.complex .f64 4617315517961601024 0] 31)).alloc (.cells #[.complex .f64 4607182418800017408 0, .complex .f64 4621256167635550208 0] 31)) [.int .i64 0, .slice (some ⟨w.heap.size, 0, none⟩) 1 1, .int .i64 0, .slice (some ⟨w.heap.size + 1, 0, none⟩) 2 2] 29
  rw [World.size_alloc, World.size_alloc] at b3
  rw [World.size_alloc] at b2
  refine ⟨rfl, by decide, fun i t ht => ?_⟩
  have hi : i < 2 := (List.getElem?_eq_some_iff.1 ht).1
  rcases (show i = 0 ∨ i = 1 by omega) with rfl | rfl
  · obtain rfl := Option.some.inj ht
    refine ⟨_, _, 1, 1, rfl, b3.lt, b3.cell 0, b3.cell 1, rfl, by decide, fun _ => ⟨_, rfl, b1.lt, fun j h hj => ?_⟩⟩
    have hj2 : j < 1 := (List.getElem?_eq_some_iff.1 hj).1
    obtain rfl : j = 0 := by omega
    obtain rfl := Option.some.inj hj
    exact b1.cell 0
  · obtain rfl := Option.some.inj ht
    refine ⟨_, _, 2, 2, rfl, b3.lt, b3.cell 2, b3.cell 3, rfl, by decide, fun _ => ⟨_, rfl, b2.lt, fun j h hj => ?_⟩⟩
    have hj2 : j < 2 := (List.getElem?_eq_some_iff.1 hj).1
    rcases (show j = 0 ∨ j = 1 by omega) with rfl | rfl
    · obtain rfl := Option.some.inj hj
      exact b2.cell 0
    · obtain rfl := Option.some.inj hj
      exact b2.cell 1
set_option maxRecDepth 20000 in
set_option maxHeartbeats 4000000 in
theorem plSpeaks_any (w : World) : Calls Try.prog 6 #[] w fun e w' => e = .returned (.bool true) ∧ Below w.heap.size w w' := by
  go_enter Try.func6, Try.ntmps6
  go_wp2_with fail
  have hp := pick_c _ 2 2 spkT spkZ _ (spk_at w)
  rw [spk_pick] at hp
  have hb := (((Below.refl w.heap.size w).alloc (Nat.le_refl _) (.cells #[.complex .f64 4617315517961601024 0] 31)).alloc (by simp) (.cells #[.complex .f64 4607182418800017408 0, .complex .f64 4621256167635550208 0] 31)).alloc (by rw [World.size_alloc, World.size_alloc]; omega) (.cells #[.int .i64 0, .slice (some ⟨w.heap.size, 0, none⟩) 1 1, .int .i64 0, .slice (some ⟨w.heap.size + 1, 0, none⟩) 2 2] 29)
  refine hp.mono ?_
  rintro _ w' ⟨rfl, hb2⟩
  have HB := Lib.hid (below_then hb hb.size hb2)
  clear hp hb hb2
  go_wp2_with fail
  go_ret
  exact ⟨rfl, HB.out⟩
end Go.Proofs.Ytmggalbdlabcmaa
