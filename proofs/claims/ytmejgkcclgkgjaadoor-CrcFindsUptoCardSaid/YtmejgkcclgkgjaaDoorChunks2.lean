/- crc.Chunks: the sums of the pieces. (Under way.) -/
import Derived.Test.YtmejgkcclgkgjaaDoorChunks
namespace Go.Proofs.YtmejgkcclgkgjaaDoor
open Go.RowKit Go.Shelf
set_option linter.unusedVariables false
set_option linter.unusedSimpArgs false
attribute [local go_sem] Oper.semAt_some
theorem psums_snoc (pre : List Txt) (x : Txt) : psums (pre ++ [x]) = psums pre ++ [Crc.ext 0 (tl x)] := by simp [psums]
theorem w32_app (a b : List Nat) : w32 (a ++ b) = w32 a ++ w32 b := by simp [w32]
set_option maxRecDepth 100000 in
set_option maxHeartbeats 2000000 in
theorem chunks_in (m : Nat) (hm : (m : Int) + 1 ≤ 9223372036854775807) (s : ByteArray) (hs : s.size ≤ 140737488351232) (hs4 : s.size * 4 ≤ 140737488355328) (w : World) (ht : Tab w) :
    CallsIn Fence.wide 5 Tryd.prog 16 #[.string s, .int .i64 ((m : Int) + 1)] w fun e W' => ∃ v, e = .returned v ∧ W'.ownsRow w.heap.size 22 1 v (Chk.sums m s.data.toList).length (w32 (Chk.sums m s.data.toList)) ∧ Below w.heap.size w W' := by
  obtain ⟨i0, hi, hz0, hz1, hz2⟩ := info_parts u32_info
  have HM := Lib.hid hm
  have HS := Lib.hid hs
  have HS4 := Lib.hid hs4
  clear hs hs4
  have HT := Lib.hid ht
  have hm1 : decide ((m : Int) + 1 < 1) = false := by simp; omega
  have HI := Lib.hid hi
  have HZ0 := Lib.hid hz0
  have HZ1 := Lib.hid hz1
  have HZ2 := Lib.hid hz2
  clear hm ht hi hz0 hz1 hz2
  refine callsIn_of_wp_marks Tryd.func16 rfl trivial ?_ rfl
  simp only [Tryd.ntmps16, List.size_toArray, List.length_cons, List.length_nil, Nat.reduceAdd, Nat.reduceSub, Array.replicate_succ, Array.replicate_zero, List.push_toArray, List.append_toArray, List.nil_append, List.cons_append]
  gi_wp2
  have bS := Boxed.new w 9 (.string s)
  have bN := Boxed.new (w.alloc (.cells #[.string s] 9)) 3 (.int .i64 ((m : Int) + 1))
  have bO := Boxed.new ((w.alloc (.cells #[.string s] 9)).alloc (.cells #[.int .i64 ((m : Int) + 1)] 3)) 30 (.slice none 0 0)
  rw [World.size_alloc] at bN
  rw [World.size_alloc, World.size_alloc] at bO
  have hB0 : Below w.heap.size w (((w.alloc (.cells #[.string s] 9)).alloc (.cells #[.int .i64 ((m : Int) + 1)] 3)).alloc (.cells #[.slice none 0 0] 30)) := (((Below.refl _ w).alloc (Nat.le_refl _) _).alloc (by simp only [World.size_alloc]; omega) _).alloc (by simp only [World.size_alloc]; omega) _
  refine wpIn_rangeFunc_ownG rfl (by omega) (gf := 23) (lb := #[.pointer (some ⟨w.heap.size, 0, none⟩), .pointer (some ⟨w.heap.size + 1, 0, none⟩)]) rfl trivial (enters_of Tryd.func23 (by kernel_rfl) rfl)
    (clo_stops (5 - 1) m w.heap.size w.heap.size (w.heap.size + 1) HM.out s HS.out _ (by simp only [World.size_alloc]; omega) (by simp only [World.size_alloc]; omega) ((bS.alloc _).alloc _).cell (bN.alloc _).cell) belowK_t (belowK_b (by simp only [World.size_alloc]; omega)) (Below.refl _ _) (fun _ => rfl)
    (fun pre W => (∃ v, Boxed W (w.heap.size + 1 + 1) 30 v ∧ W.ownsRow w.heap.size 22 1 v (psums pre).length (w32 (psums pre)) ∧ True) ∧ Below w.heap.size w W)
    (fun _ _ _ => False)
    (OwnFrom.and (Own.from (holdsRow_own w.heap.size (w.heap.size + 1 + 1) 30 22 1 (fun pre => (psums pre).length) (fun pre => w32 (psums pre)) (fun pre v => True)) _) (ownFrom_below (Nat.le_refl _) (by simp only [World.size_alloc]; omega)))
    (fun _ _ _ _ _ hs _ _ => hs)
    ⟨⟨_, bO, World.ownsRow_nil _ _ _ _, trivial⟩, hB0⟩
    (fun x => { tmps := #[.string s, .int .i64 ((m : Int) + 1), .pointer (some ⟨w.heap.size, 0, none⟩), .pointer (some ⟨w.heap.size + 1, 0, none⟩), .slice none 0 0, .pointer (some ⟨w.heap.size + 1 + 1, 0, none⟩), .string x.1, .int .i64 ((m : Int) + 1), .bool false, .func (.func 23) #[] #[.pointer (some ⟨w.heap.size, 0, none⟩), .pointer (some ⟨w.heap.size + 1, 0, none⟩)], .string x.1, undef, undef, undef, undef, undef, undef], defers := [] }) ?assign ?body ?done ?stop
  case assign =>
    intro l x W K hK
    gi_wp2
    exact hK
  case body =>
    rintro l pre x W ⟨⟨v, hv, hrow, _⟩, hB⟩ hlt
    have HBD : Hid (pre.length + 1 ≤ s.size) := Lib.hid (by
      have h := Chk.chunks_len m _ s.data.toList (Nat.le_refl _)
      have h2 : s.data.toList.length = s.size := by simp
      omega)
    have HSZ := HS4
    have hc := hv.cell
    have HTW := Lib.hid (HT.out.below hB)
    have HROW := Lib.hid hrow
    have HB := Lib.hid hB
    have HV := Lib.hid hv
    clear hrow hB hv
    have hca : ∀ o, (W.alloc o).cell? ⟨w.heap.size + 1 + 1, 0, none⟩ = some v := fun o => (HV.out.alloc o).cell
    have hmx : Tryd.prog.follows .mixedOrders = true := by kernel_rfl
    have hpl : (psums pre).length = pre.length := by simp [psums]
    have HPL := Lib.hid hpl
    clear hpl
    gi_wp2
    refine wpIn_region_any (by assumption) ?_
    change wpAnyIn _ _ _ _ _ _ _ _ _ (World.drew _)
    refine wpAnyIn_ready (rs := [0, 1]) (by kernel_rfl) (by simp) ?_
    refine AllReadyIn.cons rfl (fun K hK => ?_) (AllReadyIn.cons rfl (fun K hK => ?_) AllReadyIn.nil)
    · skip
      go_simp
      refine hK _ _ ?_
      clear hK K
      refine wpAnyIn_ready (rs := [1]) (by kernel_rfl) (by simp) ?_
      refine AllReadyIn.cons rfl (fun K hK => ?_) AllReadyIn.nil
      go_simp
      refine hK _ _ ?_
      clear hK K
      refine wpAnyIn_ready (rs := [2]) (by kernel_rfl) (by simp) ?_
      refine AllReadyIn.cons rfl (fun K hK => ?_) AllReadyIn.nil
      go_simp
      gi_wp2_with (refine ⟨trivial, ?_⟩; gi_at_call 11; refine (inRound_of l _ (sum_any x.1 _ (by have := x.2; unfold maxLen; omega) (by exact HTW.out))).mono ?_; rintro e w' ⟨rfl, rfl⟩)
      refine wpAnyIn_ready (rs := [3]) (by kernel_rfl) (by simp) ?_
      refine AllReadyIn.cons rfl (fun K hK => ?_) AllReadyIn.nil
      go_simp
      refine hK _ _ ?_
      clear hK K
      refine wpAnyIn_ready (rs := [4]) (by kernel_rfl) (by simp) ?_
      refine AllReadyIn.cons rfl (fun K hK => ?_) AllReadyIn.nil
      refine stepIn_app_d (by rfl) (.tmp 11) (.tmp 14) 30 (by rfl) w.heap.size 22 _ 1 4 Tryd.underlying30 u32_info (by rfl) (by decide) v _ _ (by rfl) HROW.out [_] _ 1 1 (by rfl) (by rfl) (by rfl) (by have := HPL.out; have := HBD.out; have := HSZ.out; unfold maxLen; omega) (by have := HPL.out; have := HBD.out; have := HSZ.out; omega) HB.out.size ?_
      intro v' w1 hown' hgrow
      obtain ⟨g', cap', rfl⟩ := ownsRow_succ hown'.out
      obtain ⟨hv1, hv2, hr2, hk2, hb2⟩ := HV.out.appended (by decide) HROW.out HB.out.size (by omega) hown'.out hgrow.out
      have hc1 := hv1.cell
      have hf1 := hv1.frozen
      refine hK _ _ ?_
      clear hK K
      refine wpAnyIn_ready (rs := [5]) (by kernel_rfl) (by simp) ?_
      refine AllReadyIn.cons rfl (fun K hK => ?_) AllReadyIn.nil
      go_simp
      refine hK _ _ ?_
      clear hK K
      refine wpAnyIn_done (by kernel_rfl) ?_ _
      gi_wp2
      exact ⟨hk2.from _, hb2, ⟨_, hv2, by rw [psums_snoc, w32_app, List.length_append]; exact hr2, trivial⟩, HB.out.trans hb2⟩
    · skip
      go_simp
      refine hK _ _ ?_
      clear hK K
      refine wpAnyIn_ready (rs := [0, 2]) (by kernel_rfl) (by simp) ?_
      refine AllReadyIn.cons rfl (fun K hK => ?_) (AllReadyIn.cons rfl (fun K hK => ?_) AllReadyIn.nil)
      · skip
        go_simp
        refine hK _ _ ?_
        clear hK K
        refine wpAnyIn_ready (rs := [2]) (by kernel_rfl) (by simp) ?_
        refine AllReadyIn.cons rfl (fun K hK => ?_) AllReadyIn.nil
        go_simp
        gi_wp2_with (refine ⟨trivial, ?_⟩; gi_at_call 11; refine (inRound_of l _ (sum_any x.1 _ (by have := x.2; unfold maxLen; omega) (by exact HTW.out))).mono ?_; rintro e w' ⟨rfl, rfl⟩)
        refine wpAnyIn_ready (rs := [3]) (by kernel_rfl) (by simp) ?_
        refine AllReadyIn.cons rfl (fun K hK => ?_) AllReadyIn.nil
        go_simp
        refine hK _ _ ?_
        clear hK K
        refine wpAnyIn_ready (rs := [4]) (by kernel_rfl) (by simp) ?_
        refine AllReadyIn.cons rfl (fun K hK => ?_) AllReadyIn.nil
        refine stepIn_app_d (by rfl) (.tmp 11) (.tmp 14) 30 (by rfl) w.heap.size 22 _ 1 4 Tryd.underlying30 u32_info (by rfl) (by decide) v _ _ (by rfl) HROW.out [_] _ 1 1 (by rfl) (by rfl) (by rfl) (by have := HPL.out; have := HBD.out; have := HSZ.out; unfold maxLen; omega) (by have := HPL.out; have := HBD.out; have := HSZ.out; omega) HB.out.size ?_
        intro v' w1 hown' hgrow
        obtain ⟨g', cap', rfl⟩ := ownsRow_succ hown'.out
        obtain ⟨hv1, hv2, hr2, hk2, hb2⟩ := HV.out.appended (by decide) HROW.out HB.out.size (by omega) hown'.out hgrow.out
        have hc1 := hv1.cell
        have hf1 := hv1.frozen
        refine hK _ _ ?_
        clear hK K
        refine wpAnyIn_ready (rs := [5]) (by kernel_rfl) (by simp) ?_
        refine AllReadyIn.cons rfl (fun K hK => ?_) AllReadyIn.nil
        go_simp
        refine hK _ _ ?_
        clear hK K
        refine wpAnyIn_done (by kernel_rfl) ?_ _
        gi_wp2
        exact ⟨hk2.from _, hb2, ⟨_, hv2, by rw [psums_snoc, w32_app, List.length_append]; exact hr2, trivial⟩, HB.out.trans hb2⟩
      · skip
        go_simp
        gi_wp2_with (refine ⟨trivial, ?_⟩; gi_at_call 11; refine (inRound_of l _ (sum_any x.1 _ (by have := x.2; unfold maxLen; omega) (by exact HTW.out))).mono ?_; rintro e w' ⟨rfl, rfl⟩)
        refine wpAnyIn_ready (rs := [0, 3]) (by kernel_rfl) (by simp) ?_
        refine AllReadyIn.cons rfl (fun K hK => ?_) (AllReadyIn.cons rfl (fun K hK => ?_) AllReadyIn.nil)
        · skip
          go_simp
          refine hK _ _ ?_
          clear hK K
          refine wpAnyIn_ready (rs := [3]) (by kernel_rfl) (by simp) ?_
          refine AllReadyIn.cons rfl (fun K hK => ?_) AllReadyIn.nil
          go_simp
          refine hK _ _ ?_
          clear hK K
          refine wpAnyIn_ready (rs := [4]) (by kernel_rfl) (by simp) ?_
          refine AllReadyIn.cons rfl (fun K hK => ?_) AllReadyIn.nil
          refine stepIn_app_d (by rfl) (.tmp 11) (.tmp 14) 30 (by rfl) w.heap.size 22 _ 1 4 Tryd.underlying30 u32_info (by rfl) (by decide) v _ _ (by rfl) HROW.out [_] _ 1 1 (by rfl) (by rfl) (by rfl) (by have := HPL.out; have := HBD.out; have := HSZ.out; unfold maxLen; omega) (by have := HPL.out; have := HBD.out; have := HSZ.out; omega) HB.out.size ?_
          intro v' w1 hown' hgrow
          obtain ⟨g', cap', rfl⟩ := ownsRow_succ hown'.out
          obtain ⟨hv1, hv2, hr2, hk2, hb2⟩ := HV.out.appended (by decide) HROW.out HB.out.size (by omega) hown'.out hgrow.out
          have hc1 := hv1.cell
          have hf1 := hv1.frozen
          refine hK _ _ ?_
          clear hK K
          refine wpAnyIn_ready (rs := [5]) (by kernel_rfl) (by simp) ?_
          refine AllReadyIn.cons rfl (fun K hK => ?_) AllReadyIn.nil
          go_simp
          refine hK _ _ ?_
          clear hK K
          refine wpAnyIn_done (by kernel_rfl) ?_ _
          gi_wp2
          exact ⟨hk2.from _, hb2, ⟨_, hv2, by rw [psums_snoc, w32_app, List.length_append]; exact hr2, trivial⟩, HB.out.trans hb2⟩
        · skip
          go_simp
          refine hK _ _ ?_
          clear hK K
          refine wpAnyIn_ready (rs := [0]) (by kernel_rfl) (by simp) ?_
          refine AllReadyIn.cons rfl (fun K hK => ?_) AllReadyIn.nil
          go_simp
          refine hK _ _ ?_
          clear hK K
          refine wpAnyIn_ready (rs := [4]) (by kernel_rfl) (by simp) ?_
          refine AllReadyIn.cons rfl (fun K hK => ?_) AllReadyIn.nil
          refine stepIn_app_d (by rfl) (.tmp 11) (.tmp 14) 30 (by rfl) w.heap.size 22 _ 1 4 Tryd.underlying30 u32_info (by rfl) (by decide) v _ _ (by rfl) HROW.out [_] _ 1 1 (by rfl) (by rfl) (by rfl) (by have := HPL.out; have := HBD.out; have := HSZ.out; unfold maxLen; omega) (by have := HPL.out; have := HBD.out; have := HSZ.out; omega) HB.out.size ?_
          intro v' w1 hown' hgrow
          obtain ⟨g', cap', rfl⟩ := ownsRow_succ hown'.out
          obtain ⟨hv1, hv2, hr2, hk2, hb2⟩ := HV.out.appended (by decide) HROW.out HB.out.size (by omega) hown'.out hgrow.out
          have hc1 := hv1.cell
          have hf1 := hv1.frozen
          refine hK _ _ ?_
          clear hK K
          refine wpAnyIn_ready (rs := [5]) (by kernel_rfl) (by simp) ?_
          refine AllReadyIn.cons rfl (fun K hK => ?_) AllReadyIn.nil
          go_simp
          refine hK _ _ ?_
          clear hK K
          refine wpAnyIn_done (by kernel_rfl) ?_ _
          gi_wp2
          exact ⟨hk2.from _, hb2, ⟨_, hv2, by rw [psums_snoc, w32_app, List.length_append]; exact hr2, trivial⟩, HB.out.trans hb2⟩
  case done =>
    rintro D ys W hD hys ⟨⟨v, hv, hrow, _⟩, hB⟩ hK
    have hc := hv.cell
    gi_wp2
    refine ⟨by simp, .inl ⟨_, _, rfl, run_takeDeferred hK, ?_⟩⟩
    have e : psums ys = Chk.sums m s.data.toList := by unfold psums Chk.sums; rw [← hys, List.map_map]; rfl
    rw [e] at hrow
    exact ⟨_, results_tmp rfl _ _ _, v, rfl, ownsRow_putObj hrow _ hK rfl, hB.trans (belowK_b (w := w) (Nat.le_refl _) W D _ _ (by simp at hD; omega) hK rfl rfl)⟩
  case stop =>
    rintro D c pre W _ _ h _
    exact h.elim
end Go.Proofs.YtmejgkcclgkgjaaDoor
