/- splits.Records: the lines that begin in a split. -/
import Derived.Test.YtmjmfjgigkiajaaLines
namespace Go.Proofs.Ytmjmfjgigkiajaa
open Go.RowKit Go.Shelf
set_option linter.unusedVariables false
set_option linter.unusedSimpArgs false
attribute [local go_sem] Oper.semAt_some
theorem rec_info : (Try.prog.info? 36).map (fun i => (i.zero, i.size, i.bytes)) = some (some (.agg #[.int .i64 0, .string ⟨#[]⟩]), 2, 24) := by kernel_rfl
def recCells (l : List (Nat × List UInt8)) : List Value := l.flatMap fun p => [.int .i64 (p.1 : Int), .string ⟨p.2.toArray⟩]
theorem recCells_app (a b : List (Nat × List UInt8)) : recCells (a ++ b) = recCells a ++ recCells b := List.flatMap_append ..
theorem recCells_len (l : List (Nat × List UInt8)) : (recCells l).length = l.length * 2 := by
  induction l with
  | nil => rfl
  | cons p l ih => unfold recCells at ih ⊢; rw [List.flatMap_cons, List.length_append, ih]; simp; omega
def rcut (lo hi : Int) (pre : List LnT) : List (Nat × List UInt8) := Ln.cut lo hi (pre.map pl)
theorem pl_str (x : LnT) : (⟨(pl x).2.toArray⟩ : ByteArray) = x.1.2 := rfl
theorem blk_own {β : Type} (B : Nat) (cs : List Value) (t : TypeId) : Own (fun (_ : β) W => Blk W B cs t) := fun s X Y row hs hg hrow => by
  have hs' : X.heap[B]? = some (.cells cs.toArray t (0, 0)) := hs
  exact (hg.block B (Array.getElem?_eq_some_iff.1 hs').1 (fun e => by
    obtain ⟨o, ho, hc⟩ := hrow B e.symm
    rw [hs'] at ho; cases ho; cases hc)).trans hs'
theorem blk_not_row {W : World} {B : Nat} {cs : List Value} {t e : TypeId} (h : Blk W B cs t) (hte : t ≠ e) {base size k : Nat} {v : Value} {xs : List Value} (hr : W.ownsRow base e size v k xs) : some B ≠ v.ownBlock := by
  rcases hr.2 with ⟨rfl, _⟩ | ⟨g, cap, cur, rfl, _, hgb, _⟩
  · simp [Value.ownBlock]
  · intro e'
    obtain rfl : B = g := by simpa [Value.ownBlock] using e'
    have := (show W.heap[B]? = _ from h).symm.trans hgb
    simp at this
    exact hte this.2
theorem blk_appended {W w1 : World} {B C : Nat} {cs : List Value} {t e : TypeId} {base size k : Nat} {v u : Value} {xs : List Value} {o : Obj} (h : Blk W B cs t) (hte : t ≠ e) (hr : W.ownsRow base e size v k xs) (hg : (W.alloc o).grownBy w1 v.ownBlock) (hne : B ≠ C) : Blk (w1.setCell ⟨C, 0, none⟩ u) B cs t :=
  Blk.other (w := w1) ((hg.block B (by have := h.lt; simp; omega) (blk_not_row h hte hr)).trans (h.alloc o)) _ _ hne
theorem rcut_snoc (lo hi : Int) (pre : List LnT) (x : LnT) : rcut lo hi (pre ++ [x]) = rcut lo hi pre ++ (if lo ≤ (x.1.1 : Int) ∧ (x.1.1 : Int) < hi then [pl x] else []) := by
  unfold rcut
  rw [List.map_append, Ln.cut_app]
  congr 1
  exact Ln.cut_one lo hi (pl x)
set_option maxRecDepth 100000 in
set_option maxHeartbeats 2000000 in
theorem records_in (lo hi : Int) (s : ByteArray) (hs : s.size ≤ 1048576) (w : World) :
    CallsIn Fence.wide 5 Try.prog 10 #[.string s, .agg #[.int .i64 lo, .int .i64 hi]] w fun e W' => ∃ v, e = .returned v ∧ W'.ownsRow w.heap.size 36 2 v (Ln.cut lo hi (Ln.lines 0 s.data.toList)).length (recCells (Ln.cut lo hi (Ln.lines 0 s.data.toList))) ∧ Below w.heap.size w W' := by
  obtain ⟨i0, hi0, hz0, hz1, hz2⟩ := info_parts rec_info
  have HI := Lib.hid hi0
  have HZ0 := Lib.hid hz0
  have HZ1 := Lib.hid hz1
  have HZ2 := Lib.hid hz2
  have HS := Lib.hid hs
  clear hi0 hz0 hz1 hz2 hs
  refine callsIn_of_wp_marks Try.func10 rfl trivial ?_ rfl
  simp only [Try.ntmps10, List.size_toArray, List.length_cons, List.length_nil, Nat.reduceAdd, Nat.reduceSub, Array.replicate_succ, Array.replicate_zero, List.push_toArray, List.append_toArray, List.nil_append, List.cons_append]
  gi_wp2
  have bS := Boxed.new w 9 (.string s)
  have bK := Blk.new (w.alloc (.cells #[.string s] 9)) [.int .i64 lo, .int .i64 hi] 28
  have bO := Boxed.new ((w.alloc (.cells #[.string s] 9)).alloc (.cells #[.int .i64 lo, .int .i64 hi] 28)) 30 (.slice none 0 0)
  rw [World.size_alloc, World.size_alloc] at bO
  rw [World.size_alloc] at bK
  have hB0 : Below w.heap.size w (((w.alloc (.cells #[.string s] 9)).alloc (.cells #[.int .i64 lo, .int .i64 hi] 28)).alloc (.cells #[.slice none 0 0] 30)) := (((Below.refl _ w).alloc (Nat.le_refl _) _).alloc (by simp only [World.size_alloc]; omega) _).alloc (by simp only [World.size_alloc]; omega) _
  refine wpIn_rangeFunc_ownG rfl (by omega) (gf := 12) (lb := #[.pointer (some ⟨w.heap.size, 0, none⟩)]) rfl trivial (enters_of Try.func12 (by kernel_rfl) rfl)
    (rclo_stops (5 - 1) w.heap.size w.heap.size s (by have := HS.out; omega) _ (by simp only [World.size_alloc]; omega) ((bS.alloc _).alloc _).cell) belowK_t (belowK_b (by simp only [World.size_alloc]; omega)) (Below.refl _ _) (fun _ => rfl)
    (fun pre W => (∃ v, Boxed W (w.heap.size + 1 + 1) 30 v ∧ W.ownsRow w.heap.size 36 2 v (rcut lo hi pre).length (recCells (rcut lo hi pre)) ∧ True) ∧ Below w.heap.size w W ∧ Blk W (w.heap.size + 1) [.int .i64 lo, .int .i64 hi] 28)
    (fun c pre W => (c = .exit 0 ∧ ∃ (p0 : List LnT) (x : LnT), pre = p0 ++ [x] ∧ hi ≤ (x.1.1 : Int)) ∧ (∃ v, Boxed W (w.heap.size + 1 + 1) 30 v ∧ W.ownsRow w.heap.size 36 2 v (rcut lo hi pre).length (recCells (rcut lo hi pre)) ∧ True) ∧ Below w.heap.size w W)
    (OwnFrom.and (Own.from (holdsRow_own w.heap.size (w.heap.size + 1 + 1) 30 36 2 (fun pre => (rcut lo hi pre).length) (fun pre => recCells (rcut lo hi pre)) (fun pre v => True)) _) (OwnFrom.and (ownFrom_below (Nat.le_refl _) (by simp only [World.size_alloc]; omega)) (Own.from (blk_own _ _ _) _)))
    (fun c => OwnFrom.and (ownFrom_pure _ (fun (pre : List LnT) => c = .exit 0 ∧ ∃ (p0 : List LnT) (x : LnT), pre = p0 ++ [x] ∧ hi ≤ (x.1.1 : Int))) (OwnFrom.and (Own.from (holdsRow_own w.heap.size (w.heap.size + 1 + 1) 30 36 2 (fun pre => (rcut lo hi pre).length) (fun pre => recCells (rcut lo hi pre)) (fun pre v => True)) _) (ownFrom_below (Nat.le_refl _) (by simp only [World.size_alloc]; omega))))
    ⟨⟨_, bO, World.ownsRow_nil _ _ _ _, trivial⟩, hB0, bK.alloc _⟩
    (fun x => { tmps := #[.string s, .agg #[.int .i64 lo, .int .i64 hi], .pointer (some ⟨w.heap.size, 0, none⟩), .pointer (some ⟨w.heap.size + 1, 0, none⟩), .slice none 0 0, .pointer (some ⟨w.heap.size + 1 + 1, 0, none⟩), .int .i64 (x.1.1 : Int), .string x.1.2, .func (.func 12) #[] #[.pointer (some ⟨w.heap.size, 0, none⟩)], .int .i64 (x.1.1 : Int), .string x.1.2, undef, undef, undef, undef, undef, undef, undef, undef, undef, undef, undef, undef, undef, undef, undef], defers := [] }) ?assign ?body ?done ?stop
  case assign =>
    intro l x W K hK
    gi_wp2
    exact hK
  case body =>
    rintro l pre x W ⟨⟨v, hv, hrow, _⟩, hB, hK⟩ hlt
    have hc := hv.cell
    have k0 := hK.cell 0
    have k1 := hK.cell 1
    have HROW := Lib.hid hrow
    have HB := Lib.hid hB
    have HV := Lib.hid hv
    have HK := Lib.hid hK
    have HPL : Hid ((rcut lo hi pre).length + 1 ≤ 1048577) := Lib.hid (by
      have h1 := Ln.cut_len lo hi (pre.map pl)
      have h2 := Ln.lines_len _ 0 s.data.toList (Nat.le_refl _)
      have h3 : s.data.toList.length = s.size := by simp
      have := HS.out
      rw [List.length_map] at h1
      unfold rcut
      omega)
    have HSN := Lib.hid (rcut_snoc lo hi pre x)
    clear hrow hB hv hK hlt
    by_cases h1 : hi ≤ (x.1.1 : Int)
    · have d1 : decide (hi ≤ (x.1.1 : Int)) = true := by simp [h1]
      have e : rcut lo hi (pre ++ [x]) = rcut lo hi pre := by rw [HSN.out, if_neg (by omega), List.append_nil]
      have HE := Lib.hid e
      clear e
      gi_wp2
      exact ⟨KeepsFrom.refl _ _, ⟨rfl, pre, x, rfl, by assumption⟩, ⟨v, HV.out, by rw [HE.out]; first | exact HROW.out | exact ⟨HROW.out, trivial⟩⟩, HB.out⟩
    · have d1 : decide (hi ≤ (x.1.1 : Int)) = false := by simp; omega
      have h1' : (x.1.1 : Int) < hi := by omega
      by_cases h2 : lo ≤ (x.1.1 : Int)
      · have d2 : decide (lo ≤ (x.1.1 : Int)) = true := by simp [h2]
        have e : rcut lo hi (pre ++ [x]) = rcut lo hi pre ++ [pl x] := by rw [HSN.out, if_pos ⟨h2, h1'⟩]
        have HE := Lib.hid e
        clear e h1
        gi_wp2_with (gi_at_builtin; refine wpListIn_append_own _ rfl _ _ 30 rfl w.heap.size 36 i0 _ 2 24 Try.underlying30 HI.out HZ0.out HZ1.out HZ2.out rfl (by decide) _ _ _ rfl (HROW.out.alloc _) ⟨W.heap.size, 0, none⟩ 1 1 [.int .i64 (x.1.1 : Int), .string x.1.2] rfl rfl (cell_news W _ _) (by simp [Value.oneCell']) (by have := HPL.out; unfold maxLen; omega) (by have := HPL.out; omega) (by have := HB.out.size; simp; omega) ?_; intro v' w1 hown' hgrow _; obtain ⟨g', cap', rfl⟩ := ownsRow_succ hown'; obtain ⟨hv1, hv2, hr2, hk2, hb2⟩ := HV.out.appended (by decide) HROW.out HB.out.size (by omega) hown' hgrow; have hc1 := hv1.cell; have hf1 := hv1.frozen)
        exact ⟨hk2.from _, hb2, ⟨_, hv2, by rw [HE.out, List.length_append, recCells_app]; first | exact hr2 | exact ⟨hr2, trivial⟩⟩, HB.out.trans hb2, blk_appended HK.out (by decide) HROW.out hgrow (by omega)⟩
      · have d2 : decide (lo ≤ (x.1.1 : Int)) = false := by simp; omega
        have e : rcut lo hi (pre ++ [x]) = rcut lo hi pre := by rw [HSN.out, if_neg (by omega), List.append_nil]
        have HE := Lib.hid e
        clear e h1
        gi_wp2
        exact ⟨KeepsFrom.refl _ _, Below.refl _ _, ⟨v, HV.out, by rw [HE.out]; first | exact HROW.out | exact ⟨HROW.out, trivial⟩⟩, HB.out, HK.out⟩
  case done =>
    rintro D ys W hD hys ⟨⟨v, hv, hrow, _⟩, hB, hK2⟩ hK
    have hc := hv.cell
    gi_wp2
    refine ⟨by simp, .inl ⟨_, _, rfl, run_takeDeferred hK, ?_⟩⟩
    have e : rcut lo hi ys = Ln.cut lo hi (Ln.lines 0 s.data.toList) := by unfold rcut; rw [← hys]
    rw [e] at hrow
    exact ⟨_, results_tmp rfl _ _ _, v, rfl, ownsRow_putObj hrow _ hK rfl, hB.trans (belowK_b (w := w) (Nat.le_refl _) W D _ _ (by simp at hD; omega) hK rfl rfl)⟩
  case stop =>
    rintro D c pre W hD ⟨suf, hsuf⟩ ⟨⟨rfl, p0, x, rfl, hx⟩, ⟨v, hv, hrow, _⟩, hB⟩ hK
    have hc := hv.cell
    gi_wp2
    refine ⟨by simp, .inl ⟨_, _, rfl, run_takeDeferred hK, ?_⟩⟩
    have e : rcut lo hi (p0 ++ [x]) = Ln.cut lo hi (Ln.lines 0 s.data.toList) := by
      rw [rcut_snoc, if_neg (by omega), List.append_nil]
      unfold rcut
      refine (Ln.cut_end (p0.map pl) suf (p := pl x) ?_ (Ln.lines_lt _ 0 _ (Nat.le_refl _)) hx).symm
      rw [← hsuf]; simp
    rw [e] at hrow
    exact ⟨_, results_tmp rfl _ _ _, v, rfl, ownsRow_putObj hrow _ hK rfl, hB.trans (belowK_b (w := w) (Nat.le_refl _) W D _ _ (by simp at hD; omega) hK rfl rfl)⟩
end Go.Proofs.Ytmjmfjgigkiajaa
