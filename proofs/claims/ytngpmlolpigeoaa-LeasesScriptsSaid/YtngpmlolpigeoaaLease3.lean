/- leases: Due. -/
import Derived.Test.YtngpmlolpigeoaaLease2
import Derived.Test.YtngpmlolpigeoaaShelf13
import Derived.Sort.OwnSorted
namespace Go.Proofs.Ytngpmlolpigeoaa
open Go.RowKit Go.Maps
set_option linter.unusedVariables false
set_option linter.unusedSimpArgs false
def toB (x : ByteArray) : List UInt8 := x.data.toList
theorem toB_inj {x y : ByteArray} (h : toB x = toB y) : x = y := ByteArray.ext (Array.toList_inj.1 h)
theorem toB_mk (l : List UInt8) : toB ⟨l.toArray⟩ = l := by simp [toB]
def texts (l : List (List UInt8)) : List Value := l.map encStr
theorem texts_toB (l : List ByteArray) : texts (l.map toB) = strs l := by
  unfold texts strs
  rw [List.map_map]
  refine List.map_congr_left fun x _ => ?_
  show Value.string ⟨x.data.toList.toArray⟩ = Value.string x
  rw [Array.toArray_toList]
def Le.isDue (T : Le.Tab) (n : Int) (x : ByteArray) : Bool := match T.g x with | some p => decide (T.len ≤ n - p.2) | none => false
theorem Le.isDue_some {T : Le.Tab} {c : Int} {x : ByteArray} (h : Le.isDue T c x = true) : (T.g x).isSome = true := by
  unfold Le.isDue at h
  cases e : T.g x with
  | none => rw [e] at h; cases h
  | some p => rfl
/-- ss: the paths that are due, in order -/
structure Le.Due (T : Le.Tab) (n : Int) (ss : List (List UInt8)) : Prop where
  rises : ss.Pairwise (fun a b => a < b)
  mem : ∀ x : ByteArray, toB x ∈ ss ↔ Le.isDue T n x = true
def DuePost (w : World) (T : Le.Tab) (n : Int) (e : Ending) (w' : World) : Prop :=
  ∃ ss v, e = .returned v ∧ Le.Due T n ss ∧ w'.ownsRow w.heap.size 9 1 v ss.length (texts ss) ∧ Fr w w' (fun _ => False)
theorem lt_of_sorted_nodup {l : List (List UInt8)} (h : l.Pairwise (fun a b => a ≤ b)) (hn : l.Nodup) : l.Pairwise (fun a b => a < b) := by
  have := h.and hn
  exact this.imp fun {a b} hab => by
    rcases hab with ⟨h1, h2⟩
    exact (List.not_le.1 fun h3 => h2 (List.le_antisymm h1 h3))
theorem due_of (T : Le.Tab) (n : Int) (l : List ByteArray) (hl : l.Nodup) (h1 : ∀ x ∈ l, Le.isDue T n x = true) (h2 : ∀ x, Le.isDue T n x = true → x ∈ l) : Le.Due T n ((l.map toB).mergeSort fun x y => decide (x ≤ y)) := by
  refine ⟨lt_of_sorted_nodup ?_ ?_, fun x => ?_⟩
  · have := List.pairwise_mergeSort (le := fun x y : List UInt8 => decide (x ≤ y)) (fun a b c hab hbc => by
      simp only [decide_eq_true_eq] at *
      exact List.le_trans hab hbc) (fun a b => by
      simp only [Bool.or_eq_true, decide_eq_true_eq]
      exact List.le_total a b) (l.map toB)
    exact this.imp fun h => by simpa using h
  · refine (List.mergeSort_perm _ _).nodup_iff.2 ?_
    exact List.Pairwise.map toB (fun a b h e => h (toB_inj e)) hl
  · rw [(List.mergeSort_perm _ _).mem_iff]
    constructor
    · intro h
      obtain ⟨y, hy, e⟩ := List.mem_map.1 h
      rw [← toB_inj e]
      exact h1 y hy
    · intro h
      exact List.mem_map.2 ⟨x, h2 x h, rfl⟩
set_option maxHeartbeats 1000000 in
theorem due_nil (now : Int) (w : World) : Calls Try.prog 11 #[.pointer none, .int .i64 now] w fun e w' => e = .returned (.slice none 0 0) ∧ w = w' := by
  go_enter Try.func11, Try.ntmps11
  go_wp2
  go_ret
  exact ⟨rfl, rfl⟩
theorem sort_c (blk cap : Nat) (l : List ByteArray) (w : World) (base : Nat) (h : w.ownsRow base 9 1 (.slice (some ⟨blk, 0, none⟩) l.length cap) l.length (strs l)) (hn : l.length < 4611686018427387904) :
    Calls Try.prog 20 #[.slice (some ⟨blk, 0, none⟩) l.length cap] w fun e w' => e = .returned (.tuple #[]) ∧
      w'.ownsRow base 9 1 (.slice (some ⟨blk, 0, none⟩) l.length cap) l.length (texts ((l.map toB).mergeSort fun x y => decide (x ≤ y))) ∧ Fr w w' (fun j => j = blk) := by
  rw [← texts_toB] at h
  have hl : l.length = (l.map toB).length := by simp
  rw [hl] at h hn ⊢
  generalize l.map toB = ss at h hn ⊢
  rcases h.2 with ⟨h0, _⟩ | ⟨g, cap', cur, he, hbase, hb, h1, h2, h3, h4⟩
  · cases h0
  · cases he
    refine (Try.slices_Sort_string blk 0 cap ss w (holds_of_block hb (by simpa [texts] using h4)) (Array.getElem?_eq_some_iff.1 hb).1 hn).mono ?_
    rintro _ _ ⟨rfl, n, os, rfl⟩
    refine ⟨rfl, ?_, Fr.of_grown (grownBy_sorted _) fun j e => by cases e; rfl⟩
    exact ownsRow_sorted (ss := ss) (by simp) hbase hb h1 h2 h3
theorem sort_none (p : Option Addr) (cap : Nat) (w : World) : Calls Try.prog 20 #[.slice p 0 cap] w fun e w' => e = .returned (.tuple #[]) ∧ w' = w := Try.slices_Sort_string_none p cap w
set_option maxRecDepth 20000 in
set_option maxHeartbeats 4000000 in
theorem due_c (t m : Nat) (L : List ByteArray) (T : Le.Tab) (now : Int) (w : World) (h : TabAt w t m L T) (hn : L.length < 8796093022208) :
    Calls Try.prog 11 #[.pointer (some ⟨t, 0, none⟩), .int .i64 now] w (DuePost w T (clamp now 0)) := by
  have c1 : w.cell? ⟨t, 1, none⟩ = some (.map (some m)) := h.blk.cell 1
  have H := Lib.hid h
  have HN := Lib.hid hn
  have HT := Lib.hid h.blk.lt
  have HM := Lib.hid h.map.lt
  have hcl0 : 0 ≤ clamp now 0 := clamp_lo (by decide)
  have hcl1 := clamp_hi now 0
  have hmo := moment_any now 0 (by decide)
  generalize clamp now 0 = nw at hcl0 hcl1 hmo ⊢
  have HMO := Lib.hid hmo
  have HC := Lib.hid (And.intro hcl0 hcl1)
  clear h hn hcl0 hcl1 hmo
  go_enter Try.func11, Try.ntmps11
  go_wp2_with (first
    | (at_range; refine wpList_rangeM _ rfl _ 53 rfl 57 Try.underlying53 m L.length (Le.view T) rfl H.out.map ?_; intro w0 HR0 HF0 hs0)
    | go_in)
  go_frame
  clear c1
  generalize hr : w.heap.size = r at HR0 HT HM ⊢
  have HRS : Hid (r < w0.heap.size) := Lib.hid (by omega)
  go_loopg [5, 6, 7] (w0.rangeLeft m r) (fun gg v6 v7 v8 wr => ∃ done : List ByteArray, gg = wr.rangeLeft m r ∧ Hid (MapR wr Le.key m r L.length (Le.view T) done) ∧ Hid (wr.ownsRow r 9 1 v6 (done.filter (Le.isDue T nw)).length (strs (done.filter (Le.isDue T nw)))) ∧ Hid (∀ q, v6.ownBlock = some q → q ≠ r) ∧ Hid (Fr w wr (fun _ => False)) ∧ Hid (r < wr.heap.size))
  case atStart => exact ⟨[], rfl, HR0, Lib.hid (World.ownsRow_nil _ _ _ _), Lib.hid (fun q e => by cases e), HF0, HRS⟩
  case round =>
    obtain ⟨done, hgg, HR, HO, HQ, HF, HS⟩ := hrel
    have HG := Lib.hid hgg
    clear hgg
    go_wp2_with (first
      | (at_next; refine wpList_nextM _ rfl _ rfl Le.inv m r L.length (Le.view T) done rfl HR.out ?_ ?_)
      | go_in)
    · intro hall
      have hall2 : ∀ x, Le.isDue T nw x = true → x ∈ done.filter (Le.isDue T nw) := fun x hx => List.mem_filter.2 ⟨hall x (H.out.ok x (H.out.cov x (Le.isDue_some hx))) (by simpa [Le.view] using Le.isDue_some hx), hx⟩
      have hall3 : ∀ x ∈ done.filter (Le.isDue T nw), Le.isDue T nw x = true := fun x hx => (List.mem_filter.1 hx).2
      have hml : (done.filter (Le.isDue T nw)).length ≤ L.length := nodup_filter_len HR.out.doneIn.1 (fun x hx => H.out.cov x (HR.out.doneIn.2 x hx)) _
      have hnd : (done.filter (Le.isDue T nw)).Nodup := HR.out.doneIn.1.filter _
      have HD := Lib.hid (due_of T nw _ hnd hall3 hall2)
      generalize done.filter (Le.isDue T nw) = due at HO hml HD ⊢
      have HML := Lib.hid hml
      clear hall hall2 hall3 hml hnd HR HG HF0 HR0 HRS
      by_cases h0 : due = []
      · subst h0
        obtain ⟨A, cc, rfl⟩ := own_slice HO.out
        simp only [List.length_nil]
        have hD : Le.Due T nw [] := by simpa using HD.out
        have HD2 := Lib.hid hD
        have HP : Hid (DuePost w T nw (.returned (.slice A 0 cc)) wr) := Lib.hid ⟨[], _, rfl, hD, by rw [hr]; exact HO.out, HF.out⟩
        clear hD
        go_wp2_with fail
        refine (sort_none A cc wr).mono ?_
        rintro _ _ ⟨rfl, rfl⟩
        go_wp2_with fail
        go_ret
        exact HP.out
      · obtain ⟨gb, cp, rfl, hgb, hgl, hC⟩ := own_some HO.out (List.length_pos_iff.2 h0)
        have HS2 := Lib.hid (sort_c gb cp due wr r HO.out (by have := HML.out; have := HN.out; omega))
        have HGB : Hid (r ≤ gb) := Lib.hid hgb
        clear hgb hgl hC h0
        go_wp2_with fail
        refine HS2.out.mono ?_
        rintro _ w9 ⟨rfl, h9, f9⟩
        have hml2 : ((due.map toB).mergeSort fun x y => decide (x ≤ y)).length = due.length := by simp
        have HP : Hid (DuePost w T nw (.returned (.slice (some ⟨gb, 0, none⟩) due.length cp)) w9) := Lib.hid ⟨_, _, rfl, HD.out, by rw [hr, hml2]; exact h9, HF.out.trans f9 fun y hy e => by have : y = gb := e; have := HGB.out; omega⟩
        clear h9 f9 hml2 HS2
        go_wp2_with fail
        go_ret
        exact HP.out
    · intro x v w1 hx hg hnd HR1 HLT HF1 hsz hen
      obtain ⟨q, hT, rfl⟩ : ∃ q : Int × Int, T.g x = some q ∧ v = .agg #[.int .i64 q.1, .int .i64 q.2] := by
        unfold Le.view at hg
        cases h1 : T.g x with
        | none => rw [h1] at hg; cases hg
        | some q => rw [h1] at hg; exact ⟨q, rfl, (Option.some.inj hg).symm⟩
      have HRD := Lib.hid (H.out.hrd x q hT)
      obtain ⟨cq, hq⟩ := q
      dsimp only at *
      have hen2 : (Instr.entry (.pointer (some ⟨r, 0, none⟩))).run Try.prog w1 = .ok (.tuple #[.string x, .agg #[.int .i64 cq, .int .i64 hq]]) w1 := hen
      have hkv : Le.key.kv x = .string x := rfl
      have hr1 : decide (r < w1.heap.size) = true := decide_eq_true (by rw [hsz]; exact HS.out)
      clear hen hg hnd
      go_upto_region 7 with (fail)
      have hal := (Fr.refl w1 (fun j => j = r)).alloc (.cells ([.int .i64 cq, .int .i64 hq] : List Value).toArray 57)
      have hF2 : Fr wr (w1.alloc (.cells ([.int .i64 cq, .int .i64 hq] : List Value).toArray 57)) (fun j => j = r) := HF1.out.trans hal fun _ _ e => e
      have HF2 := Lib.hid hF2
      have HR2 := Lib.hid (HR1.out.fr ((Fr.refl w1 (fun _ => False)).alloc (.cells ([.int .i64 cq, .int .i64 hq] : List Value).toArray 57)) (fun e => e) (fun e => e))
      have HL2 : Hid ((w1.alloc (.cells ([.int .i64 cq, .int .i64 hq] : List Value).toArray 57)).rangeLeft m r < gk) := Lib.hid (by
        rw [rangeLeft_fr ((Fr.refl w1 (fun _ => False)).alloc _) (fun e => e) (fun e => e) HR1.out.lt.1 HR1.out.lt.2.1, HG.out]
        exact HLT.out)
      have HO2 := Lib.hid (own_fr HO.out hF2 fun q e e2 => HQ.out q e e2)
      have HS2 : Hid (r < (w1.alloc (.cells ([.int .i64 cq, .int .i64 hq] : List Value).toArray 57)).heap.size) := Lib.hid (Nat.lt_of_lt_of_le HS.out hF2.size)
      have hd1 : (w1.alloc (.cells ([.int .i64 cq, .int .i64 hq] : List Value).toArray 57)).cell? ⟨wr.heap.size, 1, none⟩ = some (.int .i64 hq) := by
        have := (Blk.new w1 [.int .i64 cq, .int .i64 hq] 57).cell 1
        rw [hsz] at this
        exact this
      have HFR : Hid (Fr w (w1.alloc (.cells ([.int .i64 cq, .int .i64 hq] : List Value).toArray 57)) (fun _ => False)) := Lib.hid (HF.out.trans hF2 fun y hy e => by have : y = r := e; omega)
      have ht0 : (w1.alloc (.cells ([.int .i64 cq, .int .i64 hq] : List Value).toArray 57)).cell? ⟨t, 0, none⟩ = some (.int .i64 T.len) := (HFR.out.cell (p := ⟨t, 0, none⟩) (by rw [hr]; exact HT.out) (fun e => e)).trans (H.out.blk.cell 0)
      have hml : (done.filter (Le.isDue T nw)).length ≤ L.length := nodup_filter_len HR.out.doneIn.1 (fun y hy => H.out.cov y (HR.out.doneIn.2 y hy)) _
      have HML : Hid ((done.filter (Le.isDue T nw)).length < 8796093022208) := Lib.hid (Nat.lt_of_le_of_lt hml HN.out)
      change Code.wp _ _ _ _ (w1.alloc (.cells ([.int .i64 cq, .int .i64 hq] : List Value).toArray 57))
      clear hal hF2 HF1 HR HR1 HLT HO HF HF0 HR0 hen2 hr1 hsz hml
      generalize w1.alloc (.cells ([.int .i64 cq, .int .i64 hq] : List Value).toArray 57) = w2 at HF2 HR2 HL2 HO2 HS2 hd1 ht0 HFR ⊢
      generalize wr.heap.size = gq at hd1 ⊢
      have d1 : ∀ d, (w2.drewN d).cell? ⟨gq, 1, none⟩ = some (.int .i64 hq) := fun d => hd1
      have dt : ∀ d, (w2.drewN d).cell? ⟨t, 0, none⟩ = some (.int .i64 T.len) := fun d => ht0
      have hwr : wrap64 (nw - hq) = nw - hq := by
        have := HC.out
        have := HRD.out
        unfold wrap64; omega
      have hwr2 : IntKind.i64.wrap (nw - hq) = nw - hq := by
        have := HC.out
        have := HRD.out
        rw [IntKind.wrap_i64]; omega
      clear hd1 ht0
      by_cases he : T.len ≤ nw - hq
      · have e1 : decide (T.len ≤ nw - hq) = true := decide_eq_true he
        have hmi : Le.isDue T nw x = true := by unfold Le.isDue; rw [hT]; exact e1
        have hfi : (done ++ [x]).filter (Le.isDue T nw) = done.filter (Le.isDue T nw) ++ [x] := by rw [List.filter_append]; simp [hmi]
        have HFI := Lib.hid hfi
        clear he hfi hT hmi
        generalize done.filter (Le.isDue T nw) = mine at HO2 HML HFI ⊢
        go_quiet ((go_at_call 19; exact quiet_of (HMO.out _)))
        have hz := (Fr.refl w2 (fun _ => False)).drewN nq
        have HR3 := Lib.hid (HR2.out.fr hz (fun e => e) (fun e => e))
        have HL3 : Hid ((w2.drewN nq).rangeLeft m r < gk) := Lib.hid HL2.out
        have HO3 := Lib.hid (own_drewN HO2.out nq)
        have HS3 : Hid (r < (w2.drewN nq).heap.size) := Lib.hid HS2.out
        have HF3 := Lib.hid (HFR.out.drewN nq)
        clear hz HR2 HL2 HO2 HS2 HFR HF2 d1 dt
        generalize w2.drewN nq = w3 at HR3 HL3 HO3 HS3 HF3 ⊢
        go_wp2_with (at_builtin; refine wpList_app rfl _ _ 22 rfl r 9 _ 1 16 Try.underlying22 str_info rfl (by decide) _ mine.length _ rfl HO3.out _ _ 1 1 rfl rfl rfl (by have := HML.out; unfold maxLen; omega) (by have := HML.out; omega) (Nat.le_of_lt HS3.out) ?_; intro v' w7 hO hG hN)
        have hf7 := Fr.of_grown hG.out (S := fun j => some j = u5.ownBlock) fun j e => e.symm
        have hnr : ¬ some r = u5.ownBlock := fun e => HQ.out r e.symm rfl
        have hnm : ¬ some m = u5.ownBlock := fun e => by
          have := (HO3.out.lt m e.symm).1
          have := HM.out
          omega
        have HR7 := Lib.hid (HR3.out.fr hf7 hnm hnr)
        have HL7 : Hid (w7.rangeLeft m r < gk) := Lib.hid (by
          rw [rangeLeft_fr hf7 hnm hnr HR3.out.lt.1 HR3.out.lt.2.1]
          exact HL3.out)
        have HQ7 : Hid (∀ q, v'.ownBlock = some q → q ≠ r) := Lib.hid fun q hq e => by
          rcases hN.out with h | ⟨g, h, hg⟩
          · exact HQ.out q (h ▸ hq) e
          · rw [h] at hq
            have := Option.some.inj hq
            have := HS3.out
            omega
        have HF7 : Hid (Fr w w7 (fun _ => False)) := Lib.hid (HF3.out.trans hf7 fun y hy e => by
          have := (HO3.out.lt y (show _ = some y from Eq.symm e)).1
          omega)
        have HS7 : Hid (r < w7.heap.size) := Lib.hid (Nat.lt_of_lt_of_le HS3.out hf7.size)
        clear hf7 hnr hnm
        go_roundg (w7.rangeLeft m r)
        case measure => exact HL7.out
        case rel => exact ⟨done ++ [x], rfl, HR7, by rw [HFI.out]; exact Lib.hid (strs_snoc hO.out), HQ7, HF7, HS7⟩
      · have e1 : decide (T.len ≤ nw - hq) = false := decide_eq_false he
        have hmi : Le.isDue T nw x = false := by unfold Le.isDue; rw [hT]; exact e1
        have hfi : (done ++ [x]).filter (Le.isDue T nw) = done.filter (Le.isDue T nw) := by rw [List.filter_append]; simp [hmi]
        have HFI := Lib.hid hfi
        clear he hfi hT hmi
        go_quiet ((go_at_call 19; exact quiet_of (HMO.out _)))
        have hz := (Fr.refl w2 (fun _ => False)).drewN nq
        have HR3 := Lib.hid (HR2.out.fr hz (fun e => e) (fun e => e))
        have HL3 : Hid ((w2.drewN nq).rangeLeft m r < gk) := Lib.hid HL2.out
        have HO3 := Lib.hid (own_drewN HO2.out nq)
        have HS3 : Hid (r < (w2.drewN nq).heap.size) := Lib.hid HS2.out
        have HF3 := Lib.hid (HFR.out.drewN nq)
        clear hz HR2 HL2 HO2 HS2 HFR HF2 d1 dt
        generalize w2.drewN nq = w3 at HR3 HL3 HO3 HS3 HF3 ⊢
        go_wp2_with fail
        go_roundg (w3.rangeLeft m r)
        case measure => exact HL3.out
        case rel => exact ⟨done ++ [x], rfl, HR3, by rw [HFI.out]; exact HO3, HQ, HF3, HS3⟩
end Go.Proofs.Ytngpmlolpigeoaa
