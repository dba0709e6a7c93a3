/- wire.Unpack: Bool, End; no unpack. -/
import Derived.Test.YtbpphflegjebaaaUnpack
namespace Go.Proofs.Ytbpphflegjebaaa
open Go.RowKit
set_option linter.unusedVariables false
set_option linter.unusedSimpArgs false
theorem empty_facts (s : ByteArray) : (s.data.toList = [] → s.toList.isEmpty = true ∧ s.toList = []) ∧ (s.data.toList ≠ [] → s.toList.isEmpty = false ∧ s.toList ≠ []) := by
  rw [ByteArray.toList_eq]
  cases h : s.data.toList with
  | nil => simp
  | cons x l => simp
set_option maxHeartbeats 1000000 in
theorem uend_any (b : Nat) (s : St) (w : World) (h : UnpAt w b s) :
    Calls Try.prog 24 #[.pointer (some ⟨b, 0, none⟩)] w fun e w' => e = .returned (.int .i64 (s.fin : Int)) ∧ w = w' := by
  have c0 : w.cell? ⟨b, 0, none⟩ = some (.string s.rest) := h.cell 0
  have c1 : w.cell? ⟨b, 1, none⟩ = some (.int .i64 (s.err : Int)) := h.cell 1
  clear h
  by_cases he : s.err = 0
  · rw [he] at c1
    have HE := Lib.hid he
    clear he
    by_cases hr : s.rest.data.toList = []
    · obtain ⟨e1, e2⟩ := (empty_facts s.rest).1 hr
      have HF : Hid (s.fin = 0) := Lib.hid (by unfold St.fin; rw [if_neg (by rintro ⟨_, h⟩; exact h hr)]; exact HE.out)
      clear hr
      go_enter Try.func24, Try.ntmps24
      go_wp2
      go_ret
      exact ⟨ret_int (by rw [HF.out]; rfl), rfl⟩
    · obtain ⟨e1, e2⟩ := (empty_facts s.rest).2 hr
      have HF : Hid (s.fin = 22) := Lib.hid (by unfold St.fin; rw [if_pos ⟨HE.out, hr⟩])
      clear hr
      go_enter Try.func24, Try.ntmps24
      go_wp2
      go_ret
      exact ⟨ret_int (by rw [HF.out]; rfl), rfl⟩
  · have HF : Hid (s.fin = s.err) := Lib.hid (by unfold St.fin; rw [if_neg (fun h => he h.1)])
    have e1 : ((s.err : Int) != 0) = true := by simp; omega
    have e2 : ((s.err : Int) == 0) = false := by simp; omega
    clear he
    go_enter Try.func24, Try.ntmps24
    go_wp2
    go_ret
    exact ⟨ret_int (by rw [HF.out]), rfl⟩
theorem uend_nil (w : World) : Calls Try.prog 24 #[.pointer none] w fun e w' => e = .returned (.int .i64 2) ∧ w = w' := by
  go_enter Try.func24, Try.ntmps24
  go_wp2
  go_ret
  exact ⟨rfl, rfl⟩
theorem utext_nil (w : World) : Calls Try.prog 20 #[.pointer none] w fun e w' => e = .returned (.string ⟨#[]⟩) ∧ w = w' := by
  go_enter Try.func20, Try.ntmps20
  go_wp2_with (go_at_call 18; refine (uint_nil _).mono ?_; rintro e w' ⟨rfl, rfl⟩)
  go_ret
  exact ⟨rfl, rfl⟩
theorem uopen_any (s : ByteArray) (w : World) : Calls Try.prog 17 #[.string s] w fun e w' => e = .returned (.pointer (some ⟨w.heap.size, 0, none⟩)) ∧ UnpAt w' w.heap.size ⟨s, 0⟩ ∧ Below w.heap.size w w' ∧ w'.heap.size = w.heap.size + 1 := by
  go_enter Try.func17, Try.ntmps17
  go_wp2
  go_ret
  exact ⟨rfl, Blk.new w [.string s, .int .i64 0] 58, (Below.refl _ w).alloc (Nat.le_refl _) _, by rw [World.size_alloc]⟩
theorem ubool_nil (w : World) : Calls Try.prog 22 #[.pointer none] w fun e w' => e = .returned (.bool false) ∧ w = w' := by
  go_enter Try.func22, Try.ntmps22
  go_wp2
  go_ret
  exact ⟨rfl, rfl⟩
set_option maxHeartbeats 1000000 in
theorem ubool_any (b : Nat) (s : St) (w : World) (h : UnpAt w b s) :
    Calls Try.prog 22 #[.pointer (some ⟨b, 0, none⟩)] w fun e w' => e = .returned (.bool s.bool.2) ∧ UnpAt w' b s.bool.1 ∧ Fr w w' (fun k => k = b) := by
  have c0 : w.cell? ⟨b, 0, none⟩ = some (.string s.rest) := h.cell 0
  have c1 : w.cell? ⟨b, 1, none⟩ = some (.int .i64 (s.err : Int)) := h.cell 1
  have f0 := h.frozen 0
  have f1 := h.frozen 1
  have HFAIL : Hid (∀ e : Nat, UnpAt (w.setCell ⟨b, 1, none⟩ (.int .i64 (e : Int))) b (s.fail e) ∧ Fr w (w.setCell ⟨b, 1, none⟩ (.int .i64 (e : Int))) (fun k => k = b)) := Lib.hid (fun e => ⟨Blk.set h 1 _, (Fr.refl w _).setCell _ _ (fun _ => rfl)⟩)
  have U := Lib.hid h
  have HL : Hid (s.rest.data.toList.length = s.rest.size) := Lib.hid (by simp)
  clear h
  by_cases he : s.err = 0
  · rw [he] at c1
    have HE := Lib.hid he
    clear he
    cases hr : s.rest.data.toList with
    | nil =>
      obtain ⟨e1, e2⟩ := (empty_facts s.rest).1 hr
      have HS : Hid (s.bool = (s.fail 20, false)) := Lib.hid (by unfold St.bool; rw [if_neg (by have := HE.out; omega), hr])
      clear hr
      go_enter Try.func22, Try.ntmps22
      go_wp2
      go_ret
      rw [HS.out]
      exact ⟨rfl, HFAIL.out 20⟩
    | cons x l =>
      obtain ⟨e1, e2⟩ := (empty_facts s.rest).2 (by rw [hr]; simp)
      have hlt : 0 < s.rest.size := by rw [← HL.out, hr]; simp
      have hx : s.rest[0] = x := by
        have h := Lib.data_getElem? s.rest 0 hlt
        rw [hr] at h
        simpa using h.symm
      have hxl := x.toNat_lt
      by_cases h1 : 1 < x.toNat
      · have HS : Hid (s.bool = (s.fail 21, false)) := Lib.hid (by unfold St.bool; rw [if_neg (by have := HE.out; omega), hr]; dsimp only; rw [if_pos h1])
        have t1 : decide ((1 : Int) < (s.rest[0].toNat : Int)) = true := by rw [hx]; simp; omega
        clear hr hx h1 HL
        go_enter Try.func22, Try.ntmps22
        go_wp2
        go_ret
        rw [HS.out]
        exact ⟨rfl, HFAIL.out 21⟩
      · have HS : Hid (s.bool = (s.take 1, x.toNat == 1)) := Lib.hid (by unfold St.bool; rw [if_neg (by have := HE.out; omega), hr]; dsimp only; rw [if_neg h1])
        have t1 : decide ((1 : Int) < (s.rest[0].toNat : Int)) = false := by rw [hx]; simp; omega
        have HX := Lib.hid hx
        have B2 := Lib.hid (Blk.set U.out 0 (.string (s.rest.extract 1 s.rest.size)))
        have F2 := Lib.hid ((Fr.refl w (fun k => k = b)).setCell ⟨b, 0, none⟩ (.string (s.rest.extract 1 s.rest.size)) (fun _ => rfl))
        clear hr hx h1 HL
        go_enter Try.func22, Try.ntmps22
        go_wp2
        go_ret
        rw [HS.out]
        exact ⟨ret_bool (by rw [HX.out]; rw [Bool.eq_iff_iff]; simp; omega), by have h := B2.out; unfold UnpAt St.take St.cells; unfold St.cells at h; rw [HE.out] at h; exact h, F2.out⟩
  · have HS : Hid (s.bool = (s, false)) := Lib.hid (by unfold St.bool; rw [if_pos he])
    have e1 : ((s.err : Int) != 0) = true := by simp; omega
    have e2 : ((s.err : Int) == 0) = false := by simp; omega
    clear he
    go_enter Try.func22, Try.ntmps22
    go_wp2
    go_ret
    rw [HS.out]
    exact ⟨rfl, U.out, Fr.refl _ _⟩
end Go.Proofs.Ytbpphflegjebaaa
