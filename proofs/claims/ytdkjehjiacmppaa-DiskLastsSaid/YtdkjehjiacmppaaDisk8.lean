/- disk: Sync; one file alone; no disk. -/
import Derived.Test.YtdkjehjiacmppaaDisk7
namespace Go.Proofs.Ytdkjehjiacmppaa
open Go.RowKit Go.Maps
set_option linter.unusedVariables false
set_option linter.unusedSimpArgs false
set_option maxHeartbeats 1000000 in
theorem append_nil (x d : ByteArray) (w : World) : Calls Try.prog 11 #[.pointer none, .string x, .string d] w fun e w' => e = .returned (.int .i64 2) ∧ w = w' := by
  go_enter Try.func11, Try.ntmps11
  go_wp2
  go_ret
  exact ⟨rfl, rfl⟩
set_option maxHeartbeats 1000000 in
theorem rename_nil (x y : ByteArray) (w : World) : Calls Try.prog 18 #[.pointer none, .string x, .string y] w fun e w' => e = .returned (.int .i64 2) ∧ w = w' := by
  go_enter Try.func18, Try.ntmps18
  go_wp2
  go_ret
  exact ⟨rfl, rfl⟩
set_option maxHeartbeats 1000000 in
theorem delete_nil (x : ByteArray) (w : World) : Calls Try.prog 17 #[.pointer none, .string x] w fun e w' => e = .returned (.int .i64 2) ∧ w = w' := by
  go_enter Try.func17, Try.ntmps17
  go_wp2
  go_ret
  exact ⟨rfl, rfl⟩
set_option maxHeartbeats 1000000 in
theorem flip_nil (x : ByteArray) (n : Int) (w : World) : Calls Try.prog 24 #[.pointer none, .string x, .int .i64 n] w fun e w' => e = .returned (.int .i64 2) ∧ w = w' := by
  go_enter Try.func24, Try.ntmps24
  go_wp2
  go_ret
  exact ⟨rfl, rfl⟩
set_option maxHeartbeats 1000000 in
theorem read_nil (x : ByteArray) (w : World) : Calls Try.prog 14 #[.pointer none, .string x] w fun e w' => e = .returned (.tuple #[.string ⟨#[]⟩, .int .i64 41]) ∧ w = w' := by
  go_enter Try.func14, Try.ntmps14
  go_wp2
  go_ret2
  exact ⟨rfl, rfl⟩
set_option maxHeartbeats 1000000 in
theorem used_nil (w : World) : Calls Try.prog 16 #[.pointer none] w fun e w' => e = .returned (.int .i64 0) ∧ w = w' := by
  go_enter Try.func16, Try.ntmps16
  go_wp2
  go_ret
  exact ⟨rfl, rfl⟩
set_option maxHeartbeats 1000000 in
theorem pending_nil (w : World) : Calls Try.prog 15 #[.pointer none] w fun e w' => e = .returned (.int .i64 0) ∧ w = w' := by
  go_enter Try.func15, Try.ntmps15
  go_wp2
  go_ret
  exact ⟨rfl, rfl⟩
set_option maxHeartbeats 1000000 in
theorem list_nil (w : World) : Calls Try.prog 20 #[.pointer none] w fun e w' => e = .returned (.slice none 0 0) ∧ w = w' := by
  go_enter Try.func20, Try.ntmps20
  go_wp2
  go_ret
  exact ⟨rfl, rfl⟩
set_option maxHeartbeats 1000000 in
theorem sync_nil (w : World) : Calls Try.prog 12 #[.pointer none] w fun e w' => e = .returned (.tuple #[]) ∧ w = w' := by
  go_enter Try.func12, Try.ntmps12
  go_wp2
  go_end0
  exact ⟨rfl, rfl⟩
set_option maxHeartbeats 1000000 in
theorem crash_nil (k t : Int) (w : World) : Calls Try.prog 13 #[.pointer none, .int .i64 k, .int .i64 t] w fun e w' => e = .returned (.tuple #[]) ∧ w = w' := by
  go_enter Try.func13, Try.ntmps13
  go_wp2
  exact bodyPost_ret (results_none rfl _ _ _) rfl ⟨rfl, rfl⟩
noncomputable def DkSt.sync (S : DkSt) : DkSt := S.crash S.chg.length 0
set_option maxHeartbeats 1000000 in
theorem sync_c (B b ml mh : Nat) (cv : Value) (Ll Lh : List ByteArray) (S : DkSt) (w : World) (h : DkAt w B b ml mh cv Ll Lh S) (hl : Ll.length + S.chg.length + 1 < maxLen) (hn : S.chg.length < 8796093022000)
    (hfit : ∀ (i : Nat) (c : Chg), S.chg[i]? = some c → c.Fits (doAll (S.chg.take i) S.last)) (hsm : (crashLast S S.chg.length 0).Small) :
    Calls Try.prog 12 #[.pointer (some ⟨b, 0, none⟩)] w (DkCrash w B b ml mh cv Ll S.chg.length S.sync) := by
  obtain ⟨A, cc, rfl⟩ := own_slice h.row
  have z4 : w.cell? ⟨b, 4, none⟩ = some (.slice A S.chg.length cc) := h.blk.cell 4
  have HC := Lib.hid (crash_c B b ml mh _ Ll Lh S S.chg.length 0 w h hl hn hfit hsm)
  clear h hl hn hfit hsm
  go_enter Try.func12, Try.ntmps12
  go_wp2_with fail
  refine HC.out.mono ?_
  rintro e w' h'
  obtain ⟨rfl, h2⟩ := h'
  have HP : Hid (DkCrash w B b ml mh (.slice A S.chg.length cc) Ll S.chg.length S.sync (.returned (.tuple #[])) w') := Lib.hid ⟨rfl, h2⟩
  clear h2
  go_wp2
  go_end0
  exact HP.out
/-! ### one file alone -/
def oneF (x : ByteArray) (l : List UInt8) : Files := fun y => if y = x then some l else none
theorem oneF_at (x : ByteArray) (l : List UInt8) : (oneF x l).at x = l := by unfold Files.at oneF; simp
theorem oneF_some (x : ByteArray) (l : List UInt8) : oneF x l x = some l := by unfold oneF; simp
theorem oneF_put (x : ByteArray) (l m : List UInt8) : (oneF x l).put x m = oneF x m := by
  funext y
  unfold Files.put oneF
  by_cases e : y = x <;> simp [e]
theorem noFiles_put (x : ByteArray) (m : List UInt8) : noFiles.put x m = oneF x m := by
  funext y
  unfold Files.put oneF noFiles
  by_cases e : y = x <;> simp [e]
theorem oneF_covers (x : ByteArray) (l : List UInt8) : Covers (oneF x l) [x] := by
  refine ⟨by simp, fun y => ?_⟩
  unfold oneF
  by_cases e : y = x <;> simp [e]
theorem oneF_total (x : ByteArray) (l : List UInt8) : (oneF x l).total = l.length := by
  rw [total_eq (oneF_covers x l)]
  unfold lenSum
  simp [oneF_at]
theorem sum_perm {α : Type} (f : α → Int) {l m : List α} (h : l.Perm m) : (l.map f).sum = (m.map f).sum := by
  induction h with
  | nil => rfl
  | cons x _ ih => simp only [List.map_cons, List.sum_cons, ih]
  | swap x y l => simp only [List.map_cons, List.sum_cons]; omega
  | trans _ _ ih1 ih2 => exact ih1.trans ih2
theorem sum_nonneg {α : Type} (f : α → Int) (hf : ∀ x, 0 ≤ f x) : ∀ l : List α, 0 ≤ (l.map f).sum
  | [] => by simp
  | x :: l => by have := hf x; have := sum_nonneg f hf l; simp only [List.map_cons, List.sum_cons]; omega
theorem sum_le_sub {α : Type} [DecidableEq α] (f : α → Int) (hf : ∀ x, 0 ≤ f x) : ∀ (m l : List α), m.Nodup → (∀ x ∈ m, x ∈ l) → (m.map f).sum ≤ (l.map f).sum
  | [], l, _, _ => sum_nonneg f hf l
  | x :: m, l, hm, hs => by
    obtain ⟨h1, h2⟩ := List.nodup_cons.1 hm
    have hx : x ∈ l := hs x (by simp)
    have hp : l.Perm (x :: l.erase x) := List.perm_cons_erase hx
    have := sum_le_sub f hf m (l.erase x) h2 fun y hy => (List.mem_erase_of_ne (by intro e; subst e; exact h1 hy)).2 (hs y (by simp [hy]))
    have hsum : (l.map f).sum = ((x :: l.erase x).map f).sum := sum_perm f hp
    rw [hsum]
    simp only [List.map_cons, List.sum_cons]
    omega
theorem small_of_covers {F : Files} {l : List ByteArray} (h : Covers F l) (hb : lenSum F l ≤ 4611686018427387904) : F.Small := fun m hm hs =>
  Int.le_trans (sum_le_sub (fun x => ((F.at x).length : Int)) (fun x => by omega) m l hm fun x hx => (h.2 x).2 (hs x hx)) hb
theorem oneF_small (x : ByteArray) (l : List UInt8) (h : (l.length : Int) ≤ 4611686018427387904) : (oneF x l).Small := small_of_covers (oneF_covers x l) (by rw [← total_eq (oneF_covers x l), oneF_total]; exact h)
theorem noFiles_covers : Covers noFiles [] := ⟨List.nodup_nil, fun x => by simp [noFiles]⟩
theorem noFiles_total : noFiles.total = 0 := by rw [total_eq noFiles_covers]; rfl
theorem noFiles_small : noFiles.Small := small_of_covers noFiles_covers (by decide)
end Go.Proofs.Ytdkjehjiacmppaa
