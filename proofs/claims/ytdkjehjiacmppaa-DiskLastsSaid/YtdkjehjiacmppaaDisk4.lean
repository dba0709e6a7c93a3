/- disk: New, Append, Rename, Delete, Read, Used, Pending. -/
import Derived.Test.YtdkjehjiacmppaaDisk3
import Derived.Deep.CutBlock
namespace Go.Proofs.Ytdkjehjiacmppaa
open Go.RowKit Go.Maps
set_option linter.unusedVariables false
set_option linter.unusedSimpArgs false
def noFiles : Files := fun _ => none
def DkNew (w : World) (cap : Int) (e : Ending) (w' : World) : Prop :=
  ∃ b ml mh, e = .returned (.pointer (some ⟨b, 0, none⟩)) ∧ DkAt w' w.heap.size b ml mh (.slice none 0 0) [] [] ⟨max cap 0, 0, noFiles, noFiles, []⟩ ∧ Below w.heap.size w w'
theorem MapF.new (w : World) (N : Nat → Prop) : MapF (w.alloc (.map #[] 0)) N w.heap.size [] noFiles :=
  ⟨⟨_, MapAt.new w Dk.key, fun x => rfl⟩, (fun x hx => by cases hx), (fun x hx => by cases hx)⟩
set_option maxHeartbeats 1000000 in
theorem new_c (cap : Int) (w : World) : Calls Try.prog 10 #[.int .i64 cap] w (DkNew w cap) := by
  have hmm := @run_makeMap Try.prog
  have H : Hid (DkNew w cap (.returned (.pointer (some ⟨w.heap.size + 1 + 1, 0, none⟩))) (((w.alloc (.map #[] 0)).alloc (.map #[] 0)).alloc (.cells #[.int .i64 (max cap 0), .int .i64 0, .map (some w.heap.size), .map (some (w.heap.size + 1)), .slice none 0 0] 58))) := by
    have s1 : (w.alloc (.map #[] 0)).heap.size = w.heap.size + 1 := by simp
    have s2 : ((w.alloc (.map #[] 0)).alloc (.map #[] 0)).heap.size = w.heap.size + 1 + 1 := by simp
    have m2 := MapF.new (w.alloc (.map #[] 0)) (DkN (w.heap.size + 1 + 1) w.heap.size (w.heap.size + 1) (.slice none 0 0))
    rw [s1] at m2
    have hb := Blk.new ((w.alloc (.map #[] 0)).alloc (.map #[] 0)) [.int .i64 (max cap 0), .int .i64 0, .map (some w.heap.size), .map (some (w.heap.size + 1)), .slice none 0 0] 58
    rw [s2] at hb
    refine Lib.hid ⟨w.heap.size + 1 + 1, w.heap.size, w.heap.size + 1, rfl, ⟨hb, ⟨by omega, by omega, by omega⟩, ⟨by omega, by omega, Nat.le_succ _⟩, World.ownsRow_nil _ _ _ _, (fun q e => by cases e), ?_, ?_, (fun c hc => by cases hc)⟩, ?_⟩
    · exact ((MapF.new w _).fr ((Fr.refl _ (fun _ => False)).alloc _) (fun e => e) (fun q e => e.elim)).fr ((Fr.refl _ (fun _ => False)).alloc _) (fun e => e) (fun q e => e.elim)
    · exact m2.fr ((Fr.refl _ (fun _ => False)).alloc _) (fun e => e) (fun q e => e.elim)
    · exact (((Below.refl _ w).alloc (Nat.le_refl _) _).alloc (by simp) _).alloc (by simp; omega) _
  rcases Int.lt_or_le cap 0 with h | h
  · rw [show max cap 0 = 0 by omega] at H
    have t1 : ¬ 0 ≤ cap := by omega
    clear h
    go_enter Try.func10, Try.ntmps10
    go_wp2
    go_ret
    exact H.out
  · rw [show max cap 0 = cap by omega] at H
    have t1 : decide (cap < 0) = false := decide_eq_false (by omega)
    go_enter Try.func10, Try.ntmps10
    go_wp2
    go_ret
    exact H.out
def validB (x : ByteArray) : Bool := decide (1 ≤ x.size ∧ x.size ≤ 64)
set_option maxHeartbeats 1000000 in
theorem valid_c (x : ByteArray) (w : World) : Calls Try.prog 25 #[.string x] w fun e w' => e = .returned (.bool (validB x)) ∧ w = w' := by
  have hds : x.size = x.data.toList.length := by rw [Array.length_toList]; rfl
  by_cases h0 : x.size = 0
  · have hnil : x.data.toList = [] := List.eq_nil_of_length_eq_zero (by omega)
    have e1 : x.toList.isEmpty = true := by rw [ByteArray.toList_eq, hnil]; rfl
    clear hnil
    have hv : validB x = false := decide_eq_false (by omega)
    have HV := Lib.hid hv
    rw [hv]
    clear hv h0 hds
    go_enter Try.func25, Try.ntmps25
    go_wp2
    go_ret
    exact ⟨rfl, rfl⟩
  · have e1 : x.toList.isEmpty = false := by
      rw [ByteArray.toList_eq]
      cases hl : x.data.toList with
      | nil => rw [hl] at hds; exact absurd hds h0
      | cons a l => rfl
    by_cases h1 : x.size ≤ 64
    · have hv : validB x = true := decide_eq_true (by omega)
      have t1 : decide ((x.size : Int) ≤ 64) = true := decide_eq_true (by omega)
      have t1n : decide (x.size ≤ 64) = true := decide_eq_true h1
      rw [hv]
      clear hv h0 hds h1
      go_enter Try.func25, Try.ntmps25
      go_wp2
      go_ret
      exact ⟨rfl, rfl⟩
    · have hv : validB x = false := decide_eq_false (by omega)
      have t1 : decide ((x.size : Int) ≤ 64) = false := decide_eq_false (by omega)
      have t1n : decide (x.size ≤ 64) = false := decide_eq_false h1
      rw [hv]
      clear hv h0 hds h1
      go_enter Try.func25, Try.ntmps25
      go_wp2
      go_ret
      exact ⟨rfl, rfl⟩
set_option maxHeartbeats 1000000 in
theorem has_c (B b ml mh : Nat) (cv : Value) (Ll Lh : List ByteArray) (S : DkSt) (x : ByteArray) (hx : x.size ≤ maxLen) (w : World) (h : DkAt w B b ml mh cv Ll Lh S) :
    Calls Try.prog 29 #[.pointer (some ⟨b, 0, none⟩), .string x] w fun e w' => e = .returned (.bool (S.held x).isSome) ∧ w = w' := by
  have c3 : w.cell? ⟨b, 3, none⟩ = some (.map (some mh)) := h.blk.cell 3
  obtain ⟨v, hl, _⟩ := h.held.look2 x hx
  clear h hx
  go_enter Try.func29, Try.ntmps29
  go_wp2
  go_ret
  exact ⟨rfl, rfl⟩
set_option maxHeartbeats 1000000 in
theorem used_c (B b ml mh : Nat) (cv : Value) (Ll Lh : List ByteArray) (S : DkSt) (w : World) (h : DkAt w B b ml mh cv Ll Lh S) :
    Calls Try.prog 16 #[.pointer (some ⟨b, 0, none⟩)] w fun e w' => e = .returned (.int .i64 S.used) ∧ w = w' := by
  have c1 : w.cell? ⟨b, 1, none⟩ = some (.int .i64 S.used) := h.blk.cell 1
  clear h
  go_enter Try.func16, Try.ntmps16
  go_wp2
  go_ret
  exact ⟨rfl, rfl⟩
set_option maxHeartbeats 1000000 in
theorem pending_c (B b ml mh : Nat) (cv : Value) (Ll Lh : List ByteArray) (S : DkSt) (w : World) (h : DkAt w B b ml mh cv Ll Lh S) :
    Calls Try.prog 15 #[.pointer (some ⟨b, 0, none⟩)] w fun e w' => e = .returned (.int .i64 (S.chg.length : Int)) ∧ w = w' := by
  obtain ⟨A, cc, rfl⟩ := own_slice h.row
  have c4 : w.cell? ⟨b, 4, none⟩ = some (.slice A S.chg.length cc) := h.blk.cell 4
  clear h
  go_enter Try.func15, Try.ntmps15
  go_wp2
  go_ret
  exact ⟨rfl, rfl⟩
theorem conv_file {w : World} {N : Nat → Prop} {v : Value} {l : List UInt8} (h : FileV w N v l) : (convert 67 9 v).run Try.prog w = .ok (.string ⟨l.toArray⟩) w := by
  rcases h with ⟨rfl, rfl⟩ | ⟨q, c, rfl, _, _, _, _, hcell⟩
  · exact run_convert_bytes_nil w 67 5 Try.underlying67 Try.underlying5 0 0 9 Try.underlying9
  · refine run_convert_bytes_back w 67 9 5 ⟨q, 0, none⟩ c l Try.underlying67 Try.underlying5 Try.underlying9 fun j hj => ?_
    rw [addr0]
    exact hcell j _ (bytes_get (List.getElem?_eq_getElem hj))
set_option maxRecDepth 20000 in
set_option maxHeartbeats 1000000 in
theorem read_c (B b ml mh : Nat) (cv : Value) (Ll Lh : List ByteArray) (S : DkSt) (x : ByteArray) (hx : x.size ≤ maxLen) (w : World) (h : DkAt w B b ml mh cv Ll Lh S) :
    Calls Try.prog 14 #[.pointer (some ⟨b, 0, none⟩), .string x] w fun e w' => e = .returned (.tuple #[.string ⟨(S.held.at x).toArray⟩, .int .i64 (if (S.held x).isSome = true then 0 else 41)]) ∧ w = w' := by
  have c3 : w.cell? ⟨b, 3, none⟩ = some (.map (some mh)) := h.blk.cell 3
  obtain ⟨p, c, hl, hfv⟩ := h.held.look x hx
  have hcv := conv_file hfv
  have HH := Lib.hid (has_c B b ml mh cv Ll Lh S x hx w h)
  have hat : (S.held x).isSome = false → S.held.at x = [] := fun e => by
    unfold Files.at
    cases e2 : S.held x with
    | none => rfl
    | some l => rw [e2] at e; cases e
  clear h hx hfv
  generalize (S.held x).isSome = f at HH hat ⊢
  generalize hlen : (S.held.at x).length = n at hl hcv
  clear hlen
  cases f
  · rw [hat rfl]
    clear hat hl hcv
    go_enter Try.func14, Try.ntmps14
    go_wp2_with fail
    refine HH.out.mono ?_
    rintro _ _ ⟨rfl, rfl⟩
    go_wp2
    go_ret2
    exact ⟨rfl, rfl⟩
  · clear hat
    go_enter Try.func14, Try.ntmps14
    go_wp2_with fail
    refine HH.out.mono ?_
    rintro _ _ ⟨rfl, rfl⟩
    go_wp2
    go_ret2
    exact ⟨rfl, rfl⟩
end Go.Proofs.Ytdkjehjiacmppaa
