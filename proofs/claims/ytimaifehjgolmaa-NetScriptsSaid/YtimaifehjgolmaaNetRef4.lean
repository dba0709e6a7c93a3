/- The reference's take, Drop, Double. -/
import Derived.Test.YtimaifehjgolmaaNetRef3
namespace Go.Proofs.Ytimaifehjgolmaa
open Go.RowKit Go.Maps
set_option linter.unusedVariables false
set_option linter.unusedSimpArgs false
theorem erase_snoc {α : Type} (L : List α) (i k : Nat) (x : α) (hi : L[i]? = some x) : (L.take (i + 1)).eraseIdx k = if k = i then (L.take i).eraseIdx k else (L.take i).eraseIdx k ++ [x] := by
  have hlt := (List.getElem?_eq_some_iff.1 hi).1
  have hx := (List.getElem?_eq_some_iff.1 hi).2
  have hl : (L.take i).length = i := by rw [List.length_take]; omega
  rw [List.take_succ_eq_append_getElem hlt, hx]
  rcases Nat.lt_trichotomy k i with h | h | h
  · rw [if_neg (by omega), List.eraseIdx_append_of_lt_length (by omega)]
  · subst h
    rw [if_pos rfl, List.eraseIdx_append_of_length_le (by omega), hl, Nat.sub_self, List.eraseIdx_of_length_le (l := L.take k) (by omega)]
    show L.take k ++ [] = _
    rw [List.append_nil]
  · rw [if_neg (by omega), List.eraseIdx_append_of_length_le (by omega), hl, List.eraseIdx_of_length_le (l := L.take i) (by omega), List.eraseIdx_of_length_le (by simp; omega)]
/-- What a call of the reference may have changed. -/
structure RefR (w : World) (b : Nat) (v : Value) (w' : World) (v' : Value) : Prop where
  lies : ∀ j, v'.ownBlock = some j → v.ownBlock = some j ∨ w.heap.size ≤ j
  fr : Fr w w' (FieldS b v)
theorem RefR.of {w w' : World} {b : Nat} {v v' : Value} (h : FieldR w b v w' v') : RefR w b v w' v' := by
  refine ⟨fun j e => ?_, h.fr⟩
  rcases h.lies with e1 | ⟨g, e1, hg⟩
  · exact .inl (e1 ▸ e)
  · rw [e1] at e; have := Option.some.inj e; exact .inr (by omega)
theorem RefR.refl (w : World) (b : Nat) (v : Value) : RefR w b v w v := .of (FieldR.refl _ _ _)
theorem RefIs.put {w w' : World} {b : Nat} {v v' : Value} {s : NS} {L : List Letter} (h : RefIs w b v s) (hB : Below w.heap.size w w') (hR : Recs w' w.heap.size 48 4 v' (L.map Letter.cells)) :
    RefIs (w'.setCell ⟨b, 2, none⟩ v') b v' { s with fly := L } ∧ RefR w b v (w'.setCell ⟨b, 2, none⟩ v') v' := by
  have hf2 : Fr w' (w'.setCell ⟨b, 2, none⟩ v') (fun j => j = b) := (Fr.refl w' _).setCell _ _ fun _ => rfl
  have hf1 : Fr w w' (fun j => w.heap.size ≤ j) := Fr.of_below hB fun _ e _ => e
  have hlt := h.lt
  have hne : v'.ownBlock ≠ some b := fun e => by have := own_base hR.own b e; omega
  have h2 := h.below hB (Nat.le_refl _)
  obtain ⟨cs, hl, hb, hc⟩ := h2.blk
  refine ⟨⟨⟨cs, hl, hb.set 2 v', hc⟩, ?_, hne⟩, ?_, ?_⟩
  · exact ⟨own_mono (hR.fr hf2 (fun j e e' => hne (e' ▸ e))).own (Nat.zero_le _), hR.len⟩
  · exact fun j e => .inr (own_base hR.own j e)
  · exact (hf1.mono (T := FieldS b v) fun x hx e => by omega).trans hf2 fun _ _ e => .inl e
def RPost (w : World) (b : Nat) (v : Value) (r : NS × Int) (e : Ending) (w' : World) : Prop :=
  e = .returned (.int .i64 r.2) ∧ ∃ v', RefIs w' b v' r.1 ∧ RefR w b v w' v'
theorem RPost.of {w : World} {b : Nat} {v : Value} {r : NS × Int} {e : Ending} {w' : World} (h : RIntPost w b v r e w') : RPost w b v r e w' := by
  obtain ⟨h1, v', h2, h3⟩ := h
  exact ⟨h1, v', h2, .of h3⟩
theorem RPost.same {w : World} {b : Nat} {v : Value} {s : NS} {r : NS × Int} {x : Int} (h : RefIs w b v s) (hr : (s, x) = r) : RPost w b v r (.returned (.int .i64 x)) w := .of (.same h hr)
set_option maxHeartbeats 2000000 in
set_option maxRecDepth 20000 in
theorem rtake_any (b : Nat) (v : Value) (s : NS) (k : Nat) (w : World) (h : RefIs w b v s) (hok : s.Ok) (hk : k < s.fly.length) :
    Calls Try.prog 30 #[.pointer (some ⟨b, 0, none⟩), .int .i64 k] w fun e w' => e = .returned (.tuple #[]) ∧ ∃ v', RefIs w' b v' { s with fly := s.fly.eraseIdx k } ∧ RefR w b v w' v' := by
  obtain ⟨g, cap, hv, _, hgl, hcell, _⟩ := h.recs.some (by rw [List.length_map]; omega)
  rw [List.length_map] at hv
  have hlen := hok.len
  have HC := Lib.hid hcell
  have H := Lib.hid h
  have HV := Lib.hid hv
  clear h hcell hgl
  go_enter Try.func30, Try.ntmps30
  go_wp2_with fail
  go_loopg [4, 5] s.fly.length (fun m out iv wr => ∃ (i : Nat) (A : Option Addr) (n cc : Nat), out = .slice A n cc ∧ iv = .int .i64 i ∧ i ≤ s.fly.length ∧ m = s.fly.length - i ∧ Hid (n = ((s.fly.take i).eraseIdx k).length) ∧ Hid (Recs wr w.heap.size 48 4 (.slice A n cc) (((s.fly.take i).eraseIdx k).map Letter.cells)) ∧ Hid (Below w.heap.size w wr))
  case atStart => exact ⟨0, none, 0, 0, rfl, rfl, Nat.zero_le _, rfl, Lib.hid (by rw [List.take_zero]; rfl), Lib.hid (by rw [List.take_zero]; exact Recs.nil _ _ _ _), Lib.hid (Below.refl _ _)⟩
  case round =>
    obtain ⟨i, A, n, cc, rfl, rfl, hi, hm, HN, HR, HB⟩ := hrel
    subst hm
    have c2 : wr.cell? ⟨b, 2, none⟩ = some (.slice (some ⟨g, 0, none⟩) s.fly.length cap) := by
      rw [← HV.out]; exact (H.out.below HB.out (Nat.le_refl _)).c2
    by_cases hlt : i < s.fly.length
    · obtain ⟨l, hl⟩ : ∃ l, s.fly[i]? = some l := ⟨s.fly[i], List.getElem?_eq_getElem hlt⟩
      have hs := erase_snoc s.fly i k l hl
      by_cases hik : k = i
      · rw [if_pos hik] at hs
        have HS := Lib.hid hs
        have e1 : ((i : Int) != (k : Int)) = false := by simp [hik]
        have e2 : ((i : Int) == (k : Int)) = true := by simp [hik]
        clear hs hl hik
        go_wp2_with fail
        go_roundg (s.fly.length - (i + 1))
        case measure => omega
        case rel => exact ⟨i + 1, A, n, cc, rfl, val_int (by omega), by omega, rfl, by rw [HS.out]; exact HN, by rw [HS.out]; exact HR, HB⟩
      · rw [if_neg hik] at hs
        have HS := Lib.hid hs
        have e1 : ((i : Int) != (k : Int)) = true := by simp; omega
        have e2 : ((i : Int) == (k : Int)) = false := by simp; omega
        have hce : ∀ j u, l.cells[j]? = some u → wr.cell? ⟨g, i * 4 + j, none⟩ = some u := fun j u hu => by
          have h1 := HC.out i l.cells j u (by simp [hl]) hu
          rw [← h1]
          exact World.cell?_of_block (w := w) (HB.out.block g (H.out.vlt g (by rw [HV.out]; rfl)))
        have d0 : wr.cell? ⟨g, i * 4, none⟩ = some (.int .i64 l.num) := hce 0 _ rfl
        have d1 : wr.cell? ⟨g, i * 4 + 1, none⟩ = some (.int .i64 l.src) := hce 1 _ rfl
        have d2 : wr.cell? ⟨g, i * 4 + 2, none⟩ = some (.int .i64 l.dst) := hce 2 _ rfl
        have d3 : wr.cell? ⟨g, i * 4 + 3, none⟩ = some (.string l.txt) := hce 3 _ rfl
        have hel : ((s.fly.take i).eraseIdx k).length ≤ i := by have := List.length_eraseIdx_le (s.fly.take i) k; rw [List.length_take] at this; omega
        have HEL := Lib.hid hel
        have HO : Hid (wr.ownsRow w.heap.size 48 4 (.slice A n cc) n (((s.fly.take i).eraseIdx k).map Letter.cells).flatten) := Lib.hid (by have := HR.out.own; rw [List.length_map, ← HN.out] at this; exact this)
        have hni : n ≤ i := by have := HN.out; omega
        have HNI := Lib.hid hni
        clear hni
        clear hs hl hik hce hel
        go_wp2_with (at_builtin; refine wpList_app rfl _ _ 55 rfl w.heap.size 48 _ 4 40 Try.underlying55 rletter_info rfl (by decide) (.slice A n cc) n _ rfl HO.out [.int .i64 l.num, .int .i64 l.src, .int .i64 l.dst, .string l.txt] 48 1 1 rfl rfl rfl (by unfold maxLen; have := HNI.out; omega) (by have := HNI.out; omega) HB.out.size ?_; intro v' w' hO hG hN; obtain ⟨A', c', rfl⟩ := own_slice hO.out)
        go_roundg (s.fly.length - (i + 1))
        case measure => omega
        case rel => exact ⟨i + 1, A', n + 1, c', rfl, val_int (by omega), by omega, rfl, Lib.hid (by rw [HS.out, List.length_append, HN.out]; rfl), Lib.hid (by rw [HS.out, List.map_append]; exact HR.out.app l.cells rfl (by rw [List.length_map, ← HN.out]; exact hO.out)), Lib.hid (below_row HO.out hG.out HB.out (Nat.le_refl _) HB.out.size)⟩
    · obtain rfl : i = s.fly.length := by omega
      have hR := HR.out
      rw [List.take_of_length_le (Nat.le_refl _)] at hR
      have hp := H.out.put HB.out hR
      have HP := Lib.hid hp
      have fz := (H.out.below HB.out (Nat.le_refl _)).fz
      clear hR hp
      go_wp2_with fail
      go_end0
      exact ⟨rfl, _, HP.out.1, HP.out.2⟩
set_option maxHeartbeats 1000000 in
theorem rdrop_any (b : Nat) (v : Value) (s : NS) (k : Int) (w : World) (h : RefIs w b v s) (hok : s.Ok) :
    Calls Try.prog 19 #[.pointer (some ⟨b, 0, none⟩), .int .i64 k] w (RPost w b v (s.drop k)) := by
  obtain ⟨A, cc, hv⟩ := h.recs.slice
  rw [List.length_map] at hv
  have c2 : w.cell? ⟨b, 2, none⟩ = some (.slice A s.fly.length cc) := by rw [← hv]; exact h.c2
  have hlen := hok.len
  generalize hr : s.drop k = r
  have HR := Lib.hid hr
  clear hr
  unfold NS.drop NS.has at HR
  have H := Lib.hid h
  have HO := Lib.hid hok
  clear h hok hv
  by_cases h1 : k < 0
  · rw [show decide (0 ≤ k ∧ k < (s.fly.length : Int)) = false by simp; omega, if_neg (by decide)] at HR
    go_enter Try.func19, Try.ntmps19
    go_wp2_with fail
    go_ret
    exact RPost.same H.out HR.out
  · by_cases h2 : k < s.fly.length
    · rw [show decide (0 ≤ k ∧ k < (s.fly.length : Int)) = true by simp; omega, if_pos rfl] at HR
      obtain ⟨i, rfl⟩ : ∃ i : Nat, k = i := ⟨k.toNat, by omega⟩
      go_enter Try.func19, Try.ntmps19
      go_wp2_with fail
      refine (rtake_any b v s i w H.out HO.out (by omega)).mono ?_
      rintro e w' ⟨rfl, v', h3, h4⟩
      have H3 := Lib.hid h3
      have H4 := Lib.hid h4
      clear h3 h4
      go_wp2_with fail
      go_ret
      rw [← HR.out]
      exact ⟨rfl, _, by simpa using H3.out, H4.out⟩
    · rw [show decide (0 ≤ k ∧ k < (s.fly.length : Int)) = false by simp; omega, if_neg (by decide)] at HR
      go_enter Try.func19, Try.ntmps19
      go_wp2_with fail
      go_ret
      exact RPost.same H.out HR.out
end Go.Proofs.Ytimaifehjgolmaa
