/- The reference's desk. -/
import Derived.Test.YtlndnjpgpbeeeaaRpcActs
import Derived.Test.YtlndnjpgpbeeeaaRecs
namespace Go.Proofs.Ytlndnjpgpbeeeaa
open Go.RowKit Go.Maps
set_option linter.unusedVariables false
set_option linter.unusedSimpArgs false
def lastRec (p : Int × Last) : List Value := [.int .i64 p.1, .int .i64 p.2.call, .bool p.2.rep, .string p.2.body]
def viewOf : List (Int × Last) → View
  | [] => fun _ => none
  | p :: L => fun c => if c = p.1 then some p.2 else viewOf L c
theorem viewOf_none {c : Int} : ∀ {L : List (Int × Last)}, (∀ (j : Nat) p, L[j]? = some p → p.1 ≠ c) → viewOf L c = none
  | [], _ => rfl
  | p :: L, h => by
    have h0 := h 0 p rfl
    unfold viewOf
    rw [if_neg (fun e => h0 e.symm)]
    exact viewOf_none fun j q hq => h (j + 1) q (by simpa using hq)
theorem viewOf_some {c : Int} {l : Last} : ∀ {L : List (Int × Last)} {i : Nat}, L[i]? = some (c, l) → (∀ j < i, ∀ p, L[j]? = some p → p.1 ≠ c) → viewOf L c = some l
  | [], i, h, _ => by simp at h
  | p :: L, 0, h, _ => by
    simp at h; subst h
    unfold viewOf; rw [if_pos rfl]
  | p :: L, i + 1, h, hj => by
    have h0 := hj 0 (by omega) p rfl
    unfold viewOf
    rw [if_neg (fun e => h0 e.symm)]
    exact viewOf_some (i := i) (by simpa using h) fun j hji q hq => hj (j + 1) (by omega) q (by simpa using hq)
theorem viewOf_set {c : Int} {l l' : Last} : ∀ {L : List (Int × Last)} {i : Nat}, L[i]? = some (c, l) → (∀ j < i, ∀ p, L[j]? = some p → p.1 ≠ c) → viewOf (L.set i (c, l')) = (viewOf L).set c l'
  | [], i, h, _ => by simp at h
  | p :: L, 0, h, _ => by
    simp at h; subst h
    funext x
    simp only [List.set_cons_zero, viewOf, View.set]
    by_cases e : x = c <;> simp [e]
  | p :: L, i + 1, h, hj => by
    have h0 := hj 0 (by omega) p rfl
    have ih := viewOf_set (l' := l') (i := i) (L := L) (by simpa using h) fun j hji q hq => hj (j + 1) (by omega) q (by simpa using hq)
    funext x
    simp only [List.set_cons_succ, viewOf, View.set, ih]
    by_cases e : x = c
    · subst e; simp [Ne.symm h0]
    · by_cases e2 : x = p.1 <;> simp [e, e2, h0]
theorem viewOf_app {c : Int} {l : Last} : ∀ {L : List (Int × Last)}, (∀ (j : Nat) p, L[j]? = some p → p.1 ≠ c) → viewOf (L ++ [(c, l)]) = (viewOf L).set c l
  | [], _ => by funext x; simp only [List.nil_append, viewOf, View.set]
  | p :: L, h => by
    have h0 := h 0 p rfl
    have ih := viewOf_app (l := l) (L := L) fun j q hq => h (j + 1) q (by simpa using hq)
    funext x
    simp only [List.cons_append, viewOf, View.set, ih]
    by_cases e : x = c
    · subst e; simp [Ne.symm h0]
    · by_cases e2 : x = p.1 <;> simp [e, e2, h0]
structure RefDeskAt (w : World) (b : Nat) (v : Value) (L : List (Int × Last)) : Prop where
  blk : Blk w b [v] 38
  recs : Recs w 0 71 4 v (L.map lastRec)
  ne : v.ownBlock ≠ some b
def RefDeskTo (w : World) (b : Nat) (v : Value) (n : Nat) (f : View) (w' : World) : Prop := ∃ v' L, RefDeskAt w' b v' L ∧ viewOf L = f ∧ L.length ≤ n ∧ FieldR w b v w' v'
theorem RefDeskAt.fr {w w' : World} {b : Nat} {v : Value} {L : List (Int × Last)} {S : Nat → Prop} (h : RefDeskAt w b v L) (hf : Fr w w' S) (hb : ¬ S b) (hv : ∀ k, v.ownBlock = some k → ¬ S k) : RefDeskAt w' b v L :=
  ⟨h.blk.fr hf hb, h.recs.fr hf hv, h.ne⟩
theorem RefDeskAt.drewN {w : World} {b : Nat} {v : Value} {L : List (Int × Last)} (h : RefDeskAt w b v L) (n : Nat) : RefDeskAt (w.drewN n) b v L := ⟨h.blk.drewN n, h.recs.drewN n, h.ne⟩
theorem RefDeskAt.alloc {w : World} {b : Nat} {v : Value} {L : List (Int × Last)} (h : RefDeskAt w b v L) (o : Obj) : RefDeskAt (w.alloc o) b v L := h.fr ((Fr.refl w (fun _ => False)).alloc _) (fun e => e) (fun _ _ e => e)
set_option maxHeartbeats 1000000 in
theorem find_any (b : Nat) (v : Value) (L : List (Int × Last)) (c : Int) (w : World) (h : RefDeskAt w b v L) :
    Calls Try.prog 24 #[.pointer (some ⟨b, 0, none⟩), .int .i64 c] w fun e w' => w = w' ∧ ((e = .returned (.int .i64 (-1)) ∧ ∀ (j : Nat) p, L[j]? = some p → p.1 ≠ c) ∨ ∃ (i : Nat) (l : Last), e = .returned (.int .i64 i) ∧ L[i]? = some (c, l) ∧ ∀ j < i, ∀ p, L[j]? = some p → p.1 ≠ c) := by
  have HD := Lib.hid h
  obtain ⟨A, cap, rfl⟩ := h.recs.slice
  have c0 : w.cell? ⟨b, 0, none⟩ = some (.slice A (L.map lastRec).length cap) := h.blk.cell 0
  rw [List.length_map] at c0
  have hml := h.recs.len_le
  rw [List.length_map] at hml
  unfold maxLen at hml
  clear h
  go_enter Try.func24, Try.ntmps24
  go_wp2
  go_loopg [5] L.length (fun g iv wr => w = wr ∧ ∃ k : Nat, iv = .int .i64 k ∧ k ≤ L.length ∧ g = L.length - k ∧ Hid (∀ j < k, ∀ p, L[j]? = some p → p.1 ≠ c))
  case atStart => exact ⟨rfl, 0, rfl, Nat.zero_le _, rfl, Lib.hid fun j hj => by omega⟩
  case round =>
    obtain ⟨rfl, k, rfl, hk, hg, HN⟩ := hrel
    subst hg
    by_cases hlt : k < L.length
    · obtain ⟨p, hp⟩ : ∃ p, L[k]? = some p := ⟨L[k], List.getElem?_eq_getElem hlt⟩
      obtain ⟨g, cap', hv, _, _, hcell, _⟩ := HD.out.recs.some (by rw [List.length_map]; omega)
      cases hv
      have d0 : w.cell? ⟨g, k * 4, none⟩ = some (.int .i64 p.1) := hcell k (lastRec p) 0 _ (by simp [hp]) rfl
      have HP := Lib.hid hp
      clear hcell hp
      by_cases he : p.1 = c
      · have hb : (p.1 == c) = true := by simp [he]
        have HE := Lib.hid he
        clear he
        go_wp2
        go_ret
        exact ⟨rfl, .inr ⟨k, p.2, rfl, by rw [HP.out, ← HE.out], HN.out⟩⟩
      · have hb : (p.1 == c) = false := by simp [he]
        have HE := Lib.hid he
        clear he
        go_wp2
        go_roundg (L.length - (k + 1))
        case measure => omega
        case rel =>
          refine ⟨rfl, k + 1, val_int (by omega), by omega, rfl, Lib.hid fun j hj q hq => ?_⟩
          by_cases e : j = k
          · subst e; rw [HP.out] at hq; cases hq; exact HE.out
          · exact HN.out j (by omega) q hq
    · go_wp2
      go_ret
      exact ⟨rfl, .inl ⟨rfl, fun j p hp => HN.out j (by have := (List.getElem?_eq_some_iff.1 hp).1; omega) p hp⟩⟩
theorem rlast_info : (Try.prog.info? 71).map (fun i => (i.zero, i.size, i.bytes)) = some (some (.agg #[.int .i64 0, .int .i64 0, .bool false, .string ⟨#[]⟩]), 4, 40) := by kernel_rfl
theorem RefDeskAt.after {w : World} {b : Nat} {v : Value} {L : List (Int × Last)} (h : RefDeskAt w b v L) (w' : World) (hG : w.grownBy w' v.ownBlock) : w'.cell? ⟨b, 0, none⟩ = some v ∧ w'.frozen? ⟨b, 0, none⟩ = false := by
  have := h.blk.fr (Fr.of_grown (S := fun k => v.ownBlock = some k) hG fun k e => e) h.ne
  exact ⟨this.cell 0, this.frozen 0⟩
theorem RefDeskAt.push {w w' : World} {b : Nat} {v v' : Value} {L : List (Int × Last)} (h : RefDeskAt w b v L) (p : Int × Last) (hO : w'.ownsRow 0 71 4 v' ((L.map lastRec).length + 1) ((L.map lastRec).flatten ++ lastRec p)) (hG : w.grownBy w' v.ownBlock)
    (hN : v'.ownBlock = v.ownBlock ∨ ∃ g, v'.ownBlock = some g ∧ w.heap.size ≤ g) : RefDeskAt (w'.setCell ⟨b, 0, none⟩ v') b v' (L ++ [p]) ∧ FieldR w b v (w'.setCell ⟨b, 0, none⟩ v') v' := by
  have hne : v'.ownBlock ≠ some b := (FieldR.grown (b := w.heap.size) hG hN).off h.blk.lt (by have := h.blk.lt; omega) h.ne
  have hf : Fr w w' (fun k => v.ownBlock = some k) := Fr.of_grown hG fun k e => e
  refine ⟨⟨(h.blk.fr hf h.ne).set 0 v', ?_, hne⟩, (FieldR.grown hG hN).setCell _ _ fun _ => .inl rfl⟩
  have := h.recs.app (lastRec p) rfl hO
  rw [List.map_append]
  exact this.fr ((Fr.refl w' (fun k => k = b)).setCell _ _ (fun _ => rfl)) fun k hk e => hne (by rw [hk]; exact congrArg some e)
/-- A record of the desk's list, written anew. -/
theorem RefDeskAt.put {w : World} {b g n cap i : Nat} {L : List (Int × Last)} {q : Int × Last} (h : RefDeskAt w b (.slice (some ⟨g, 0, none⟩) n cap) L) (hi : L[i]? = some q) (p : Int × Last) :
    RefDeskAt ((((w.setCell ⟨g, i * 4, none⟩ (.int .i64 p.1)).setCell ⟨g, i * 4 + 1, none⟩ (.int .i64 p.2.call)).setCell ⟨g, i * 4 + 2, none⟩ (.bool p.2.rep)).setCell ⟨g, i * 4 + 3, none⟩ (.string p.2.body)) b (.slice (some ⟨g, 0, none⟩) n cap) (L.set i p) ∧
    FieldR w b (.slice (some ⟨g, 0, none⟩) n cap) ((((w.setCell ⟨g, i * 4, none⟩ (.int .i64 p.1)).setCell ⟨g, i * 4 + 1, none⟩ (.int .i64 p.2.call)).setCell ⟨g, i * 4 + 2, none⟩ (.bool p.2.rep)).setCell ⟨g, i * 4 + 3, none⟩ (.string p.2.body)) (.slice (some ⟨g, 0, none⟩) n cap) := by
  have hbg : b ≠ g := fun e => h.ne (by rw [e]; rfl)
  refine ⟨⟨(((h.blk.other _ _ hbg).other _ _ hbg).other _ _ hbg).other _ _ hbg, ?_, h.ne⟩, ((((FieldR.refl w b _).setCell _ _ fun _ => .inr rfl).setCell _ _ fun _ => .inr rfl).setCell _ _ fun _ => .inr rfl).setCell _ _ fun _ => .inr rfl⟩
  have := h.recs.put4 (i := i) (r := lastRec q) (by simp [hi]) (.int .i64 p.1) (.int .i64 p.2.call) (.bool p.2.rep) (.string p.2.body)
  rw [List.map_set]; exact this
set_option maxRecDepth 20000 in
set_option maxHeartbeats 1000000 in
theorem refAsk_any (b : Nat) (v : Value) (L : List (Int × Last)) (c call : Int) (w : World) (h : RefDeskAt w b v L) (hn : (L.length + 1) * 40 ≤ 140737488355328) :
    Calls Try.prog 12 #[.pointer (some ⟨b, 0, none⟩), .int .i64 c, .int .i64 call] w fun e w' => e = .returned (.tuple #[.int .i64 ((viewOf L).ask c call).1, .string ((viewOf L).ask c call).2.1]) ∧ RefDeskTo w b v (L.length + 1) ((viewOf L).ask c call).2.2 w' := by
  have HD := Lib.hid h
  have c0 : w.cell? ⟨b, 0, none⟩ = some v := h.blk.cell 0
  have f0 := h.blk.frozen 0
  have HF := Lib.hid (find_any b v L c w h)
  have HA := Lib.hid h.after
  have HO : Hid (w.ownsRow 0 71 4 v L.length ((L.map lastRec).flatten)) := Lib.hid (by have := h.recs.own; rw [List.length_map] at this; exact this)
  clear h
  generalize hask : (viewOf L).ask c call = r
  have HASK := Lib.hid hask
  clear hask
  unfold View.ask at HASK
  go_enter Try.func12, Try.ntmps12
  go_wp2_with fail
  refine HF.out.mono ?_
  rintro e w1 ⟨rfl, ⟨rfl, hno⟩ | ⟨i, l, rfl, hi, hfirst⟩⟩
  · have HV := Lib.hid (viewOf_none hno)
    have HAP := Lib.hid (viewOf_app (l := ⟨call, false, ⟨#[]⟩⟩) hno)
    clear hno
    go_wp2_with (at_builtin; refine wpList_app rfl _ _ 36 rfl 0 71 _ 4 40 Try.underlying36 rlast_info rfl (by decide) v L.length _ rfl HO.out _ _ 1 1 rfl rfl rfl (by unfold maxLen; omega) (by omega) (Nat.zero_le _) ?_; intro v' w' hO hG hN; obtain ⟨c1, f1⟩ := HA.out w' hG.out; obtain ⟨A, cc, rfl⟩ := own_slice hO.out)
    go_ret2
    obtain ⟨p1, p2⟩ := HD.out.push (c, ⟨call, false, ⟨#[]⟩⟩) (by rw [List.length_map]; exact hO.out) hG.out hN.out
    rw [HV.out] at HASK
    rw [← HASK.out]
    exact ⟨rfl, _, _, p1, HAP.out, by simp, p2⟩
  · have HV := Lib.hid (viewOf_some hi hfirst)
    have HS := Lib.hid fun l' => viewOf_set (l' := l') hi hfirst
    have hil : i < L.length := (List.getElem?_eq_some_iff.1 hi).1
    obtain ⟨g, cap, rfl, hg, hgl, hcell, hfz⟩ := HD.out.recs.some (by rw [List.length_map]; omega)
    rw [List.length_map] at *
    have d1 : w.cell? ⟨g, i * 4 + 1, none⟩ = some (.int .i64 l.call) := hcell i (lastRec (c, l)) 1 _ (by simp [hi]) rfl
    have d2 : w.cell? ⟨g, i * 4 + 2, none⟩ = some (.bool l.rep) := hcell i (lastRec (c, l)) 2 _ (by simp [hi]) rfl
    have d3 : w.cell? ⟨g, i * 4 + 3, none⟩ = some (.string l.body) := hcell i (lastRec (c, l)) 3 _ (by simp [hi]) rfl
    have d0 : w.cell? ⟨g, i * 4, none⟩ = some (.int .i64 c) := hcell i (lastRec (c, l)) 0 _ (by simp [hi]) rfl
    have fz : ∀ j, w.frozen? ⟨g, j, none⟩ = false := hfz
    clear hcell hfz hfirst
    have HI := Lib.hid hi
    clear hi
    rw [HV.out] at HASK
    obtain ⟨lc, lr, lb⟩ := l
    dsimp only at *
    rcases Int.lt_trichotomy lc call with h | h | h
    · simp only [h, if_true] at HASK
      go_wp2_with fail
      go_ret2
      rw [← HASK.out]
      obtain ⟨p1, p2⟩ := HD.out.put HI.out (c, ⟨call, false, ⟨#[]⟩⟩)
      rw [List.length_map]
      exact ⟨rfl, _, _, p1, HS.out _, by simp, p2⟩
    · subst h
      simp only [Int.lt_irrefl, if_false] at HASK
      cases lr
      · simp only [Bool.false_eq_true, if_false] at HASK
        go_wp2_with fail
        go_ret2
        rw [← HASK.out]
        try rw [List.length_map]
        exact ⟨rfl, _, _, HD.out, rfl, by omega, FieldR.refl _ _ _⟩
      · simp only [if_true] at HASK
        go_wp2_with fail
        have i1 : (0 : Int) ≤ (i : Int) := by omega
        have i2 : (i : Int) < (L.length : Int) := by omega
        go_quiet (fail)
        go_wp2
        go_ret2
        rw [← HASK.out]
        try rw [List.length_map]
        exact ⟨rfl, _, _, HD.out.drewN _, rfl, by omega, (FieldR.refl _ _ _).drewN _⟩
    · have h2 : ¬ lc < call := by omega
      simp only [h, h2, if_true, if_false] at HASK
      go_wp2_with fail
      go_ret2
      rw [← HASK.out]
      try rw [List.length_map]
      exact ⟨rfl, _, _, HD.out, rfl, by omega, FieldR.refl _ _ _⟩
set_option maxRecDepth 20000 in
set_option maxHeartbeats 1000000 in
theorem refReply_any (b : Nat) (v : Value) (L : List (Int × Last)) (c call : Int) (body : ByteArray) (w : World) (h : RefDeskAt w b v L) :
    Calls Try.prog 13 #[.pointer (some ⟨b, 0, none⟩), .int .i64 c, .int .i64 call, .string body] w fun e w' => e = .returned (.bool ((viewOf L).reply c call body).1) ∧ RefDeskTo w b v L.length ((viewOf L).reply c call body).2 w' := by
  have HD := Lib.hid h
  have c0 : w.cell? ⟨b, 0, none⟩ = some v := h.blk.cell 0
  have HF := Lib.hid (find_any b v L c w h)
  clear h
  generalize hask : (viewOf L).reply c call body = r
  have HASK := Lib.hid hask
  clear hask
  unfold View.reply at HASK
  go_enter Try.func13, Try.ntmps13
  go_wp2_with fail
  refine HF.out.mono ?_
  rintro e w1 ⟨rfl, ⟨rfl, hno⟩ | ⟨i, l, rfl, hi, hfirst⟩⟩
  · have HV := Lib.hid (viewOf_none hno)
    clear hno
    go_wp2
    go_ret
    rw [HV.out] at HASK
    rw [← HASK.out]
    exact ⟨rfl, _, _, HD.out, rfl, Nat.le_refl _, FieldR.refl _ _ _⟩
  · have HV := Lib.hid (viewOf_some hi hfirst)
    have HS := Lib.hid fun l' => viewOf_set (l' := l') hi hfirst
    have hil : i < L.length := (List.getElem?_eq_some_iff.1 hi).1
    obtain ⟨g, cap, rfl, hg, hgl, hcell, hfz⟩ := HD.out.recs.some (by rw [List.length_map]; omega)
    rw [List.length_map] at *
    have d1 : w.cell? ⟨g, i * 4 + 1, none⟩ = some (.int .i64 l.call) := hcell i (lastRec (c, l)) 1 _ (by simp [hi]) rfl
    have d2 : w.cell? ⟨g, i * 4 + 2, none⟩ = some (.bool l.rep) := hcell i (lastRec (c, l)) 2 _ (by simp [hi]) rfl
    have d3 : w.cell? ⟨g, i * 4 + 3, none⟩ = some (.string l.body) := hcell i (lastRec (c, l)) 3 _ (by simp [hi]) rfl
    have d0 : w.cell? ⟨g, i * 4, none⟩ = some (.int .i64 c) := hcell i (lastRec (c, l)) 0 _ (by simp [hi]) rfl
    have fz : ∀ j, w.frozen? ⟨g, j, none⟩ = false := hfz
    have hbg : ¬ g = b := fun e => HD.out.ne (by rw [← e]; rfl)
    have hbg2 : ¬ b = g := fun e => hbg e.symm
    clear hcell hfz hfirst
    have HI := Lib.hid hi
    clear hi
    rw [HV.out] at HASK
    obtain ⟨lc, lr, lb⟩ := l
    dsimp only at *
    by_cases h : lc = call
    · subst h
      have hb : (lc != lc) = false := by simp
      cases lr
      · simp only [and_self, if_true] at HASK
        go_wp2
        go_ret
        rw [← HASK.out]
        have hbg : b ≠ g := hbg2
        have h1 := HD.out.recs.set (i := i) (j := 2) (by rw [List.getElem?_map, HI.out]; rfl) (by decide) (.bool true)
        have h2 := h1.set (i := i) (j := 3) (get_set (by rw [List.getElem?_map, HI.out]; rfl) _) (by decide) (.string body)
        try rw [List.length_map]
        refine ⟨rfl, _, L.set i (c, ⟨lc, true, body⟩), ⟨(HD.out.blk.other _ _ hbg).other _ _ hbg, ?_, HD.out.ne⟩, HS.out _, by simp, ((FieldR.refl w b _).setCell _ _ fun _ => .inr rfl).setCell _ _ fun _ => .inr rfl⟩
        rw [List.map_set]
        simpa [lastRec] using h2
      · simp only [Bool.true_eq_false, and_false, if_false] at HASK
        go_wp2
        go_ret
        rw [← HASK.out]
        try rw [List.length_map]
        exact ⟨rfl, _, _, HD.out, rfl, Nat.le_refl _, FieldR.refl _ _ _⟩
    · have hb : (lc != call) = true := by simp [h]
      simp only [h, false_and, if_false] at HASK
      go_wp2
      go_ret
      rw [← HASK.out]
      try rw [List.length_map]
      exact ⟨rfl, _, _, HD.out, rfl, Nat.le_refl _, FieldR.refl _ _ _⟩
theorem get_app {α : Type} (L : List α) (p : α) : (L ++ [p])[L.length]? = some p := by simp
theorem set_app {α : Type} (L : List α) (p q : α) : (L ++ [p]).set L.length q = L ++ [q] := by simp
set_option maxRecDepth 20000 in
set_option maxHeartbeats 1000000 in
theorem refSet_any (b : Nat) (v : Value) (L : List (Int × Last)) (c call : Int) (body : ByteArray) (w : World) (h : RefDeskAt w b v L) (hn : (L.length + 1) * 40 ≤ 140737488355328) :
    Calls Try.prog 15 #[.pointer (some ⟨b, 0, none⟩), .int .i64 c, .int .i64 call, .string body] w fun e w' => e = .returned (.tuple #[]) ∧ RefDeskTo w b v (L.length + 1) ((viewOf L).set c ⟨call, true, body⟩) w' := by
  have HD := Lib.hid h
  have c0 : w.cell? ⟨b, 0, none⟩ = some v := h.blk.cell 0
  have HF := Lib.hid (find_any b v L c w h)
  have HA := Lib.hid h.after
  have HO : Hid (w.ownsRow 0 71 4 v L.length ((L.map lastRec).flatten)) := Lib.hid (by have := h.recs.own; rw [List.length_map] at this; exact this)
  clear h
  go_enter Try.func15, Try.ntmps15
  go_wp2_with fail
  refine HF.out.mono ?_
  rintro e w1 ⟨rfl, ⟨rfl, hno⟩ | ⟨i, l, rfl, hi, hfirst⟩⟩
  · have HAP := Lib.hid (viewOf_app (l := ⟨call, true, body⟩) hno)
    clear hno
    go_upto_region 3 with (at_builtin; refine wpList_app rfl _ _ 36 rfl 0 71 _ 4 40 Try.underlying36 rlast_info rfl (by decide) v L.length _ rfl HO.out _ _ 1 1 rfl rfl rfl (by unfold maxLen; omega) (by omega) (Nat.zero_le _) ?_; intro v' w' hO hG hN; obtain ⟨c1, f1⟩ := HA.out w' hG.out; obtain ⟨A, cc, rfl⟩ := own_slice hO.out)
    obtain ⟨p1, p2⟩ := HD.out.push (0, ⟨0, false, ⟨#[]⟩⟩) (by rw [List.length_map]; simpa [lastRec] using hO.out) hG.out hN.out
    have HP1 := Lib.hid p1
    have HP2 := Lib.hid p2
    clear p1 p2 c1 f1 hO hG hN HA HO c0
    generalize w'.setCell ⟨b, 0, none⟩ (.slice A (L.length + 1) cc) = w2 at HP1 HP2 ⊢
    obtain ⟨g, cap, hv, hg, hgl, hcell, hfz⟩ := HP1.out.recs.some (by simp)
    rw [List.length_map, List.length_append, List.length_singleton] at hv
    cases hv
    have hi := get_app (L.map lastRec) (lastRec (0, ⟨0, false, ⟨#[]⟩⟩))
    rw [← List.map_singleton, ← List.map_append, List.length_map] at hi
    have d0 : w2.cell? ⟨g, L.length * 4, none⟩ = some (.int .i64 0) := hcell L.length _ 0 _ hi rfl
    have d1 : w2.cell? ⟨g, L.length * 4 + 1, none⟩ = some (.int .i64 0) := hcell L.length _ 1 _ hi rfl
    have d2 : w2.cell? ⟨g, L.length * 4 + 2, none⟩ = some (.bool false) := hcell L.length _ 2 _ hi rfl
    have d3 : w2.cell? ⟨g, L.length * 4 + 3, none⟩ = some (.string ⟨#[]⟩) := hcell L.length _ 3 _ hi rfl
    have c0 : w2.cell? ⟨b, 0, none⟩ = some (.slice (some ⟨g, 0, none⟩) (L.length + 1) cc) := HP1.out.blk.cell 0
    have fz : ∀ j, w2.frozen? ⟨g, j, none⟩ = false := hfz
    clear hcell hfz hi
    go_wp2
    go_end0
    obtain ⟨p1, p2⟩ := HP1.out.put (get_app L _) (c, ⟨call, true, body⟩)
    rw [set_app] at p1
    exact ⟨rfl, _, _, p1, HAP.out, by simp, HP2.out.trans p2⟩
  · have HS := Lib.hid fun l' => viewOf_set (l' := l') hi hfirst
    have hil : i < L.length := (List.getElem?_eq_some_iff.1 hi).1
    obtain ⟨g, cap, rfl, hg, hgl, hcell, hfz⟩ := HD.out.recs.some (by rw [List.length_map]; omega)
    rw [List.length_map] at *
    have d1 : w.cell? ⟨g, i * 4 + 1, none⟩ = some (.int .i64 l.call) := hcell i (lastRec (c, l)) 1 _ (by simp [hi]) rfl
    have d2 : w.cell? ⟨g, i * 4 + 2, none⟩ = some (.bool l.rep) := hcell i (lastRec (c, l)) 2 _ (by simp [hi]) rfl
    have d3 : w.cell? ⟨g, i * 4 + 3, none⟩ = some (.string l.body) := hcell i (lastRec (c, l)) 3 _ (by simp [hi]) rfl
    have d0 : w.cell? ⟨g, i * 4, none⟩ = some (.int .i64 c) := hcell i (lastRec (c, l)) 0 _ (by simp [hi]) rfl
    have fz : ∀ j, w.frozen? ⟨g, j, none⟩ = false := hfz
    clear hcell hfz hfirst
    have HI := Lib.hid hi
    clear hi
    go_wp2
    go_end0
    obtain ⟨p1, p2⟩ := HD.out.put HI.out (c, ⟨call, true, body⟩)
    try rw [List.length_map]
    exact ⟨rfl, _, _, p1, HS.out _, by simp, p2⟩
end Go.Proofs.Ytlndnjpgpbeeeaa
