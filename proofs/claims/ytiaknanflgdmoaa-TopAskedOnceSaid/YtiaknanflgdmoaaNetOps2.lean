/- More calls on a net. -/
import Derived.Test.YtiaknanflgdmoaaNetOps
namespace Go.Proofs.Ytiaknanflgdmoaa
open Go.RowKit Go.Maps
set_option linter.unusedVariables false
set_option linter.unusedSimpArgs false
theorem flying_any (b k n : Nat) (v : Value) (s : NS) (w : World) (h : NetIs w b k n v s) :
    Calls Try.prog 8 #[.pointer (some ⟨b, 0, none⟩)] w fun e w' => ∃ v', e = .returned v' ∧ Recs w' w.heap.size 39 4 v' (s.fly.map Letter.cells) ∧ Below w.heap.size w w' := by
  have c2 : w.cell? ⟨b, 2, none⟩ = some v := h.at_.blk.cell 2
  have hl := h.ok.len
  have H := Lib.hid h
  clear h
  go_enter Try.func8, Try.ntmps8
  go_wp2_with fail
  refine (clone_any v 0 s.fly w H.out.at_.recs (by omega)).mono ?_
  rintro e w' ⟨v', rfl, h1, h2⟩
  go_wp2_with fail
  go_ret
  exact ⟨_, rfl, h1, h2⟩
theorem flying_nil (w : World) : Calls Try.prog 8 #[.pointer none] w fun e w' => e = .returned (.slice none 0 0) ∧ w = w' := by
  go_enter Try.func8, Try.ntmps8
  go_wp2_with fail
  go_ret
  exact ⟨rfl, rfl⟩
def IntPost (w : World) (b k n : Nat) (v : Value) (r : NS × Int) (e : Ending) (w' : World) : Prop :=
  e = .returned (.int .i64 r.2) ∧ ∃ v', NetIs w' b k n v' r.1 ∧ NetR w b k v w' v'
theorem IntPost.same {w : World} {b k n : Nat} {v : Value} {s : NS} {r : NS × Int} {x : Int} (h : NetIs w b k n v s) (hr : (s, x) = r) : IntPost w b k n v r (.returned (.int .i64 x)) w := by
  subst hr; exact ⟨rfl, _, h, NetR.refl _ _ _ _⟩
theorem NetAt.cutAt {w w' : World} {b k n : Nat} {nodes sent : Int} {v : Value} {L : List Letter} {g : Int × Int → Option Value} {j h cap : Nat} (hN : NetAt w b nodes sent v L k n g)
    (hv : v = .slice (some ⟨h, 0, none⟩) L.length cap) (hR : Recs w' 0 39 4 (.slice (some ⟨h, 0, none⟩) (L.length - 1) cap) ((L.eraseIdx j).map Letter.cells)) (hf : Fr w w' (fun x => x = h)) :
    NetAt (w'.setCell ⟨b, 2, none⟩ (.slice (some ⟨h, 0, none⟩) (L.length - 1) cap)) b nodes sent (.slice (some ⟨h, 0, none⟩) (L.length - 1) cap) (L.eraseIdx j) k n g ∧ NetR w b k v (w'.setCell ⟨b, 2, none⟩ (.slice (some ⟨h, 0, none⟩) (L.length - 1) cap)) (.slice (some ⟨h, 0, none⟩) (L.length - 1) cap) := by
  subst hv
  have hne := hN.ne
  have hmn := hN.mapNe
  have hbh : b ≠ h := fun e => hne (by rw [e]; rfl)
  have hkh : k ≠ h := fun e => hmn.2 (by rw [e]; rfl)
  have hf2 : Fr w' (w'.setCell ⟨b, 2, none⟩ (.slice (some ⟨h, 0, none⟩) (L.length - 1) cap)) (fun j => j = b) := (Fr.refl w' _).setCell _ _ fun _ => rfl
  refine ⟨⟨(hN.blk.fr hf hbh).set 2 _, hR.fr hf2 (fun j e e' => by cases e; exact hbh e'.symm), (hN.map.fr hf hkh).fr hf2 (fun e => hmn.1 e.symm), hne⟩, .inl rfl, ?_⟩
  exact (hf.mono (T := fun j => j = b ∨ j = k ∨ (Value.slice (some ⟨h, 0, none⟩) L.length cap).ownBlock = some j) fun _ _ e => .inr (.inr (by rw [e]; rfl))).trans hf2 fun _ _ e => .inl e
theorem NS.Ok.erase {s : NS} (h : s.Ok) (j : Nat) : NS.Ok { s with fly := s.fly.eraseIdx j } :=
  ⟨h.n0, h.n1, h.s0, by have := List.length_eraseIdx_le s.fly j; have := h.len; show (s.fly.eraseIdx j).length ≤ _; omega, fun l hl => h.src l (List.mem_of_mem_eraseIdx hl)⟩
set_option maxHeartbeats 1000000 in
theorem drop_any (b k n : Nat) (v : Value) (s : NS) (j : Int) (w : World) (h : NetIs w b k n v s) :
    Calls Try.prog 15 #[.pointer (some ⟨b, 0, none⟩), .int .i64 j] w (IntPost w b k n v (s.drop j)) := by
  obtain ⟨A, cc, hv⟩ := h.at_.recs.slice
  rw [List.length_map] at hv
  have hlen := h.ok.len
  have c2 : w.cell? ⟨b, 2, none⟩ = some (.slice A s.fly.length cc) := by rw [← hv]; exact h.at_.blk.cell 2
  have fz : ∀ j, w.frozen? ⟨b, j, none⟩ = false := fun j => h.at_.blk.frozen j
  generalize hr : s.drop j = r
  have HR := Lib.hid hr
  clear hr
  unfold NS.drop at HR
  by_cases hj : 0 ≤ j ∧ j < s.fly.length
  · have hd : decide (0 ≤ j ∧ j < (s.fly.length : Int)) = true := by simpa using hj
    rw [NS.has, hd, if_pos rfl] at HR
    obtain ⟨i, rfl⟩ : ∃ i : Nat, j = i := ⟨j.toNat, by omega⟩
    obtain ⟨g, cap, hv', _, _, _, _⟩ := h.at_.recs.some (by rw [List.length_map]; omega)
    rw [List.length_map, hv] at hv'
    cases hv'
    have hil : i < s.fly.length := by omega
    have H := Lib.hid h
    have HV := Lib.hid hv
    have HC := Lib.hid c2
    have HD := Lib.hid hd
    have HFZ := Lib.hid fz
    have HIL := Lib.hid hil
    have hi2 : (i : Int) + 1 ≤ 65536 := by omega
    clear h hv hd fz hil hlen hj
    go_enter Try.func15, Try.ntmps15
    go_wp2_with fail
    refine (has_any b _ s.fly.length _ i w HC.out).mono ?_
    rw [HD.out]
    rintro e w' ⟨rfl, rfl⟩
    go_wp2_with fail
    with_reducible refine Calls.mono (delete_any g _ i 0 s.fly HIL.out w (HV.out ▸ H.out.at_.recs)) ?_
    rintro e w1 ⟨rfl, h1, h2⟩
    have hp := H.out.at_.cutAt HV.out h1 h2
    have HP := Lib.hid hp
    have hz := h2.frozen (p := ⟨b, 2, none⟩) H.out.lt.1 (fun e => H.out.at_.ne (by rw [HV.out]; exact congrArg some e.symm))
    rw [HFZ.out] at hz
    have hcs := h2.cell (p := ⟨b, 2, none⟩) H.out.lt.1 (fun e => H.out.at_.ne (by rw [HV.out]; exact congrArg some e.symm))
    rw [HC.out] at hcs
    clear h1 h2 hp c2
    go_wp2_with fail
    go_ret
    rw [← HR.out]
    exact ⟨rfl, _, ⟨by simpa using HP.out.1, H.out.ok.erase _⟩, HP.out.2⟩
  · have hd : decide (0 ≤ j ∧ j < (s.fly.length : Int)) = false := by simpa using hj
    rw [NS.has, hd, if_neg (by decide)] at HR
    have H := Lib.hid h
    have HC := Lib.hid c2
    have HD := Lib.hid hd
    clear h hv hd fz c2 hlen
    go_enter Try.func15, Try.ntmps15
    go_wp2_with fail
    refine (has_any b _ s.fly.length _ j w HC.out).mono ?_
    rw [HD.out]
    rintro e w' ⟨rfl, rfl⟩
    go_wp2_with fail
    go_ret
    exact IntPost.same H.out HR.out
theorem NS.Ok.again {s : NS} (h : s.Ok) {l : Letter} (hl : s.fly.length + 1 ≤ 65536) (hm : l ∈ s.fly) : NS.Ok { s with fly := s.fly ++ [l] } := by
  refine ⟨h.n0, h.n1, h.s0, by simpa using hl, fun x hx => ?_⟩
  rcases List.mem_append.1 hx with hx | hx
  · exact h.src x hx
  · rw [List.mem_singleton.1 hx]; exact h.src l hm
set_option maxHeartbeats 2000000 in
set_option maxRecDepth 20000 in
theorem double_any (b k n : Nat) (v : Value) (s : NS) (j : Int) (w : World) (h : NetIs w b k n v s) :
    Calls Try.prog 16 #[.pointer (some ⟨b, 0, none⟩), .int .i64 j] w (IntPost w b k n v (s.double j)) := by
  obtain ⟨A, cc, hv⟩ := h.at_.recs.slice
  rw [List.length_map] at hv
  have hlen := h.ok.len
  have c2 : w.cell? ⟨b, 2, none⟩ = some (.slice A s.fly.length cc) := by rw [← hv]; exact h.at_.blk.cell 2
  have hfz : ∀ j, w.frozen? ⟨b, j, none⟩ = false := fun j => h.at_.blk.frozen j
  have HFZ := Lib.hid hfz
  clear hfz
  generalize hr : s.double j = r
  have HR := Lib.hid hr
  clear hr
  unfold NS.double at HR
  by_cases hj : 0 ≤ j ∧ j < s.fly.length
  · have hd : decide (0 ≤ j ∧ j < (s.fly.length : Int)) = true := by simpa using hj
    obtain ⟨i, rfl⟩ : ∃ i : Nat, j = i := ⟨j.toNat, by omega⟩
    obtain ⟨l, hl⟩ : ∃ l, s.fly[i]? = some l := ⟨s.fly[i]'(by omega), List.getElem?_eq_getElem _⟩
    rw [NS.has, hd, Int.toNat_natCast, hl] at HR
    simp only at HR
    by_cases h2 : 65536 ≤ s.fly.length
    · rw [if_pos h2] at HR
      have h3 : decide ((65536 : Int) ≤ (s.fly.length : Int)) = true := by simpa using (by omega)
      have H := Lib.hid h
      have HC := Lib.hid c2
      have HD := Lib.hid hd
      clear h hv hd hlen hj h2 hl
      go_enter Try.func16, Try.ntmps16
      go_wp2_with fail
      refine (has_any b _ s.fly.length _ i w HC.out).mono ?_
      rw [HD.out]
      rintro e w' ⟨rfl, rfl⟩
      go_wp2_with fail
      go_ret
      exact IntPost.same H.out HR.out
    · rw [if_neg h2] at HR
      have h3 : decide ((65536 : Int) ≤ (s.fly.length : Int)) = false := by simpa using (by omega)
      obtain ⟨g, cap, hv', _, hgl, hcell, _⟩ := h.at_.recs.some (by rw [List.length_map]; omega)
      rw [List.length_map, hv] at hv'
      cases hv'
      have hce : ∀ j u, l.cells[j]? = some u → w.cell? ⟨g, i * 4 + j, none⟩ = some u := fun j u hu => hcell i l.cells j u (by simp [hl]) hu
      have e0 : w.drew.cell? ⟨g, i * 4, none⟩ = some (.int .i64 l.num) := hce 0 _ rfl
      have e1 : w.drew.cell? ⟨g, i * 4 + 1, none⟩ = some (.int .i64 l.src) := hce 1 _ rfl
      have e2 : w.drew.cell? ⟨g, i * 4 + 2, none⟩ = some (.int .i64 l.dst) := hce 2 _ rfl
      have e3 : w.drew.cell? ⟨g, i * 4 + 3, none⟩ = some (.string l.txt) := hce 3 _ rfl
      have d2 : w.drew.cell? ⟨b, 2, none⟩ = some (.slice (some ⟨g, 0, none⟩) s.fly.length cc) := c2
      have d3 : ∀ o, (w.alloc o).cell? ⟨b, 2, none⟩ = some (.slice (some ⟨g, 0, none⟩) s.fly.length cc) := fun o => Lib.cell?_alloc_some _ c2
      have HO : Hid (w.ownsRow 0 39 4 (.slice (some ⟨g, 0, none⟩) s.fly.length cc) s.fly.length (s.fly.map Letter.cells).flatten) := Lib.hid (by have := h.at_.recs.own; rw [hv, List.length_map] at this; exact this)
      have HL1 : Hid (s.fly.length + 1 ≤ maxLen) := Lib.hid (by unfold maxLen; omega)
      have HL2 : Hid ((s.fly.length + 1) * 40 ≤ 140737488355328) := Lib.hid (by omega)
      have HK1 : Hid (∀ w', w.grownBy w' (Value.slice (some ⟨g, 0, none⟩) s.fly.length cc).ownBlock → w'.frozen? ⟨b, 2, none⟩ = false ∧ (w'.cell? ⟨b, 2, none⟩).isSome = true) := Lib.hid fun w' hg => by
        have hB := h.at_.blk.fr (Fr.of_grown hg (S := fun j => (Value.slice (some ⟨g, 0, none⟩) s.fly.length cc).ownBlock = some j) fun _ e => e) (hv ▸ h.at_.ne)
        exact ⟨hB.frozen 2, by rw [hB.cell 2]; rfl⟩
      have hi1 : (i : Int) < s.fly.length := by omega
      have hi0 : (0 : Int) ≤ i := by omega
      have H := Lib.hid h
      have HC := Lib.hid c2
      have HD := Lib.hid hd
      have HV := Lib.hid hv
      have HL := Lib.hid hl
      have H2 := Lib.hid h2
      clear h hv hd hj h2 hl hcell hce hgl hlen
      go_enter Try.func16, Try.ntmps16
      go_wp2_with fail
      refine (has_any b _ s.fly.length _ i w HC.out).mono ?_
      rw [HD.out]
      rintro e w' ⟨rfl, rfl⟩
      go_wp2_with fail
      go_region_law ((refine step_app_d (by rfl) (.tmp 21) (.tmp 29) 34 (by rfl) 0 39 _ 4 40 Try.underlying34 letter_infoS rfl (by decide) (.slice (some ⟨g, 0, none⟩) s.fly.length cc) s.fly.length _ (by rfl) HO.out [.int .i64 l.num, .int .i64 l.src, .int .i64 l.dst, .string l.txt] 39 1 1 (by rfl) (by rfl) (by rfl) HL1.out HL2.out (Nat.zero_le _) ?_; intro v' w' hO hG hN; obtain ⟨k1, k2⟩ := HK1.out w' hG.out; obtain ⟨k3, hk3⟩ := Option.isSome_iff_exists.1 k2; obtain ⟨A', c', rfl⟩ := own_slice hO.out))
      all_goals
        have hp := H.out.at_.push l (by rw [HV.out] at *; exact hO.out) (by rw [HV.out]; exact hG.out) (by rw [HV.out]; exact hN.out)
        have HP := Lib.hid hp
        clear hp hO hG hN d2 d3 HK1 e0 e1 e2 e3 hk3 k2
        go_wp2_with fail
        go_ret
        rw [← HR.out]
        exact ⟨rfl, _, ⟨HP.out.1, H.out.ok.again (by have := H2.out; omega) (List.mem_of_getElem? HL.out)⟩, HP.out.2⟩
  · have hd : decide (0 ≤ j ∧ j < (s.fly.length : Int)) = false := by simpa using hj
    have HR2 : Hid ((s, (2 : Int)) = r) := by rw [← HR.out, NS.has, hd]; exact rfl
    have H := Lib.hid h
    have HC := Lib.hid c2
    have HD := Lib.hid hd
    clear h hv hd c2 hlen HR
    go_enter Try.func16, Try.ntmps16
    go_wp2_with fail
    refine (has_any b _ s.fly.length _ j w HC.out).mono ?_
    rw [HD.out]
    rintro e w' ⟨rfl, rfl⟩
    go_wp2_with fail
    go_ret
    exact IntPost.same H.out HR2.out
end Go.Proofs.Ytiaknanflgdmoaa
