/- Deliver. -/
import Derived.Test.YtiaknanflgdmoaaNetOps3
namespace Go.Proofs.Ytiaknanflgdmoaa
open Go.RowKit Go.Maps
set_option linter.unusedVariables false
set_option linter.unusedSimpArgs false
theorem Blk.put4 {w : World} {g : Nat} {a b c d : Value} {t : TypeId} (h : Blk w g [a, b, c, d] t) (x y z u : Value) :
    Blk ((((w.setCell ⟨g, 0, none⟩ x).setCell ⟨g, 1, none⟩ y).setCell ⟨g, 2, none⟩ z).setCell ⟨g, 3, none⟩ u) g [x, y, z, u] t := (((h.set 0 x).set 1 y).set 2 z).set 3 u
theorem fr_put4 (w : World) (g : Nat) (x y z u : Value) : Fr w ((((w.setCell ⟨g, 0, none⟩ x).setCell ⟨g, 1, none⟩ y).setCell ⟨g, 2, none⟩ z).setCell ⟨g, 3, none⟩ u) (fun j => j = g) := by
  refine Fr.setCell (Fr.setCell (Fr.setCell (Fr.setCell (Fr.refl w (fun j => j = g)) ⟨g, 0, none⟩ x ?_) ⟨g, 1, none⟩ y ?_) ⟨g, 2, none⟩ z ?_) ⟨g, 3, none⟩ u ?_
  all_goals exact fun _ => rfl
theorem Fr.thenNew {w w1 w2 : World} (h : Fr w w1 (fun _ => False)) {g : Nat} (hf : Fr w1 w2 (fun j => j = g)) (hg : w.heap.size ≤ g := by exact Nat.le_refl _) : Fr w w2 (fun _ => False) := h.trans hf fun x hx e => by omega
theorem NetR.drew1 {w w' : World} {b k : Nat} {v v' : Value} (h : NetR (w.drewN 1) b k v w' v') : NetR w b k v w' v' := ⟨h.lies, ⟨h.fr.os, h.fr.tape, h.fr.output, h.fr.size, h.fr.block⟩⟩
theorem put4_far {w : World} {g : Nat} {x y z u : Value} {q j : Nat} (h : q ≠ g) : ((((w.setCell ⟨g, 0, none⟩ x).setCell ⟨g, 1, none⟩ y).setCell ⟨g, 2, none⟩ z).setCell ⟨g, 3, none⟩ u).cell? ⟨q, j, none⟩ = w.cell? ⟨q, j, none⟩ := by
  have hne : ∀ k, (⟨g, k, none⟩ : Addr) ≠ ⟨q, j, none⟩ := fun k e => h (by injection e with e; exact e.symm)
  rw [World.cell?_setCell_other _ _ _ _ (hne 3), World.cell?_setCell_other _ _ _ _ (hne 2), World.cell?_setCell_other _ _ _ _ (hne 1), World.cell?_setCell_other _ _ _ _ (hne 0)]
theorem NetR.thenNew {w w1 w2 : World} {b k g : Nat} {v v' : Value} (h : NetR w b k v w1 v') (hf : Fr w1 w2 (fun j => j = g)) (hg : w.heap.size ≤ g) : NetR w b k v w2 v' := ⟨h.lies, h.fr.trans hf fun x hx e => by omega⟩
theorem letter_size : (Try.prog.info? 39).map (·.size) = some 4 := by kernel_rfl
def DelPost (w : World) (b k n : Nat) (v : Value) (r : NS × Letter × Int) (e : Ending) (w' : World) : Prop :=
  e = .returned (.tuple #[.agg r.2.1.cells.toArray, .int .i64 r.2.2]) ∧ ∃ v', NetIs w' b k n v' r.1 ∧ NetR w b k v w' v'
set_option maxHeartbeats 2000000 in
set_option maxRecDepth 20000 in
theorem deliver_any (b k n : Nat) (v : Value) (s : NS) (j : Int) (w : World) (h : NetIs w b k n v s) :
    Calls Try.prog 10 #[.pointer (some ⟨b, 0, none⟩), .int .i64 j] w (DelPost w b k n v (s.deliver j)) := by
  obtain ⟨A, cc, hv⟩ := h.at_.recs.slice
  rw [List.length_map] at hv
  have hlen := h.ok.len
  have hlt0 : b ≠ w.heap.size ∧ k ≠ w.heap.size ∧ ∀ j, v.ownBlock = some j → j ≠ w.heap.size := ⟨by have := h.lt.1; omega, by have := h.lt.2.1; omega, fun j e => by have := h.lt.2.2 j e; omega⟩
  have HLT0 := Lib.hid hlt0
  clear hlt0
  generalize hr : s.deliver j = r
  have HR := Lib.hid hr
  clear hr
  unfold NS.deliver at HR
  by_cases hj : 0 ≤ j ∧ j < s.fly.length
  · have hd : decide (0 ≤ j ∧ j < (s.fly.length : Int)) = true := by simpa using hj
    obtain ⟨i, rfl⟩ : ∃ i : Nat, j = i := ⟨j.toNat, by omega⟩
    obtain ⟨l, hl⟩ : ∃ l, s.fly[i]? = some l := ⟨s.fly[i]'(by omega), List.getElem?_eq_getElem _⟩
    rw [NS.has, hd, Int.toNat_natCast, hl] at HR
    simp only at HR
    obtain ⟨g, cap, hv', _, hgl, hcell, _⟩ := h.at_.recs.some (by rw [List.length_map]; omega)
    rw [List.length_map, hv] at hv'
    cases hv'
    have hce : ∀ j u, l.cells[j]? = some u → w.cell? ⟨g, i * 4 + j, none⟩ = some u := fun j u hu => hcell i l.cells j u (by simp [hl]) hu
    obtain ⟨hs0, hs1, hd0, hd1⟩ := h.ok.src l (List.mem_of_getElem? hl)
    have hwa := Lib.hid (i64_wf (n := l.src) (by omega) (by have := h.ok.n1; omega))
    have hwc := Lib.hid (i64_wf (n := l.dst) (by omega) (by have := h.ok.n1; omega))
    have hi1 : (i : Int) < s.fly.length := by omega
    have hi0 : (0 : Int) ≤ i := by omega
    have HE := Lib.hid hce
    have HLT := Lib.hid h.lt
    have HV := Lib.hid hv
    have HH := Lib.hid (h.alloc (.cells #[.int .i64 0, .int .i64 0, .int .i64 0, .string ⟨#[]⟩] 39))
    have HB := Lib.hid (Blk.new w [.int .i64 0, .int .i64 0, .int .i64 0, .string ⟨#[]⟩] 39)
    have HF := Lib.hid ((Fr.refl w (fun _ => False)).alloc (.cells #[.int .i64 0, .int .i64 0, .int .i64 0, .string ⟨#[]⟩] 39))
    rw [show ([.int .i64 0, .int .i64 0, .int .i64 0, .string ⟨#[]⟩] : List Value).toArray = #[.int .i64 0, .int .i64 0, .int .i64 0, .string ⟨#[]⟩] from rfl] at HB
    have HS : Hid ((w.alloc (.cells #[.int .i64 0, .int .i64 0, .int .i64 0, .string ⟨#[]⟩] 39)).heap.size = w.heap.size + 1) := Lib.hid (by simp)
    have HD := Lib.hid hd
    have HL := Lib.hid hl
    clear h hd hlen hce hcell hgl hl hs0 hs1 hd0 hd1
    go_enter Try.func10, Try.ntmps10
    go_wp2_with fail
    generalize w.alloc (.cells #[.int .i64 0, .int .i64 0, .int .i64 0, .string ⟨#[]⟩] 39) = w1 at HH HB HF HS ⊢
    have c2 : w1.cell? ⟨b, 2, none⟩ = some (.slice (some ⟨g, 0, none⟩) s.fly.length cc) := by rw [← HV.out]; exact HH.out.at_.blk.cell 2
    refine (has_any b _ s.fly.length _ i w1 c2).mono ?_
    rw [HD.out]
    rintro e w' ⟨rfl, rfl⟩
    have hce : ∀ j u, l.cells[j]? = some u → w1.cell? ⟨g, i * 4 + j, none⟩ = some u := fun j u hu => by
      have := HE.out j u hu
      rw [← this]; exact HF.out.cell (HLT.out.2.2 g (by rw [HV.out]; rfl)) id
    have e0 : w1.cell? ⟨g, i * 4, none⟩ = some (.int .i64 l.num) := hce 0 _ rfl
    have e1 : w1.cell? ⟨g, i * 4 + 1, none⟩ = some (.int .i64 l.src) := hce 1 _ rfl
    have e2 : w1.cell? ⟨g, i * 4 + 2, none⟩ = some (.int .i64 l.dst) := hce 2 _ rfl
    have e3 : w1.cell? ⟨g, i * 4 + 3, none⟩ = some (.string l.txt) := hce 3 _ rfl
    clear hce
    go_wp2_with fail
    have HH2 := Lib.hid (HH.out.alloc (.cells #[.int .i64 l.num, .int .i64 l.src, .int .i64 l.dst, .string l.txt] 39))
    have HB2 := Lib.hid (HB.out.alloc (.cells #[.int .i64 l.num, .int .i64 l.src, .int .i64 l.dst, .string l.txt] 39))
    have HL2 := Lib.hid (Blk.new w1 [.int .i64 l.num, .int .i64 l.src, .int .i64 l.dst, .string l.txt] 39)
    have HF2 := Lib.hid (HF.out.alloc (.cells #[.int .i64 l.num, .int .i64 l.src, .int .i64 l.dst, .string l.txt] 39))
    rw [show ([.int .i64 l.num, .int .i64 l.src, .int .i64 l.dst, .string l.txt] : List Value).toArray = #[.int .i64 l.num, .int .i64 l.src, .int .i64 l.dst, .string l.txt] from rfl] at HL2
    have hs1 := HS.out
    generalize hg1 : w1.heap.size = g1 at HL2 ⊢
    have hg2 : g1 = w.heap.size + 1 := by rw [← hg1]; exact hs1
    have hs2 : (w1.alloc (.cells #[.int .i64 l.num, .int .i64 l.src, .int .i64 l.dst, .string l.txt] 39)).heap.size = g1 + 1 := by rw [← hg1]; simp
    have HG := Lib.hid hg2
    have HS2 := Lib.hid hs2
    clear hs1 hg1 hs2 hg2 e0 e1 e2 e3 c2 HE
    generalize w1.alloc (.cells #[.int .i64 l.num, .int .i64 l.src, .int .i64 l.dst, .string l.txt] 39) = w2 at HH2 HB2 HL2 HF2 HS2 ⊢
    refine (parted_any b k n s.cut l.src l.dst hwa.out hwc.out w2 (HH2.out.at_.blk.cell 3) HH2.out.lt.1 HH2.out.at_.map).mono ?_
    rintro e w3 ⟨rfl, hb3⟩
    have HH3 := Lib.hid (HH2.out.below hb3 (Nat.le_refl _))
    have HB3 := Lib.hid (HB2.out.below hb3 HB2.out.lt)
    have HL3 := Lib.hid (HL2.out.below hb3 HL2.out.lt)
    have HF3 : Hid (Fr w w3 (fun _ => False)) := Lib.hid (HF2.out.trans (Fr.of_below (S := fun j => w2.heap.size ≤ j) hb3 fun _ e _ => e) fun x hx e => by have := HF2.out.size; omega)
    have HS3 := Lib.hid hb3.size
    clear hb3
    have z0 : w3.cell? ⟨w.heap.size, 0, none⟩ = some (.int .i64 0) := HB3.out.cell 0
    have z1 : w3.cell? ⟨w.heap.size, 1, none⟩ = some (.int .i64 0) := HB3.out.cell 1
    have z2 : w3.cell? ⟨w.heap.size, 2, none⟩ = some (.int .i64 0) := HB3.out.cell 2
    have z3 : w3.cell? ⟨w.heap.size, 3, none⟩ = some (.string ⟨#[]⟩) := HB3.out.cell 3
    have zf : ∀ j, w3.frozen? ⟨w.heap.size, j, none⟩ = false := HB3.out.frozen
    change Hid ((if s.cut (wayOf l.src l.dst) = true then _ else _) = r) at HR
    cases hcut : s.cut (wayOf l.src l.dst)
    · rw [hcut, if_neg (by decide)] at HR
      have HDR : Hid (s.drop i = ({ s with fly := s.fly.eraseIdx i }, 0)) := Lib.hid (by unfold NS.drop; rw [NS.has, HD.out, if_pos rfl]; simp)
      have HNE : Hid (¬ (g1 = b ∨ g1 = k ∨ v.ownBlock = some g1)) := Lib.hid (by have h1 := HLT.out; have h2 := HG.out; rintro (e | e | e); omega; omega; have := h1.2.2 g1 e; omega)
      have HNE0 : Hid (¬ (w.heap.size = b ∨ w.heap.size = k ∨ v.ownBlock = some w.heap.size)) := Lib.hid (by have h1 := HLT.out; rintro (e | e | e); omega; omega; have := h1.2.2 _ e; omega)
      have HG0 : Hid (g1 ≠ w.heap.size) := Lib.hid (by have := HG.out; omega)
      go_wp2_with fail
      have y0 : w3.drew.cell? ⟨g1, 0, none⟩ = some (.int .i64 l.num) := HL3.out.cell 0
      have y1 : w3.drew.cell? ⟨g1, 1, none⟩ = some (.int .i64 l.src) := HL3.out.cell 1
      have y2 : w3.drew.cell? ⟨g1, 2, none⟩ = some (.int .i64 l.dst) := HL3.out.cell 2
      have y3 : w3.drew.cell? ⟨g1, 3, none⟩ = some (.string l.txt) := HL3.out.cell 3
      clear z0 z1 z2 z3 zf
      go_region_held3 (fun w' => w'.cell? ⟨g1, 0, none⟩ = some (.int .i64 l.num) ∧ w'.cell? ⟨g1, 1, none⟩ = some (.int .i64 l.src) ∧ w'.cell? ⟨g1, 2, none⟩ = some (.int .i64 l.dst) ∧ w'.cell? ⟨g1, 3, none⟩ = some (.string l.txt))
        (first | exact ⟨y0, y1, y2, y3⟩ | exact ⟨x0, x1, x2, x3⟩ | exact ⟨(put4_far HG0.out).trans x0, (put4_far HG0.out).trans x1, (put4_far HG0.out).trans x2, (put4_far HG0.out).trans x3⟩)
        (first | (go_at_call 15; refine (drop_any b k n _ s i _ (HH3.out.drewN 1)).mono ?_; rw [HDR.out]; rintro e w4 ⟨rfl, v4, h4, r4⟩; have HL4 := Lib.hid (Blk.fr (HL3.out.drewN 1) r4.fr HNE.out); have HB4 := Lib.hid (Blk.fr (HB3.out.drewN 1) r4.fr HNE0.out); have x0 : w4.cell? ⟨g1, 0, none⟩ = some (.int .i64 l.num) := HL4.out.cell 0; have x1 : w4.cell? ⟨g1, 1, none⟩ = some (.int .i64 l.src) := HL4.out.cell 1; have x2 : w4.cell? ⟨g1, 2, none⟩ = some (.int .i64 l.dst) := HL4.out.cell 2; have x3 : w4.cell? ⟨g1, 3, none⟩ = some (.string l.txt) := HL4.out.cell 3; have z0 : w4.cell? ⟨w.heap.size, 0, none⟩ = some (.int .i64 0) := HB4.out.cell 0; have z1 : w4.cell? ⟨w.heap.size, 1, none⟩ = some (.int .i64 0) := HB4.out.cell 1; have z2 : w4.cell? ⟨w.heap.size, 2, none⟩ = some (.int .i64 0) := HB4.out.cell 2; have z3 : w4.cell? ⟨w.heap.size, 3, none⟩ = some (.string ⟨#[]⟩) := HB4.out.cell 3; have zf := HB4.out.frozen; have H4 := Lib.hid h4; have R4 := Lib.hid r4; clear h4 r4))
      clear x0 x1 x2 x3 z0 z1 z2 z3 zf y0 y1 y2 y3
      go_wp2_with fail
      refine bodyPost_ret (results_row_tmp rfl _ _ w.heap.size 39 _ (0, 0) _ rfl (HB4.out.put4 _ _ _ _) Try.underlying39 rfl letter_size) rfl ?_
      rw [← HR.out]
      have hf : Fr w4 _ (fun j => j = w.heap.size) := fr_put4 w4 w.heap.size (.int .i64 l.num) (.int .i64 l.src) (.int .i64 l.dst) (.string l.txt)
      have hlt4 := H4.out.lt
      refine ⟨rfl, _, H4.out.fr hf HLT0.out.1 HLT0.out.2.1 (fun j e e' => ?_), ((NetR.of_fr HF3.out b k _).trans (NetR.drew1 R4.out)).thenNew hf (Nat.le_refl _)⟩
      rcases (NetR.drew1 R4.out).lies with e1 | ⟨g', e1, e2⟩
      · rw [e1] at e; exact HLT0.out.2.2 j e e'
      · rw [e1] at e
        have e := Option.some.inj e
        have := HB3.out.lt
        omega
    · rw [hcut, if_pos rfl] at HR
      go_wp2_with fail
      refine bodyPost_ret (results_row_tmp rfl _ _ w.heap.size 39 _ (0, 0) _ rfl (HB3.out.put4 _ _ _ _) Try.underlying39 rfl letter_size) rfl ?_
      rw [← HR.out]
      have hf : Fr w3 _ (fun j => j = w.heap.size) := fr_put4 w3 w.heap.size (.int .i64 0) (.int .i64 0) (.int .i64 0) (.string ⟨#[]⟩)
      exact ⟨rfl, _, HH3.out.fr hf HLT0.out.1 HLT0.out.2.1 HLT0.out.2.2, NetR.of_fr (HF3.out.thenNew hf) b k _⟩
  · have hd : decide (0 ≤ j ∧ j < (s.fly.length : Int)) = false := by simpa using hj
    have HR2 : Hid ((s, noLetter, (2 : Int)) = r) := by rw [← HR.out, NS.has, hd]; exact rfl
    have HH := Lib.hid (h.alloc (.cells #[.int .i64 0, .int .i64 0, .int .i64 0, .string ⟨#[]⟩] 39))
    have HB := Lib.hid (Blk.new w [.int .i64 0, .int .i64 0, .int .i64 0, .string ⟨#[]⟩] 39)
    have HF := Lib.hid ((Fr.refl w (fun _ => False)).alloc (.cells #[.int .i64 0, .int .i64 0, .int .i64 0, .string ⟨#[]⟩] 39))
    rw [show ([.int .i64 0, .int .i64 0, .int .i64 0, .string ⟨#[]⟩] : List Value).toArray = #[.int .i64 0, .int .i64 0, .int .i64 0, .string ⟨#[]⟩] from rfl] at HB
    have HD := Lib.hid hd
    clear h hd hlen HR
    go_enter Try.func10, Try.ntmps10
    go_wp2_with fail
    generalize w.alloc (.cells #[.int .i64 0, .int .i64 0, .int .i64 0, .string ⟨#[]⟩] 39) = w1 at HH HB HF ⊢
    have c2 : w1.cell? ⟨b, 2, none⟩ = some (.slice A s.fly.length cc) := by rw [← hv]; exact HH.out.at_.blk.cell 2
    refine (has_any b _ s.fly.length _ j w1 c2).mono ?_
    rw [HD.out]
    rintro e w' ⟨rfl, rfl⟩
    have z0 : w1.cell? ⟨w.heap.size, 0, none⟩ = some (.int .i64 0) := HB.out.cell 0
    have z1 : w1.cell? ⟨w.heap.size, 1, none⟩ = some (.int .i64 0) := HB.out.cell 1
    have z2 : w1.cell? ⟨w.heap.size, 2, none⟩ = some (.int .i64 0) := HB.out.cell 2
    have z3 : w1.cell? ⟨w.heap.size, 3, none⟩ = some (.string ⟨#[]⟩) := HB.out.cell 3
    have zf : ∀ j, w1.frozen? ⟨w.heap.size, j, none⟩ = false := HB.out.frozen
    go_wp2_with fail
    refine bodyPost_ret (results_row_tmp rfl _ _ w.heap.size 39 _ (0, 0) _ rfl (HB.out.put4 _ _ _ _) Try.underlying39 rfl letter_size) rfl ?_
    rw [← HR2.out]
    have hf : Fr w1 _ (fun j => j = w.heap.size) := fr_put4 w1 w.heap.size (.int .i64 0) (.int .i64 0) (.int .i64 0) (.string ⟨#[]⟩)
    exact ⟨rfl, _, HH.out.fr hf HLT0.out.1 HLT0.out.2.1 HLT0.out.2.2, NetR.of_fr (HF.out.thenNew hf) b k v⟩
end Go.Proofs.Ytiaknanflgdmoaa
