/- The reference's Double and Deliver. -/
import Derived.Test.YtimaifehjgolmaaNetRef4
namespace Go.Proofs.Ytimaifehjgolmaa
open Go.RowKit Go.Maps
set_option linter.unusedVariables false
set_option linter.unusedSimpArgs false
set_option maxHeartbeats 2000000 in
set_option maxRecDepth 20000 in
theorem rdouble_any (b : Nat) (v : Value) (s : NS) (j : Int) (w : World) (h : RefIs w b v s) (hok : s.Ok) :
    Calls Try.prog 21 #[.pointer (some ⟨b, 0, none⟩), .int .i64 j] w (RPost w b v (s.double j)) := by
  obtain ⟨A, cc, hv⟩ := h.recs.slice
  rw [List.length_map] at hv
  have hlen := hok.len
  have c2 : w.cell? ⟨b, 2, none⟩ = some (.slice A s.fly.length cc) := by rw [← hv]; exact h.c2
  generalize hr : s.double j = r
  have HR := Lib.hid hr
  clear hr
  unfold NS.double at HR
  by_cases hj : 0 ≤ j ∧ j < s.fly.length
  · have hd : decide (0 ≤ j ∧ j < (s.fly.length : Int)) = true := by simpa using hj
    obtain ⟨i, rfl⟩ : ∃ i : Nat, j = i := ⟨j.toNat, by omega⟩
    obtain ⟨l, hl⟩ : ∃ l, s.fly[i]? = some l := ⟨s.fly[i]'(by omega), List.getElem?_eq_getElem _⟩
    rw [NS.has, hd, Int.toNat_natCast, hl] at HR
    simp only at HR
    have hi1 : (i : Int) < s.fly.length := by omega
    have hi0 : (0 : Int) ≤ i := by omega
    by_cases h2 : 65536 ≤ s.fly.length
    · rw [if_pos h2] at HR
      have h3 : decide ((65536 : Int) ≤ (s.fly.length : Int)) = true := by simpa using (by omega)
      have H := Lib.hid h
      clear h hv hd hlen hj h2 hl
      go_enter Try.func21, Try.ntmps21
      go_wp2_with fail
      go_ret
      exact RPost.same H.out HR.out
    · rw [if_neg h2] at HR
      have h3 : decide ((65536 : Int) ≤ (s.fly.length : Int)) = false := by simpa using (by omega)
      obtain ⟨g, cap, hv', _, hgl, hcell, _⟩ := h.recs.some (by rw [List.length_map]; omega)
      rw [List.length_map, hv] at hv'
      cases hv'
      have hce : ∀ j u, l.cells[j]? = some u → w.cell? ⟨g, i * 4 + j, none⟩ = some u := fun j u hu => hcell i l.cells j u (by simp [hl]) hu
      have e0 : w.drew.cell? ⟨g, i * 4, none⟩ = some (.int .i64 l.num) := hce 0 _ rfl
      have e1 : w.drew.cell? ⟨g, i * 4 + 1, none⟩ = some (.int .i64 l.src) := hce 1 _ rfl
      have e2 : w.drew.cell? ⟨g, i * 4 + 2, none⟩ = some (.int .i64 l.dst) := hce 2 _ rfl
      have e3 : w.drew.cell? ⟨g, i * 4 + 3, none⟩ = some (.string l.txt) := hce 3 _ rfl
      have d2 : w.drew.cell? ⟨b, 2, none⟩ = some (.slice (some ⟨g, 0, none⟩) s.fly.length cc) := c2
      have d3 : ∀ o, (w.alloc o).cell? ⟨b, 2, none⟩ = some (.slice (some ⟨g, 0, none⟩) s.fly.length cc) := fun o => Lib.cell?_alloc_some _ c2
      have HO : Hid (w.ownsRow 0 48 4 (.slice (some ⟨g, 0, none⟩) s.fly.length cc) s.fly.length (s.fly.map Letter.cells).flatten) := Lib.hid (by have := h.recs.own; rw [hv, List.length_map] at this; exact this)
      have HL1 : Hid (s.fly.length + 1 ≤ maxLen) := Lib.hid (by unfold maxLen; omega)
      have HL2 : Hid ((s.fly.length + 1) * 40 ≤ 140737488355328) := Lib.hid (by omega)
      have HK1 : Hid (∀ w', w.grownBy w' (Value.slice (some ⟨g, 0, none⟩) s.fly.length cc).ownBlock → w'.frozen? ⟨b, 2, none⟩ = false ∧ (w'.cell? ⟨b, 2, none⟩).isSome = true) := Lib.hid fun w' hg => by
        obtain ⟨cs, _, hB, _⟩ := h.blk
        have hB := hB.fr (Fr.of_grown hg (S := fun j => (Value.slice (some ⟨g, 0, none⟩) s.fly.length cc).ownBlock = some j) fun _ e => e) (hv ▸ h.ne)
        exact ⟨hB.frozen 2, by rw [hB.cell 2]; rfl⟩
      have H := Lib.hid h
      have HV := Lib.hid hv
      have H2 := Lib.hid h2
      clear h hv hd hj h2 hl hcell hce hgl hlen
      go_enter Try.func21, Try.ntmps21
      go_wp2_with fail
      go_region_law ((refine step_app_d (by rfl) (.tmp 26) (.tmp 34) 55 (by rfl) 0 48 _ 4 40 Try.underlying55 rletter_info rfl (by decide) (.slice (some ⟨g, 0, none⟩) s.fly.length cc) s.fly.length _ (by rfl) HO.out [.int .i64 l.num, .int .i64 l.src, .int .i64 l.dst, .string l.txt] 48 1 1 (by rfl) (by rfl) (by rfl) HL1.out HL2.out (Nat.zero_le _) ?_; intro v' w' hO hG hN; obtain ⟨k1, k2⟩ := HK1.out w' hG.out; obtain ⟨k3, hk3⟩ := Option.isSome_iff_exists.1 k2; obtain ⟨A', c', rfl⟩ := own_slice hO.out))
      all_goals
        have hp := H.out.push l (by rw [HV.out] at *; exact hO.out) (by rw [HV.out]; exact hG.out) (by rw [HV.out]; exact hN.out)
        have HP := Lib.hid hp
        clear hp hO hG hN d2 d3 HK1 e0 e1 e2 e3 hk3 k2
        go_wp2_with fail
        go_ret
        rw [← HR.out]
        exact ⟨rfl, _, HP.out.1, .of HP.out.2⟩
  · have hd : decide (0 ≤ j ∧ j < (s.fly.length : Int)) = false := by simpa using hj
    have HR2 : Hid ((s, (2 : Int)) = r) := by rw [← HR.out, NS.has, hd]; exact rfl
    have H := Lib.hid h
    clear h hv hd HR
    by_cases h1 : j < 0
    · clear hj
      go_enter Try.func21, Try.ntmps21
      go_wp2_with fail
      go_ret
      exact RPost.same H.out HR2.out
    · have h2 : ¬ j < s.fly.length := by omega
      clear hj
      go_enter Try.func21, Try.ntmps21
      go_wp2_with fail
      go_ret
      exact RPost.same H.out HR2.out
theorem rletter_size : (Try.prog.info? 48).map (·.size) = some 4 := by kernel_rfl
def RDelPost (w : World) (b : Nat) (v : Value) (r : NS × Letter × Int) (e : Ending) (w' : World) : Prop :=
  e = .returned (.tuple #[.agg #[.int .i64 r.2.1.num, .int .i64 r.2.1.src, .int .i64 r.2.1.dst, .string r.2.1.txt], .int .i64 r.2.2]) ∧ ∃ v', RefIs w' b v' r.1 ∧ RefR w b v w' v'
theorem RefR.of_fr {w w' : World} (h : Fr w w' (fun _ => False)) (b : Nat) (v : Value) : RefR w b v w' v := ⟨fun j e => .inl e, h.mono fun _ _ e => e.elim⟩
theorem RefR.trans {a c d : World} {b : Nat} {v v' v'' : Value} (h : RefR a b v c v') (k : RefR c b v' d v'') : RefR a b v d v'' := by
  have hs := h.fr.size
  refine ⟨fun j e => ?_, h.fr.trans k.fr ?_⟩
  · rcases k.lies j e with e1 | e1
    · exact h.lies j e1
    · exact .inr (by omega)
  · intro x hx e
    rcases e with rfl | e
    · exact .inl rfl
    · rcases h.lies x e with e1 | e1
      · exact .inr e1
      · omega
theorem RefR.thenNew {w w1 w2 : World} {b g : Nat} {v v' : Value} (h : RefR w b v w1 v') (hf : Fr w1 w2 (fun j => j = g)) (hg : w.heap.size ≤ g) : RefR w b v w2 v' := ⟨h.lies, h.fr.trans hf fun x hx e => by omega⟩
set_option maxHeartbeats 2000000 in
set_option maxRecDepth 20000 in
theorem rdeliver_any (b : Nat) (v : Value) (s : NS) (j : Int) (w : World) (h : RefIs w b v s) (hok : s.Ok) :
    Calls Try.prog 17 #[.pointer (some ⟨b, 0, none⟩), .int .i64 j] w (RDelPost w b v (s.deliver j)) := by
  obtain ⟨A, cc, hv⟩ := h.recs.slice
  rw [List.length_map] at hv
  have hlen := hok.len
  have hltb := h.lt
  have HLT0 : Hid (b ≠ w.heap.size ∧ ∀ j, v.ownBlock = some j → j ≠ w.heap.size) := Lib.hid ⟨by omega, fun j e => by have := h.vlt j e; omega⟩
  generalize hr : s.deliver j = r
  have HR := Lib.hid hr
  clear hr
  unfold NS.deliver at HR
  have HH := Lib.hid (h.alloc (.cells #[.int .i64 0, .int .i64 0, .int .i64 0, .string ⟨#[]⟩] 48))
  have HB := Lib.hid (Blk.new w [.int .i64 0, .int .i64 0, .int .i64 0, .string ⟨#[]⟩] 48)
  have HF := Lib.hid ((Fr.refl w (fun _ => False)).alloc (.cells #[.int .i64 0, .int .i64 0, .int .i64 0, .string ⟨#[]⟩] 48))
  have HS : Hid ((w.alloc (.cells #[.int .i64 0, .int .i64 0, .int .i64 0, .string ⟨#[]⟩] 48)).heap.size = w.heap.size + 1) := Lib.hid (by simp)
  rw [show ([.int .i64 0, .int .i64 0, .int .i64 0, .string ⟨#[]⟩] : List Value).toArray = #[.int .i64 0, .int .i64 0, .int .i64 0, .string ⟨#[]⟩] from rfl] at HB
  by_cases hj : 0 ≤ j ∧ j < s.fly.length
  · have hd : decide (0 ≤ j ∧ j < (s.fly.length : Int)) = true := by simpa using hj
    obtain ⟨i, rfl⟩ : ∃ i : Nat, j = i := ⟨j.toNat, by omega⟩
    obtain ⟨l, hl⟩ : ∃ l, s.fly[i]? = some l := ⟨s.fly[i]'(by omega), List.getElem?_eq_getElem _⟩
    rw [NS.has, hd, Int.toNat_natCast, hl] at HR
    simp only at HR
    obtain ⟨g, cap, hv', _, hgl, hcell, _⟩ := h.recs.some (by rw [List.length_map]; omega)
    rw [List.length_map, hv] at hv'
    cases hv'
    obtain ⟨hs0, hs1, hd0, hd1⟩ := hok.src l (List.mem_of_getElem? hl)
    have hn1 := hok.n1
    obtain ⟨num, src, dst, txt⟩ := l
    dsimp only at *
    obtain ⟨x, rfl⟩ : ∃ x : Nat, src = x := ⟨src.toNat, by omega⟩
    obtain ⟨y, rfl⟩ : ∃ y : Nat, dst = y := ⟨dst.toNat, by omega⟩
    have hce : ∀ j u, (Letter.cells ⟨num, x, y, txt⟩)[j]? = some u → w.cell? ⟨g, i * 4 + j, none⟩ = some u := fun j u hu => hcell i (Letter.cells ⟨num, x, y, txt⟩) j u (by simp [hl]) hu
    have HE := Lib.hid hce
    have HG : Hid (g < w.heap.size) := Lib.hid hgl
    have HV := Lib.hid hv
    have HD := Lib.hid hd
    have HL := Lib.hid hl
    have HOK := Lib.hid hok
    have hx : x < 64 := by omega
    have hy : y < 64 := by omega
    have hxi : (x : Int) < 64 := by omega
    have hyi : (y : Int) < 64 := by omega
    have hi1 : (i : Int) < s.fly.length := by omega
    have hi2 : ¬ (s.fly.length : Int) ≤ i := by omega
    have hil : i < s.fly.length := by omega
    have HIL := Lib.hid hil
    have c2 : (w.alloc (.cells #[.int .i64 0, .int .i64 0, .int .i64 0, .string ⟨#[]⟩] 48)).cell? ⟨b, 2, none⟩ = some (.slice (some ⟨g, 0, none⟩) s.fly.length cc) := by rw [← hv]; exact HH.out.c2
    have C2 := Lib.hid c2
    have hlb := Lib.hid hltb
    clear h hd hlen hce hcell hgl hl hs0 hs1 hd0 hd1 hok hn1 hv c2 hltb hj hil
    go_enter Try.func17, Try.ntmps17
    go_upto_region 1 with (fail)
    generalize w.alloc (.cells #[.int .i64 0, .int .i64 0, .int .i64 0, .string ⟨#[]⟩] 48) = w1 at HH HB HF HS C2 ⊢
    have c2 := C2.out
    have e0 : w1.cell? ⟨g, i * 4, none⟩ = some (.int .i64 num) := (HF.out.cell HG.out id).trans (HE.out 0 _ rfl)
    have e1 : w1.cell? ⟨g, i * 4 + 1, none⟩ = some (.int .i64 x) := (HF.out.cell HG.out id).trans (HE.out 1 _ rfl)
    have e2 : w1.cell? ⟨g, i * 4 + 2, none⟩ = some (.int .i64 y) := (HF.out.cell HG.out id).trans (HE.out 2 _ rfl)
    have e3 : w1.cell? ⟨g, i * 4 + 3, none⟩ = some (.string txt) := (HF.out.cell HG.out id).trans (HE.out 3 _ rfl)
    go_upto_region 4 with (fail)
    have HH2 := Lib.hid (HH.out.alloc (.cells #[.int .i64 num, .int .i64 x, .int .i64 y, .string txt] 48))
    have HB2 := Lib.hid (HB.out.alloc (.cells #[.int .i64 num, .int .i64 x, .int .i64 y, .string txt] 48))
    have HL2 := Lib.hid (Blk.new w1 [.int .i64 num, .int .i64 x, .int .i64 y, .string txt] 48)
    have HF2 := Lib.hid (HF.out.alloc (.cells #[.int .i64 num, .int .i64 x, .int .i64 y, .string txt] 48))
    rw [show ([.int .i64 num, .int .i64 x, .int .i64 y, .string txt] : List Value).toArray = #[.int .i64 num, .int .i64 x, .int .i64 y, .string txt] from rfl] at HL2
    have hs1 := HS.out
    generalize hg1 : w1.heap.size = g1 at HL2 ⊢
    have hg2 : g1 = w.heap.size + 1 := by rw [← hg1]; exact hs1
    have HG2 := Lib.hid hg2
    clear hs1 hg1 hg2 e0 e1 e2 e3 c2 HE C2
    generalize w1.alloc (.cells #[.int .i64 num, .int .i64 x, .int .i64 y, .string txt] 48) = w2 at HH2 HB2 HL2 HF2 ⊢
    have y1 : w2.cell? ⟨g1, 1, none⟩ = some (.int .i64 x) := HL2.out.cell 1
    have y2 : w2.cell? ⟨g1, 2, none⟩ = some (.int .i64 y) := HL2.out.cell 2
    have yc := HH2.out.cutAt hx hy
    change Hid ((if s.cut (wayOf x y) = true then _ else _) = r) at HR
    have hx0 : (0 : Int) ≤ x := by omega
    have hy0 : (0 : Int) ≤ y := by omega
    go_quiet (fail)
    have HH3 := Lib.hid (HH2.out.drewN nq)
    have HB3 := Lib.hid (HB2.out.drewN nq)
    have HL3 := Lib.hid (HL2.out.drewN nq)
    have HF3 := Lib.hid (HF2.out.drewN nq)
    clear HH2 HB2 HL2 HF2 y1 y2 yc
    generalize w2.drewN nq = w3 at HH3 HB3 HL3 HF3 ⊢
    have z0 : w3.cell? ⟨w.heap.size, 0, none⟩ = some (.int .i64 0) := HB3.out.cell 0
    have z1 : w3.cell? ⟨w.heap.size, 1, none⟩ = some (.int .i64 0) := HB3.out.cell 1
    have z2 : w3.cell? ⟨w.heap.size, 2, none⟩ = some (.int .i64 0) := HB3.out.cell 2
    have z3 : w3.cell? ⟨w.heap.size, 3, none⟩ = some (.string ⟨#[]⟩) := HB3.out.cell 3
    have zf : ∀ j, w3.frozen? ⟨w.heap.size, j, none⟩ = false := HB3.out.frozen
    cases hcut : s.cut (wayOf x y)
    · rw [hcut, if_neg (by decide)] at HR
      clear z0 z1 z2 z3 zf
      go_wp2_with fail
      refine (rtake_any b _ s i w3 HH3.out HOK.out HIL.out).mono ?_
      rintro e w4 ⟨rfl, v4, h4, r4⟩
      have hlb' := hlb.out
      have hgg := HG2.out
      have vl := HLT0.out
      have hn1 : ¬ FieldS b v g1 := by rintro (e | e); omega; have := HH.out.vlt g1 e; have := HS.out; omega
      have hn0 : ¬ FieldS b v w.heap.size := by rintro (e | e); omega; exact vl.2 _ e rfl
      have HL4 := Lib.hid (Blk.fr HL3.out r4.fr hn1)
      have HB4 := Lib.hid (Blk.fr HB3.out r4.fr hn0)
      have H4 := Lib.hid h4
      have R4 := Lib.hid r4
      have hw3 : w.heap.size < w3.heap.size := HB3.out.lt
      have HW3 := Lib.hid hw3
      clear h4 r4 hn0 hn1 vl hlb' hgg hw3
      have x0 : w4.cell? ⟨g1, 0, none⟩ = some (.int .i64 num) := HL4.out.cell 0
      have x1 : w4.cell? ⟨g1, 1, none⟩ = some (.int .i64 x) := HL4.out.cell 1
      have x2 : w4.cell? ⟨g1, 2, none⟩ = some (.int .i64 y) := HL4.out.cell 2
      have x3 : w4.cell? ⟨g1, 3, none⟩ = some (.string txt) := HL4.out.cell 3
      have z0 : w4.cell? ⟨w.heap.size, 0, none⟩ = some (.int .i64 0) := HB4.out.cell 0
      have z1 : w4.cell? ⟨w.heap.size, 1, none⟩ = some (.int .i64 0) := HB4.out.cell 1
      have z2 : w4.cell? ⟨w.heap.size, 2, none⟩ = some (.int .i64 0) := HB4.out.cell 2
      have z3 : w4.cell? ⟨w.heap.size, 3, none⟩ = some (.string ⟨#[]⟩) := HB4.out.cell 3
      have zf : ∀ j, w4.frozen? ⟨w.heap.size, j, none⟩ = false := HB4.out.frozen
      go_wp2_with fail
      refine bodyPost_ret (results_row_tmp rfl _ _ w.heap.size 48 _ (0, 0) _ rfl (HB4.out.put4 _ _ _ _) Try.underlying48 rfl rletter_size) rfl ?_
      rw [← HR.out]
      have hf : Fr w4 _ (fun j => j = w.heap.size) := fr_put4 w4 w.heap.size (.int .i64 num) (.int .i64 x) (.int .i64 y) (.string txt)
      refine ⟨rfl, v4, H4.out.fr hf HLT0.out.1 (fun k e e' => ?_), ((RefR.of_fr HF3.out b _).trans R4.out).thenNew hf (Nat.le_refl _)⟩
      rcases R4.out.lies k e with e1 | e1
      · exact HLT0.out.2 k e1 e'
      · have := HW3.out; omega
    · rw [hcut, if_pos rfl] at HR
      go_wp2_with fail
      refine bodyPost_ret (results_row_tmp rfl _ _ w.heap.size 48 _ (0, 0) _ rfl (HB3.out.put4 _ _ _ _) Try.underlying48 rfl rletter_size) rfl ?_
      rw [← HR.out]
      have hf : Fr w3 _ (fun j => j = w.heap.size) := fr_put4 w3 w.heap.size (.int .i64 0) (.int .i64 0) (.int .i64 0) (.string ⟨#[]⟩)
      exact ⟨rfl, _, HH3.out.fr hf HLT0.out.1 HLT0.out.2, RefR.of_fr (HF3.out.thenNew hf) b _⟩
  · have hd : decide (0 ≤ j ∧ j < (s.fly.length : Int)) = false := by simpa using hj
    have HR2 : Hid ((s, noLetter, (2 : Int)) = r) := by rw [← HR.out, NS.has, hd]; exact rfl
    have c2 : (w.alloc (.cells #[.int .i64 0, .int .i64 0, .int .i64 0, .string ⟨#[]⟩] 48)).cell? ⟨b, 2, none⟩ = some (.slice A s.fly.length cc) := by rw [← hv]; exact HH.out.c2
    have C2 := Lib.hid c2
    clear h hd HR c2 hltb hv
    rcases (show j < 0 ∨ (0 ≤ j ∧ ¬ j < s.fly.length) by omega) with h1 | ⟨h0, h1⟩
    all_goals
      clear hj
      go_enter Try.func17, Try.ntmps17
      go_upto_region 1 with (fail)
      generalize w.alloc (.cells #[.int .i64 0, .int .i64 0, .int .i64 0, .string ⟨#[]⟩] 48) = w1 at HH HB HF HS C2 ⊢
      have c2 := C2.out
      have z0 : w1.cell? ⟨w.heap.size, 0, none⟩ = some (.int .i64 0) := HB.out.cell 0
      have z1 : w1.cell? ⟨w.heap.size, 1, none⟩ = some (.int .i64 0) := HB.out.cell 1
      have z2 : w1.cell? ⟨w.heap.size, 2, none⟩ = some (.int .i64 0) := HB.out.cell 2
      have z3 : w1.cell? ⟨w.heap.size, 3, none⟩ = some (.string ⟨#[]⟩) := HB.out.cell 3
      have zf : ∀ j, w1.frozen? ⟨w.heap.size, j, none⟩ = false := HB.out.frozen
      go_wp2_with fail
      refine bodyPost_ret (results_row_tmp rfl _ _ w.heap.size 48 _ (0, 0) _ rfl (HB.out.put4 _ _ _ _) Try.underlying48 rfl rletter_size) rfl ?_
      rw [← HR2.out]
      have hf : Fr w1 _ (fun j => j = w.heap.size) := fr_put4 w1 w.heap.size (.int .i64 0) (.int .i64 0) (.int .i64 0) (.string ⟨#[]⟩)
      exact ⟨rfl, _, HH.out.fr hf HLT0.out.1 HLT0.out.2, RefR.of_fr (HF.out.thenNew hf) b v⟩
end Go.Proofs.Ytimaifehjgolmaa
