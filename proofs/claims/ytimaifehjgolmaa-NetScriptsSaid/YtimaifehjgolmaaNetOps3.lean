/- The last calls on a net. -/
import Derived.Test.YtimaifehjgolmaaNetOps2
namespace Go.Proofs.Ytimaifehjgolmaa
open Go.RowKit Go.Maps
set_option linter.unusedVariables false
set_option linter.unusedSimpArgs false
theorem way_ok2 (a c : Int) (ha : (Lit.int .i64 a).wf = true) (hc : (Lit.int .i64 c).wf = true) : way.ok (wayOf a c) := by
  unfold wayOf
  rcases Int.le_total a c with h | h
  · rw [Int.min_eq_left h, Int.max_eq_right h]; exact way_ok a c ha hc
  · rw [Int.min_eq_right h, Int.max_eq_left h]; exact way_ok c a hc ha
theorem cutMap_del (cut : Int × Int → Bool) (p : Int × Int) : delK (cutMap cut) p = cutMap (fun q => if q = p then false else cut q) := by
  funext q
  unfold delK cutMap
  by_cases h : q = p <;> simp [h]
theorem cutMap_set (cut : Int × Int → Bool) (p : Int × Int) : setK (delK (cutMap cut) p) p (.int .i64 1) = cutMap (fun q => if q = p then true else cut q) := by
  funext q
  unfold delK cutMap setK
  by_cases h : q = p <;> simp [h]
theorem NetAt.setMap {w w' : World} {b k n m : Nat} {nodes sent : Int} {v : Value} {L : List Letter} {g g' : Int × Int → Option Value} (h : NetAt w b nodes sent v L k n g) (hM : MapAt w' way k m g') (hf : Fr w w' (fun j => j = k)) :
    NetAt w' b nodes sent v L k m g' ∧ NetR w b k v w' v :=
  ⟨⟨h.blk.fr hf h.mapNe.1, h.recs.fr hf (fun j e e' => h.mapNe.2 (e' ▸ e)), hM, h.ne⟩, .inl rfl, hf.mono fun _ _ e => .inr (.inl e)⟩
theorem IntPost.same2 {w w1 : World} {b k n m : Nat} {v : Value} {s : NS} {r : NS × Int} {x : Int} (h : NetIs w1 b k n v s) (hr : (s, x) = r) (hf : Fr w w1 (fun _ => False)) (hm : n ≤ m) : IntPost w b k m v r (.returned (.int .i64 x)) w1 := by
  subst hr; exact ⟨rfl, _, ⟨⟨h.at_.blk, h.at_.recs, h.at_.map.mono hm, h.at_.ne⟩, h.ok⟩, NetR.of_fr hf _ _ _⟩
theorem NS.Ok.recut {s : NS} (h : s.Ok) (c : Int × Int → Bool) : NS.Ok { s with cut := c } := ⟨h.n0, h.n1, h.s0, h.len, h.src⟩
theorem NetR.of_new {w w' : World} {b k : Nat} {v : Value} (h : Fr w w' (fun j => w.heap.size ≤ j)) : NetR w b k v w' v := ⟨.inl rfl, ⟨h.os, h.tape, h.output, h.size, fun x hx _ => h.block x hx (by omega)⟩⟩
theorem NetR.of_below {w w' : World} {b k : Nat} {v : Value} (h : Below w.drew.heap.size w.drew w') : NetR w b k v w' v := .of_new (Fr.of_below (w := w) (S := fun j => w.heap.size ≤ j) ⟨h.os, h.tape, h.output, h.size, h.block⟩ fun _ e _ => e)
theorem NetAt.frNew {w w' : World} {b k n : Nat} {nodes sent : Int} {v : Value} {L : List Letter} {g : Int × Int → Option Value} (h : NetAt w b nodes sent v L k n g) (hf : Fr w w' (fun j => w.heap.size ≤ j)) : NetAt w' b nodes sent v L k n g :=
  ⟨h.blk.fr hf (by have := h.blk.lt; omega), h.recs.fr hf (fun j e => by have := (h.recs.own.lt j e).2; omega), h.map.fr hf (by have := h.map.lt; omega), h.ne⟩
set_option maxHeartbeats 2000000 in
set_option maxRecDepth 20000 in
theorem part_any (b k n : Nat) (v : Value) (s : NS) (x y : Int) (c : Bool) (hx : (Lit.int .i64 x).wf = true) (hy : (Lit.int .i64 y).wf = true) (w : World) (h : NetIs w b k n v s) (hn : n < 1152921504606846976) :
    Calls Try.prog 13 #[.pointer (some ⟨b, 0, none⟩), .int .i64 x, .int .i64 y, .bool c] w (IntPost w b k (n + 1) v (s.part x y c)) := by
  have hok := way_ok2 x y hx hy
  have hkn : ([x, y].all fun z => decide (0 ≤ z ∧ z < s.nodes)) = s.knows x y := by simp [NS.knows]
  generalize hr : s.part x y c = r
  have HR := Lib.hid hr
  have H := Lib.hid h
  have HKN := Lib.hid hkn
  have HOK := Lib.hid hok
  have HN : Hid (n + 1 < maxLen) := Lib.hid (by unfold maxLen; omega)
  clear h hr hkn hok hx hy hn
  have H1 := Lib.hid (H.out.alloc (.cells #[.int .i64 x, .int .i64 y] 3))
  have HF1 := Lib.hid ((Fr.refl w (fun _ => False)).alloc (.cells #[.int .i64 x, .int .i64 y] 3))
  have HX1 := Lib.hid (Blk.new w [.int .i64 x, .int .i64 y] 3).cells
  rw [show ([Value.int .i64 x, .int .i64 y] : List Value).toArray = #[Value.int .i64 x, .int .i64 y] from rfl] at HX1
  unfold NS.part at HR
  cases hk : s.knows x y
  · rw [hk, Bool.false_and, if_neg (by decide)] at HR
    go_enter Try.func13, Try.ntmps13
    go_wp2_with fail
    generalize w.alloc (.cells #[.int .i64 x, .int .i64 y] 3) = w1 at H1 HF1 HX1 ⊢
    refine (knows_any b w.heap.size s.nodes [x, y] w1 (H1.out.at_.blk.cell 0) HX1.out (by simp)).mono ?_
    rw [HKN.out]
    rintro e w' ⟨rfl, rfl⟩
    go_wp2_with fail
    go_ret
    exact IntPost.same2 H1.out HR.out HF1.out (by omega)
  · by_cases hxy : x = y
    · rw [hk, decide_eq_false (by simpa using hxy), Bool.and_false, if_neg (by decide)] at HR
      subst hxy
      go_enter Try.func13, Try.ntmps13
      go_wp2_with fail
      generalize w.alloc (.cells #[.int .i64 x, .int .i64 x] 3) = w1 at H1 HF1 HX1 ⊢
      refine (knows_any b w.heap.size s.nodes [x, x] w1 (H1.out.at_.blk.cell 0) HX1.out (by simp)).mono ?_
      rw [HKN.out]
      rintro e w' ⟨rfl, rfl⟩
      go_wp2_with fail
      go_ret
      exact IntPost.same2 H1.out HR.out HF1.out (by omega)
    · rw [hk, decide_eq_true (by simpa using hxy), Bool.and_true, if_pos rfl] at HR
      have hxy1 : (x == y) = false := by simpa using hxy
      clear hxy
      generalize hp : wayOf x y = p at HR HOK
      have HP := Lib.hid hp
      clear hp
      cases c
      all_goals
        go_enter Try.func13, Try.ntmps13
        go_wp2_with fail
        generalize w.alloc (.cells #[.int .i64 x, .int .i64 y] 3) = w1 at H1 HF1 HX1 ⊢
        refine (knows_any b w.heap.size s.nodes [x, y] w1 (H1.out.at_.blk.cell 0) HX1.out (by simp)).mono ?_
        rw [HKN.out, hk]
        rintro e w' ⟨rfl, rfl⟩
        go_wp2_with fail
        have c3 : w1.drew.cell? ⟨b, 3, none⟩ = some (.map (some k)) := H1.out.at_.blk.cell 3
        go_region_held3 (fun w' => w'.cell? ⟨b, 3, none⟩ = some (.map (some k)))
          (first | exact c3 | exact c32 | exact c33)
          (first | (go_at_call 28; refine (between_any x y _).mono ?_; rw [HP.out]; rintro e w2 ⟨rfl, hb2⟩; have h2 := (H1.out.drewN 1).below hb2 (Nat.le_refl _); have H2 := Lib.hid h2; have HB2 := Lib.hid hb2; have c32 : w2.cell? ⟨b, 3, none⟩ = some (.map (some k)) := h2.at_.blk.cell 3; obtain ⟨w3, hdel, hM3, hF3⟩ := h2.at_.map.drop (t := 63) Try.underlying63 p HOK.out 0; have hdel2 : (Builtin.delete_ #[63, 70] 0 #[.map (some k), wayV p]).run Try.prog w2 = .ok (.tuple #[]) w3 := hdel; clear hdel; have h3 := h2.at_.setMap hM3 hF3; have H3 := Lib.hid h3; have c33 : w3.cell? ⟨b, 3, none⟩ = some (.map (some k)) := h3.1.blk.cell 3; clear h2 hb2 hM3 hF3 h3))
        clear c3 c32 c33 hdel2
        go_wp2_with fail
      · go_ret
        rw [← HR.out]
        refine ⟨rfl, _, ⟨?_, H1.out.ok.recut _⟩, (NetR.of_fr HF1.out b k _).trans (((NetR.of_below HB2.out).trans H3.out.2))⟩
        rw [← cutMap_del]
        exact ⟨H3.out.1.blk, H3.out.1.recs, H3.out.1.map.mono (Nat.le_succ _), H3.out.1.ne⟩
      · have c3 : w3.drew.cell? ⟨b, 3, none⟩ = some (.map (some k)) := H3.out.1.blk.cell 3
        go_region_held3 (fun w' => w'.cell? ⟨b, 3, none⟩ = some (.map (some k)))
          (first | exact c3 | exact c34 | exact c35)
          (first | (go_at_call 28; refine (between_any x y _).mono ?_; rw [HP.out]; rintro e w4 ⟨rfl, hb4⟩; have hf4 : Fr w3 w4 (fun j => w3.heap.size ≤ j) := (Fr.of_below (w := w3) (S := fun j => w3.heap.size ≤ j) ⟨hb4.os, hb4.tape, hb4.output, hb4.size, hb4.block⟩ fun _ e _ => e); have h4 := H3.out.1.frNew hf4; have HB4 := Lib.hid hf4; have c34 : w4.cell? ⟨b, 3, none⟩ = some (.map (some k)) := h4.blk.cell 3; obtain ⟨w5, hup, hM5, hF5⟩ := h4.map.store (t := 63) Try.underlying63 (by have := HN.out; omega) p HOK.out (.int .i64 1); have hup2 : (Instr.mapUpdate 63 (.map (some k)) (wayV p) (.int .i64 1)).run Try.prog w4 = .ok () w5 := hup; clear hup; have h5 := h4.setMap hM5 hF5; have H5 := Lib.hid h5; have c35 : w5.cell? ⟨b, 3, none⟩ = some (.map (some k)) := h5.1.blk.cell 3; clear hb4 hf4 h4 hM5 hF5 h5))
        clear c3 c34 c35 hup2
        go_wp2_with fail
        go_ret
        rw [← HR.out]
        refine ⟨rfl, _, ⟨?_, H1.out.ok.recut _⟩, (NetR.of_fr HF1.out b k _).trans (((NetR.of_below HB2.out).trans H3.out.2).trans ((NetR.of_new HB4.out).trans H5.out.2))⟩
        rw [← cutMap_set]
        exact H5.out.1
end Go.Proofs.Ytimaifehjgolmaa
