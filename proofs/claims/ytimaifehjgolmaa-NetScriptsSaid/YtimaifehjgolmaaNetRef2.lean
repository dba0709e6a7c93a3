/- The reference's calls on a net. -/
import Derived.Test.YtimaifehjgolmaaNetRef
namespace Go.Proofs.Ytimaifehjgolmaa
open Go.RowKit Go.Maps
set_option linter.unusedVariables false
set_option linter.unusedSimpArgs false
theorem rletter_info : (Try.prog.info? 48).map (fun i => (i.zero, i.size, i.bytes)) = some (some (.agg #[.int .i64 0, .int .i64 0, .int .i64 0, .string ⟨#[]⟩]), 4, 40) := by kernel_rfl
def RSendPost (w : World) (b : Nat) (v : Value) (r : NS × Int × Int) (e : Ending) (w' : World) : Prop :=
  e = .returned (.tuple #[.int .i64 r.2.1, .int .i64 r.2.2]) ∧ ∃ v', RefIs w' b v' r.1 ∧ FieldR w b v w' v'
def RIntPost (w : World) (b : Nat) (v : Value) (r : NS × Int) (e : Ending) (w' : World) : Prop :=
  e = .returned (.int .i64 r.2) ∧ ∃ v', RefIs w' b v' r.1 ∧ FieldR w b v w' v'
theorem RIntPost.same {w : World} {b : Nat} {v : Value} {s : NS} {r : NS × Int} {x : Int} (h : RefIs w b v s) (hr : (s, x) = r) : RIntPost w b v r (.returned (.int .i64 x)) w := by
  subst hr; exact ⟨rfl, _, h, FieldR.refl _ _ _⟩
set_option maxRecDepth 20000 in
set_option maxHeartbeats 2000000 in
theorem rsend_any (b : Nat) (v : Value) (s : NS) (from_ to_ : Int) (t : ByteArray) (w : World) (h : RefIs w b v s) (hok : s.Ok) (hs : s.sent < 4611686018427387904) :
    Calls Try.prog 16 #[.pointer (some ⟨b, 0, none⟩), .int .i64 from_, .int .i64 to_, .string t] w (RSendPost w b v (s.send from_ to_ t)) := by
  obtain ⟨A, cc, hv⟩ := h.recs.slice
  rw [List.length_map] at hv
  have hlen := hok.len
  have hs0 := hok.s0
  generalize hr : s.send from_ to_ t = r
  have HR := Lib.hid hr
  clear hr
  subst hv
  have H := Lib.hid h
  have HN1 := fun w' h => Lib.hid (node_any b (.slice A s.fly.length cc) s from_ w' h)
  have HN2 := fun w' h => Lib.hid (node_any b (.slice A s.fly.length cc) s to_ w' h)
  have c1 := h.c1
  have c2 := h.c2
  have fz := h.fz
  have same : ∀ x y : Int, RefIs w b (.slice A s.fly.length cc) s → RSendPost w b (.slice A s.fly.length cc) (s, x, y) (.returned (.tuple #[.int .i64 x, .int .i64 y])) w := fun x y hn => ⟨rfl, _, hn, FieldR.refl _ _ _⟩
  have HS := Lib.hid same
  clear same h
  unfold NS.send at HR
  unfold NS.knows at HR
  cases hk1 : decide (0 ≤ from_ ∧ from_ < s.nodes)
  · rw [hk1, Bool.false_and, if_pos rfl] at HR
    have HRR := HR.out
    clear HR
    subst HRR
    simp only [hk1] at HN1
    clear hk1
    go_enter Try.func16, Try.ntmps16
    go_wp2_with (go_at_call 29; with_reducible refine Calls.mono (HN1 _ H.out).out ?_; rintro e w' ⟨rfl, rfl⟩)
    go_ret2
    exact HS.out _ _ H.out
  · cases hk2 : decide (0 ≤ to_ ∧ to_ < s.nodes)
    · rw [hk1, hk2, Bool.true_and, if_pos rfl] at HR
      have HRR := HR.out
      clear HR
      subst HRR
      simp only [hk1] at HN1
      simp only [hk2] at HN2
      clear hk1 hk2
      go_enter Try.func16, Try.ntmps16
      go_wp2_with (first | (go_at_call 29; with_reducible refine Calls.mono (HN1 _ H.out).out ?_; rintro e w' ⟨rfl, rfl⟩) | (go_at_call 29; with_reducible refine Calls.mono (HN2 _ H.out).out ?_; rintro e w' ⟨rfl, rfl⟩))
      go_ret2
      exact HS.out _ _ H.out
    · rw [hk1, hk2, Bool.true_and, if_neg (by decide)] at HR
      have hk : s.knows from_ to_ = true := by unfold NS.knows; rw [hk1, hk2]; rfl
      simp only [hk1] at HN1
      simp only [hk2] at HN2
      clear hk1 hk2
      by_cases h1 : 1048576 < t.size
      · rw [if_pos h1] at HR
        have HRR := HR.out
        clear HR hk
        subst HRR
        go_enter Try.func16, Try.ntmps16
        go_wp2_with (first | (go_at_call 29; with_reducible refine Calls.mono (HN1 _ H.out).out ?_; rintro e w' ⟨rfl, rfl⟩) | (go_at_call 29; with_reducible refine Calls.mono (HN2 _ H.out).out ?_; rintro e w' ⟨rfl, rfl⟩))
        go_ret2
        exact HS.out _ _ H.out
      · rw [if_neg h1] at HR
        by_cases h2 : 65536 ≤ s.fly.length
        · rw [if_pos h2] at HR
          have HRR := HR.out
          have h3 : decide ((65536 : Int) ≤ (s.fly.length : Int)) = true := by simpa using (by omega)
          clear HR hk h2 hlen
          subst HRR
          go_enter Try.func16, Try.ntmps16
          go_wp2_with (first | (go_at_call 29; with_reducible refine Calls.mono (HN1 _ H.out).out ?_; rintro e w' ⟨rfl, rfl⟩) | (go_at_call 29; with_reducible refine Calls.mono (HN2 _ H.out).out ?_; rintro e w' ⟨rfl, rfl⟩))
          go_ret2
          exact HS.out _ _ H.out
        · rw [if_neg h2] at HR
          have h3 : decide ((65536 : Int) ≤ (s.fly.length : Int)) = false := by simpa using (by omega)
          have H2 := Lib.hid h2
          clear h2 hlen
          go_enter Try.func16, Try.ntmps16
          go_wp2_with (first | (go_at_call 29; with_reducible refine Calls.mono (HN1 _ H.out).out ?_; rintro e w' ⟨rfl, rfl⟩) | (go_at_call 29; with_reducible refine Calls.mono (HN2 _ H.out).out ?_; rintro e w' ⟨rfl, rfl⟩))
          have hst := H.out.setSent (s.sent + 1)
          have HA := Lib.hid hst.1
          have HRA := Lib.hid hst.2
          clear hst c1 c2 HS fz HN1 HN2
          have fz2 : (w.setCell ⟨b, 1, none⟩ (.int .i64 (s.sent + 1))).drew.frozen? ⟨b, 2, none⟩ = false := HA.out.fz 2
          generalize w.setCell ⟨b, 1, none⟩ (.int .i64 (s.sent + 1)) = w2 at HA HRA fz2 ⊢
          have d1 : w2.drew.cell? ⟨b, 1, none⟩ = some (.int .i64 (s.sent + 1)) := HA.out.c1
          have d2 : w2.drew.cell? ⟨b, 2, none⟩ = some (.slice A s.fly.length cc) := HA.out.c2
          have HO : Hid (w2.ownsRow 0 48 4 (.slice A s.fly.length cc) s.fly.length (s.fly.map Letter.cells).flatten) := Lib.hid (by have := HA.out.recs.own; rw [List.length_map] at this; exact this)
          have hl1 : s.fly.length + 1 ≤ maxLen := by unfold maxLen; have := H2.out; omega
          have hl2 : (s.fly.length + 1) * 40 ≤ 140737488355328 := by have := H2.out; omega
          have HK1 : Hid (∀ w', w2.grownBy w' (Value.slice A s.fly.length cc).ownBlock → w'.cell? ⟨b, 1, none⟩ = some (.int .i64 (s.sent + 1)) ∧ (w'.cell? ⟨b, 2, none⟩).isSome = true ∧ w'.frozen? ⟨b, 2, none⟩ = false) := Lib.hid fun w' hg => by
            obtain ⟨cs, _, hB, _⟩ := HA.out.blk
            have hB := hB.fr (Fr.of_grown hg (S := fun j => (Value.slice A s.fly.length cc).ownBlock = some j) fun _ e => e) HA.out.ne
            exact ⟨hB.cell 1, by rw [hB.cell 2]; rfl, hB.frozen 2⟩
          have HL1 := Lib.hid hl1
          have HL2 := Lib.hid hl2
          clear hl1 hl2
          have d3 : ∀ o, (w2.alloc o).cell? ⟨b, 2, none⟩ = some (.slice A s.fly.length cc) := fun o => Lib.cell?_alloc_some _ d2
          go_region_law ((refine step_app_d (by rfl) (.tmp 40) (.tmp 49) 55 (by rfl) 0 48 _ 4 40 Try.underlying55 rletter_info rfl (by decide) (.slice A s.fly.length cc) s.fly.length _ (by rfl) HO.out [.int .i64 (s.sent + 1), .int .i64 from_, .int .i64 to_, .string t] 48 1 1 (by rfl) (by rfl) (by rfl) HL1.out HL2.out (Nat.zero_le _) ?_; intro v' w' hO hG hN; obtain ⟨k1, k2, k3⟩ := HK1.out w' hG.out; obtain ⟨k4, hk4⟩ := Option.isSome_iff_exists.1 k2; obtain ⟨A', c', rfl⟩ := own_slice hO.out))
          all_goals
            have hp := HA.out.push ⟨s.sent + 1, from_, to_, t⟩ hO.out hG.out hN.out
            have HP := Lib.hid hp
            clear hp hO hG hN d1 d2 d3 fz2 HK1
            go_wp2_with fail
            go_ret2
            rw [← HR.out]
            exact ⟨rfl, _, HP.out.1, HRA.out.trans HP.out.2⟩
end Go.Proofs.Ytimaifehjgolmaa
