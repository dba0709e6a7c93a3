/- attempts: the reference's board: New, Gone, Lost, Report. (Under way.) -/
import Derived.Test.YtkcloaoaldklhaaAttRef2
import Derived.Deep.RegionLaw
import Derived.Deep.CutBlock
namespace Ar
def goA (node : Int) (x : Try) : Try := if x.node = node ∧ x.state = 0 then { x with state := 4 } else x
def gone (S : Bd) (node : Int) : Bd := { S with l := S.l.map (goA node) }
/-- the first k are done -/
def goneI (l : List Try) (node : Int) (k : Nat) : List Try := (l.take k).map (goA node) ++ l.drop k
theorem goneI_len (l : List Try) (node : Int) (k : Nat) : (goneI l node k).length = l.length := by unfold goneI; simp; omega
theorem goneI_at (l : List Try) (node : Int) (k : Nat) (x : Try) (hx : l[k]? = some x) : (goneI l node k)[k]? = some x := by
  have hk := (List.getElem?_eq_some_iff.1 hx).1
  unfold goneI
  rw [List.getElem?_append_right (by simp; omega)]
  simp [Nat.min_eq_left (Nat.le_of_lt hk), hx]
theorem goneI_next (l : List Try) (node : Int) (k : Nat) (x : Try) (hx : l[k]? = some x) : goneI l node (k + 1) = (goneI l node k).set k (goA node x) := by
  have hk := (List.getElem?_eq_some_iff.1 hx).1
  unfold goneI
  rw [List.set_append_right _ _ (by simp; omega)]
  have h1 : l.drop k = x :: l.drop (k + 1) := by
    rw [List.drop_eq_getElem_cons hk]
    congr 1
    exact (List.getElem?_eq_some_iff.1 hx).2
  rw [h1, List.take_add_one, hx]
  simp [Nat.min_eq_left (Nat.le_of_lt hk)]
theorem goneI_all (l : List Try) (node : Int) (k : Nat) (h : l.length ≤ k) : goneI l node k = l.map (goA node) := by unfold goneI; rw [List.take_of_length_le h, List.drop_eq_nil_of_le h, List.append_nil]
def lost (S : Bd) (t n : Int) : Bool × Bd := match S.l.findIdx? (hit t) with
  | some i => (match S.l[i]? with
    | some x => if 0 ≤ t ∧ t < (S.maps : Int) ∧ x.num = n then (true, { S with l := S.l.set i { x with state := 4, win := false } }) else (false, S)
    | none => (false, S))
  | none => (false, S)
/-- the attempt that is running -/
def isIt (t n : Int) (x : Try) : Bool := decide (x.task = t) && (decide (x.num = n) && decide (x.state = 0))
def report (S : Bd) (t n how : Int) : Bool × Bd := if 1 ≤ how ∧ how ≤ 3 then (match S.l.findIdx? (isIt t n) with
  | some i => (match S.l[i]? with
    | some x => (true, { S with l := S.l.set i { x with state := how, win := decide (how = 1) && !won S t } })
    | none => (false, S))
  | none => (false, S)) else (false, S)
end Ar
namespace Go.Proofs.Ytkcloaoaldklhaa
open Go.RowKit
set_option linter.unusedVariables false
set_option linter.unusedSimpArgs false
structure RefR (w : World) (rt : Nat) (v : Value) (w' : World) (v' : Value) : Prop where
  lies : ∀ q, v'.ownBlock = some q → v.ownBlock = some q ∨ w.heap.size ≤ q
  fr : Fr w w' (fun k => k = rt ∨ v.ownBlock = some k)
theorem RefR.refl (w : World) (rt : Nat) (v : Value) : RefR w rt v w v := ⟨fun _ e => .inl e, Fr.refl _ _⟩
theorem RefR.trans {a c d : World} {b : Nat} {v v' v'' : Value} (h : RefR a b v c v') (k : RefR c b v' d v'') : RefR a b v d v'' := by
  refine ⟨fun q e => ?_, h.fr.trans k.fr ?_⟩
  · rcases k.lies q e with e | e
    · exact h.lies q e
    · exact .inr (Nat.le_trans h.fr.size e)
  · intro x hx hs
    rcases hs with rfl | e
    · exact .inl rfl
    · rcases h.lies x e with e | e
      · exact .inr e
      · omega
theorem RefR.of_fr {w w' : World} {b : Nat} {v : Value} (h : Fr w w' (fun _ => False)) : RefR w b v w' v := ⟨fun _ e => .inl e, h.mono fun _ _ e => e.elim⟩
def RefTo (w : World) (B rt : Nat) (v : Value) (S : Ar.Bd) (w' : World) : Prop := ∃ v', RefAt w' B rt v' S ∧ RefR w rt v w' v'
theorem RefAt.setJ {w : World} {B rt g cap : Nat} {S : Ar.Bd} (h : RefAt w B rt (.slice (some ⟨g, 0, none⟩) S.l.length cap) S) {i : Nat} {x x' : Ar.Try} (hx : S.l[i]? = some x) (j : Nat) (hj : j < 6) (u : Value) (he : (rtryC x).set j u = rtryC x') :
    RefAt (w.setCell ⟨g, i * 6 + j, none⟩ u) B rt (.slice (some ⟨g, 0, none⟩) S.l.length cap) { S with l := S.l.set i x' } ∧ RefR w rt (.slice (some ⟨g, 0, none⟩) S.l.length cap) (w.setCell ⟨g, i * 6 + j, none⟩ u) (.slice (some ⟨g, 0, none⟩) S.l.length cap) := by
  have hgr := h.ne g rfl
  have hr := h.row.set (i := i) (r := rtryC x) (by rw [List.getElem?_map, hx]; rfl) hj u
  rw [he, ← List.map_set] at hr
  refine ⟨⟨?_, hr, h.lo, h.ne⟩, ⟨fun _ e => .inl e, ?_⟩⟩
  · exact h.blk.other ⟨g, i * 6 + j, none⟩ u (Ne.symm hgr)
  · exact (Fr.refl w _).setCell ⟨g, i * 6 + j, none⟩ u fun _ => .inr rfl
/-- what a call that makes a board leaves -/
def RefNew (w : World) (B : Nat) (S : Ar.Bd) (e : Ending) (w' : World) : Prop := ∃ rt, e = .returned (.pointer (some ⟨rt, 0, none⟩)) ∧ RefAt w' B rt (.slice none 0 0) S ∧ w.heap.size ≤ rt ∧ Below w.heap.size w w'
theorem rboard_new (w : World) (B : Nat) (hB : B ≤ w.heap.size) (m r : Nat) (lm pa : Int) : RefAt ((w.alloc (.cells #[.int .i64 (m : Int), .int .i64 (r : Int), .int .i64 lm, .int .i64 pa, .slice none 0 0] 51))) B w.heap.size (.slice none 0 0) ⟨m, r, lm, pa, []⟩ :=
  ⟨Blk.new w [.int .i64 (m : Int), .int .i64 (r : Int), .int .i64 lm, .int .i64 pa, .slice none 0 0] 51, Recs.nil _ _ _ _, hB, fun q e => by cases e⟩
set_option maxRecDepth 20000 in
set_option maxHeartbeats 4000000 in
theorem rgone_c (B rt : Nat) (v : Value) (S : Ar.Bd) (node : Int) (w : World) (h : RefAt w B rt v S) (hn : S.l.length < 4000000000000) :
    Calls Try.prog 20 #[.pointer (some ⟨rt, 0, none⟩), .int .i64 node] w fun e w' => e = .returned (.tuple #[]) ∧ RefTo w B rt v (Ar.gone S node) w' := by
  have H := Lib.hid h
  have HN := Lib.hid hn
  obtain ⟨A0, cA, hv0⟩ := h.slice
  subst hv0
  clear h hn
  go_enter Try.func20, Try.ntmps20
  go_wp2_with fail
  go_loopg [4] S.l.length (fun g v6 wr => ∃ k : Nat, v6 = .int .i64 (k : Int) ∧ k + g = S.l.length ∧ Hid (RefAt wr B rt (.slice A0 S.l.length cA) { S with l := Ar.goneI S.l node k }) ∧ Hid (RefR w rt (.slice A0 S.l.length cA) wr (.slice A0 S.l.length cA)))
  case atStart => exact ⟨0, rfl, by omega, Lib.hid H.out, Lib.hid (RefR.refl _ _ _)⟩
  case round =>
    obtain ⟨k, rfl, hk, HA, HR⟩ := hrel
    have HK := Lib.hid hk
    by_cases hlt : k < S.l.length
    · have t1 : decide ((k : Int) < (S.l.length : Int)) = true := decide_eq_true (by omega)
      have t1n : decide (k < S.l.length) = true := decide_eq_true hlt
      have HLT := Lib.hid hlt
      obtain ⟨x, hx⟩ : ∃ x, S.l[k]? = some x := ⟨S.l[k], List.getElem?_eq_getElem _⟩
      have hxm := Ar.goneI_at S.l node k x hx
      obtain ⟨g, cap, hv, hgr, _, ⟨c0, c1, c2, c3, c4, c5⟩, f4⟩ := HA.out.at (S := { S with l := Ar.goneI S.l node k }) hxm
      have hle : ({ S with l := Ar.goneI S.l node k } : Ar.Bd).l.length = S.l.length := Ar.goneI_len _ _ _
      rw [hle] at hv
      cases hv
      have hst := fun x' he => (show RefAt _ B rt (.slice (some ⟨g, 0, none⟩) ({ S with l := Ar.goneI S.l node k } : Ar.Bd).l.length cA) _ from by rw [hle]; exact HA.out).setJ (x' := x') hxm 4 (by decide) (.int .i64 4) he
      rw [hle] at hst
      have z1 : wr.cell? ⟨rt, 4, none⟩ = some (.slice (some ⟨g, 0, none⟩) S.l.length cA) := HA.out.blk.cell 4
      have f5 := f4 (k * 6 + 4)
      have ka : ((k : Int)).toNat = k := by omega
      have kp : (0 : Int) ≤ (k : Int) := by omega
      have kz : (k : Int) < (S.l.length : Int) := by omega
      have kw : k + 1 < 4000000000001 := by have := HN.out; omega
      have HNX := Lib.hid (Ar.goneI_next S.l node k x hx)
      have hsame : (Ar.goneI S.l node k).set k x = Ar.goneI S.l node k := by
        apply List.ext_getElem?
        intro j
        rw [List.getElem?_set]
        split
        · rename_i e; subst e; split
          · exact hxm.symm
          · rename_i h2; exact absurd (List.getElem?_eq_some_iff.1 hxm).1 h2
        · rfl
      by_cases hc : x.node = node
      · have q1 : (x.node == node) = true := by rw [hc]; exact beq_self_eq_true _
        by_cases hs : x.state = 0
        · have q2 : (x.state == 0) = true := by rw [hs]; rfl
          have hup : Ar.goA node x = { x with state := 4 } := by unfold Ar.goA; rw [if_pos ⟨hc, hs⟩]
          rw [hup] at HNX
          have HST := Lib.hid (hst { x with state := 4 } rfl)
          clear hc hs hup hst hx hxm hlt hk hsame f4 hle
          go_wp2_with fail
          clear kw
          have HA2 : Hid (RefAt (wr.setCell ⟨g, k * 6 + 4, none⟩ (.int .i64 4)) B rt (.slice (some ⟨g, 0, none⟩) S.l.length cA) { S with l := Ar.goneI S.l node (k + 1) }) := Lib.hid (by rw [HNX.out]; exact HST.out.1)
          have HR2 : Hid (RefR w rt (.slice (some ⟨g, 0, none⟩) S.l.length cA) (wr.setCell ⟨g, k * 6 + 4, none⟩ (.int .i64 4)) (.slice (some ⟨g, 0, none⟩) S.l.length cA)) := Lib.hid (HR.out.trans HST.out.2)
          go_roundg (S.l.length - (k + 1))
          case measure => have := HK.out; have := HLT.out; omega
          case rel => exact ⟨k + 1, by first | rfl | go_num, by have := HK.out; have := HLT.out; omega, HA2, HR2⟩
        · have q2 : (x.state == 0) = false := beq_eq_false_iff_ne.2 hs
          have hup : Ar.goA node x = x := by unfold Ar.goA; rw [if_neg fun h => hs h.2]
          rw [hup, hsame] at HNX
          clear hc hs hup hst hx hxm hlt hk hsame f4 hle
          go_wp2_with fail
          clear kw
          go_roundg (S.l.length - (k + 1))
          case measure => have := HK.out; have := HLT.out; omega
          case rel => exact ⟨k + 1, by first | rfl | go_num, by have := HK.out; have := HLT.out; omega, by rw [HNX.out]; exact HA, HR⟩
      · have q1 : (x.node == node) = false := beq_eq_false_iff_ne.2 hc
        have hup : Ar.goA node x = x := by unfold Ar.goA; rw [if_neg fun h => hc h.1]
        rw [hup, hsame] at HNX
        clear hc hup hst hx hxm hlt hk hsame f4 hle
        go_wp2_with fail
        clear kw
        go_roundg (S.l.length - (k + 1))
        case measure => have := HK.out; have := HLT.out; omega
        case rel => exact ⟨k + 1, by first | rfl | go_num, by have := HK.out; have := HLT.out; omega, by rw [HNX.out]; exact HA, HR⟩
    · have t1 : decide ((k : Int) < (S.l.length : Int)) = false := decide_eq_false (by omega)
      have t1n : decide (k < S.l.length) = false := decide_eq_false hlt
      have hfull := Ar.goneI_all S.l node k (by omega)
      rw [hfull] at HA
      have z1 : wr.cell? ⟨rt, 4, none⟩ = some (.slice A0 S.l.length cA) := HA.out.blk.cell 4
      clear hlt hk hfull
      go_wp2_with fail
      go_end0
      exact ⟨rfl, _, HA.out, HR.out⟩
theorem idx_back {f : Ar.Try → Bool} {l : List Ar.Try} {p : Nat} (h : l.findIdx? f = some p) : p < l.length := by
  obtain ⟨hp, _, _⟩ := List.findIdx?_eq_some_iff_getElem.1 h
  exact hp
set_option maxRecDepth 20000 in
set_option maxHeartbeats 4000000 in
theorem rlost_c (B rt : Nat) (v : Value) (S : Ar.Bd) (t n : Int) (w : World) (h : RefAt w B rt v S) (hn : S.l.length < 4000000000000) :
    Calls Try.prog 21 #[.pointer (some ⟨rt, 0, none⟩), .int .i64 t, .int .i64 n] w fun e w' => e = .returned (.bool (Ar.lost S t n).1) ∧ RefTo w B rt v (Ar.lost S t n).2 w' := by
  have HW := Lib.hid (rwin_c B rt v S t w h hn)
  have H := Lib.hid h
  have HN := Lib.hid hn
  have z0 : w.cell? ⟨rt, 0, none⟩ = some (.int .i64 (S.maps : Int)) := h.blk.cell 0
  obtain ⟨A0, cA, hv0⟩ := h.slice
  have z4 : w.cell? ⟨rt, 4, none⟩ = some (.slice A0 S.l.length cA) := by rw [← hv0]; exact h.blk.cell 4
  subst hv0
  clear h hn
  have hno : ∀ e w', (e = Ending.returned (.bool false) ∧ w = w') → Ar.lost S t n = (false, S) → e = .returned (.bool (Ar.lost S t n).1) ∧ RefTo w B rt (.slice A0 S.l.length cA) (Ar.lost S t n).2 w' := by
    rintro e w' ⟨rfl, rfl⟩ hr
    rw [hr]
    exact ⟨rfl, _, H.out, RefR.refl _ _ _⟩
  cases hf : S.l.findIdx? (Ar.hit t) with
  | none =>
    have hl : Ar.lost S t n = (false, S) := by unfold Ar.lost; rw [hf]
    have hi : Ar.idx (Ar.hit t) S.l = -1 := by unfold Ar.idx; rw [hf]
    rw [hi] at HW
    clear hi hf
    refine Calls.mono ?_ fun e w' he => hno e w' he hl
    clear hl hno
    by_cases h0 : t < 0
    · have t1 : decide (t < 0) = true := decide_eq_true h0
      clear h0
      go_enter Try.func21, Try.ntmps21
      go_wp2_with fail
      refine HW.out.mono ?_
      rintro _ _ ⟨rfl, rfl⟩
      go_wp2_with fail
      go_ret
      exact ⟨rfl, rfl⟩
    · have t1 : decide (t < 0) = false := decide_eq_false h0
      clear h0
      by_cases h1 : (S.maps : Int) ≤ t
      · have t2 : decide ((S.maps : Int) ≤ t) = true := decide_eq_true h1
        clear h1
        go_enter Try.func21, Try.ntmps21
        go_wp2_with fail
        refine HW.out.mono ?_
        rintro _ _ ⟨rfl, rfl⟩
        go_wp2_with fail
        go_ret
        exact ⟨rfl, rfl⟩
      · have t2 : decide ((S.maps : Int) ≤ t) = false := decide_eq_false h1
        clear h1
        go_enter Try.func21, Try.ntmps21
        go_wp2_with fail
        refine HW.out.mono ?_
        rintro _ _ ⟨rfl, rfl⟩
        go_wp2_with fail
        go_ret
        exact ⟨rfl, rfl⟩
  | some p =>
    have hpl := idx_back hf
    obtain ⟨x, hx⟩ : ∃ x, S.l[p]? = some x := ⟨S.l[p], List.getElem?_eq_getElem _⟩
    have hl : Ar.lost S t n = if 0 ≤ t ∧ t < (S.maps : Int) ∧ x.num = n then (true, { S with l := S.l.set p { x with state := 4, win := false } }) else (false, S) := by unfold Ar.lost; rw [hf]; dsimp only; rw [hx]
    have hi : Ar.idx (Ar.hit t) S.l = (p : Int) := by unfold Ar.idx; rw [hf]
    rw [hi] at HW
    obtain ⟨g, cap, hv, hgr, _, ⟨c0, c1, c2, c3, c4, c5⟩, f4⟩ := H.out.at hx
    cases hv
    have fa := f4 (p * 6 + 4)
    have fb := f4 (p * 6 + 5)
    have pa : ((p : Int)).toNat = p := by omega
    have pp : (0 : Int) ≤ (p : Int) := by omega
    have pz : (p : Int) < (S.l.length : Int) := by omega
    have pn : decide ((p : Int) < 0) = false := decide_eq_false (by omega)
    clear hi hf hpl
    by_cases h0 : t < 0
    · refine Calls.mono ?_ fun e w' he => hno e w' he (by rw [hl, if_neg (by omega)])
      have t1 : decide (t < 0) = true := decide_eq_true h0
      clear h0 hl hno hx
      go_enter Try.func21, Try.ntmps21
      go_wp2_with fail
      refine HW.out.mono ?_
      rintro _ _ ⟨rfl, rfl⟩
      go_wp2_with fail
      go_ret
      exact ⟨rfl, rfl⟩
    · have t1 : decide (t < 0) = false := decide_eq_false h0
      by_cases h1 : (S.maps : Int) ≤ t
      · refine Calls.mono ?_ fun e w' he => hno e w' he (by rw [hl, if_neg (by omega)])
        have t2 : decide ((S.maps : Int) ≤ t) = true := decide_eq_true h1
        clear h0 h1 hl hno hx
        go_enter Try.func21, Try.ntmps21
        go_wp2_with fail
        refine HW.out.mono ?_
        rintro _ _ ⟨rfl, rfl⟩
        go_wp2_with fail
        go_ret
        exact ⟨rfl, rfl⟩
      · have t2 : decide ((S.maps : Int) ≤ t) = false := decide_eq_false h1
        by_cases h2 : x.num = n
        · have HL : Hid (Ar.lost S t n = (true, { S with l := S.l.set p { x with state := 4, win := false } })) := Lib.hid (by rw [hl, if_pos ⟨by omega, by omega, h2⟩])
          have q1 : (x.num == n) = true := by rw [h2]; exact beq_self_eq_true _
          have q2 : (x.num != n) = false := by rw [h2]; simp
          have hs1 := H.out.setJ (x' := { x with state := 4 }) hx 4 (by decide) (.int .i64 4) rfl
          have hlen : (S.l.set p { x with state := 4 }).length = S.l.length := List.length_set
          have hs2 := RefAt.setJ (S := { S with l := S.l.set p { x with state := 4 } }) (x' := { x with state := 4, win := false }) (i := p) (by rw [hlen]; exact hs1.1) (get_set hx _) 5 (by decide) (.bool false) rfl
          rw [hlen] at hs2
          have hs3 := hs1.2.trans hs2.2
          have hs2 := hs2.1
          simp only [List.set_set] at hs2
          have HS2 := Lib.hid hs2
          have HS3 := Lib.hid hs3
          have e4 : (w.setCell ⟨g, p * 6 + 4, none⟩ (.int .i64 4)).cell? ⟨rt, 4, none⟩ = some (.slice (some ⟨g, 0, none⟩) S.l.length cA) := (World.cell?_setCell_other _ _ _ _ (by simp [hgr])).trans z4
          clear h0 h1 h2 hl hno hx hs1 hs2 hs3 hlen
          go_enter Try.func21, Try.ntmps21
          go_wp2_with fail
          refine HW.out.mono ?_
          rintro _ _ ⟨rfl, rfl⟩
          go_wp2_with fail
          go_ret
          rw [HL.out]
          exact ⟨rfl, _, HS2.out, HS3.out⟩
        · refine Calls.mono ?_ fun e w' he => hno e w' he (by rw [hl, if_neg (by omega)])
          have q1 : (x.num == n) = false := beq_eq_false_iff_ne.2 h2
          have q2 : (x.num != n) = true := bne_iff_ne.2 h2
          clear h0 h1 h2 hl hno hx
          go_enter Try.func21, Try.ntmps21
          go_wp2_with fail
          refine HW.out.mono ?_
          rintro _ _ ⟨rfl, rfl⟩
          go_wp2_with fail
          go_ret
          exact ⟨rfl, rfl⟩
set_option maxRecDepth 20000 in
set_option maxHeartbeats 8000000 in
theorem rreport_c (B rt : Nat) (v : Value) (S : Ar.Bd) (t n how : Int) (w : World) (h : RefAt w B rt v S) (hn : S.l.length < 4000000000000) :
    Calls Try.prog 19 #[.pointer (some ⟨rt, 0, none⟩), .int .i64 t, .int .i64 n, .int .i64 how] w fun e w' => e = .returned (.bool (Ar.report S t n how).1) ∧ RefTo w B rt v (Ar.report S t n how).2 w' := by
  have HW := Lib.hid (rwin_c B rt v S t w h hn)
  have HGE : Hid (decide (0 ≤ Ar.idx (Ar.hit t) S.l) = Ar.won S t) := Lib.hid (Ar.idx_any _ _)
  have H := Lib.hid h
  have HN := Lib.hid hn
  obtain ⟨A0, cA, hv0⟩ := h.slice
  have z4 : w.cell? ⟨rt, 4, none⟩ = some (.slice A0 S.l.length cA) := by rw [← hv0]; exact h.blk.cell 4
  subst hv0
  clear h hn
  have hno : ∀ e w', (e = Ending.returned (.bool false) ∧ w = w') → Ar.report S t n how = (false, S) → e = .returned (.bool (Ar.report S t n how).1) ∧ RefTo w B rt (.slice A0 S.l.length cA) (Ar.report S t n how).2 w' := by
    rintro e w' ⟨rfl, rfl⟩ hr
    rw [hr]
    exact ⟨rfl, _, H.out, RefR.refl _ _ _⟩
  by_cases h1 : how < 1
  · refine Calls.mono ?_ fun e w' he => hno e w' he (by unfold Ar.report; rw [if_neg (by omega)])
    have t1 : decide (how < 1) = true := decide_eq_true h1
    clear h1 hno
    go_enter Try.func19, Try.ntmps19
    go_wp2_with fail
    go_ret
    exact ⟨rfl, rfl⟩
  · have t1 : decide (how < 1) = false := decide_eq_false h1
    by_cases h3 : 3 < how
    · refine Calls.mono ?_ fun e w' he => hno e w' he (by unfold Ar.report; rw [if_neg (by omega)])
      have t2 : decide (3 < how) = true := decide_eq_true h3
      clear h1 h3 hno
      go_enter Try.func19, Try.ntmps19
      go_wp2_with fail
      go_ret
      exact ⟨rfl, rfl⟩
    · have t2 : decide (3 < how) = false := decide_eq_false h3
      have HH : Hid (1 ≤ how ∧ how ≤ 3) := Lib.hid (by omega)
      have HNO := Lib.hid hno
      clear h1 h3 hno
      go_enter Try.func19, Try.ntmps19
      go_wp2_with fail
      go_loopg [9] S.l.length (fun g v4 wr => ∃ k : Nat, v4 = .int .i64 (k : Int) ∧ k + g = S.l.length ∧ Hid (∀ j y, j < k → S.l[j]? = some y → Ar.isIt t n y = false) ∧ w = wr)
      case atStart => exact ⟨0, rfl, by omega, Lib.hid fun j y hj => by omega, rfl⟩
      case round =>
        obtain ⟨k, rfl, hk, HB, rfl⟩ := hrel
        have HK := Lib.hid hk
        by_cases hlt : k < S.l.length
        · have s1 : decide ((k : Int) < (S.l.length : Int)) = true := decide_eq_true (by omega)
          have s1n : decide (k < S.l.length) = true := decide_eq_true hlt
          have HLT := Lib.hid hlt
          obtain ⟨x, hx⟩ : ∃ x, S.l[k]? = some x := ⟨S.l[k], List.getElem?_eq_getElem _⟩
          obtain ⟨g, cap, hv, hgr, _, ⟨c0, c1, c2, c3, c4, c5⟩, f4⟩ := H.out.at hx
          cases hv
          have ka : ((k : Int)).toNat = k := by omega
          have kp : (0 : Int) ≤ (k : Int) := by omega
          have kz : (k : Int) < (S.l.length : Int) := by omega
          have kw : k + 1 < 4000000000001 := by have := HN.out; omega
          cases hq : Ar.isIt t n x with
          | true =>
            have hfi := Ar.idx_at HB.out hx hq
            have HR : Hid (Ar.report S t n how = (true, { S with l := S.l.set k { x with state := how, win := decide (how = 1) && !Ar.won S t } })) := Lib.hid (by unfold Ar.report; rw [if_pos HH.out, hfi]; dsimp only; rw [hx])
            unfold Ar.isIt at hq
            rw [Bool.and_eq_true, Bool.and_eq_true] at hq
            have q1 : (x.task == t) = true := by rw [of_decide_eq_true hq.1]; simp
            have q2 : (x.num == n) = true := by rw [of_decide_eq_true hq.2.1]; simp
            have q3 : (x.state == 0) = true := by rw [of_decide_eq_true hq.2.2]; rfl
            have fa := f4 (k * 6 + 4)
            have fb := f4 (k * 6 + 5)
            have hge := HGE.out
            generalize Ar.won S t = won at hge HR
            generalize Ar.idx (Ar.hit t) S.l = ix at hge HW
            have hs1 := H.out.setJ (x' := { x with state := how }) hx 4 (by decide) (.int .i64 how) rfl
            have hlen : (S.l.set k { x with state := how }).length = S.l.length := List.length_set
            have hs2 := fun b => RefAt.setJ (S := { S with l := S.l.set k { x with state := how } }) (x' := { x with state := how, win := b }) (i := k) (by rw [hlen]; exact hs1.1) (get_set hx _) 5 (by decide) (.bool b) rfl
            rw [hlen] at hs2
            have hs3 := fun b => hs1.2.trans (hs2 b).2
            have hs2 := fun b => (hs2 b).1
            simp only [List.set_set] at hs2
            have HS2 := Lib.hid hs2
            have HS3 := Lib.hid hs3
            have e4 : (w.setCell ⟨g, k * 6 + 4, none⟩ (.int .i64 how)).cell? ⟨rt, 4, none⟩ = some (.slice (some ⟨g, 0, none⟩) S.l.length cA) := (World.cell?_setCell_other _ _ _ _ (by simp [hgr])).trans z4
            clear hq hx hlt hk HB hs1 hs2 hs3 hlen hfi HGE
            by_cases hh1 : how = 1
            · have r1 : (how == 1) = true := by rw [hh1]; rfl
              cases won with
              | true =>
                have HR2 : Hid (Ar.report S t n how = (true, { S with l := S.l.set k { x with state := how, win := false } })) := Lib.hid (by rw [HR.out]; simp)
                clear HR hh1
                go_wp2_with fail
                refine HW.out.mono ?_
                rintro _ _ ⟨rfl, rfl⟩
                go_wp2_with fail
                go_ret
                rw [HR2.out]
                exact ⟨rfl, _, HS2.out _, HS3.out _⟩
              | false =>
                have HR2 : Hid (Ar.report S t n how = (true, { S with l := S.l.set k { x with state := how, win := true } })) := Lib.hid (by rw [HR.out, decide_eq_true hh1]; rfl)
                clear HR hh1
                go_wp2_with fail
                refine HW.out.mono ?_
                rintro _ _ ⟨rfl, rfl⟩
                go_wp2_with fail
                go_ret
                rw [HR2.out]
                exact ⟨rfl, _, HS2.out _, HS3.out _⟩
            · have r1 : (how == 1) = false := beq_eq_false_iff_ne.2 hh1
              have HR2 : Hid (Ar.report S t n how = (true, { S with l := S.l.set k { x with state := how, win := false } })) := Lib.hid (by rw [HR.out, decide_eq_false hh1]; rfl)
              clear HR hh1
              go_wp2_with fail
              refine HW.out.mono ?_
              rintro _ _ ⟨rfl, rfl⟩
              go_wp2_with fail
              go_ret
              rw [HR2.out]
              exact ⟨rfl, _, HS2.out _, HS3.out _⟩
          | false =>
            have HB2 : Hid (∀ j y, j < k + 1 → S.l[j]? = some y → Ar.isIt t n y = false) := Lib.hid fun j y hj hy => by
              by_cases e : j = k
              · subst e; rw [hx] at hy; cases hy; exact hq
              · exact HB.out j y (by omega) hy
            clear hx hlt hk HB f4
            by_cases ht : x.task = t
            · have q1 : (x.task == t) = true := by rw [ht]; simp
              by_cases hnm : x.num = n
              · have q2 : (x.num == n) = true := by rw [hnm]; simp
                have q3 : (x.state == 0) = false := by
                  unfold Ar.isIt at hq
                  rw [decide_eq_true ht, decide_eq_true hnm] at hq
                  exact beq_eq_false_iff_ne.2 (of_decide_eq_false hq)
                clear hq ht hnm
                go_wp2_with fail
                clear kw
                go_roundg (S.l.length - (k + 1))
                case measure => have := HK.out; have := HLT.out; omega
                case rel => exact ⟨k + 1, by first | rfl | go_num, by have := HK.out; have := HLT.out; omega, HB2, rfl⟩
              · have q2 : (x.num == n) = false := beq_eq_false_iff_ne.2 hnm
                clear hq ht hnm
                go_wp2_with fail
                clear kw
                go_roundg (S.l.length - (k + 1))
                case measure => have := HK.out; have := HLT.out; omega
                case rel => exact ⟨k + 1, by first | rfl | go_num, by have := HK.out; have := HLT.out; omega, HB2, rfl⟩
            · have q1 : (x.task == t) = false := beq_eq_false_iff_ne.2 ht
              clear hq ht
              go_wp2_with fail
              clear kw
              go_roundg (S.l.length - (k + 1))
              case measure => have := HK.out; have := HLT.out; omega
              case rel => exact ⟨k + 1, by first | rfl | go_num, by have := HK.out; have := HLT.out; omega, HB2, rfl⟩
        · have s1 : decide ((k : Int) < (S.l.length : Int)) = false := decide_eq_false (by omega)
          have s1n : decide (k < S.l.length) = false := decide_eq_false hlt
          have HR : Hid (Ar.report S t n how = (false, S)) := Lib.hid (by
            unfold Ar.report
            rw [if_pos HH.out, Ar.idx_none fun j y hj hy => HB.out j y (by omega) hy])
          clear hlt hk HB
          go_wp2_with fail
          go_ret
          exact HNO.out _ _ ⟨rfl, rfl⟩ HR.out
set_option maxRecDepth 20000 in
set_option maxHeartbeats 2000000 in
theorem rnew_c (maps reduces limit patience : Int) (B : Nat) (w : World) (hB : B ≤ w.heap.size) : Calls Try.prog 17 #[.int .i64 maps, .int .i64 reduces, .int .i64 limit, .int .i64 patience] w (RefNew w B (Ar.new maps reduces limit patience)) := by
  have hc1 := fun w => Lib.hid (rclamp_c maps 0 4096 (by decide) w)
  have hc2 := fun w => Lib.hid (rclamp_c reduces 0 4096 (by decide) w)
  have hc3 := fun w => Lib.hid (rclamp_c patience 1 1099511627776 (by decide) w)
  obtain ⟨m, hm, hm2⟩ := clamp_nat maps
  obtain ⟨r, hr, hr2⟩ := clamp_nat reduces
  have HN : Hid (Ar.new maps reduces limit patience = ⟨m, r, max limit 1, At.clamp patience 1 1099511627776, []⟩) := Lib.hid (by
    unfold Ar.new
    rw [hm, hr]; rfl)
  rw [hm] at hc1
  rw [hr] at hc2
  have HB := Lib.hid hB
  have S0 : Hid (Below w.heap.size w w.drew) := Lib.hid (below_drewN (Below.refl w.heap.size w) 1)
  have KA : Hid (∀ (X : World) (o : Obj), Below w.heap.size w X → Below w.heap.size w (X.alloc o)) := Lib.hid fun X o h => h.alloc h.size o
  clear hm hr hm2 hr2 hB
  by_cases hl : limit < 1
  · have t1 : decide (limit < 1) = true := decide_eq_true hl
    have HLM : Hid (max limit 1 = 1) := Lib.hid (by omega)
    clear hl
    go_enter Try.func17, Try.ntmps17
    go_wp2_with fail
    refine (hc1 w).out.mono ?_
    rintro _ _ ⟨rfl, rfl⟩
    go_wp2_with fail
    refine (hc2 w).out.mono ?_
    rintro _ _ ⟨rfl, rfl⟩
    go_wp2_with fail
    refine (hc3 w).out.mono ?_
    rintro _ _ ⟨rfl, rfl⟩
    go_wp2_with fail
    have hnb := rboard_new w B HB.out m r (max limit 1) (At.clamp patience 1 1099511627776)
    rw [HLM.out] at hnb
    refine bodyPost_ret (results_tmp (by rfl) _ _ _) (by rfl) ⟨w.heap.size, by rfl, ?_, Nat.le_refl _, (Below.refl w.heap.size w).alloc (Nat.le_refl _) _⟩
    rw [HN.out, HLM.out]
    exact hnb
  · have t1 : decide (limit < 1) = false := decide_eq_false hl
    have HLM : Hid (max limit 1 = limit) := Lib.hid (by omega)
    clear hl
    go_enter Try.func17, Try.ntmps17
    go_wp2_with fail
    refine (hc1 w).out.mono ?_
    rintro _ _ ⟨rfl, rfl⟩
    go_wp2_with fail
    refine (hc2 w).out.mono ?_
    rintro _ _ ⟨rfl, rfl⟩
    go_wp2_with fail
    refine (hc3 w).out.mono ?_
    rintro _ _ ⟨rfl, rfl⟩
    go_wp2_with fail
    have hnb := rboard_new w B HB.out m r (max limit 1) (At.clamp patience 1 1099511627776)
    rw [HLM.out] at hnb
    refine bodyPost_ret (results_tmp (by rfl) _ _ _) (by rfl) ⟨w.heap.size, by rfl, ?_, Nat.le_refl _, (Below.refl w.heap.size w).alloc (Nat.le_refl _) _⟩
    rw [HN.out, HLM.out]
    exact hnb
end Go.Proofs.Ytkcloaoaldklhaa
