/- The calls on a net, each as a function of what the net holds. -/
import Derived.Test.YtiaknanflgdmoaaNet
namespace Go.Proofs.Ytiaknanflgdmoaa
open Go.RowKit Go.Maps
set_option linter.unusedVariables false
set_option linter.unusedSimpArgs false
/-- What a net holds. -/
structure NS where
  nodes : Int
  sent : Int
  fly : List Letter
  cut : Int × Int → Bool
def NS.knows (s : NS) (a b : Int) : Bool := decide (0 ≤ a ∧ a < s.nodes) && decide (0 ≤ b ∧ b < s.nodes)
def NS.send (s : NS) (a b : Int) (t : ByteArray) : NS × Int × Int :=
  if s.knows a b = false then (s, 0, 2) else if 1048576 < t.size then (s, 0, 1) else if 65536 ≤ s.fly.length then (s, 0, 40) else
    ({ s with sent := s.sent + 1, fly := s.fly ++ [⟨s.sent + 1, a, b, t⟩] }, s.sent + 1, 0)
def NS.has (s : NS) (k : Int) : Bool := decide (0 ≤ k ∧ k < s.fly.length)
def NS.drop (s : NS) (k : Int) : NS × Int := if s.has k then ({ s with fly := s.fly.eraseIdx k.toNat }, 0) else (s, 2)
def NS.double (s : NS) (k : Int) : NS × Int :=
  match s.has k, s.fly[k.toNat]? with
  | true, some l => if 65536 ≤ s.fly.length then (s, 40) else ({ s with fly := s.fly ++ [l] }, 0)
  | _, _ => (s, 2)
def NS.parted (s : NS) (a b : Int) : Bool := s.cut (wayOf a b)
def noLetter : Letter := ⟨0, 0, 0, ⟨#[]⟩⟩
def NS.deliver (s : NS) (k : Int) : NS × Letter × Int :=
  match s.has k, s.fly[k.toNat]? with
  | true, some l => if s.parted l.src l.dst then (s, noLetter, 140) else ({ s with fly := s.fly.eraseIdx k.toNat }, l, 0)
  | _, _ => (s, noLetter, 2)
def NS.part (s : NS) (a b : Int) (c : Bool) : NS × Int := if s.knows a b && decide (a ≠ b) then ({ s with cut := fun p => if p = wayOf a b then c else s.cut p }, 0) else (s, 2)
structure NS.Ok (s : NS) : Prop where
  n0 : 0 ≤ s.nodes
  n1 : s.nodes ≤ 64
  s0 : 0 ≤ s.sent
  len : s.fly.length ≤ 65536
  src : ∀ l ∈ s.fly, 0 ≤ l.src ∧ l.src < s.nodes ∧ 0 ≤ l.dst ∧ l.dst < s.nodes
/-- The net at block b, its map at block k. -/
structure NetIs (w : World) (b k n : Nat) (v : Value) (s : NS) : Prop where
  at_ : NetAt w b s.nodes s.sent v s.fly k n (cutMap s.cut)
  ok : s.Ok
/-- What a call may have changed. -/
structure NetR (w : World) (b k : Nat) (v : Value) (w' : World) (v' : Value) : Prop where
  lies : v'.ownBlock = v.ownBlock ∨ ∃ g, v'.ownBlock = some g ∧ w.heap.size ≤ g
  fr : Fr w w' (fun j => j = b ∨ j = k ∨ v.ownBlock = some j)
theorem NetR.refl (w : World) (b k : Nat) (v : Value) : NetR w b k v w v := ⟨.inl rfl, Fr.refl _ _⟩
theorem NetR.below2 {w w1 w2 : World} {b k : Nat} {v v1 : Value} (h : NetR w b k v w1 v1) (hb : Below w1.heap.size w1 w2) : NetR w b k v w2 v1 :=
  ⟨h.lies, h.fr.trans (Fr.of_below (S := fun k => w1.heap.size ≤ k) hb fun k e _ => e) fun x hx e => by have := h.fr.size; omega⟩
theorem NetR.trans {a c d : World} {b k : Nat} {v v' v'' : Value} (h : NetR a b k v c v') (q : NetR c b k v' d v'') : NetR a b k v d v'' := by
  refine ⟨?_, h.fr.trans q.fr ?_⟩
  · rcases q.lies with e | ⟨g, e, hg⟩
    · rw [e]; exact h.lies
    · exact .inr ⟨g, e, Nat.le_trans h.fr.size hg⟩
  · intro x hx hs
    rcases hs with rfl | rfl | e
    · exact .inl rfl
    · exact .inr (.inl rfl)
    · rcases h.lies with e' | ⟨g, e', hg⟩
      · exact .inr (.inr (e' ▸ e))
      · rw [e'] at e; have := Option.some.inj e; omega
theorem NetIs.fr {w w' : World} {b k n : Nat} {v : Value} {s : NS} (h : NetIs w b k n v s) {S : Nat → Prop} (hf : Fr w w' S) (hb : ¬ S b) (hk : ¬ S k) (hv : ∀ j, v.ownBlock = some j → ¬ S j) : NetIs w' b k n v s :=
  ⟨⟨h.at_.blk.fr hf hb, h.at_.recs.fr hf hv, h.at_.map.fr hf hk, h.at_.ne⟩, h.ok⟩
theorem NetIs.lt {w : World} {b k n : Nat} {v : Value} {s : NS} (h : NetIs w b k n v s) : b < w.heap.size ∧ k < w.heap.size ∧ ∀ j, v.ownBlock = some j → j < w.heap.size :=
  ⟨h.at_.blk.lt, h.at_.map.lt, fun j e => (h.at_.recs.own.lt j e).2⟩
theorem NetIs.ne {w : World} {b k n : Nat} {v : Value} {s : NS} (h : NetIs w b k n v s) : b ≠ k ∧ v.ownBlock ≠ some k := by
  obtain ⟨D, ⟨es, cl, hb, _⟩, _⟩ := h.at_.map
  refine ⟨fun e => ?_, fun e => ?_⟩
  · subst e
    rw [h.at_.blk] at hb; cases hb
  · rcases h.at_.recs.own.2 with ⟨rfl, _⟩ | ⟨g, cap, cur, rfl, _, hg, _⟩
    · cases e
    · cases e; rw [hg] at hb; cases hb
theorem NetIs.below {w w' : World} {b k n : Nat} {v : Value} {s : NS} (h : NetIs w b k n v s) {B : Nat} (hb : Below B w w') (hB : w.heap.size ≤ B) : NetIs w' b k n v s :=
  h.fr (Fr.of_below (S := fun j => B ≤ j) hb fun _ e _ => e) (by have := h.lt.1; omega) (by have := h.lt.2.1; omega) (fun j e => by have := h.lt.2.2 j e; omega)
theorem NetIs.alloc {w : World} {b k n : Nat} {v : Value} {s : NS} (h : NetIs w b k n v s) (o : Obj) : NetIs (w.alloc o) b k n v s := h.fr ((Fr.refl w fun _ => False).alloc o) (fun e => e) (fun e => e) (fun _ _ e => e)
theorem NetIs.drewN {w : World} {b k n : Nat} {v : Value} {s : NS} (h : NetIs w b k n v s) (m : Nat) : NetIs (w.drewN m) b k n v s := h.fr ((Fr.refl w fun _ => False).drewN m) (fun e => e) (fun e => e) (fun _ _ e => e)
theorem NetAt.mapNe {w : World} {b k n : Nat} {nodes sent : Int} {v : Value} {L : List Letter} {g : Int × Int → Option Value} (h : NetAt w b nodes sent v L k n g) : b ≠ k ∧ v.ownBlock ≠ some k := by
  obtain ⟨D, ⟨es, cl, hb, _⟩, _⟩ := h.map
  refine ⟨fun e => ?_, fun e => ?_⟩
  · subst e
    rw [h.blk] at hb; cases hb
  · rcases h.recs.own.2 with ⟨rfl, _⟩ | ⟨g, cap, cur, rfl, _, hg, _⟩
    · cases e
    · cases e; rw [hg] at hb; cases hb
theorem NetAt.setSent {w : World} {b k n : Nat} {nodes sent : Int} {v : Value} {L : List Letter} {g : Int × Int → Option Value} (h : NetAt w b nodes sent v L k n g) (x : Int) :
    NetAt (w.setCell ⟨b, 1, none⟩ (.int .i64 x)) b nodes x v L k n g ∧ NetR w b k v (w.setCell ⟨b, 1, none⟩ (.int .i64 x)) v := by
  have hf : Fr w (w.setCell ⟨b, 1, none⟩ (.int .i64 x)) (fun j => j = b) := (Fr.refl w _).setCell _ _ fun _ => rfl
  refine ⟨⟨h.blk.set 1 _, h.recs.fr hf (fun j e e' => h.ne (e'.symm ▸ e)), h.map.fr hf (fun e => h.mapNe.1 e.symm), h.ne⟩, .inl rfl, hf.mono fun _ _ e => .inl e⟩
theorem NetAt.push {w w' : World} {b k n : Nat} {nodes sent : Int} {v v' : Value} {L : List Letter} {g : Int × Int → Option Value} (h : NetAt w b nodes sent v L k n g) (l : Letter)
    (hO : w'.ownsRow 0 39 4 v' (L.length + 1) ((L.map Letter.cells).flatten ++ l.cells)) (hG : w.grownBy w' v.ownBlock) (hN : v'.ownBlock = v.ownBlock ∨ ∃ g, v'.ownBlock = some g ∧ w.heap.size ≤ g) :
    NetAt (w'.setCell ⟨b, 2, none⟩ v') b nodes sent v' (L ++ [l]) k n g ∧ NetR w b k v (w'.setCell ⟨b, 2, none⟩ v') v' := by
  have hf : Fr w w' (fun j => v.ownBlock = some j) := Fr.of_grown hG fun _ e => e
  have hf2 : Fr w' (w'.setCell ⟨b, 2, none⟩ v') (fun j => j = b) := (Fr.refl w' _).setCell _ _ fun _ => rfl
  have hne : v'.ownBlock ≠ some b := by
    rcases hN with e | ⟨g, e, hg⟩
    · rw [e]; exact h.ne
    · rw [e]; intro e'; have := Option.some.inj e'; have := h.blk.lt; omega
  have hB := (h.blk.fr hf h.ne).set 2 v'
  refine ⟨⟨hB, ?_, (h.map.fr hf h.mapNe.2).fr hf2 (fun e => h.mapNe.1 e.symm), hne⟩, hN, (hf.mono (T := fun j => j = b ∨ j = k ∨ v.ownBlock = some j) fun _ _ e => .inr (.inr e)).trans hf2 fun _ _ e => .inl e⟩
  · have h1 : Recs w' 0 39 4 v' (L.map Letter.cells ++ [l.cells]) := h.recs.app l.cells rfl (by rw [List.length_map]; exact hO)
    have h2 := h1.fr hf2 (fun j e e' => hne (e' ▸ e))
    simpa using h2
theorem letter_infoS : (Try.prog.info? 39).map (fun i => (i.zero, i.size, i.bytes)) = some (some (.agg #[.int .i64 0, .int .i64 0, .int .i64 0, .string ⟨#[]⟩]), 4, 40) := letter_info
theorem NS.Ok.push {s : NS} (h : s.Ok) {a c : Int} {t : ByteArray} (hl : s.fly.length + 1 ≤ 65536) (hk : s.knows a c = true) : NS.Ok { s with sent := s.sent + 1, fly := s.fly ++ [⟨s.sent + 1, a, c, t⟩] } := by
  refine ⟨h.n0, h.n1, by have := h.s0; show 0 ≤ s.sent + 1; omega, by simpa using hl, fun l hl => ?_⟩
  rcases List.mem_append.1 hl with hl | hl
  · exact h.src l hl
  · rw [List.mem_singleton.1 hl]
    simp [NS.knows] at hk
    exact ⟨hk.1.1, hk.1.2, hk.2.1, hk.2.2⟩
theorem NetR.of_fr {w w' : World} (h : Fr w w' (fun _ => False)) (b k : Nat) (v : Value) : NetR w b k v w' v := ⟨.inl rfl, h.mono fun _ _ e => e.elim⟩
def SendPost (w : World) (b k n : Nat) (v : Value) (r : NS × Int × Int) (e : Ending) (w' : World) : Prop :=
  e = .returned (.tuple #[.int .i64 r.2.1, .int .i64 r.2.2]) ∧ ∃ v', NetIs w' b k n v' r.1 ∧ NetR w b k v w' v'
set_option maxRecDepth 20000 in
set_option maxHeartbeats 2000000 in
theorem send_any (b k n : Nat) (v : Value) (s : NS) (from_ to_ : Int) (t : ByteArray) (w : World) (h : NetIs w b k n v s) (hs : s.sent < 4611686018427387904) :
    Calls Try.prog 7 #[.pointer (some ⟨b, 0, none⟩), .int .i64 from_, .int .i64 to_, .string t] w (SendPost w b k n v (s.send from_ to_ t)) := by
  obtain ⟨A, cc, hv⟩ := h.at_.recs.slice
  rw [List.length_map] at hv
  have hlen := h.ok.len
  have hs0 := h.ok.s0
  have hk : ([from_, to_].all fun x => decide (0 ≤ x ∧ x < s.nodes)) = s.knows from_ to_ := by simp [NS.knows]
  have H := Lib.hid h
  have HKN := Lib.hid hk
  generalize hr : s.send from_ to_ t = r
  have HR := Lib.hid hr
  have hblt := h.lt.1
  clear h hk hr
  subst hv
  have H1 := Lib.hid (H.out.alloc (.cells #[.int .i64 from_, .int .i64 to_] 3))
  have HF1 := Lib.hid ((Fr.refl w (fun _ => False)).alloc (.cells #[.int .i64 from_, .int .i64 to_] 3))
  have HX1 := Lib.hid (Blk.new w [.int .i64 from_, .int .i64 to_] 3).cells
  go_enter Try.func7, Try.ntmps7
  go_wp2_with fail
  rw [show ([Value.int .i64 from_, .int .i64 to_] : List Value).toArray = #[Value.int .i64 from_, .int .i64 to_] from rfl] at HX1
  generalize w.alloc (.cells #[.int .i64 from_, .int .i64 to_] 3) = w1 at H1 HF1 HX1 ⊢
  refine (knows_any b w.heap.size s.nodes [from_, to_] w1 (H1.out.at_.blk.cell 0) HX1.out (by simp)).mono ?_
  rw [HKN.out]
  rintro e w' ⟨rfl, rfl⟩
  have c1 : w1.cell? ⟨b, 1, none⟩ = some (.int .i64 s.sent) := H1.out.at_.blk.cell 1
  have c2 : w1.cell? ⟨b, 2, none⟩ = some (.slice A s.fly.length cc) := H1.out.at_.blk.cell 2
  have fz : ∀ j, w1.frozen? ⟨b, j, none⟩ = false := fun j => H1.out.at_.blk.frozen j
  have same : ∀ x y : Int, NetIs w1 b k n (.slice A s.fly.length cc) s → SendPost w b k n (.slice A s.fly.length cc) (s, x, y) (.returned (.tuple #[.int .i64 x, .int .i64 y])) w1 := fun x y hn => ⟨rfl, _, hn, .inl rfl, HF1.out.mono fun _ _ e => e.elim⟩
  have HS := Lib.hid same
  clear same
  unfold NS.send at HR
  cases hk : s.knows from_ to_
  · rw [hk, if_pos rfl] at HR
    have HRR := HR.out
    clear HR hk
    subst HRR
    go_wp2_with fail
    go_ret2
    exact HS.out _ _ H1.out
  · rw [hk, if_neg (by decide)] at HR
    by_cases h1 : 1048576 < t.size
    · rw [if_pos h1] at HR
      have HRR := HR.out
      clear HR hk
      subst HRR
      go_wp2_with fail
      go_ret2
      exact HS.out _ _ H1.out
    · rw [if_neg h1] at HR
      by_cases h2 : 65536 ≤ s.fly.length
      · rw [if_pos h2] at HR
        have HRR := HR.out
        have h3 : decide ((65536 : Int) ≤ (s.fly.length : Int)) = true := by simpa using (by omega)
        clear HR hk h2 hlen
        subst HRR
        go_wp2_with fail
        go_ret2
        exact HS.out _ _ H1.out
      · rw [if_neg h2] at HR
        have h3 : decide ((65536 : Int) ≤ (s.fly.length : Int)) = false := by simpa using (by omega)
        have H2 := Lib.hid h2
        clear h2 hlen
        go_wp2_with fail
        have hst := H1.out.at_.setSent (s.sent + 1)
        have HA := Lib.hid hst.1
        have HRA := Lib.hid hst.2
        clear hst c1 c2 HX1 HS fz
        have fz2 : (w1.setCell ⟨b, 1, none⟩ (.int .i64 (s.sent + 1))).drew.frozen? ⟨b, 2, none⟩ = false := HA.out.blk.frozen 2
        generalize w1.setCell ⟨b, 1, none⟩ (.int .i64 (s.sent + 1)) = w2 at HA HRA ⊢
        have d1 : w2.drew.cell? ⟨b, 1, none⟩ = some (.int .i64 (s.sent + 1)) := HA.out.blk.cell 1
        have d2 : w2.drew.cell? ⟨b, 2, none⟩ = some (.slice A s.fly.length cc) := HA.out.blk.cell 2
        have HO : Hid (w2.ownsRow 0 39 4 (.slice A s.fly.length cc) s.fly.length (s.fly.map Letter.cells).flatten) := Lib.hid (by have := HA.out.recs.own; rw [List.length_map] at this; exact this)
        have hl1 : s.fly.length + 1 ≤ maxLen := by unfold maxLen; have := H2.out; omega
        have hl2 : (s.fly.length + 1) * 40 ≤ 140737488355328 := by have := H2.out; omega
        have HK1 : Hid (∀ w', w2.grownBy w' (Value.slice A s.fly.length cc).ownBlock → w'.cell? ⟨b, 1, none⟩ = some (.int .i64 (s.sent + 1)) ∧ w'.cell? ⟨b, 2, none⟩ = some (.slice A s.fly.length cc) ∧ w'.frozen? ⟨b, 2, none⟩ = false) := Lib.hid fun w' hg => by
          have hB := HA.out.blk.fr (Fr.of_grown hg (S := fun j => (Value.slice A s.fly.length cc).ownBlock = some j) fun _ e => e) HA.out.ne
          exact ⟨hB.cell 1, hB.cell 2, hB.frozen 2⟩
        have HL1 := Lib.hid hl1
        have HL2 := Lib.hid hl2
        clear hl1 hl2
        have d3 : ∀ o, (w2.alloc o).cell? ⟨b, 2, none⟩ = some (.slice A s.fly.length cc) := fun o => Lib.cell?_alloc_some _ d2
        go_region_law ((refine step_app_d (by rfl) (.tmp 43) (.tmp 52) 34 (by rfl) 0 39 _ 4 40 Try.underlying34 letter_infoS rfl (by decide) (.slice A s.fly.length cc) s.fly.length _ (by rfl) HO.out [.int .i64 (s.sent + 1), .int .i64 from_, .int .i64 to_, .string t] 39 1 1 (by rfl) (by rfl) (by rfl) HL1.out HL2.out (Nat.zero_le _) ?_; intro v' w' hO hG hN; obtain ⟨k1, k2, k3⟩ := HK1.out w' hG.out; obtain ⟨A', c', rfl⟩ := own_slice hO.out))
        all_goals
          have hp := HA.out.push ⟨s.sent + 1, from_, to_, t⟩ hO.out hG.out hN.out
          have HP := Lib.hid hp
          clear hp hO hG hN k2 d1 d2 d3 fz2 HK1
          go_wp2_with fail
          go_ret2
          rw [← HR.out]
          exact ⟨rfl, _, ⟨HP.out.1, H1.out.ok.push (by have := H2.out; omega) hk⟩, (NetR.of_fr HF1.out b k _).trans (HRA.out.trans HP.out.2)⟩
end Go.Proofs.Ytiaknanflgdmoaa
