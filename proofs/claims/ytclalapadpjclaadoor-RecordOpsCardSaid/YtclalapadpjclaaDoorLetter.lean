/- A letter that came in: a message's numbers and texts. -/
import Derived.Test.YtclalapadpjclaaDoorRecLaw
import Derived.Test.YtclalapadpjclaaDoorOpenS
namespace Go.Proofs.YtclalapadpjclaaDoor
open Go.RowKit Go.Deep
set_option linter.unusedVariables false
set_option linter.unusedSimpArgs false
/-- the five cells of a message -/
structure RLetter (w : World) (cs : List Value) (m : Rec.Msg) : Prop where
  val : ∃ pn cn pt ct, cs = [.int .i64 m.k, .int .i64 m.c, .int .i64 m.a, .slice pn m.N.length cn, .slice pt m.T.length ct] ∧ Vw w 1 pn m.N.length cn (ints m.N) ∧ Vw w 1 pt m.T.length ct (strs m.T)
  wf : m.Wf
  nb : m.N.length * 8 ≤ 140737488351232
  tb : m.T.length * 16 ≤ 140737488351232
  ss : ∀ s ∈ m.T, s.size ≤ 140737488351232
def lbulk (m : Rec.Msg) : Nat := m.N.length + (m.T.map fun s => s.size + 1).sum
theorem bulk_ints (l : List Int) : l.length ≤ bulkL (fun x => vbulk [.int .i64 x]) l := by
  unfold bulkL
  have : (l.map fun x => vbulk [Value.int .i64 x]).sum = l.length := by
    induction l with
    | nil => rfl
    | cons x l ih => rw [List.map_cons, List.sum_cons, ih, List.length_cons, show vbulk [Value.int .i64 x] = 1 from rfl]; omega
  omega
theorem bulk_texts (l : List ByteArray) : (l.map fun s => s.size + 1).sum ≤ bulkL (fun x => vbulk [.string x]) l := by
  unfold bulkL
  have : (l.map fun x => vbulk [Value.string x]).sum = (l.map fun s => s.size + 1).sum := by
    induction l with
    | nil => rfl
    | cons x l ih =>
      rw [List.map_cons, List.sum_cons, ih, List.map_cons, List.sum_cons]
      simp [vbulk, vb]
  omega
theorem opens_letter (w : World) : Opens Tryd.prog w 25 RLetter lbulk := by
  have h := opens_struct (P := Tryd.prog) (w := w) (t := 25) (n := 5) Tryd.underlying25 (by kernel_rfl)
    (opensF_cons (off := 0) (sz := 1) rfl (by kernel_rfl) (opens_int1 (t := 3) (by kernel_rfl) w)
    (opensF_cons (off := 1) (sz := 1) rfl (by kernel_rfl) (opens_int1 (t := 3) (by kernel_rfl) w)
    (opensF_cons (off := 2) (sz := 1) rfl (by kernel_rfl) (opens_int1 (t := 3) (by kernel_rfl) w)
    (opensF_cons (off := 3) (sz := 1) rfl (by kernel_rfl) (opens_ints (t := 22) Tryd.underlying22 (by kernel_rfl) (by kernel_rfl) (by kernel_rfl) w)
    (opensF_cons (off := 4) (sz := 1) rfl (by kernel_rfl) (opens_strs (t := 23) Tryd.underlying23 (by kernel_rfl) (by kernel_rfl) (by kernel_rfl) w)
    (opensF_nil (off := 5) (n := 5) (Nat.le_refl _)))))))
  intro H enc fuel cs d ps ht hw
  obtain ⟨⟨k, c, a, N, T, u⟩, hx, hb⟩ := h H enc fuel cs d ps ht hw
  dsimp only at hx hb
  obtain ⟨⟨e0, k1⟩, ⟨e1, c1⟩, ⟨e2, a1⟩, hN, hT, e5⟩ := hx
  obtain ⟨pn, nn, cn, e3, _⟩ := id hN
  obtain ⟨pt, tt, ct, e4, _⟩ := id hT
  rw [e3] at hN
  rw [e4] at hT
  obtain ⟨ln, bn, wn, vn⟩ := vw_rsl1 hN
  obtain ⟨lt, bt, wt, vt⟩ := vw_rsl1 hT
  have hcs : cs = [.int .i64 k, .int .i64 c, .int .i64 a, .slice pn nn cn, .slice pt tt ct] := by
    rw [← List.take_append_drop 1 cs, e0, ← List.take_append_drop 1 (cs.drop 1), e1, ← List.take_append_drop 1 ((cs.drop 1).drop 1), e2, ← List.take_append_drop 1 (((cs.drop 1).drop 1).drop 1), e3, ← List.take_append_drop 1 ((((cs.drop 1).drop 1).drop 1).drop 1), e4, e5]
    rfl
  subst ln lt
  refine ⟨⟨k, c, a, N, T⟩, ⟨⟨pn, cn, pt, ct, hcs, vn, vt⟩, ⟨k1.1, k1.2, c1.1, c1.2, a1.1, a1.2, fun x hx => ⟨(wn x hx).1, (wn x hx).2⟩⟩, ?_, ?_, wt⟩, ?_⟩
  · have := vn.1; dsimp only; omega
  · have := vt.1; dsimp only; omega
  · have h1 := bulk_ints N
    have h2 := bulk_texts T
    unfold lbulk
    dsimp only
    omega
/-- a letter's bytes -/
theorem body_len (m : Rec.Msg) (hm : m.Wf) (hs : ∀ s ∈ m.T, s.size ≤ 140737488351232) (ht : m.T.length ≤ 140737488355328) (hn : m.N.length ≤ 140737488355328) : (Rec.body m).length ≤ 50 + 11 * lbulk m := by
  have e10 : ∀ x : Int, -9223372036854775808 ≤ x → x ≤ 9223372036854775807 → (Wire.enc x).length ≤ 10 := fun x h1 h2 => Wire.uv_len10 (Wire.zz_lt h1 h2)
  have hN : ∀ l : List Int, (∀ x ∈ l, -9223372036854775808 ≤ x ∧ x ≤ 9223372036854775807) → (Rec.encN l).length ≤ 10 * l.length := by
    intro l
    induction l with
    | nil => intro _; exact Nat.le_refl _
    | cons x l ih =>
      intro h
      have h1 := e10 x (h x (List.mem_cons_self ..)).1 (h x (List.mem_cons_self ..)).2
      have h2 := ih fun y hy => h y (List.mem_cons_of_mem _ hy)
      have e : Rec.encN (x :: l) = Wire.enc x ++ Rec.encN l := rfl
      rw [e, List.length_append, List.length_cons]; omega
  have hT : ∀ l : List ByteArray, (∀ x ∈ l, x.size ≤ 140737488351232) → (Rec.encT l).length ≤ 11 * (l.map fun s => s.size + 1).sum := by
    intro l
    induction l with
    | nil => intro _; exact Nat.le_refl _
    | cons x l ih =>
      intro h
      have h0 := h x (List.mem_cons_self ..)
      have h1 := e10 (x.size : Int) (by omega) (by omega)
      have h2 := ih fun y hy => h y (List.mem_cons_of_mem _ hy)
      have e : Rec.encT (x :: l) = Rec.txt x ++ Rec.encT l := rfl
      have hx : x.data.toList.length = x.size := by simp
      rw [e, List.length_append, List.map_cons, List.sum_cons]
      unfold Rec.txt
      rw [List.length_append, hx]; omega
  have h1 := hN [m.k, m.c, m.a, (m.N.length : Int)] (fun x hx => by
    simp only [List.mem_cons, List.not_mem_nil, or_false] at hx
    rcases hx with rfl | rfl | rfl | rfl
    · exact ⟨hm.k1, hm.k2⟩
    · exact ⟨hm.c1, hm.c2⟩
    · exact ⟨hm.a1, hm.a2⟩
    · omega)
  have h2 := hN m.N hm.n1
  have h3 := hT m.T hs
  have h4 := e10 (m.T.length : Int) (by omega) (by omega)
  unfold Rec.body lbulk
  simp only [List.length_append, List.length_cons, List.length_nil] at *
  omega
/-! ### the contracts over values that are messages -/
theorem message_v (m : Rec.Msg) (v : Value) (w : World) (hv : MsgIs w v m) (hn : m.N.length * 8 ≤ 281474976710656) (ht : m.T.length * 16 ≤ 281474976710656) :
    Calls Tryd.prog 9 #[v] w fun e w' => ∃ v', e = .returned v' ∧ MsgIs w' v' m ∧ Below w.heap.size w w' := by
  obtain ⟨pn, cn, pt, ct, rfl, h1, h2⟩ := hv
  refine (message_c m.k m.c m.a m.N m.T pn _ cn pt _ ct w h1 h2 hn ht).mono ?_
  rintro e w' ⟨qn, dn, qt, dt, rfl, k1, k2, hb⟩
  exact ⟨_, rfl, ⟨qn, dn, qt, dt, rfl, k1, k2⟩, hb⟩
theorem encode_v (m : Rec.Msg) (hm : m.Wf) (v : Value) (w : World) (hv : MsgIs w v m) (hl : (Rec.body m).length ≤ 140737488355328) (hn : m.N.length ≤ 140737488355328) (ht : m.T.length ≤ 140737488355328) (hS : ShTab w) :
    Calls Tryd.prog 8 #[v] w fun e w' => e = .returned (.string ⟨(Rec.encB m).toArray⟩) ∧ Below w.heap.size w w' := by
  obtain ⟨pn, cn, pt, ct, rfl, h1, h2⟩ := hv
  exact encode_c m hm pn cn pt ct w h1 h2 hl hn ht hS
theorem valid_v (m : Rec.Msg) (v : Value) (w : World) (hv : MsgIs w v m) (hn : m.N.length ≤ 140737488355328) (ht : m.T.length ≤ 140737488355328) (hS : ShTab w) :
    Calls Tryd.prog 10 #[v] w fun e w' => e = .returned (.bool (Rec.validB m.k m.N.length m.T.length)) ∧ Below w.heap.size w w' := by
  obtain ⟨pn, cn, pt, ct, rfl, h1, h2⟩ := hv
  exact valid_c m.k m.c m.a pn _ cn pt _ ct hn ht w hS
theorem doc_v (m : Rec.Msg) (v : Value) (w : World) (hv : MsgIs w v m) : Calls Tryd.prog 12 #[v] w fun e w' => ∃ v', e = .returned v' ∧ MsgIs w' v' m ∧ Below w.heap.size w w' := by
  obtain ⟨pn, cn, pt, ct, rfl, h1, h2⟩ := hv
  refine (doc_c m.k m.c m.a pn _ cn pt _ ct w).mono ?_
  rintro e w' ⟨rfl, hb⟩
  exact ⟨_, rfl, ⟨pn, cn, pt, ct, rfl, h1.below hb (Nat.le_refl _), h2.below hb (Nat.le_refl _)⟩, hb⟩
theorem MsgIs.below {w w' : World} {v : Value} {m : Rec.Msg} {N : Nat} (h : MsgIs w v m) (hb : Below N w w') (hN : w.heap.size ≤ N) : MsgIs w' v m := by
  obtain ⟨pn, cn, pt, ct, rfl, h1, h2⟩ := h
  exact ⟨pn, cn, pt, ct, rfl, h1.below hb hN, h2.below hb hN⟩
end Go.Proofs.YtclalapadpjclaaDoor
