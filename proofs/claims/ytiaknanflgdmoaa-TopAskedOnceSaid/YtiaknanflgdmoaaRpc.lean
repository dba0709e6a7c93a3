/- The contracts of Desk and of speaks. -/
import Derived.Test.YtiaknanflgdmoaaMaps
import Derived.StillTailTactics
namespace Go.Proofs.Ytiaknanflgdmoaa
open Go.RowKit Go.Maps
set_option linter.unusedVariables false
set_option linter.unusedSimpArgs false
structure Last where
  call : Int
  rep : Bool
  body : ByteArray
def Last.v (l : Last) : Value := .agg #[.int .i64 l.call, .bool l.rep, .string l.body]
def key : Key Try.prog 3 Int := intKey Try.underlying3
theorem zeroLast (w : World) : (zeroValue 64).run Try.prog w = .ok (.agg #[.int .i64 0, .bool false, .string ⟨#[]⟩]) w := by kernel_rfl
theorem eqlNil (w : World) : (binOp .eql 27 (.map none) (.map none)).run Try.prog w = .ok (.bool true) w := by kernel_rfl
theorem eqlSome (k : Nat) (w : World) : (binOp .eql 27 (.map (some k)) (.map none)).run Try.prog w = .ok (.bool false) w := by kernel_rfl
abbrev View := Int → Option Last
def View.set (f : View) (c : Int) (l : Last) : View := fun x => if x = c then some l else f x
theorem setK_view (f : View) (c : Int) (l : Last) : setK (fun x => (f x).map Last.v) c l.v = fun x => ((f.set c l) x).map Last.v := by
  funext x
  unfold setK View.set
  split <;> rfl
/-- A desk at block b: what its field holds, of at most n clients, with the view f. -/
structure DeskAt (w : World) (b : Nat) (mv : Value) (n : Nat) (f : View) : Prop where
  blk : Blk w b [mv] 29
  map : (mv = .map none ∧ f = fun _ => none) ∨ ∃ k, mv = .map (some k) ∧ k ≠ b ∧ MapAt w key k n (fun x => (f x).map Last.v)
structure DeskR (w : World) (b : Nat) (mv : Value) (w' : World) (mv' : Value) : Prop where
  lies : mv' = mv ∨ ∃ k, mv' = .map (some k) ∧ w.heap.size ≤ k
  fr : Fr w w' (fun k => k = b ∨ mv = .map (some k))
theorem DeskR.refl (w : World) (b : Nat) (v : Value) : DeskR w b v w v := ⟨.inl rfl, Fr.refl _ _⟩
theorem DeskR.trans {a c d : World} {b : Nat} {v v' v'' : Value} (h : DeskR a b v c v') (k : DeskR c b v' d v'') : DeskR a b v d v'' := by
  refine ⟨?_, h.fr.trans k.fr ?_⟩
  · rcases k.lies with e | ⟨g, e, hg⟩
    · rw [e]; exact h.lies
    · exact .inr ⟨g, e, Nat.le_trans h.fr.size hg⟩
  · intro x hx hs
    rcases hs with rfl | e
    · exact .inl rfl
    · rcases h.lies with e' | ⟨g, e', hg⟩
      · exact .inr (e' ▸ e)
      · rw [e'] at e; cases e; omega
def DeskTo (w : World) (b : Nat) (mv : Value) (n : Nat) (f : View) (w' : World) : Prop := ∃ mv', DeskAt w' b mv' n f ∧ DeskR w b mv w' mv'
theorem DeskAt.fr {w w' : World} {b n : Nat} {mv : Value} {f : View} {S : Nat → Prop} (h : DeskAt w b mv n f) (hf : Fr w w' S) (hb : ¬ S b) (hk : ∀ k, mv = .map (some k) → ¬ S k) : DeskAt w' b mv n f :=
  ⟨h.blk.fr hf hb, h.map.imp id fun ⟨k, e, hne, hM⟩ => ⟨k, e, hne, hM.fr hf (hk k e)⟩⟩
theorem DeskAt.mono {w : World} {b n m : Nat} {mv : Value} {f : View} (h : DeskAt w b mv n f) (hm : n ≤ m) : DeskAt w b mv m f :=
  ⟨h.blk, h.map.imp id fun ⟨k, e, hne, hM⟩ => ⟨k, e, hne, hM.mono hm⟩⟩
theorem DeskAt.new (w : World) : DeskAt (w.alloc (.cells #[.map none] 29)) w.heap.size (.map none) 0 (fun _ => none) :=
  ⟨Blk.new w [.map none] 29, .inl ⟨rfl, rfl⟩⟩
/-- A store into the desk's map, whatever lies there. -/
theorem DeskAt.put {w : World} {b k n : Nat} {f : View} (h : DeskAt w b (.map (some k)) n f) (hn : n < maxLen) (c : Int) (hc : (Lit.int .i64 c).wf = true) (l : Last) :
    ∃ w', (Instr.mapUpdate 27 (.map (some k)) (.int .i64 c) l.v).run Try.prog w = .ok () w' ∧ DeskAt w' b (.map (some k)) (n + 1) (f.set c l) ∧ DeskR w b (.map (some k)) w' (.map (some k)) := by
  obtain ⟨hB, hM⟩ := h
  rcases hM with ⟨e, _⟩ | ⟨k', e, hne, hM⟩
  · cases e
  · cases e
    obtain ⟨w', hrun, h1, h2⟩ := hM.store (t := 27) (e := 64) Try.underlying27 hn c hc l.v
    refine ⟨w', hrun, ⟨hB.fr h2 (fun e => hne e.symm), .inr ⟨k, rfl, hne, ?_⟩⟩, .inl rfl, h2.mono fun x _ e => .inr (by rw [e])⟩
    rw [← setK_view]; exact h1
theorem DeskAt.drew {w : World} {b n : Nat} {mv : Value} {f : View} (h : DeskAt w b mv n f) : DeskAt w.drew b mv n f := ⟨h.blk, h.map⟩
set_option maxHeartbeats 1000000 in
theorem put_any (b : Nat) (mv : Value) (n : Nat) (f : View) (c : Int) (hc : (Lit.int .i64 c).wf = true) (l : Last) (w : World) (hD : DeskAt w b mv n f) (hn : n < maxLen) :
    Calls Try.prog 24 #[.pointer (some ⟨b, 0, none⟩), .int .i64 c, l.v] w fun e w' => e = .returned (.tuple #[]) ∧ DeskTo w b mv (n + 1) (f.set c l) w' := by
  have hmm := @run_makeMap Try.prog
  have q1 := eqlNil
  have q2 := eqlSome
  have HD := Lib.hid hD
  have ca : ∀ o, (w.alloc o).cell? ⟨b, 0, none⟩ = some mv := fun o => (hD.blk.alloc o).cell 0
  have fa : ∀ o o', ((w.alloc o).alloc o').frozen? ⟨b, 0, none⟩ = false := fun o o' => ((hD.blk.alloc o).alloc o').frozen 0
  have ca2 : ∀ o o', ((w.alloc o).alloc o').cell? ⟨b, 0, none⟩ = some mv := fun o o' => ((hD.blk.alloc o).alloc o').cell 0
  have hlt := hD.blk.lt
  have HBX := Lib.hid (Blk.new w [.int .i64 l.call, .bool l.rep, .string l.body] 64)
  have HC := Lib.hid hc
  have HN := Lib.hid hn
  clear hc hn
  have hlv : l.v = .agg #[.int .i64 l.call, .bool l.rep, .string l.body] := rfl
  rcases hD.map with ⟨rfl, rfl⟩ | ⟨k, rfl, hne, hM⟩
  · have H4 : Hid (DeskAt (((w.alloc (.cells #[.int .i64 l.call, .bool l.rep, .string l.body] 64)).alloc (.map #[] 0)).setCell ⟨b, 0, none⟩ (.map (some (w.heap.size + 1)))) b (.map (some (w.heap.size + 1))) n (fun _ => none)) := by
      refine Lib.hid ⟨((hD.blk.alloc _).alloc _).set 0 _, .inr ⟨_, rfl, by omega, ?_⟩⟩
      have h0 := MapAt.new (w.alloc (.cells #[.int .i64 l.call, .bool l.rep, .string l.body] 64)) key
      rw [show (w.alloc (.cells #[.int .i64 l.call, .bool l.rep, .string l.body] 64)).heap.size = w.heap.size + 1 by simp] at h0
      exact (h0.fr ((Fr.refl _ (fun k => k = b)).setCell _ _ fun _ => rfl) (by omega)).mono (Nat.zero_le _)
    have H5 : Hid (DeskR w b (.map none) (((w.alloc (.cells #[.int .i64 l.call, .bool l.rep, .string l.body] 64)).alloc (.map #[] 0)).setCell ⟨b, 0, none⟩ (.map (some (w.heap.size + 1)))) (.map (some (w.heap.size + 1)))) :=
      Lib.hid ⟨.inr ⟨_, rfl, by omega⟩, (((Fr.refl w _).alloc _).alloc _).setCell _ _ fun _ => .inl rfl⟩
    have HB5 : Hid (Blk (((w.alloc (.cells #[.int .i64 l.call, .bool l.rep, .string l.body] 64)).alloc (.map #[] 0)).setCell ⟨b, 0, none⟩ (.map (some (w.heap.size + 1)))) w.heap.size [.int .i64 l.call, .bool l.rep, .string l.body] 64) :=
      Lib.hid ((HBX.out.alloc _).other _ _ (by show w.heap.size ≠ b; omega))
    clear hD HD hlt
    go_enter Try.func24, Try.ntmps24
    go_wp2
    generalize ((w.alloc (.cells #[.int .i64 l.call, .bool l.rep, .string l.body] 64)).alloc (.map #[] 0)).setCell ⟨b, 0, none⟩ (.map (some (w.heap.size + 1))) = w4 at H4 H5 HB5 ⊢
    clear ca fa ca2 HBX
    have c0 : w4.cell? ⟨b, 0, none⟩ = some (.map (some (w.heap.size + 1))) := H4.out.blk.cell 0
    have d0 : w4.cell? ⟨w.heap.size, 0, none⟩ = some (.int .i64 l.call) := HB5.out.cell 0
    have d1 : w4.cell? ⟨w.heap.size, 1, none⟩ = some (.bool l.rep) := HB5.out.cell 1
    have d2 : w4.cell? ⟨w.heap.size, 2, none⟩ = some (.string l.body) := HB5.out.cell 2
    obtain ⟨w5, hrun, h1, h2⟩ := H4.out.drew.put HN.out c HC.out l
    rw [hlv] at hrun
    have h3 := Lib.hid (DeskR.trans H5.out (DeskR.mk (.inl rfl) ((Fr.refl w4 _).drewN 1) : DeskR w4 b _ w4.drew _))
    have HF := Lib.hid (h3.out.trans h2)
    have H1 := Lib.hid h1
    clear h1 h2 hlv
    go_region
    go_end0
    exact ⟨rfl, _, H1.out, HF.out⟩
  · clear hD hM
    have H5 := Lib.hid (DeskR.mk (.inl rfl) ((Fr.refl w _).alloc (.cells #[.int .i64 l.call, .bool l.rep, .string l.body] 64)) : DeskR w b (.map (some k)) (w.alloc (.cells #[.int .i64 l.call, .bool l.rep, .string l.body] 64)) (.map (some k)))
    have H4 : Hid (DeskAt (w.alloc (.cells #[.int .i64 l.call, .bool l.rep, .string l.body] 64)) b (.map (some k)) n f) := Lib.hid (HD.out.fr ((Fr.refl w (fun _ => False)).alloc _) (fun e => e) (fun _ _ e => e))
    clear HD hlt
    go_enter Try.func24, Try.ntmps24
    go_wp2
    generalize w.alloc (.cells #[.int .i64 l.call, .bool l.rep, .string l.body] 64) = w4 at H4 H5 HBX ⊢
    clear ca fa ca2
    have c0 : w4.cell? ⟨b, 0, none⟩ = some (.map (some k)) := H4.out.blk.cell 0
    have d0 : w4.cell? ⟨w.heap.size, 0, none⟩ = some (.int .i64 l.call) := HBX.out.cell 0
    have d1 : w4.cell? ⟨w.heap.size, 1, none⟩ = some (.bool l.rep) := HBX.out.cell 1
    have d2 : w4.cell? ⟨w.heap.size, 2, none⟩ = some (.string l.body) := HBX.out.cell 2
    obtain ⟨w5, hrun, h1, h2⟩ := H4.out.drew.put HN.out c HC.out l
    rw [hlv] at hrun
    have h3 := Lib.hid (DeskR.trans H5.out (DeskR.mk (.inl rfl) ((Fr.refl w4 _).drewN 1) : DeskR w4 b _ w4.drew _))
    have HF := Lib.hid (h3.out.trans h2)
    have H1 := Lib.hid h1
    clear h1 h2 hlv
    go_region
    go_end0
    exact ⟨rfl, _, H1.out, HF.out⟩
theorem DeskAt.look {w : World} {b n : Nat} {mv : Value} {f : View} (h : DeskAt w b mv n f) (c : Int) (hc : (Lit.int .i64 c).wf = true) :
    (Instr.lookup 27 mv (.int .i64 c) true).run Try.prog w = .ok (.tuple #[((f c).map Last.v).getD (.agg #[.int .i64 0, .bool false, .string ⟨#[]⟩]), .bool (f c).isSome]) w := by
  rcases h.map with ⟨rfl, rfl⟩ | ⟨k, rfl, _, hM⟩
  · exact Maps.look_nil true key.keyed Try.underlying27 (zeroLast w) (key.of c hc)
  · have := hM.look (t := 27) (e := 64) Try.underlying27 (zeroLast w) c hc
    rw [Option.isSome_map] at this
    exact this
theorem DeskAt.alloc {w : World} {b n : Nat} {mv : Value} {f : View} (h : DeskAt w b mv n f) (o : Obj) : DeskAt (w.alloc o) b mv n f := h.fr ((Fr.refl w (fun _ => False)).alloc _) (fun e => e) (fun _ _ e => e)
theorem DeskAt.drewN {w : World} {b n : Nat} {mv : Value} {f : View} (h : DeskAt w b mv n f) (m : Nat) : DeskAt (w.drewN m) b mv n f := ⟨h.blk, h.map⟩
theorem DeskR.alloc {w w' : World} {b : Nat} {v v' : Value} (h : DeskR w b v w' v') (o : Obj) : DeskR w b v (w'.alloc o) v' := ⟨h.lies, h.fr.alloc o⟩
theorem DeskR.drewN {w w' : World} {b : Nat} {v v' : Value} (h : DeskR w b v w' v') (n : Nat) : DeskR w b v (w'.drewN n) v' := ⟨h.lies, h.fr.drewN n⟩
/-- What Ask answers, and what it leaves. -/
def View.ask (f : View) (c call : Int) : Int × ByteArray × View :=
  match f c with
  | none => (0, ⟨#[]⟩, f.set c ⟨call, false, ⟨#[]⟩⟩)
  | some l => if l.call < call then (0, ⟨#[]⟩, f.set c ⟨call, false, ⟨#[]⟩⟩) else if call < l.call then (3, ⟨#[]⟩, f) else if l.rep = true then (2, l.body, f) else (1, ⟨#[]⟩, f)
def View.reply (f : View) (c call : Int) (body : ByteArray) : Bool × View :=
  match f c with
  | none => (false, f)
  | some l => if l.call = call ∧ l.rep = false then (true, f.set c ⟨call, true, body⟩) else (false, f)
set_option maxHeartbeats 1000000 in
theorem ask_any (b : Nat) (mv : Value) (n : Nat) (f : View) (c call : Int) (hc : (Lit.int .i64 c).wf = true) (w : World) (hD : DeskAt w b mv n f) (hn : n < maxLen) :
    Calls Try.prog 12 #[.pointer (some ⟨b, 0, none⟩), .int .i64 c, .int .i64 call] w fun e w' => e = .returned (.tuple #[.int .i64 (f.ask c call).1, .string (f.ask c call).2.1]) ∧ DeskTo w b mv (n + 1) (f.ask c call).2.2 w' := by
  have HD := Lib.hid hD
  have HC := Lib.hid hc
  have c0 : w.cell? ⟨b, 0, none⟩ = some mv := hD.blk.cell 0
  have hlook := hD.look c hc
  clear hD hc
  unfold View.ask
  have HP := fun l w' (h : DeskAt w' b mv n f) => Lib.hid (put_any b mv n f c HC.out l w' h hn)
  cases hfc : f c with
  | none =>
    rw [hfc] at hlook
    simp only [Option.map_none, Option.getD_none, Option.isSome_none] at hlook
    clear hfc
    go_enter Try.func12, Try.ntmps12
    go_wp2_with fail
    refine (HP ⟨call, false, ⟨#[]⟩⟩ _ (HD.out.alloc _)).out.mono ?_
    rintro e w1 ⟨rfl, mv1, h1, h2⟩
    have H1 := Lib.hid h1
    have H2 := Lib.hid ((DeskR.refl w b mv).alloc (.cells #[.int .i64 0, .bool false, .string ⟨#[]⟩] 64) |>.trans h2)
    clear h1 h2
    go_wp2_with fail
    go_ret2
    exact ⟨rfl, _, H1.out, H2.out⟩
  | some l =>
    rw [hfc] at hlook
    simp only [Option.map_some, Option.getD_some, Option.isSome_some, Last.v] at hlook
    clear hfc
    obtain ⟨lc, lr, lb⟩ := l
    rcases Int.lt_trichotomy lc call with h | h | h
    · simp only [h, if_true]
      go_enter Try.func12, Try.ntmps12
      go_wp2_with fail
      refine (HP ⟨call, false, ⟨#[]⟩⟩ _ (HD.out.alloc _)).out.mono ?_
      rintro e w1 ⟨rfl, mv1, h1, h2⟩
      have H1 := Lib.hid h1
      have H2 := Lib.hid ((DeskR.refl w b mv).alloc (.cells #[.int .i64 lc, .bool lr, .string lb] 64) |>.trans h2)
      clear h1 h2
      go_wp2_with fail
      go_ret2
      exact ⟨rfl, _, H1.out, H2.out⟩
    · subst h
      simp only [Int.lt_irrefl, if_false]
      cases lr
      · go_enter Try.func12, Try.ntmps12
        go_wp2
        go_ret2
        exact ⟨rfl, _, (HD.out.alloc _).mono (by omega), (DeskR.refl w b mv).alloc _⟩
      · go_enter Try.func12, Try.ntmps12
        go_wp2
        go_quiet (fail)
        go_wp2
        go_ret2
        exact ⟨rfl, _, ((HD.out.alloc _).drewN _).mono (by omega), ((DeskR.refl w b mv).alloc _).drewN _⟩
    · have h2 : ¬ lc < call := by omega
      simp only [h, h2, if_true, if_false]
      go_enter Try.func12, Try.ntmps12
      go_wp2
      go_ret2
      exact ⟨rfl, _, (HD.out.alloc _).mono (by omega), (DeskR.refl w b mv).alloc _⟩
set_option maxHeartbeats 1000000 in
theorem reply_any (b : Nat) (mv : Value) (n : Nat) (f : View) (c call : Int) (hc : (Lit.int .i64 c).wf = true) (body : ByteArray) (w : World) (hD : DeskAt w b mv n f) (hn : n < maxLen) :
    Calls Try.prog 13 #[.pointer (some ⟨b, 0, none⟩), .int .i64 c, .int .i64 call, .string body] w fun e w' => e = .returned (.bool (f.reply c call body).1) ∧ DeskTo w b mv (n + 1) (f.reply c call body).2 w' := by
  have HD := Lib.hid hD
  have HC := Lib.hid hc
  have c0 : w.cell? ⟨b, 0, none⟩ = some mv := hD.blk.cell 0
  have hlook := hD.look c hc
  clear hD hc
  unfold View.reply
  have HP := fun l w' (h : DeskAt w' b mv n f) => Lib.hid (put_any b mv n f c HC.out l w' h hn)
  cases hfc : f c with
  | none =>
    rw [hfc] at hlook
    simp only [Option.map_none, Option.getD_none, Option.isSome_none] at hlook
    clear hfc
    go_enter Try.func13, Try.ntmps13
    go_wp2
    go_ret
    exact ⟨rfl, _, (HD.out.alloc _).mono (by omega), (DeskR.refl w b mv).alloc _⟩
  | some l =>
    rw [hfc] at hlook
    simp only [Option.map_some, Option.getD_some, Option.isSome_some, Last.v] at hlook
    clear hfc
    obtain ⟨lc, lr, lb⟩ := l
    by_cases h : lc = call
    · subst h
      cases lr
      · have e : (lc != lc) = false := by simp
        go_enter Try.func13, Try.ntmps13
        go_wp2_with fail
        refine (HP ⟨lc, true, body⟩ _ (HD.out.alloc _)).out.mono ?_
        rintro e w1 ⟨rfl, mv1, h1, h2⟩
        have H1 := Lib.hid h1
        have H2 := Lib.hid ((DeskR.refl w b mv).alloc (.cells #[.int .i64 lc, .bool false, .string lb] 64) |>.trans h2)
        clear h1 h2
        go_wp2_with fail
        go_ret
        exact ⟨rfl, _, H1.out, H2.out⟩
      · have e : (lc != lc) = false := by simp
        go_enter Try.func13, Try.ntmps13
        go_wp2
        go_ret
        exact ⟨rfl, _, (HD.out.alloc _).mono (by omega), (DeskR.refl w b mv).alloc _⟩
    · simp only [h, false_and, if_false]
      have e : (lc != call) = true := by simp [h]
      go_enter Try.func13, Try.ntmps13
      go_wp2
      go_ret
      exact ⟨rfl, _, (HD.out.alloc _).mono (by omega), (DeskR.refl w b mv).alloc _⟩
/-! ### no desk -/
set_option maxHeartbeats 1000000 in
theorem ask_nil (c call : Int) (w : World) : Calls Try.prog 12 #[.pointer none, .int .i64 c, .int .i64 call] w fun e w' => e = .returned (.tuple #[.int .i64 3, .string ⟨#[]⟩]) ∧ w = w' := by
  go_enter Try.func12, Try.ntmps12
  go_wp2
  go_ret2
  exact ⟨rfl, rfl⟩
set_option maxHeartbeats 1000000 in
theorem reply_nil (c call : Int) (body : ByteArray) (w : World) : Calls Try.prog 13 #[.pointer none, .int .i64 c, .int .i64 call, .string body] w fun e w' => e = .returned (.bool false) ∧ w = w' := by
  go_enter Try.func13, Try.ntmps13
  go_wp2
  go_ret
  exact ⟨rfl, rfl⟩
end Go.Proofs.Ytiaknanflgdmoaa
