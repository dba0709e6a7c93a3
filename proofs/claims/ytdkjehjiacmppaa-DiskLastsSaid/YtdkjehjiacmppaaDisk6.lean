/- disk: again. -/
import Derived.Test.YtdkjehjiacmppaaDisk5
import Derived.Test.YtdkjehjiacmppaaClone4
namespace Go.Proofs.Ytdkjehjiacmppaa
open Go.RowKit Go.Maps
set_option linter.unusedVariables false
set_option linter.unusedSimpArgs false
/-! ### the bytes of all files -/
def lenSum (F : Files) (l : List ByteArray) : Int := ((l.map fun x => ((F.at x).length : Int))).sum
theorem lenSum_perm {F : Files} {l m : List ByteArray} (h : l.Perm m) : lenSum F l = lenSum F m := by
  induction h with
  | nil => rfl
  | cons x _ ih => unfold lenSum at *; simp only [List.map_cons, List.sum_cons, ih]
  | swap x y l => unfold lenSum; simp only [List.map_cons, List.sum_cons]; omega
  | trans _ _ ih1 ih2 => exact ih1.trans ih2
theorem lenSum_snoc (F : Files) (l : List ByteArray) (x : ByteArray) : lenSum F (l ++ [x]) = lenSum F l + (F.at x).length := by
  unfold lenSum; simp
theorem lenSum_nonneg (F : Files) (l : List ByteArray) : 0 ≤ lenSum F l := by
  unfold lenSum
  induction l with
  | nil => simp
  | cons x l ih => simp only [List.map_cons, List.sum_cons]; omega
/-- just the names that are there, each once -/
def Covers (F : Files) (l : List ByteArray) : Prop := l.Nodup ∧ ∀ x, x ∈ l ↔ (F x).isSome = true
theorem perm_of_mem {α : Type} [DecidableEq α] : ∀ {l m : List α}, l.Nodup → m.Nodup → (∀ x, x ∈ l ↔ x ∈ m) → l.Perm m
  | [], m, _, _, h => by
    cases m with
    | nil => exact .nil
    | cons y m => exact absurd ((h y).2 (by simp)) (by simp)
  | x :: l, m, hl, hm, h => by
    obtain ⟨h1, h2⟩ := List.nodup_cons.1 hl
    have hx : x ∈ m := (h x).1 (by simp)
    have hp : m.Perm (x :: m.erase x) := List.perm_cons_erase hx
    refine .trans (.cons x ?_) hp.symm
    have hm2 : (x :: m.erase x).Nodup := hp.nodup_iff.1 hm
    obtain ⟨h3, h4⟩ := List.nodup_cons.1 hm2
    refine perm_of_mem h2 h4 fun y => ?_
    have := h y
    by_cases e : y = x
    · subst e
      exact ⟨fun hy => absurd hy h1, fun hy => absurd hy h3⟩
    · rw [List.mem_cons, hp.mem_iff, List.mem_cons] at this
      simpa [e] using this
open Classical in
noncomputable def Files.total (F : Files) : Int := if h : ∃ l, Covers F l then lenSum F h.choose else 0
theorem total_eq {F : Files} {l : List ByteArray} (h : Covers F l) : F.total = lenSum F l := by
  have hx : ∃ l, Covers F l := ⟨l, h⟩
  unfold Files.total
  rw [dif_pos hx]
  exact lenSum_perm (perm_of_mem hx.choose_spec.1 h.1 fun x => (hx.choose_spec.2 x).trans (h.2 x).symm)
/-- no more bytes than a number holds -/
def Files.Small (F : Files) : Prop := ∀ l : List ByteArray, l.Nodup → (∀ x ∈ l, (F x).isSome = true) → lenSum F l ≤ 4611686018427387904
theorem MapAt.cloned {P : Program} {K : TypeId} {α : Type} {w : World} {k : Key P K α} {b n : Nat} {g : α → Option Value} (h : MapAt w k b n g) :
    ∃ es clock, w.heap[b]? = some (.map es clock) ∧ MapAt (w.alloc (.map es clock)) k w.heap.size n g := by
  obtain ⟨D, ⟨es, clock, hb, F, hs, hD⟩, hg⟩ := h
  exact ⟨es, clock, hb, D, ⟨es, clock, (MapKept.heap_alloc w _).1, F, hs, hD⟩, hg⟩
theorem MapF.cloned {w : World} {N N' : Nat → Prop} {m : Nat} {L : List ByteArray} {F : Files} (h : MapF w N m L F) (hN : ∀ q, q < w.heap.size → N' q → N q) :
    ∃ es clock, w.heap[m]? = some (.map es clock) ∧ MapF (w.alloc (.map es clock)) N' w.heap.size L F := by
  obtain ⟨⟨g, h1, h2⟩, h3, h4⟩ := h
  obtain ⟨es, clock, hb, h5⟩ := h1.cloned
  refine ⟨es, clock, hb, ⟨⟨g, h5, fun x => ?_⟩, h3, h4⟩⟩
  have := h2 x
  cases e : F x with
  | none => rw [e] at this; exact this
  | some l =>
    rw [e] at this
    obtain ⟨v, h5, h6⟩ := this
    exact ⟨v, h5, h6.move (S := fun _ => False) ((Fr.refl w _).alloc _) (fun q _ e => e.elim) hN⟩
def DkAgain (w : World) (B b ml mh : Nat) (cv : Value) (Ll : List ByteArray) (S : DkSt) (e : Ending) (w' : World) : Prop :=
  e = .returned (.tuple #[]) ∧ ∃ mh', DkAt w' B b ml mh' cv Ll Ll { S with held := S.last, used := S.last.total } ∧ DkR w b ml mh cv w' mh' cv
theorem DkAt.frB {w w' : World} {B b ml mh : Nat} {cv : Value} {Ll Lh : List ByteArray} {S : DkSt} (h : DkAt w B b ml mh cv Ll Lh S) (hf : Fr w w' (fun j => j = b)) (u : Int) (hb : Blk w' b [.int .i64 S.cap, .int .i64 u, .map (some ml), .map (some mh), cv] 58) : DkAt w' B b ml mh cv Ll Lh { S with used := u } :=
  ⟨hb, h.ne, h.lo, own_fr h.row hf (fun q e e2 => (h.apart q e).1 e2), h.apart, h.last.fr hf h.ne.1 (fun q e => .inl e), h.held.fr hf h.ne.2.1 (fun q e => .inl e), h.ok⟩
theorem DkAt.reheld {w w1 : World} {B b ml mh mh' : Nat} {cv : Value} {Ll Lh : List ByteArray} {S : DkSt} (h : DkAt w B b ml mh cv Ll Lh S) (hf1 : Fr w w1 (fun _ => False)) (he : w.heap.size ≤ mh') (v : Value) (hv : v = .map (some mh'))
    (hM : MapF w1 (DkN b ml mh' cv) mh' Ll S.last) :
    DkAt ((w1.setCell ⟨b, 3, none⟩ v).setCell ⟨b, 1, none⟩ (.int .i64 0)) B b ml mh' cv Ll Ll { S with held := S.last, used := 0 } ∧
    DkR w b ml mh cv ((w1.setCell ⟨b, 3, none⟩ v).setCell ⟨b, 1, none⟩ (.int .i64 0)) mh' cv := by
  subst hv
  have hlt := h.blk.lt
  have hll := h.last.lt
  have hN : ∀ q, q < w.heap.size → DkN b ml mh' cv q → DkN b ml mh cv q := by
    rintro q hq (e | e | e | e)
    · exact .inl e
    · exact .inr (.inl e)
    · omega
    · exact .inr (.inr (.inr e))
  have hfb : Fr w1 ((w1.setCell ⟨b, 3, none⟩ (.map (some mh'))).setCell ⟨b, 1, none⟩ (.int .i64 0)) (fun j => j = b) := by
    refine Fr.setCell (Fr.setCell (Fr.refl w1 (fun j => j = b)) ⟨b, 3, none⟩ _ ?_) ⟨b, 1, none⟩ _ ?_
    · intro _; rfl
    · intro _; rfl
  have hf : Fr w ((w1.setCell ⟨b, 3, none⟩ (.map (some mh'))).setCell ⟨b, 1, none⟩ (.int .i64 0)) (fun j => j = b) := (hf1.mono fun _ _ e => e.elim).trans hfb fun _ _ e => e
  have hb1 := h.blk.fr hf1 (fun e => e)
  have hb2 := hb1.set 3 (.map (some mh'))
  have hb3 : Blk ((w1.setCell ⟨b, 3, none⟩ (.map (some mh'))).setCell ⟨b, 1, none⟩ (.int .i64 0)) b [.int .i64 S.cap, .int .i64 0, .map (some ml), .map (some mh'), cv] 58 := hb2.set 1 (.int .i64 0)
  have hne : ml ≠ b ∧ mh' ≠ b ∧ ml ≠ mh' := ⟨h.ne.1, by omega, by omega⟩
  have hlo : B ≤ b ∧ B ≤ ml ∧ B ≤ mh' := ⟨h.lo.1, h.lo.2.1, Nat.le_trans h.lo.1 (by omega)⟩
  have hrow := own_fr h.row hf (fun q e e2 => (h.apart q e).1 e2)
  have hap : ∀ q, cv.ownBlock = some q → q ≠ b ∧ q ≠ ml ∧ q ≠ mh' := fun q e => by
    have h1 := h.apart q e
    have h2 := (h.row.lt q e).2
    exact ⟨h1.1, h1.2.1, by omega⟩
  have hl := h.last.move hf h.ne.1 (fun q _ e => .inl e) hN
  have hh := hM.fr hfb hne.2.1 (fun q e => .inl e)
  generalize (w1.setCell ⟨b, 3, none⟩ (.map (some mh'))).setCell ⟨b, 1, none⟩ (.int .i64 0) = w9 at *
  refine ⟨⟨hb3, hne, hlo, hrow, hap, hl, hh, h.ok⟩, ⟨?_, .inr he, fun q e => .inl e⟩⟩
  exact hf.mono fun _ _ e => .inl e
set_option maxRecDepth 20000 in
set_option maxHeartbeats 4000000 in
theorem again_c (B b ml mh : Nat) (cv : Value) (Ll Lh : List ByteArray) (S : DkSt) (w : World) (h : DkAt w B b ml mh cv Ll Lh S) (h0 : S.chg = []) (hsm : S.last.Small) :
    Calls Try.prog 28 #[.pointer (some ⟨b, 0, none⟩)] w (DkAgain w B b ml mh cv Ll S) := by
  have hN : ∀ q, q < w.heap.size → DkN b ml w.heap.size cv q → DkN b ml mh cv q := by
    rintro q hq (e | e | e | e)
    · exact .inl e
    · exact .inr (.inl e)
    · omega
    · exact .inr (.inr (.inr e))
  obtain ⟨es, clock, hm, hM⟩ := h.last.cloned hN
  obtain ⟨hA, hR⟩ := h.reheld ((Fr.refl w _).alloc (.map es clock)) (Nat.le_refl _) _ rfl hM
  have HCL := Lib.hid (Try.maps_Clone ml es clock w hm)
  have z : ∀ j, w.cell? ⟨b, j, none⟩ = [Value.int .i64 S.cap, .int .i64 S.used, .map (some ml), .map (some mh), cv][j]? := fun j => h.blk.cell j
  have hb1 := h.blk.alloc (.map es clock)
  have f3 : (w.alloc (.map es clock)).frozen? ⟨b, 3, none⟩ = false := hb1.frozen 3
  have z3 : (w.alloc (.map es clock)).cell? ⟨b, 3, none⟩ = some (.map (some mh)) := hb1.cell 3
  have hb2 := hb1.set 3 (.map (some w.heap.size))
  have f1 : ((w.alloc (.map es clock)).setCell ⟨b, 3, none⟩ (.map (some w.heap.size))).frozen? ⟨b, 1, none⟩ = false := hb2.frozen 1
  have z1 : ((w.alloc (.map es clock)).setCell ⟨b, 3, none⟩ (.map (some w.heap.size))).cell? ⟨b, 1, none⟩ = some (.int .i64 S.used) := hb2.cell 1
  have hrow := h.row
  rw [h0] at hrow
  obtain ⟨A, cc, rfl⟩ := own_slice hrow
  have HA := Lib.hid hA
  have HR := Lib.hid hR
  have HSM := Lib.hid hsm
  clear h hsm hM hm hA hR hb1 hb2 hrow hN
  simp only [List.length_nil] at *
  go_enter Try.func28, Try.ntmps28
  go_wp2_with fail
  refine HCL.out.mono ?_
  rintro _ _ ⟨rfl, rfl⟩
  go_upto_region 2 with (fail)
  generalize ((w.alloc (Obj.map es clock)).setCell ⟨b, 3, none⟩ (.map (some w.heap.size))).setCell ⟨b, 1, none⟩ (.int .i64 0) = w3 at HA HR ⊢
  generalize w.heap.size = mh' at HA HR ⊢
  clear z f3 z3 f1 z1 HCL
  have z4 : w3.cell? ⟨b, 4, none⟩ = some (.slice A 0 cc) := HA.out.blk.cell 4
  go_wp2_with fail
  go_loopg [3, 22] 0 (fun g v3 v22 wr => v22 = .int .i64 0 ∧ w3 = wr)
  case atStart => exact ⟨rfl, rfl⟩
  case round =>
    obtain ⟨rfl, rfl⟩ := hrel
    have z3 : w3.cell? ⟨b, 3, none⟩ = some (.map (some mh')) := HA.out.blk.cell 3
    clear z4
    obtain ⟨⟨g, hMg, hSg⟩, hcov, hokk⟩ := HA.out.held
    have HMG := Lib.hid hMg
    have HSG := Lib.hid hSg
    have HCV : Hid (∀ x ∈ Ll, x.size ≤ maxLen) := Lib.hid hokk
    have HCO : Hid (∀ x, (S.last x).isSome = true → x ∈ Ll) := Lib.hid hcov
    clear hMg hSg hcov hokk
    go_wp2_with (first
      | (at_range; refine wpList_rangeM _ rfl _ 55 rfl 67 Try.underlying55 mh' Ll.length g rfl HMG.out ?_; intro w0 HR0 HF0 hs0)
      | go_in)
    clear z3
    generalize hr : w3.heap.size = r at HR0 HF0 hs0 ⊢
    have HLT : Hid (b < r ∧ mh' < r) := Lib.hid ⟨hr ▸ HA.out.blk.lt, hr ▸ HA.out.held.lt⟩
    have HB0 : Hid (Blk w0 b [.int .i64 S.cap, .int .i64 (lenSum S.last []), .map (some ml), .map (some mh'), .slice A 0 cc] 58) := Lib.hid (HA.out.blk.fr HF0.out (fun e => e))
    have HFB : Hid (Fr w3 w0 (fun j => j = b)) := Lib.hid (HF0.out.mono fun _ _ e => e.elim)
    have HRS : Hid (r < w0.heap.size) := Lib.hid (by omega)
    clear HF0
    go_loopg [5] (w0.rangeLeft mh' r) (fun gg v5 wr => ∃ done : List ByteArray, gg = wr.rangeLeft mh' r ∧ Hid (MapR wr Dk.key mh' r Ll.length g done) ∧ Hid (Blk wr b [.int .i64 S.cap, .int .i64 (lenSum S.last done), .map (some ml), .map (some mh'), .slice A 0 cc] 58) ∧ Hid (Fr w3 wr (fun j => j = b)) ∧ Hid (r < wr.heap.size))
    case atStart => exact ⟨[], rfl, HR0, HB0, HFB, HRS⟩
    case round =>
      obtain ⟨done, hgg, HRd, HBd, HFd, HSd⟩ := hrel
      have HG := Lib.hid hgg
      clear hgg
      go_wp2_with (first
        | (at_next; refine wpList_nextM _ rfl _ rfl Dk.inv mh' r Ll.length g done rfl HRd.out ?_ ?_)
        | go_in)
      · intro hall
        have HALL := Lib.hid hall
        clear hall
        go_wp2_with fail
        go_end0
        have hcv : Covers S.last done := by
          refine ⟨?_, fun x => ⟨fun hx => ?_, fun hx => ?_⟩⟩
          · obtain ⟨_, _, _, _, _, _, h1, _⟩ := HRd.out; exact h1
          · obtain ⟨_, _, _, _, _, _, _, h2⟩ := HRd.out
            have h3 := (h2 x hx).2
            have h4 := HSG.out x
            cases e : S.last x with
            | none => rw [e] at h4; rw [h4] at h3; cases h3
            | some l => rfl
          · refine HALL.out x (HCV.out x (HCO.out x hx)) ?_
            have h4 := HSG.out x
            cases e : S.last x with
            | none => rw [e] at hx; cases hx
            | some l => rw [e] at h4; obtain ⟨v, h5, _⟩ := h4; rw [h5]; rfl
        rw [← total_eq hcv] at HBd
        refine ⟨rfl, mh', HA.out.frB HFd.out _ HBd.out, HR.out.trans ⟨HFd.out.mono fun _ _ e => .inl e, .inl rfl, fun q e => .inl e⟩⟩
      · intro x v w1 hx hg hnd HR1 HLT1 HF1 hsz hen
        obtain ⟨l, hxl, p, c, rfl⟩ : ∃ l, S.last x = some l ∧ ∃ p c, v = .slice p l.length c := by
          have h4 := HSG.out x
          cases e : S.last x with
          | none => rw [e] at h4; rw [h4] at hg; cases hg
          | some l =>
            rw [e] at h4
            obtain ⟨v', h5, h6⟩ := h4
            rw [h5] at hg
            cases hg
            obtain ⟨p, c, e2, _⟩ := h6.slice
            exact ⟨l, rfl, p, c, e2⟩
        have hen2 : (Instr.entry (.pointer (some ⟨r, 0, none⟩))).run Try.prog w1 = .ok (.tuple #[.string x, .slice p l.length c]) w1 := hen
        have hkv : Dk.key.kv x = .string x := rfl
        have hnr : ¬ b = r := by have := HLT.out; omega
        have hnm : ¬ mh' = b := HA.out.ne.2.1
        have hb1 := HBd.out.fr HF1.out hnr
        have z1 : w1.cell? ⟨b, 1, none⟩ = some (.int .i64 (lenSum S.last done)) := hb1.cell 1
        have f1 : w1.frozen? ⟨b, 1, none⟩ = false := hb1.frozen 1
        have hsn : lenSum S.last (done ++ [x]) = lenSum S.last done + (l.length : Int) := by rw [lenSum_snoc]; unfold Files.at; rw [hxl]; rfl
        have hbd : lenSum S.last done + (l.length : Int) ≤ 4611686018427387904 := by
          rw [← hsn]
          obtain ⟨_, _, _, _, _, _, h1, h2⟩ := HR1.out
          refine HSM.out _ h1 fun y hy => ?_
          have h3 := (h2 y hy).2
          have h4 := HSG.out y
          cases e : S.last y with
          | none => rw [e] at h4; rw [h4] at h3; cases h3
          | some l => rfl
        have hnn := lenSum_nonneg S.last done
        have a1 : wrap64 (lenSum S.last done + (l.length : Int)) = lenSum S.last done + (l.length : Int) := by unfold wrap64; omega
        have a2 : IntKind.i64.wrap (lenSum S.last done + (l.length : Int)) = lenSum S.last done + (l.length : Int) := by rw [IntKind.wrap_i64]; omega
        have HF2 : Hid (Fr w1 (w1.setCell ⟨b, 1, none⟩ (.int .i64 (lenSum S.last done + (l.length : Int)))) (fun j => j = b)) := Lib.hid (by
          refine Fr.setCell (Fr.refl w1 (fun j => j = b)) ⟨b, 1, none⟩ _ ?_
          intro _; rfl)
        have HB2 := Lib.hid (hb1.set 1 (.int .i64 (lenSum S.last done + (l.length : Int))))
        have HR2 := Lib.hid (HR1.out.fr HF2.out hnm (fun e => hnr e.symm))
        have HL2 : Hid ((w1.setCell ⟨b, 1, none⟩ (.int .i64 (lenSum S.last done + (l.length : Int)))).rangeLeft mh' r < gk) := Lib.hid (by
          rw [rangeLeft_fr HF2.out hnm (fun e => hnr e.symm) HR1.out.lt.1 HR1.out.lt.2.1, HG.out]
          exact HLT1.out)
        have HFF : Hid (Fr w3 (w1.setCell ⟨b, 1, none⟩ (.int .i64 (lenSum S.last done + (l.length : Int)))) (fun j => j = b)) := Lib.hid ((HFd.out.trans HF1.out fun y hy e => by have : y = r := e; omega).trans HF2.out fun _ _ e => e)
        have HS2 : Hid (r < (w1.setCell ⟨b, 1, none⟩ (.int .i64 (lenSum S.last done + (l.length : Int)))).heap.size) := Lib.hid (Nat.lt_of_lt_of_le (hsz ▸ HSd.out) HF2.out.size)
        have HSN := Lib.hid hsn
        clear hen hg hnd HR1 HLT1 hsz hnr hnm hb1 hsn hbd hnn HF1 hxl
        go_wp2_with fail
        go_roundg ((w1.setCell ⟨b, 1, none⟩ (.int .i64 (lenSum S.last done + (l.length : Int)))).rangeLeft mh' r)
        case measure => exact HL2.out
        case rel => exact ⟨done ++ [x], rfl, HR2, by rw [HSN.out]; exact HB2, HFF, HS2⟩
end Go.Proofs.Ytdkjehjiacmppaa
