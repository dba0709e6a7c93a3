/- disk: a disk in memory; a change is made. -/
import Derived.Test.YtdkjehjiacmppaaDisk2
namespace Go.Proofs.Ytdkjehjiacmppaa
open Go.RowKit Go.Maps
set_option linter.unusedVariables false
set_option linter.unusedSimpArgs false
structure DkSt where
  cap : Int
  used : Int
  last : Files
  held : Files
  chg : List Chg
theorem FileV.move {w w' : World} {N N' S : Nat → Prop} {v : Value} {l : List UInt8} (h : FileV w N v l) (hf : Fr w w' S) (hS : ∀ q, q < w.heap.size → S q → N q) (hN : ∀ q, q < w.heap.size → N' q → N q) : FileV w' N' v l := by
  rcases h with h | ⟨q, c, rfl, hc, hm, hq, hl, hcell⟩
  · exact .inl h
  · exact .inr ⟨q, c, rfl, hc, hm, fun e => hq (hN q hl e), Nat.lt_of_lt_of_le hl hf.size, fun j u hu => (hf.cell (p := ⟨q, j, none⟩) hl (fun e => hq (hS q hl e))).trans (hcell j u hu)⟩
theorem MapF.move {w w' : World} {N N' S : Nat → Prop} {m : Nat} {L : List ByteArray} {F : Files} (h : MapF w N m L F) (hf : Fr w w' S) (hm : ¬ S m) (hS : ∀ q, q < w.heap.size → S q → N q) (hN : ∀ q, q < w.heap.size → N' q → N q) : MapF w' N' m L F := by
  obtain ⟨⟨g, h1, h2⟩, h3, h4⟩ := h
  refine ⟨⟨g, h1.fr hf hm, fun x => ?_⟩, h3, h4⟩
  have := h2 x
  cases e : F x with
  | none => rw [e] at this; exact this
  | some l =>
    rw [e] at this
    obtain ⟨v, h5, h6⟩ := this
    exact ⟨v, h5, h6.move hf hS hN⟩
def DkN (b ml mh : Nat) (cv : Value) : Nat → Prop := fun q => q = b ∨ q = ml ∨ q = mh ∨ cv.ownBlock = some q
def chgs (l : List Chg) : List Value := l.map Chg.v
/-- A disk at block b. -/
structure DkAt (w : World) (B b ml mh : Nat) (cv : Value) (Ll Lh : List ByteArray) (S : DkSt) : Prop where
  blk : Blk w b [.int .i64 S.cap, .int .i64 S.used, .map (some ml), .map (some mh), cv] 58
  ne : ml ≠ b ∧ mh ≠ b ∧ ml ≠ mh
  lo : B ≤ b ∧ B ≤ ml ∧ B ≤ mh
  row : w.ownsRow B 64 1 cv S.chg.length (chgs S.chg)
  apart : ∀ q, cv.ownBlock = some q → q ≠ b ∧ q ≠ ml ∧ q ≠ mh
  last : MapF w (DkN b ml mh cv) ml Ll S.last
  held : MapF w (DkN b ml mh cv) mh Lh S.held
  ok : ∀ c ∈ S.chg, c.Ok
theorem DkAt.old {w : World} {B b ml mh : Nat} {cv : Value} {Ll Lh : List ByteArray} {S : DkSt} (h : DkAt w B b ml mh cv Ll Lh S) : ∀ q, DkN b ml mh cv q → q < w.heap.size := by
  rintro q (rfl | rfl | rfl | e)
  · exact h.blk.lt
  · exact h.last.lt
  · exact h.held.lt
  · exact (h.row.lt q e).2
theorem DkAt.low {w : World} {B b ml mh : Nat} {cv : Value} {Ll Lh : List ByteArray} {S : DkSt} (h : DkAt w B b ml mh cv Ll Lh S) : ∀ q, DkN b ml mh cv q → B ≤ q := by
  rintro q (rfl | rfl | rfl | e)
  · exact h.lo.1
  · exact h.lo.2.1
  · exact h.lo.2.2
  · exact (h.row.lt q e).1
theorem DkAt.fr {w w' : World} {B b ml mh : Nat} {cv : Value} {Ll Lh : List ByteArray} {S : DkSt} {T : Nat → Prop} (h : DkAt w B b ml mh cv Ll Lh S) (hf : Fr w w' T) (hT : ∀ q, DkN b ml mh cv q → ¬ T q) (hF : ∀ q, T q → DkN b ml mh cv q) : DkAt w' B b ml mh cv Ll Lh S :=
  ⟨h.blk.fr hf (hT b (.inl rfl)), h.ne, h.lo, own_fr h.row hf fun q e => hT q (.inr (.inr (.inr e))), h.apart, h.last.fr hf (hT ml (.inr (.inl rfl))) hF, h.held.fr hf (hT mh (.inr (.inr (.inl rfl)))) hF, h.ok⟩
theorem DkAt.frNone {w w' : World} {B b ml mh : Nat} {cv : Value} {Ll Lh : List ByteArray} {S : DkSt} (h : DkAt w B b ml mh cv Ll Lh S) (hf : Fr w w' (fun _ => False)) : DkAt w' B b ml mh cv Ll Lh S := h.fr hf (fun _ _ e => e) (fun _ e => e.elim)
/-- what may have changed, and where the disk's parts lie now -/
structure DkR (w : World) (b ml mh : Nat) (cv : Value) (w' : World) (mh' : Nat) (cv' : Value) : Prop where
  fr : Fr w w' (DkN b ml mh cv)
  map : mh' = mh ∨ w.heap.size ≤ mh'
  lies : ∀ q, cv'.ownBlock = some q → cv.ownBlock = some q ∨ w.heap.size ≤ q
theorem DkR.trans {a c d : World} {b ml mh mh' mh'' : Nat} {cv cv' cv'' : Value} (h : DkR a b ml mh cv c mh' cv') (k : DkR c b ml mh' cv' d mh'' cv'') : DkR a b ml mh cv d mh'' cv'' := by
  refine ⟨h.fr.trans k.fr ?_, ?_, fun q e => ?_⟩
  · rintro q hq (rfl | rfl | rfl | e)
    · exact .inl rfl
    · exact .inr (.inl rfl)
    · rcases h.map with e | e
      · exact .inr (.inr (.inl e))
      · omega
    · rcases h.lies q e with e | e
      · exact .inr (.inr (.inr e))
      · omega
  · rcases k.map with e | e
    · rcases h.map with e2 | e2
      · exact .inl (e.trans e2)
      · exact .inr (e ▸ e2)
    · exact .inr (Nat.le_trans h.fr.size e)
  · rcases k.lies q e with e | e
    · exact h.lies q e
    · exact .inr (Nat.le_trans h.fr.size e)
theorem DkR.of_fr {w w' : World} {b ml mh : Nat} {cv : Value} (h : Fr w w' (fun _ => False)) : DkR w b ml mh cv w' mh cv := ⟨h.mono (fun _ _ e => e.elim), .inl rfl, fun _ e => .inl e⟩
theorem DkR.of {w w' : World} {b ml mh : Nat} {cv : Value} (h : Fr w w' (DkN b ml mh cv)) : DkR w b ml mh cv w' mh cv := ⟨h, .inl rfl, fun _ e => .inl e⟩
theorem chg_info : (Try.prog.info? 64).map (fun i => (i.zero, i.size, i.bytes)) = some (some .nilIface, 1, 16) := by kernel_rfl
theorem chgs_snoc {w : World} {base : Nat} {e : TypeId} {v : Value} {l : List Chg} {x : Chg} (h : w.ownsRow base e 1 v (l.length + 1) (chgs l ++ [x.v])) : w.ownsRow base e 1 v (l ++ [x]).length (chgs (l ++ [x])) := by
  rw [List.length_append]
  simpa [chgs] using h
def DkTo (w : World) (B b ml mh : Nat) (cv : Value) (Ll Lh : List ByteArray) (S : DkSt) (w' : World) : Prop := ∃ cv', DkAt w' B b ml mh cv' Ll Lh S ∧ DkR w b ml mh cv w' mh cv'
def DkRet (w : World) (B b ml mh : Nat) (cv : Value) (Ll Lh : List ByteArray) (S : DkSt) (n : Int) (e : Ending) (w' : World) : Prop := e = .returned (.int .i64 n) ∧ DkTo w B b ml mh cv Ll Lh S w'
theorem DkAt.push {w w7 : World} {B b ml mh : Nat} {cv cv' : Value} {Ll Lh : List ByteArray} {S : DkSt} (h : DkAt w B b ml mh cv Ll Lh S) (c : Chg) (hc : c.Ok) (hf : Fr w w7 (fun j => some j = cv.ownBlock))
    (hO : w7.ownsRow B 64 1 cv' (S.chg.length + 1) (chgs S.chg ++ [.iface c.ty c.val])) (hL : cv'.ownBlock = cv.ownBlock ∨ ∃ g, cv'.ownBlock = some g ∧ w.heap.size ≤ g) :
    DkAt (w7.setCell ⟨b, 4, none⟩ cv') B b ml mh cv' Ll Lh { S with chg := S.chg ++ [c] } ∧ DkR w b ml mh cv (w7.setCell ⟨b, 4, none⟩ cv') mh cv' := by
  have hN : ∀ q, q < w.heap.size → DkN b ml mh cv' q → DkN b ml mh cv q := by
    rintro q hq (e | e | e | e)
    · exact .inl e
    · exact .inr (.inl e)
    · exact .inr (.inr (.inl e))
    · rcases hL with h2 | ⟨g, h2, h3⟩
      · exact .inr (.inr (.inr (h2 ▸ e)))
      · rw [h2] at e; cases e; omega
  have hap : ∀ q, cv'.ownBlock = some q → q ≠ b ∧ q ≠ ml ∧ q ≠ mh := fun q e => by
    rcases hL with h2 | ⟨g, h2, h3⟩
    · exact h.apart q (h2 ▸ e)
    · rw [h2] at e
      cases e
      have h4 := h.blk.lt
      have h5 := h.last.lt
      have h6 := h.held.lt
      omega
  have hf8 : Fr w (w7.setCell ⟨b, 4, none⟩ cv') (DkN b ml mh cv) := (hf.mono (T := DkN b ml mh cv) fun _ _ e => .inr (.inr (.inr e.symm))).setCell _ _ fun _ => .inl rfl
  have hfb : Fr w7 (w7.setCell ⟨b, 4, none⟩ cv') (fun j => j = b) := (Fr.refl w7 _).setCell _ _ fun _ => rfl
  have hfs : Fr w (w7.setCell ⟨b, 4, none⟩ cv') (fun q => some q = cv.ownBlock ∨ q = b) := (hf.mono (T := fun q => some q = cv.ownBlock ∨ q = b) fun _ _ e => .inl e).setCell _ _ fun _ => .inr rfl
  have keep : ∀ {m : Nat} {L : List ByteArray} {F : Files}, MapF w (DkN b ml mh cv) m L F → m ≠ b → (∀ q, cv.ownBlock = some q → q ≠ m) → MapF (w7.setCell ⟨b, 4, none⟩ cv') (DkN b ml mh cv') m L F := fun {m L F} hM hb hm =>
    hM.move hfs (fun e => e.elim (fun e => hm m e.symm rfl) hb) (fun q _ e => e.elim (fun e => .inr (.inr (.inr e.symm))) (fun e => .inl e)) hN
  refine ⟨⟨?_, h.ne, h.lo, ?_, hap, keep h.last h.ne.1 (fun q e => (h.apart q e).2.1), keep h.held h.ne.2.1 (fun q e => (h.apart q e).2.2), ?_⟩, hf8, .inl rfl, fun q e => ?_⟩
  · exact (h.blk.fr hf (fun e => (h.apart b e.symm).1 rfl)).set 4 cv'
  · have := own_fr hO hfb (fun q e e2 => (hap q e).1 e2)
    rw [show ({ S with chg := S.chg ++ [c] } : DkSt).chg = S.chg ++ [c] from rfl]
    exact chgs_snoc this
  · intro x hx
    rcases List.mem_append.1 hx with hx | hx
    · exact h.ok x hx
    · obtain rfl : x = c := by simpa using hx
      exact hc
  · rcases hL with h2 | ⟨g, h2, h3⟩
    · exact .inl (h2 ▸ e)
    · rw [h2] at e; cases e; exact .inr h3
def DkSt.make (S : DkSt) (c : Chg) : DkSt := { S with held := c.do S.held, chg := S.chg ++ [c] }
set_option maxRecDepth 20000 in
set_option maxHeartbeats 4000000 in
theorem make_c (B b ml mh : Nat) (cv : Value) (Ll Lh : List ByteArray) (S : DkSt) (c : Chg) (hc : c.Ok) (w : World) (h : DkAt w B b ml mh cv Ll Lh S) (hl : Lh.length < maxLen) (hb : c.Fits S.held) (hn : S.chg.length < 8796093022000) :
    Calls Try.prog 26 #[.pointer (some ⟨b, 0, none⟩), .iface c.ty c.val] w (DkRet w B b ml mh cv Ll (c.names Lh) (S.make c) 0) := by
  have hmf : ∀ (fn : Fn) (first cap : Array Value) (w : World), (Instr.makeFunc fn first cap).run Try.prog w = .ok (.func fn first cap) w := fun _ _ _ _ => rfl
  have hmeth := meth_do c
  have hent := enter_do c
  have hnil := nil_do c
  have h0 := h.frNone ((Fr.refl w (fun _ => False)).drewN 1)
  have hdo := do_c (DkN b ml mh cv) mh Lh S.held c hc w.drew h0.held h0.old (.inr (.inr (.inl rfl))) hl hb
  have z : ∀ j, w.drew.cell? ⟨b, j, none⟩ = [Value.int .i64 S.cap, .int .i64 S.used, .map (some ml), .map (some mh), cv][j]? := fun j => h.blk.cell j
  have H := Lib.hid h0
  have HDO := Lib.hid hdo
  have HC := Lib.hid hc
  have HN := Lib.hid hn
  clear h h0 hdo hc hl hb hn
  go_enter Try.func26, Try.ntmps26
  go_upto_region 1 with (fail)
  have c3 : w.drew.cell? ⟨b, 3, none⟩ = some (.map (some mh)) := z 3
  clear z
  go_region_held3 (fun w' => w'.cell? ⟨b, 3, none⟩ = some (.map (some mh)))
    (first | exact c3 | exact c4)
    (first | ((with_reducible refine HDO.out.mono ?_); rintro _ w5 ⟨rfl, h5, hf5⟩; have H5 := Lib.hid h5; have HF5 := Lib.hid hf5; have c4 : w5.cell? ⟨b, 3, none⟩ = some (.map (some mh)) := (hf5.cell (p := ⟨b, 3, none⟩) H.out.blk.lt (fun e => H.out.ne.2.1 (Eq.symm e))).trans (H.out.blk.cell 3); clear h5 hf5))
  clear c3 c4 hmeth hent hnil hmf
  have hD0 : DkAt w5 B b ml mh cv Ll (c.names Lh) { S with held := c.do S.held } := by
    have h := H.out
    refine ⟨h.blk.fr HF5.out (fun e => h.ne.2.1 (Eq.symm e)), h.ne, h.lo, own_fr h.row HF5.out fun q e e2 => (h.apart q e).2.2 e2, h.apart, h.last.fr HF5.out (fun e => h.ne.2.2 e) (fun q e => .inr (.inr (.inl e))), H5.out, h.ok⟩
  have HD0 := Lib.hid hD0
  have HF6 : Hid (Fr w w5 (DkN b ml mh cv)) := Lib.hid (((Fr.refl w _).drewN 1).trans HF5.out fun _ _ e => .inr (.inr (.inl e)))
  clear hD0 H H5 HF5 HDO
  have z5 : w5.cell? ⟨b, 4, none⟩ = some cv := HD0.out.blk.cell 4
  obtain ⟨A, cc, rfl⟩ := own_slice HD0.out.row
  go_wp2_with (at_builtin; refine wpList_app rfl _ _ 56 rfl B 64 _ 1 16 Try.underlying56 chg_info rfl (by decide) _ S.chg.length _ rfl HD0.out.row _ _ 1 1 rfl rfl rfl (by have := HN.out; unfold maxLen; omega) (by have := HN.out; omega) (Nat.le_trans HD0.out.lo.1 (Nat.le_of_lt HD0.out.blk.lt)) ?_; intro v' w7 hO hG0 hL; have hG : Hid (w5.grownBy w7 (Value.slice A S.chg.length cc).ownBlock) := hG0; clear hG0; have hf7 : Fr w5 w7 (fun j => some j = (Value.slice A S.chg.length cc).ownBlock) := Fr.of_grown hG.out fun j e => e.symm; have hb7 : Blk w7 b [.int .i64 S.cap, .int .i64 S.used, .map (some ml), .map (some mh), .slice A S.chg.length cc] 58 := HD0.out.blk.fr hf7 (fun e => (HD0.out.apart b e.symm).1 rfl); have HF7 := Lib.hid hf7; have HB7 := Lib.hid hb7; have f7 : w7.frozen? ⟨b, 4, none⟩ = false := hb7.frozen 4; have z7 : w7.cell? ⟨b, 4, none⟩ = some (.slice A S.chg.length cc) := hb7.cell 4; clear hf7 hb7; obtain ⟨A', cc', rfl⟩ := own_slice hO.out)
  have hL2 : (Value.slice A' (S.chg.length + 1) cc').ownBlock = (Value.slice A S.chg.length cc).ownBlock ∨ ∃ g, (Value.slice A' (S.chg.length + 1) cc').ownBlock = some g ∧ w5.heap.size ≤ g := hL.out
  obtain ⟨p1, p2⟩ := HD0.out.push c HC.out HF7.out hO.out hL2
  go_ret
  exact ⟨rfl, _, p1, ⟨HF6.out.trans p2.fr fun _ _ e => e, .inl rfl, fun q e => (p2.lies q e).imp id (fun e => Nat.le_trans HF6.out.size e)⟩⟩
end Go.Proofs.Ytdkjehjiacmppaa
