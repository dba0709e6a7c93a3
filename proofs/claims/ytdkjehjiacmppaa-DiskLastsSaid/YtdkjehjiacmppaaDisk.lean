/- disk: files in maps; what the changes do. -/
import Derived.Test.YtdkjehjiacmppaaMapR
import Derived.Deep.RegionHeld3
import Derived.Lib.AppendStr
namespace Go.Proofs.Ytdkjehjiacmppaa
open Go.RowKit Go.Maps
set_option linter.unusedVariables false
set_option linter.unusedSimpArgs false
instance decText : DecidableEq ByteArray := fun a b => decidable_of_iff (a.data.toList = b.data.toList) ⟨fun h => ByteArray.ext (Array.toList_inj.1 h), fun h => h ▸ rfl⟩
instance decTextMem (p : ByteArray) (L : List ByteArray) : Decidable (p ∈ L) := decidable_of_iff (L.any (fun x => decide (x = p)) = true) (by simp)
theorem addr0 (q j : Nat) : (⟨q, 0, none⟩ : Addr).add j = ⟨q, j, none⟩ := by unfold Addr.add; split <;> simp_all
theorem step_app2 {P : Program} {ops : Array Oper} {o : Oper} {a : Act} {w : World} {Q : Exit → Act → World → Prop} {K : Act → World → Prop} {E : Prop} (hgd : o.guard = none) (s x : Operand) (t u : TypeId) (ho : o.op = .call { callee := .builtin .append, args := #[s, x], argTypes := #[t, u] })
    (vs vx : Value) (hs : a.eval s = vs) (hx : a.eval x = vx) (v' : Value) (w' : World) (hr : (Builtin.append_ #[t, u] o.type #[vs, vx]).run P w = .ok v' w') (h : K (a.put o.dst v') w') :
    if Region.wanted o (yielded ops a.tmps) = true then Oper.wp P o a w K Q else E := by
  have hw : Region.wanted o (yielded ops a.tmps) = true := by simp [Region.wanted, hgd]
  rw [if_pos hw]
  unfold Oper.wp execOp
  simp only [ho, resolve, invoke, builtin, Sem.run_bind, Sem.run_pure, Result.andThen_ok, List.map_toArray, List.map_cons, List.map_nil, hs, hx, hr]
  exact h
/-- v is a slice that holds the bytes l, in a block that is none of N. -/
def FileV (w : World) (N : Nat → Prop) (v : Value) (l : List UInt8) : Prop :=
  (v = .slice none 0 0 ∧ l = []) ∨ ∃ q c, v = .slice (some ⟨q, 0, none⟩) l.length c ∧ l.length ≤ c ∧ c ≤ maxLen ∧ ¬ N q ∧ q < w.heap.size ∧ ∀ j u, (bytes l)[j]? = some u → w.cell? ⟨q, j, none⟩ = some u
theorem FileV.fr {w w' : World} {N S : Nat → Prop} {v : Value} {l : List UInt8} (h : FileV w N v l) (hf : Fr w w' S) (hS : ∀ q, S q → N q) : FileV w' N v l := by
  rcases h with h | ⟨q, c, rfl, hc, hm, hq, hl, hcell⟩
  · exact .inl h
  · exact .inr ⟨q, c, rfl, hc, hm, hq, Nat.lt_of_lt_of_le hl hf.size, fun j u hu => (hf.cell (p := ⟨q, j, none⟩) hl (fun e => hq (hS q e))).trans (hcell j u hu)⟩
theorem FileV.mono {w : World} {N N' : Nat → Prop} {v : Value} {l : List UInt8} (h : FileV w N v l) (hN : ∀ q, q < w.heap.size → N' q → N q) : FileV w N' v l := by
  rcases h with h | ⟨q, c, rfl, hc, hm, hq, hl, hcell⟩
  · exact .inl h
  · exact .inr ⟨q, c, rfl, hc, hm, fun e => hq (hN q hl e), hl, hcell⟩
theorem FileV.slice {w : World} {N : Nat → Prop} {v : Value} {l : List UInt8} (h : FileV w N v l) : ∃ p c, v = .slice p l.length c ∧ l.length ≤ c ∧ c ≤ maxLen ∧ (p = none → c = 0) := by
  rcases h with ⟨rfl, rfl⟩ | ⟨q, c, rfl, hc, hm, _⟩
  · exact ⟨none, 0, rfl, Nat.le_refl _, Nat.zero_le _, fun _ => rfl⟩
  · exact ⟨_, c, rfl, hc, hm, fun e => by cases e⟩
theorem u8_info : ∃ i, Try.prog.info? 5 = some i ∧ i.zero = some (.int .u8 0) ∧ i.size = 1 ∧ i.bytes = 1 :=
  info_parts (P := Try.prog) (e := 5) (by kernel_rfl)
theorem strCells_bytes (d : ByteArray) : Lib.strCells d = bytes d.data.toList := rfl
set_option maxHeartbeats 1000000 in
theorem run_app_file (w : World) (N : Nat → Prop) (hN : ∀ k, N k → k < w.heap.size) (p : Option Addr) (l : List UInt8) (c : Nat) (hv : FileV w N (.slice p l.length c) l) (d : ByteArray) (ty : TypeId) (hb : l.length + d.size ≤ 140737488355328) :
    ∃ v' w', (Builtin.append_ #[67, 9] ty #[.slice p l.length l.length, .string d]).run Try.prog w = .ok v' w' ∧ FileV w' N v' (l ++ d.data.toList) ∧ Below w.heap.size w w' := by
  obtain ⟨i, hi, hz, h1, h8⟩ := u8_info
  have hds : d.size = d.data.toList.length := by rw [Array.length_toList]; rfl
  by_cases hd : d.size = 0
  · have hdl : d.data.toList = [] := List.eq_nil_of_length_eq_zero (by omega)
    have hde : d = ByteArray.empty := ByteArray.ext (Array.toList_inj.1 hdl)
    subst hde
    have hs0 : ByteArray.empty.size = 0 := rfl
    have hs1 : ByteArray.empty.data = #[] := rfl
    refine ⟨.slice p l.length l.length, w, ?_, ?_, Below.refl _ _⟩
    · cases p <;> simp [Builtin.append_, run_underlying Try.underlying67, run_underlying Try.underlying9, sizeOf, typeInfo, hi, Builtin.lenOf, Builtin.firstCells, storeCells, loadCells, loadCellsFrom, hs0, hs1]
    · rw [hdl, List.append_nil]
      rcases hv with ⟨e, h0⟩ | ⟨q, c', e, hc, hm, hq, hl, hcell⟩
      · subst h0; cases e; exact .inl ⟨rfl, rfl⟩
      · cases e; exact .inr ⟨q, _, rfl, Nat.le_refl _, Nat.le_trans hc hm, hq, hl, hcell⟩
  · have key : ∃ cp, l.length + d.size ≤ cp ∧ cp ≤ maxLen ∧ ∃ zs, (Builtin.append_ #[67, 9] ty #[.slice p l.length l.length, .string d]).run Try.prog w = .ok (.slice (some ⟨w.heap.size, 0, none⟩) (l.length + d.size) cp) (w.drew.alloc (.cells ((bytes l).toArray ++ (bytes d.data.toList).toArray ++ zs) 5)) := by
      have hg1 : l.length < l.length + d.size := by omega
      have hfit : Builtin.nextslicecap (l.length + d.size) l.length * i.bytes ≤ 281474976710656 := growslice_fits hg1 (by rw [h8]; omega)
      refine ⟨grownCap w (l.length + d.size) l.length 5, grownCap_ge w _ _ _, grownCap_le_maxLen w _ _ _ (by unfold maxLen; omega), ?_⟩
      rcases hv with ⟨e, h0⟩ | ⟨q, c', e, hc, hm, hq, hl, hcell⟩
      · subst h0
        cases e
        refine ⟨Builtin.zeroCells (Value.int .u8 0).cells (grownCap w d.size 0 5 - d.size), ?_⟩
        refine (run_append_nil_string (P := Try.prog) w 67 9 ty 5 i (.int .u8 0) Try.underlying67 Try.underlying9 hi hz d (by omega) (by simp only [List.length_nil] at hb; omega) (by rw [h8]; simp only [List.length_nil] at hb; omega)).trans ?_
        simp only [List.length_nil, Nat.zero_add]
        have e1 : (d.data.map (fun b => Value.int .u8 b.toNat)) = (bytes d.data.toList).toArray := by apply Array.ext'; simp [bytes]
        rw [e1]
        simp [bytes]
      · cases e
        refine ⟨Builtin.zeroCells (Value.int .u8 0).cells (grownCap w (l.length + d.size) l.length 5 - (l.length + d.size)), ?_⟩
        refine (Lib.run_append_grow_string (P := Try.prog) w 67 9 ty 5 i (.int .u8 0) Try.underlying67 Try.underlying9 hi hz ⟨q, 0, none⟩ l.length l.length (bytes l) (by rw [h1, bytes_length]; omega) (fun j v hj => ?_) d hg1 (by omega) hfit).trans ?_
        · rw [addr0]; exact hcell j v hj
        · rfl
    obtain ⟨cp, hcp, hcm, zs, hrun⟩ := key
    refine ⟨_, _, hrun, .inr ⟨w.heap.size, cp, ?_, ?_, hcm, fun e => absurd (hN _ e) (Nat.lt_irrefl _), by simp, fun j u hu => ?_⟩, ⟨rfl, rfl, rfl, by simp, fun k hk => Below.heap_alloc w.drew _ k hk⟩⟩
    · rw [List.length_append, ← hds]
    · rw [List.length_append, ← hds]; exact hcp
    · have hh := heap_alloc_new w.drew (.cells ((bytes l).toArray ++ (bytes d.data.toList).toArray ++ zs) 5)
      rw [cell_of_row _ w.heap.size j _ _ _ hh]
      rw [← bytes_app] at hu
      have hlt := (List.getElem?_eq_some_iff.1 hu).1
      rw [← Array.getElem?_toList]
      simp only [Array.toList_append]
      rw [List.getElem?_append_left (by simpa using hlt)]
      exact hu
/-! ### maps of files -/
abbrev Files := ByteArray → Option (List UInt8)
def Files.put (F : Files) (x : ByteArray) (l : List UInt8) : Files := fun y => if y = x then some l else F y
def Files.del (F : Files) (x : ByteArray) : Files := fun y => if y = x then none else F y
def Files.at (F : Files) (x : ByteArray) : List UInt8 := (F x).getD []
noncomputable def Dk.key : Key Try.prog 9 ByteArray := strKey Try.underlying9
theorem Dk.inv : KeyInv Dk.key := strInv Try.underlying9
def Shows (w : World) (N : Nat → Prop) (g : ByteArray → Option Value) (F : Files) : Prop := ∀ x, match F x with | none => g x = none | some l => ∃ v, g x = some v ∧ FileV w N v l
/-- Block m is a map of the files F; L: names among which are all that are there. -/
structure MapF (w : World) (N : Nat → Prop) (m : Nat) (L : List ByteArray) (F : Files) : Prop where
  ex : ∃ g, MapAt w Dk.key m L.length g ∧ Shows w N g F
  cov : ∀ x, (F x).isSome = true → x ∈ L
  ok : ∀ x ∈ L, x.size ≤ maxLen
theorem Shows.fr {w w' : World} {N S : Nat → Prop} {g : ByteArray → Option Value} {F : Files} (h : Shows w N g F) (hf : Fr w w' S) (hS : ∀ q, S q → N q) : Shows w' N g F := fun x => by
  have := h x
  cases e : F x with
  | none => rw [e] at this; exact this
  | some l =>
    rw [e] at this
    obtain ⟨v, h1, h2⟩ := this
    exact ⟨v, h1, h2.fr hf hS⟩
theorem MapF.fr {w w' : World} {N S : Nat → Prop} {m : Nat} {L : List ByteArray} {F : Files} (h : MapF w N m L F) (hf : Fr w w' S) (hm : ¬ S m) (hS : ∀ q, S q → N q) : MapF w' N m L F := by
  obtain ⟨⟨g, h1, h2⟩, h3, h4⟩ := h
  exact ⟨⟨g, h1.fr hf hm, h2.fr hf hS⟩, h3, h4⟩
theorem MapF.mono {w : World} {N N' : Nat → Prop} {m : Nat} {L : List ByteArray} {F : Files} (h : MapF w N m L F) (hN : ∀ q, q < w.heap.size → N' q → N q) : MapF w N' m L F := by
  obtain ⟨⟨g, h1, h2⟩, h3, h4⟩ := h
  refine ⟨⟨g, h1, fun x => ?_⟩, h3, h4⟩
  have := h2 x
  cases e : F x with
  | none => rw [e] at this; exact this
  | some l =>
    rw [e] at this
    obtain ⟨v, h5, h6⟩ := this
    exact ⟨v, h5, h6.mono hN⟩
theorem MapF.grow {w : World} {N : Nat → Prop} {m : Nat} {L L' : List ByteArray} {F : Files} (h : MapF w N m L F) (hL : ∀ x ∈ L, x ∈ L') (ho : ∀ x ∈ L', x.size ≤ maxLen) (hl : L.length ≤ L'.length) : MapF w N m L' F := by
  obtain ⟨⟨g, h1, h2⟩, h3, h4⟩ := h
  exact ⟨⟨g, h1.mono hl, h2⟩, fun x hx => hL x (h3 x hx), ho⟩
theorem MapF.lt {w : World} {N : Nat → Prop} {m : Nat} {L : List ByteArray} {F : Files} (h : MapF w N m L F) : m < w.heap.size := by
  obtain ⟨⟨g, h1, h2⟩, h3, h4⟩ := h
  exact h1.lt
def insN (p : ByteArray) (L : List ByteArray) : List ByteArray := if p ∈ L then L else p :: L
theorem insN_mem {p : ByteArray} {L : List ByteArray} {x : ByteArray} : x ∈ insN p L ↔ x = p ∨ x ∈ L := by
  unfold insN
  by_cases h : p ∈ L
  · rw [if_pos h]
    exact ⟨.inr, fun e => e.elim (fun e => e ▸ h) id⟩
  · rw [if_neg h]
    exact List.mem_cons
theorem insN_same {p : ByteArray} {L : List ByteArray} (h : p ∈ L) : insN p L = L := by unfold insN; rw [if_pos h]
theorem insN_len (p : ByteArray) (L : List ByteArray) : L.length ≤ (insN p L).length ∧ (insN p L).length ≤ L.length + 1 := by
  unfold insN
  split
  · omega
  · simp
theorem zeroBS (w : World) : (zeroValue 67).run Try.prog w = .ok (.slice none 0 0) w := by kernel_rfl
/-- What is looked up is a slice of the file's bytes, nil where there is none. -/
theorem MapF.look {w : World} {N : Nat → Prop} {m : Nat} {L : List ByteArray} {F : Files} (h : MapF w N m L F) (x : ByteArray) (hx : x.size ≤ maxLen) :
    ∃ p c, (Instr.lookup 55 (.map (some m)) (.string x) false).run Try.prog w = .ok (.slice p (F.at x).length c) w ∧ FileV w N (.slice p (F.at x).length c) (F.at x) := by
  obtain ⟨⟨g, h1, h2⟩, h3, h4⟩ := h
  have hl := h1.look1 (t := 55) (e := 67) Try.underlying55 (zeroBS w) x hx
  have hs := h2 x
  unfold Files.at
  cases e : F x with
  | none =>
    rw [e] at hs
    rw [hs] at hl
    exact ⟨none, 0, hl, .inl ⟨rfl, rfl⟩⟩
  | some l =>
    rw [e] at hs
    obtain ⟨v, h5, h6⟩ := hs
    rw [h5] at hl
    obtain ⟨p, c, rfl, _⟩ := h6.slice
    exact ⟨p, c, hl, h6⟩
theorem MapF.look2 {w : World} {N : Nat → Prop} {m : Nat} {L : List ByteArray} {F : Files} (h : MapF w N m L F) (x : ByteArray) (hx : x.size ≤ maxLen) :
    ∃ v, (Instr.lookup 55 (.map (some m)) (.string x) true).run Try.prog w = .ok (.tuple #[v, .bool (F x).isSome]) w ∧ FileV w N v (F.at x) := by
  obtain ⟨⟨g, h1, h2⟩, h3, h4⟩ := h
  have hl := h1.look (t := 55) (e := 67) Try.underlying55 (zeroBS w) x hx
  have hs := h2 x
  unfold Files.at
  cases e : F x with
  | none =>
    rw [e] at hs
    rw [hs] at hl
    exact ⟨_, hl, .inl ⟨rfl, rfl⟩⟩
  | some l =>
    rw [e] at hs
    obtain ⟨v, h5, h6⟩ := hs
    rw [h5] at hl
    exact ⟨v, hl, h6⟩
theorem MapF.store {w : World} {N : Nat → Prop} {m : Nat} {L : List ByteArray} {F : Files} (h : MapF w N m L F) (hn : L.length < maxLen) (x : ByteArray) (hx : x.size ≤ maxLen) (v : Value) (l : List UInt8) (hv : FileV w N v l) (hm : N m) :
    ∃ w', (Instr.mapUpdate 55 (.map (some m)) (.string x) v).run Try.prog w = .ok () w' ∧ MapF w' N m (insN x L) (F.put x l) ∧ Fr w w' (fun j => j = m) := by
  obtain ⟨⟨g, h1, h2⟩, h3, h4⟩ := h
  obtain ⟨w', hrun, h5, h6⟩ := h1.store (t := 55) (e := 67) Try.underlying55 hn x hx v
  have hcov : ∀ y, ((F.put x l) y).isSome = true → y ∈ insN x L := fun y hy => by
    unfold Files.put at hy
    refine insN_mem.2 ?_
    by_cases e : y = x
    · exact .inl e
    · simp only [e, if_false] at hy
      exact .inr (h3 y hy)
  have hsh : Shows w' N (setK g x v) (F.put x l) := fun y => by
    unfold setK Files.put
    by_cases e : y = x
    · simp only [e, if_true]
      exact ⟨v, rfl, hv.fr h6 (fun q e => e ▸ hm)⟩
    · simp only [e, if_false]
      exact (h2.fr h6 (fun q e => e ▸ hm)) y
  refine ⟨w', hrun, ⟨⟨_, h5.tight Dk.inv _ fun y _ hy => hcov y ?_, hsh⟩, hcov, fun y hy => (insN_mem.1 hy).elim (fun e => e ▸ hx) (h4 y)⟩, h6⟩
  have := hsh y
  cases e : (F.put x l) y with
  | none => rw [e] at this; rw [this] at hy; cases hy
  | some l => rfl
theorem MapF.drop {w : World} {N : Nat → Prop} {m : Nat} {L : List ByteArray} {F : Files} (h : MapF w N m L F) (x : ByteArray) (hx : x.size ≤ maxLen) (hm : N m) (ty : TypeId) :
    ∃ w', (Builtin.delete_ #[55, 9] ty #[.map (some m), .string x]).run Try.prog w = .ok (.tuple #[]) w' ∧ MapF w' N m L (F.del x) ∧ Fr w w' (fun j => j = m) := by
  obtain ⟨⟨g, h1, h2⟩, h3, h4⟩ := h
  obtain ⟨w', hrun, h5, h6⟩ := h1.drop (t := 55) (e := 67) Try.underlying55 x hx ty
  refine ⟨w', hrun, ⟨⟨_, h5, fun y => ?_⟩, fun y hy => ?_, h4⟩, h6⟩
  · unfold delK Files.del
    by_cases e : y = x
    · simp only [e, if_true]
    · simp only [e, if_false]
      exact (h2.fr h6 (fun q e => e ▸ hm)) y
  · unfold Files.del at hy
    by_cases e : y = x
    · simp [e] at hy
    · simp only [e, if_false] at hy
      exact h3 y hy
/-! ### the changes -/
def DoPost (w : World) (N : Nat → Prop) (m : Nat) (L : List ByteArray) (F : Files) (e : Ending) (w' : World) : Prop := e = .returned (.tuple #[]) ∧ MapF w' N m L F ∧ Fr w w' (fun j => j = m)
set_option maxRecDepth 20000 in
set_option maxHeartbeats 2000000 in
theorem doApp_c (N : Nat → Prop) (m : Nat) (L : List ByteArray) (F : Files) (x d : ByteArray) (hx : x.size ≤ maxLen) (w : World) (h : MapF w N m L F) (hN : ∀ k, N k → k < w.heap.size) (hm : N m) (hl : L.length < maxLen) (hb : (F.at x).length + d.size ≤ 140737488355328) :
    Calls Try.prog 27 #[.agg #[.string x, .string d], .map (some m)] w (DoPost w N m (insN x L) (F.put x (F.at x ++ d.data.toList))) := by
  have hB1 := Blk.new w [.string x, .string d] 62
  have hf1 := (Fr.refl w (fun _ => False)).alloc (.cells ([.string x, .string d] : List Value).toArray 62)
  have h1 := h.fr hf1 (fun e => e) (fun q e => e.elim)
  obtain ⟨p, c, hlook, hfv⟩ := h1.look x hx
  obtain ⟨hp1, hp2, hp3⟩ : (F.at x).length ≤ c ∧ c ≤ maxLen ∧ (p = none → c = 0) := by
    obtain ⟨p', c', e, h2, h3, h4⟩ := hfv.slice
    cases e
    exact ⟨h2, h3, h4⟩
  have hs1 : (w.alloc (.cells ([.string x, .string d] : List Value).toArray 62)).heap.size = w.heap.size + 1 := by simp
  have H1 := Lib.hid h1
  have HF1 := Lib.hid hf1
  have HB1 := Lib.hid hB1
  have HFV := Lib.hid hfv
  have HX := Lib.hid hx
  have HL := Lib.hid hl
  have HM := Lib.hid hm
  have HB := Lib.hid hb
  have HPC := Lib.hid (And.intro hp1 hp2)
  have HN1 : Hid (∀ k, N k → k < (w.alloc (.cells ([.string x, .string d] : List Value).toArray 62)).heap.size) := Lib.hid fun k hk => by rw [hs1]; exact Nat.lt_succ_of_lt (hN k hk)
  have HNB : Hid (¬ N w.heap.size) := Lib.hid fun e => Nat.lt_irrefl _ (hN _ e)
  have d0 : (w.alloc (.cells ([.string x, .string d] : List Value).toArray 62)).cell? ⟨w.heap.size, 0, none⟩ = some (.string x) := hB1.cell 0
  clear h h1 hf1 hB1 hfv hx hl hm hb hN hs1 hp2
  go_enter Try.func27, Try.ntmps27
  go_upto_region 2 with (fail)
  change Code.wp _ _ _ _ (w.alloc (.cells ([.string x, .string d] : List Value).toArray 62))
  clear hlook d0
  generalize w.alloc (.cells ([.string x, .string d] : List Value).toArray 62) = w1 at H1 HF1 HB1 HFV HN1 ⊢
  generalize w.heap.size = gb at HB1 HNB ⊢
  obtain ⟨v', w5, hrunA, hF5, hB5⟩ := run_app_file w1.drew N HN1.out p (F.at x) c (HFV.out.fr ((Fr.refl w1 (fun _ => False)).drewN 1) (fun q e => e.elim)) d 67 HB.out
  have hfr5 : Fr w1.drew w5 (fun _ => False) := Fr.of_below hB5 fun k h1 h2 => absurd h2 (Nat.not_lt.2 h1)
  have h5 := (H1.out.fr ((Fr.refl w1 (fun _ => False)).drewN 1) (fun e => e) (fun q e => e.elim)).fr hfr5 (fun e => e) (fun q e => e.elim)
  obtain ⟨w6, hrunM, h6, hf6⟩ := h5.store HL.out x HX.out v' _ hF5 HM.out
  have b5 : Blk w5 gb [.string x, .string d] 62 := (Blk.drewN HB1.out 1).fr hfr5 (fun e => e)
  have b6 : Blk w6 gb [.string x, .string d] 62 := b5.fr hf6 (fun e => HNB.out (e ▸ HM.out))
  have c1 : w1.drew.cell? ⟨gb, 0, none⟩ = some (.string x) := HB1.out.cell 0
  have c2 : w1.drew.cell? ⟨gb, 1, none⟩ = some (.string d) := HB1.out.cell 1
  have c3 : w5.cell? ⟨gb, 0, none⟩ = some (.string x) := b5.cell 0
  have c4 : w5.cell? ⟨gb, 1, none⟩ = some (.string d) := b5.cell 1
  have c5 : w6.cell? ⟨gb, 0, none⟩ = some (.string x) := b6.cell 0
  have c6 : w6.cell? ⟨gb, 1, none⟩ = some (.string d) := b6.cell 1
  have H6 := Lib.hid h6
  have HFR : Hid (Fr w w6 (fun j => j = m)) := Lib.hid ((HF1.out.mono (fun _ _ e => e.elim)).trans ((((Fr.refl w1 (fun j => j = m)).drewN 1).trans hfr5 (fun _ _ e => e.elim)).trans hf6 fun _ _ e => e) fun _ _ e => e)
  clear hF5 hB5 hfr5 h5 b5 b6 h6 hf6 H1 HF1 HB1 HFV HN1
  generalize hnl : (F.at x).length = nl at hrunA HPC hp3 ⊢
  clear hnl
  have hp1 := HPC.out.1
  have n0 : decide (0 ≤ (nl : Int)) = true := decide_eq_true (by omega)
  have n1 : ((nl : Int)).toNat = nl := by omega
  have n2 : decide ((nl : Int) ≤ (c : Int)) = true := decide_eq_true (by omega)
  have n3 : decide (nl ≤ c) = true := decide_eq_true hp1
  cases p with
  | none =>
    obtain rfl := hp3 rfl
    obtain rfl : nl = 0 := by omega
    have HRA := Lib.hid hrunA
    clear hp1 n0 n1 n2 n3 hrunA
    go_region_held3 (fun w' => w'.cell? ⟨gb, 0, none⟩ = some (.string x) ∧ w'.cell? ⟨gb, 1, none⟩ = some (.string d))
      (first | exact ⟨c1, c2⟩ | exact ⟨c3, c4⟩ | exact ⟨c5, c6⟩)
      (first | (refine step_app2 (by rfl) (.tmp 17) (.tmp 19) 67 9 (by rfl) (.slice none 0 0) (.string d) (by rfl) (by rfl) v' w5 HRA.out ?_))
    go_wp2_with fail
    go_end0
    exact ⟨rfl, H6.out, HFR.out⟩
  | some ad =>
    have HRA := Lib.hid hrunA
    clear hp3 hrunA
    go_region_held3 (fun w' => w'.cell? ⟨gb, 0, none⟩ = some (.string x) ∧ w'.cell? ⟨gb, 1, none⟩ = some (.string d))
      (first | exact ⟨c1, c2⟩ | exact ⟨c3, c4⟩ | exact ⟨c5, c6⟩)
      (first | (refine step_app2 (by rfl) (.tmp 17) (.tmp 19) 67 9 (by rfl) (.slice (some ad) nl nl) (.string d) (by rfl) (by rfl) v' w5 HRA.out ?_))
    go_wp2_with fail
    go_end0
    exact ⟨rfl, H6.out, HFR.out⟩
end Go.Proofs.Ytdkjehjiacmppaa
