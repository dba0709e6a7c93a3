/- leases: a table in memory, and what New, Grant, Drop and Holder do. -/
import Derived.Test.YtngpmlolpigeoaaMapR
import Derived.Deep.RegionHeld3
namespace Go.Proofs.Ytngpmlolpigeoaa
open Go.RowKit Go.Maps
set_option linter.unusedVariables false
set_option linter.unusedSimpArgs false
def clamp (n least : Int) : Int := min (max n least) 1099511627776
theorem clamp_lo {n least : Int} (h : least ≤ 1099511627776) : least ≤ clamp n least := by unfold clamp; omega
theorem clamp_hi (n least : Int) : clamp n least ≤ 1099511627776 := by unfold clamp; omega
theorem moment_any (n least : Int) (hl : least ≤ 1099511627776) (w : World) : Calls Try.prog 19 #[.int .i64 n, .int .i64 least] w fun e w' => e = .returned (.int .i64 (clamp n least)) ∧ w = w' := by
  rcases Int.lt_trichotomy n least with h | h | h
  · have h2 : ¬ n > least := by omega
    go_enter Try.func19, Try.ntmps19
    go_wp2_with fail
    all_goals (go_ret; exact ⟨ret_int (by unfold clamp; omega), rfl⟩)
  · subst h
    go_enter Try.func19, Try.ntmps19
    go_wp2_with fail
    all_goals (go_ret; exact ⟨ret_int (by unfold clamp; omega), rfl⟩)
  · by_cases h2 : 1099511627776 < n
    · go_enter Try.func19, Try.ntmps19
      go_wp2_with fail
      all_goals (go_ret; exact ⟨ret_int (by unfold clamp; omega), rfl⟩)
    · go_enter Try.func19, Try.ntmps19
      go_wp2_with fail
      all_goals (go_ret; exact ⟨ret_int (by unfold clamp; omega), rfl⟩)
instance decText : DecidableEq ByteArray := fun a b => decidable_of_iff (a.data.toList = b.data.toList) ⟨fun h => ByteArray.ext (Array.toList_inj.1 h), fun h => h ▸ rfl⟩
instance decTextMem (p : ByteArray) (L : List ByteArray) : Decidable (p ∈ L) := decidable_of_iff (L.any (fun x => decide (x = p)) = true) (by simp)
structure Le.Tab where
  len : Int
  g : ByteArray → Option (Int × Int)
def Le.v (p : Int × Int) : Value := .agg #[.int .i64 p.1, .int .i64 p.2]
noncomputable def Le.key : Key Try.prog 9 ByteArray := strKey Try.underlying9
theorem Le.inv : KeyInv Le.key := strInv Try.underlying9
def Le.ins (p : ByteArray) (L : List ByteArray) : List ByteArray := if p ∈ L then L else p :: L
theorem Le.ins_mem {p : ByteArray} {L : List ByteArray} {x : ByteArray} : x ∈ Le.ins p L ↔ x = p ∨ x ∈ L := by
  unfold Le.ins
  by_cases h : p ∈ L
  · rw [if_pos h]
    exact ⟨.inr, fun e => e.elim (fun e => e ▸ h) id⟩
  · rw [if_neg h]
    exact List.mem_cons
def Le.view (T : Le.Tab) : ByteArray → Option Value := fun x => (T.g x).map Le.v
def Le.Tab.put (T : Le.Tab) (p : ByteArray) (c h : Int) : Le.Tab := { T with g := fun x => if x = p then some (c, h) else T.g x }
def Le.Tab.drop (T : Le.Tab) (p : ByteArray) : Le.Tab := { T with g := fun x => if x = p then none else T.g x }
theorem Le.setK_view (T : Le.Tab) (p : ByteArray) (c h : Int) : setK (Le.view T) p (.agg #[.int .i64 c, .int .i64 h]) = Le.view (T.put p c h) := by
  funext x
  unfold setK Le.view Le.Tab.put
  by_cases e : x = p <;> simp [e, Le.v]
theorem Le.delK_view (T : Le.Tab) (p : ByteArray) : delK (Le.view T) p = Le.view (T.drop p) := by
  funext x
  unfold delK Le.view Le.Tab.drop
  by_cases e : x = p <;> simp [e]
/-- A table at block t, its map in block m; L: paths among which are all that are held. -/
structure TabAt (w : World) (t m : Nat) (L : List ByteArray) (T : Le.Tab) : Prop where
  blk : Blk w t [.int .i64 T.len, .map (some m)] 55
  ne : m ≠ t
  map : MapAt w Le.key m L.length (Le.view T)
  cov : ∀ x, (T.g x).isSome = true → x ∈ L
  ok : ∀ x ∈ L, x.size ≤ maxLen
  len0 : 1 ≤ T.len
  len1 : T.len ≤ 1099511627776
  hrd : ∀ x p, T.g x = some p → 0 ≤ p.2 ∧ p.2 ≤ 1099511627776
theorem TabAt.fr {w w' : World} {t m : Nat} {L : List ByteArray} {T : Le.Tab} {S : Nat → Prop} (h : TabAt w t m L T) (hf : Fr w w' S) (ht : ¬ S t) (hm : ¬ S m) : TabAt w' t m L T :=
  ⟨h.blk.fr hf ht, h.ne, h.map.fr hf hm, h.cov, h.ok, h.len0, h.len1, h.hrd⟩
theorem TabAt.drewN {w : World} {t m : Nat} {L : List ByteArray} {T : Le.Tab} (h : TabAt w t m L T) (n : Nat) : TabAt (w.drewN n) t m L T := ⟨h.blk, h.ne, h.map, h.cov, h.ok, h.len0, h.len1, h.hrd⟩
theorem TabAt.grow {w : World} {t m : Nat} {L L' : List ByteArray} {T : Le.Tab} (h : TabAt w t m L T) (hL : ∀ x ∈ L, x ∈ L') (ho : ∀ x ∈ L', x.size ≤ maxLen) (hl : L.length ≤ L'.length) : TabAt w t m L' T :=
  ⟨h.blk, h.ne, h.map.mono hl, fun x hx => hL x (h.cov x hx), ho, h.len0, h.len1, h.hrd⟩
/-- A lease is laid: the world behind it. -/
theorem TabAt.store {w : World} {t m : Nat} {L : List ByteArray} {T : Le.Tab} (h : TabAt w t m L T) (hn : L.length < maxLen) (p : ByteArray) (hp : p.size ≤ maxLen) (c n : Int) (hn0 : 0 ≤ n) (hn1 : n ≤ 1099511627776) :
    ∃ w', (Instr.mapUpdate 53 (.map (some m)) (.string p) (.agg #[.int .i64 c, .int .i64 n])).run Try.prog w = .ok () w' ∧ TabAt w' t m (Le.ins p L) (T.put p c n) ∧ Fr w w' (fun j => j = m) := by
  obtain ⟨w', hrun, h1, h2⟩ := h.map.store (t := 53) (e := 57) Try.underlying53 hn p hp (.agg #[.int .i64 c, .int .i64 n])
  rw [Le.setK_view] at h1
  have hcov : ∀ x, ((T.put p c n).g x).isSome = true → x ∈ Le.ins p L := fun x hx => by
    unfold Le.Tab.put at hx
    refine Le.ins_mem.2 ?_
    by_cases e : x = p
    · exact .inl e
    · simp only [e, if_false] at hx
      exact .inr (h.cov x hx)
  have hok : ∀ x ∈ Le.ins p L, x.size ≤ maxLen := fun x hx => (Le.ins_mem.1 hx).elim (fun e => e ▸ hp) (h.ok x)
  refine ⟨w', hrun, ⟨h.blk.fr h2 (fun e => h.ne e.symm), h.ne, ?_, hcov, hok, h.len0, h.len1, fun x q hq => ?_⟩, h2⟩
  · exact h1.tight Le.inv _ fun x _ hx => hcov x (by simpa [Le.view] using hx)
  · unfold Le.Tab.put at hq
    by_cases e : x = p
    · simp only [e, if_true, Option.some.injEq] at hq
      subst hq
      exact ⟨hn0, hn1⟩
    · simp only [e, if_false] at hq
      exact h.hrd x q hq
theorem TabAt.del {w : World} {t m : Nat} {L : List ByteArray} {T : Le.Tab} (h : TabAt w t m L T) (p : ByteArray) (hp : p.size ≤ maxLen) (ty : TypeId) :
    ∃ w', (Builtin.delete_ #[53, 9] ty #[.map (some m), .string p]).run Try.prog w = .ok (.tuple #[]) w' ∧ TabAt w' t m L (T.drop p) ∧ Fr w w' (fun j => j = m) := by
  obtain ⟨w', hrun, h1, h2⟩ := h.map.drop (t := 53) (e := 57) Try.underlying53 p hp ty
  rw [Le.delK_view] at h1
  refine ⟨w', hrun, ⟨h.blk.fr h2 (fun e => h.ne e.symm), h.ne, h1, fun x hx => ?_, h.ok, h.len0, h.len1, fun x q hq => ?_⟩, h2⟩
  · unfold Le.Tab.drop at hx
    by_cases e : x = p
    · simp [e] at hx
    · simp only [e, if_false] at hx
      exact h.cov x hx
  · unfold Le.Tab.drop at hq
    by_cases e : x = p
    · simp [e] at hq
    · simp only [e, if_false] at hq
      exact h.hrd x q hq
theorem zeroLease (w : World) : (zeroValue 57).run Try.prog w = .ok (.agg #[.int .i64 0, .int .i64 0]) w := by kernel_rfl
def LeNew (w : World) (len : Int) (e : Ending) (w' : World) : Prop :=
  ∃ t m, e = .returned (.pointer (some ⟨t, 0, none⟩)) ∧ TabAt w' t m [] ⟨clamp len 1, fun _ => none⟩ ∧ w.heap.size ≤ t ∧ w.heap.size ≤ m ∧ Below w.heap.size w w'
set_option maxHeartbeats 1000000 in
theorem new_c (len : Int) (w : World) : Calls Try.prog 8 #[.int .i64 len] w (LeNew w len) := by
  have hmm := @run_makeMap Try.prog
  have H : Hid (LeNew w len (.returned (.pointer (some ⟨w.heap.size + 1, 0, none⟩))) ((w.alloc (.map #[] 0)).alloc (.cells #[.int .i64 (clamp len 1), .map (some w.heap.size)] 55))) := by
    refine Lib.hid ⟨w.heap.size + 1, w.heap.size, rfl, ⟨?_, by omega, (MapAt.new w Le.key).alloc _, (fun x hx => by cases hx), (fun x hx => by cases hx), clamp_lo (by decide), clamp_hi _ _, (fun x p e => by cases e)⟩, by omega, by omega, ?_⟩
    · have := Blk.new (w.alloc (.map #[] 0)) [.int .i64 (clamp len 1), .map (some w.heap.size)] 55
      rw [show (w.alloc (.map #[] 0)).heap.size = w.heap.size + 1 by simp] at this
      exact this
    · exact ((Below.refl _ w).alloc (Nat.le_refl _) _).alloc (by simp) _
  go_enter Try.func8, Try.ntmps8
  go_wp2_with fail
  refine (moment_any len 1 (by decide) w).mono ?_
  rintro _ _ ⟨rfl, rfl⟩
  generalize clamp len 1 = q at H ⊢
  go_wp2
  go_ret
  exact H.out
def TabTo (w : World) (t m : Nat) (L : List ByteArray) (T : Le.Tab) (w' : World) : Prop := TabAt w' t m L T ∧ Fr w w' (fun j => j = m)
set_option maxHeartbeats 1000000 in
theorem grant_c (t m : Nat) (L : List ByteArray) (T : Le.Tab) (p : ByteArray) (hp : p.size ≤ maxLen) (c now : Int) (w : World) (h : TabAt w t m L T) (hn : L.length < maxLen) :
    Calls Try.prog 9 #[.pointer (some ⟨t, 0, none⟩), .string p, .int .i64 c, .int .i64 now] w fun e w' => e = .returned (.tuple #[]) ∧ TabTo w t m (Le.ins p L) (T.put p c (clamp now 0)) w' := by
  have c1 : w.cell? ⟨t, 1, none⟩ = some (.map (some m)) := h.blk.cell 1
  have H := Lib.hid h
  have HP := Lib.hid hp
  have HN := Lib.hid hn
  clear h hp hn
  have c2 : w.drew.cell? ⟨t, 1, none⟩ = some (.map (some m)) := c1
  obtain ⟨w5, hrun0, h1, h2⟩ := (H.out.drewN 1).store HN.out p HP.out c (clamp now 0) (clamp_lo (by decide)) (clamp_hi _ _)
  have hrun : (Instr.mapUpdate 53 (.map (some m)) (.string p) (.agg #[.int .i64 c, .int .i64 (clamp now 0)])).run Try.prog w.drew = .ok () w5 := hrun0
  clear hrun0
  have c3 : w5.cell? ⟨t, 1, none⟩ = some (.map (some m)) := h1.blk.cell 1
  have H1 := Lib.hid h1
  have H2 : Hid (Fr w w5 (fun j => j = m)) := Lib.hid (((Fr.refl w _).drewN 1).trans h2 fun _ _ e => e)
  clear h1 h2 H
  generalize Le.ins p L = L' at H1 ⊢
  generalize T.put p c (clamp now 0) = T' at H1 ⊢
  have hm := moment_any now 0 (by decide)
  generalize clamp now 0 = q at hrun hm ⊢
  have HMO := Lib.hid hm
  clear hm
  go_enter Try.func9, Try.ntmps9
  go_wp2_with fail
  clear c1
  go_region_held3 (fun w' => w'.cell? ⟨t, 1, none⟩ = some (.map (some m))) (first | exact c2 | exact c3)
    (first | (go_at_call 19; with_reducible refine (HMO.out _).mono ?_; rintro _ _ ⟨rfl, rfl⟩))
  go_wp2_with fail
  go_end0
  exact ⟨rfl, H1.out, H2.out⟩
set_option maxHeartbeats 1000000 in
theorem grant_nil (p : ByteArray) (c now : Int) (w : World) : Calls Try.prog 9 #[.pointer none, .string p, .int .i64 c, .int .i64 now] w fun e w' => e = .returned (.tuple #[]) ∧ w = w' := by
  go_enter Try.func9, Try.ntmps9
  go_wp2
  go_end0
  exact ⟨rfl, rfl⟩
set_option maxHeartbeats 1000000 in
theorem drop_nil (p : ByteArray) (w : World) : Calls Try.prog 15 #[.pointer none, .string p] w fun e w' => e = .returned (.tuple #[]) ∧ w = w' := by
  go_enter Try.func15, Try.ntmps15
  go_wp2
  go_end0
  exact ⟨rfl, rfl⟩
set_option maxHeartbeats 1000000 in
theorem renew_nil (c now : Int) (w : World) : Calls Try.prog 10 #[.pointer none, .int .i64 c, .int .i64 now] w fun e w' => e = .returned (.tuple #[]) ∧ w = w' := by
  go_enter Try.func10, Try.ntmps10
  go_wp2
  first | go_end0 | skip
  first | exact ⟨rfl, rfl⟩ | exact bodyPost_ret (results_none rfl _ _ _) rfl ⟨rfl, rfl⟩
set_option maxHeartbeats 1000000 in
theorem holder_nil (p : ByteArray) (w : World) : Calls Try.prog 12 #[.pointer none, .string p] w fun e w' => e = .returned (.tuple #[.int .i64 0, .bool false]) ∧ w = w' := by
  go_enter Try.func12, Try.ntmps12
  go_wp2
  go_ret2
  exact ⟨rfl, rfl⟩
set_option maxHeartbeats 1000000 in
theorem drop_c (t m : Nat) (L : List ByteArray) (T : Le.Tab) (p : ByteArray) (hp : p.size ≤ maxLen) (w : World) (h : TabAt w t m L T) :
    Calls Try.prog 15 #[.pointer (some ⟨t, 0, none⟩), .string p] w fun e w' => e = .returned (.tuple #[]) ∧ TabTo w t m L (T.drop p) w' := by
  have c1 : w.cell? ⟨t, 1, none⟩ = some (.map (some m)) := h.blk.cell 1
  obtain ⟨w5, hrun0, h1, h2⟩ := h.del p hp 0
  have hrun : (Builtin.delete_ #[53, 9] 0 #[.map (some m), .string p]).run Try.prog w = .ok (.tuple #[]) w5 := hrun0
  have H1 := Lib.hid h1
  have H2 := Lib.hid h2
  clear h h1 h2 hrun0 hp
  go_enter Try.func15, Try.ntmps15
  go_wp2
  go_end0
  exact ⟨rfl, H1.out, H2.out⟩
theorem TabAt.look {w : World} {t m : Nat} {L : List ByteArray} {T : Le.Tab} (h : TabAt w t m L T) (p : ByteArray) (hp : p.size ≤ maxLen) :
    (Instr.lookup 53 (.map (some m)) (.string p) true).run Try.prog w = .ok (.tuple #[.agg #[.int .i64 ((T.g p).getD (0, 0)).1, .int .i64 ((T.g p).getD (0, 0)).2], .bool (T.g p).isSome]) w := by
  have := h.map.look (t := 53) (e := 57) Try.underlying53 (zeroLease w) p hp
  unfold Le.view at this
  rw [Option.isSome_map] at this
  refine this.trans ?_
  cases T.g p <;> rfl
set_option maxHeartbeats 1000000 in
theorem holder_c (t m : Nat) (L : List ByteArray) (T : Le.Tab) (p : ByteArray) (hp : p.size ≤ maxLen) (w : World) (h : TabAt w t m L T) :
    Calls Try.prog 12 #[.pointer (some ⟨t, 0, none⟩), .string p] w fun e w' => e = .returned (.tuple #[.int .i64 ((T.g p).getD (0, 0)).1, .bool (T.g p).isSome]) ∧ Fr w w' (fun _ => False) := by
  have c1 : w.cell? ⟨t, 1, none⟩ = some (.map (some m)) := h.blk.cell 1
  have hl := h.look p hp
  clear h hp
  generalize (T.g p).isSome = f at hl ⊢
  generalize ((T.g p).getD (0, 0)).2 = y at hl ⊢
  generalize ((T.g p).getD (0, 0)).1 = x at hl ⊢
  have HF := Lib.hid ((Fr.refl w (fun _ => False)).alloc (.cells ([.int .i64 x, .int .i64 y] : List Value).toArray 57))
  go_enter Try.func12, Try.ntmps12
  go_wp2
  go_ret2
  exact ⟨rfl, HF.out⟩
end Go.Proofs.Ytngpmlolpigeoaa
