/- heap.pop. -/
import Derived.Test.YtgeeaddbapjikaaPush
import Derived.Deep.CutBlock
namespace Go.Proofs.Ytgeeaddbapjikaa
open Go.RowKit Go.Sort Go.Proofs.Ytgeeaddbapjikaa.St
set_option linter.unusedVariables false
set_option linter.unusedSimpArgs false
namespace Mg
def popFr (hb rb tb m i : Nat) (u : Nat → Value) : Act := { tmps := #[.pointer (some ⟨hb, 0, none⟩), u 1, .pointer (some ⟨rb, 0, none⟩), .pointer (some ⟨tb, 0, none⟩), .int .i64 (m : Int), .int .i64 (i : Int), .int .i64 (i : Int), u 7, u 8, u 9, u 10, u 11, u 12, u 13, u 14, u 15, u 16, u 17, u 18, u 19, u 20, u 21, u 22, u 23, u 24, u 25, u 26, u 27, u 28, u 29, u 30, u 31, u 32, u 33, u 34, u 35, u 36, u 37, u 38, u 39, u 40, u 41, u 42, u 43, u 44, u 45, u 46, u 47, u 48, u 49, u 50, u 51, u 52, u 53, u 54, u 55, u 56, u 57, u 58, u 59, u 60, u 61, u 62, u 63, u 64, u 65, u 66, u 67, u 68, u 69, u 70, u 71, u 72, u 73, u 74, u 75, u 76, u 77, u 78, u 79, u 80, u 81, u 82, u 83, u 84, u 85, u 86, u 87, u 88, u 89, u 90, u 91, u 92, u 93, u 94, u 95, u 96, u 97, u 98, u 99, u 100, u 101, u 102, u 103, u 104, u 105, u 106], defers := [] }
structure LeastI (R : Nat → Rn) (L : List Cu) (i k m : Nat) : Prop where
  k1 : i * 2 + 1 ≤ k
  k2 : k ≤ i * 2 + 3
  m1 : m = i ∨ (i * 2 + 1 ≤ m ∧ m < k ∧ m < L.length ∧ ∀ x y, L[m]? = some x → L[i]? = some y → lt R x y = true)
  all : ∀ j u y, (j = i ∨ (i * 2 + 1 ≤ j ∧ j < k)) → L[j]? = some u → L[m]? = some y → lt R u y = false
theorem LeastI.start (R : Nat → Rn) (L : List Cu) (i : Nat) : LeastI R L i (i * 2 + 1) i :=
  ⟨Nat.le_refl _, by omega, .inl rfl, fun j u y hj hu hy => by
    rcases hj with rfl | ⟨h1, h2⟩
    · rw [hu] at hy; cases hy; exact (swo R).irr _
    · omega⟩
theorem LeastI.yes {R : Nat → Rn} {L : List Cu} {i k m : Nat} (h : LeastI R L i k m) (hk : k < i * 2 + 3) {x y : Cu} (hx : L[k]? = some x) (hy : L[m]? = some y) (hl : lt R x y = true) : LeastI R L i (k + 1) k := by
  have hkl := (List.getElem?_eq_some_iff.1 hx).1
  refine ⟨by have := h.k1; omega, by omega, .inr ⟨h.k1, by omega, hkl, fun x' y' hx' hy' => ?_⟩, fun j u v hj hu hv => ?_⟩
  · rw [hx] at hx'; cases hx'
    exact (swo R).lt_of hl (h.all i y' y (.inl rfl) hy' hy)
  · rw [hx] at hv; cases hv
    by_cases e : j = k
    · subst e; rw [hu] at hx; cases hx; exact (swo R).irr _
    · exact (swo R).trans ((swo R).asym hl) (h.all j u y (by omega) hu hy)
theorem LeastI.no {R : Nat → Rn} {L : List Cu} {i k m : Nat} (h : LeastI R L i k m) (hk : k < i * 2 + 3) {x y : Cu} (hx : L[k]? = some x) (hy : L[m]? = some y) (hl : lt R x y = false) : LeastI R L i (k + 1) m := by
  refine ⟨by have := h.k1; omega, by omega, h.m1.imp id fun ⟨a, b, c, d⟩ => ⟨a, by omega, c, d⟩, fun j u v hj hu hv => ?_⟩
  by_cases e : j = k
  · subst e; rw [hu] at hx; cases hx; rw [hv] at hy; cases hy; exact hl
  · exact h.all j u v (by omega) hu hv
theorem LeastI.kids {R : Nat → Rn} {L : List Cu} {i k m : Nat} (h : LeastI R L i k m) (hk : k = i * 2 + 3 ∨ L.length ≤ k) : ∀ j u y, 0 < j → (j - 1) / 2 = i → L[j]? = some u → L[m]? = some y → lt R u y = false := by
  intro j u y hj hq hu hy
  have hjl := (List.getElem?_eq_some_iff.1 hu).1
  exact h.all j u y (.inr ⟨by omega, by omega⟩) hu hy
theorem HeapAt.put0 {w : World} {base hb g n cap : Nat} {R : Nat → Rn} {L : List Cu} (h : HeapAt w base hb R (.slice (some ⟨g, 0, none⟩) n cap) L) {x z : Cu} (hx : L[0]? = some x) (hz : okC R z) :
    HeapAt ((w.setCell ⟨g, 0, none⟩ (.int .i64 z.1)).setCell ⟨g, 1, none⟩ (left R z)) base hb R (.slice (some ⟨g, 0, none⟩) n cap) (L.set 0 z) := by
  have hgb : hb ≠ g := fun e => h.ne (by rw [e]; rfl)
  have h1 := h.recs.put2 (i := 0) (r := enc R x) (by simp [hx]) (.int .i64 z.1) (left R z)
  have e1 : (L.map (enc R)).set 0 [.int .i64 z.1, left R z] = (L.set 0 z).map (enc R) := by rw [List.map_set]; rfl
  rw [e1] at h1
  refine ⟨(h.blk.other _ _ hgb).other _ _ hgb, h1, h.base, fun c hc => ?_⟩
  rcases List.mem_or_eq_of_mem_set hc with hc | rfl
  · exact h.ok c hc
  · exact hz
theorem HeapAt.take {w : World} {base hb g n cap : Nat} {R : Nat → Rn} {L : List Cu} (h : HeapAt w base hb R (.slice (some ⟨g, 0, none⟩) n cap) L) {m : Nat} (hm : m ≤ L.length) :
    HeapAt (w.setCell ⟨hb, 0, none⟩ (.slice (some ⟨g, 0, none⟩) m cap)) base hb R (.slice (some ⟨g, 0, none⟩) m cap) (L.take m) := by
  have hgb : hb ≠ g := fun e => h.ne (by rw [e]; rfl)
  have hf2 : Fr w (w.setCell ⟨hb, 0, none⟩ (.slice (some ⟨g, 0, none⟩) m cap)) (fun j => j = hb) := (Fr.refl w _).setCell _ _ fun _ => rfl
  have h1 : Recs w base 60 2 (.slice (some ⟨g, 0, none⟩) m cap) ((L.take m).map (enc R)) := by
    have hl : (L.take m).length = m := by rw [List.length_take]; omega
    have hfl : ((L.take m).map (enc R)).flatten.length = m * 2 := by
      rw [flatten_len (sz := 2) (fun r hr => h.recs.len r (by rw [List.map_take] at hr; exact List.mem_of_mem_take hr))]
      rw [List.length_map, hl]
    have hpre : ((L.take m).map (enc R)).flatten = (L.map (enc R)).flatten.take (m * 2) := by
      have e : (L.map (enc R)).flatten = ((L.take m).map (enc R)).flatten ++ ((L.drop m).map (enc R)).flatten := by rw [← List.flatten_append, ← List.map_append, List.take_append_drop]
      rw [e, List.take_append_of_le_length (Nat.le_of_eq hfl.symm)]
      exact (List.take_of_length_le (Nat.le_of_eq hfl)).symm
    refine ⟨⟨?_, .inr ?_⟩, fun r hr => h.recs.len r (by rw [List.map_take] at hr; exact List.mem_of_mem_take hr)⟩
    · rw [hfl, List.length_map, hl]
    · rcases h.recs.own.2 with ⟨e, _⟩ | ⟨g', cap', cur, e, h1, h2, h3, h4, h5, h6⟩
      · cases e
      · cases e
        refine ⟨g, cap, cur, by rw [List.length_map, hl], h1, h2, by rw [List.length_map] at h3 ⊢; omega, h4, h5, ?_⟩
        rw [List.length_map, hl, hpre, ← h6, List.take_take]
        congr 1
        rw [List.length_map]
        omega
  exact ⟨h.blk.set 0 _, h1.fr hf2 (fun k e e' => hgb (by cases e; exact e'.symm)), h.base, fun c hc => h.ok c (List.mem_of_mem_take hc)⟩
theorem fr_two (w : World) (g : Nat) (x y : Value) : Fr w ((w.setCell ⟨g, 0, none⟩ x).setCell ⟨g, 1, none⟩ y) (fun j => j = g) :=
  ((Fr.refl w (fun j => j = g)).setCell ⟨g, 0, none⟩ x fun _ => rfl).setCell ⟨g, 1, none⟩ y fun _ => rfl
theorem own_cap {w : World} {base : Nat} {e : TypeId} {sz n k cap g : Nat} {xs : List Value} (h : w.ownsRow base e sz (.slice (some ⟨g, 0, none⟩) k cap) n xs) (hk : n = k) : k ≤ cap := by
  rcases h.2 with ⟨e, _⟩ | ⟨g', cap', cur, e, _, _, h3, _⟩
  · cases e
  · cases e; omega
theorem dn_facts (i n : Nat) (h : i ≤ n) (h2 : n ≤ 1048576) : ∃ d k0 k2 : Nat, 2 * (i : Int) = (d : Int) ∧ wrap64 (d : Int) = (d : Int) ∧ (d : Int) + 1 = (k0 : Int) ∧ wrap64 (k0 : Int) = (k0 : Int) ∧ (d : Int) + 2 = (k2 : Int) ∧ wrap64 (k2 : Int) = (k2 : Int) ∧ k0 = i * 2 + 1 ∧ k2 = i * 2 + 2 := by
  refine ⟨2 * i, 2 * i + 1, 2 * i + 2, by omega, by unfold wrap64; omega, by omega, by unfold wrap64; omega, by omega, by unfold wrap64; omega, by omega, by omega⟩
theorem nx_facts (k i n : Nat) (h : i ≤ n) (h2 : n ≤ 1048576) (h3 : k ≤ i * 2 + 3) : ∃ k1 : Nat, (k : Int) + 1 = (k1 : Int) ∧ wrap64 (k1 : Int) = (k1 : Int) ∧ k1 = k + 1 :=
  ⟨k + 1, by omega, by unfold wrap64; omega, rfl⟩
theorem kk_lt {k k2 i : Nat} (h : k ≤ k2) (h2 : k2 = i * 2 + 2) : k < i * 2 + 3 := by omega
theorem kk_eq {k k2 i : Nat} (h : ¬ k ≤ k2) (h2 : k2 = i * 2 + 2) (h3 : k ≤ i * 2 + 3) : k = i * 2 + 3 := by omega
theorem gg_lt {g k i : Nat} (h : g = i * 2 + 4 - k) (h2 : k < i * 2 + 3) : i * 2 + 4 - (k + 1) < g := by omega
theorem ne_cast {a b : Nat} (h : ¬ a = b) : ((a : Int) != (b : Int)) = true := by simp; omega
theorem ne_facts2 {i p : Nat} (h : i < p) : ¬ i * 2 = p * 2 ∧ ¬ i * 2 = p * 2 + 1 ∧ ¬ i * 2 + 1 = p * 2 ∧ ¬ p * 2 = i * 2 ∧ ¬ p * 2 = i * 2 + 1 ∧ ¬ p * 2 + 1 = i * 2 ∧ ¬ i = p := by omega
theorem mu_lt {i m n k : Nat} (h : i < m) (h2 : m < n) (h3 : k = n + 1) : k - (m : Int).toNat < k - (i : Int).toNat := by omega
theorem cmp_facts (k k2 n : Nat) : ((k : Int) ≤ (k2 : Int) ↔ k ≤ k2) ∧ ((k : Int) < (n : Int) ↔ k < n) := by omega
theorem m_lt {i k m n : Nat} (h : m = i ∨ (i * 2 + 1 ≤ m ∧ m < k ∧ m < n)) (hk : k < n) (h1 : i * 2 + 1 ≤ k) : m < n := by omega
theorem FieldR.setTwo {w w' w'' : World} {b : Nat} {v v' : Value} (h : FieldR w b v w' v') (hf : Fr w' w'' (fun j => j = w.heap.size)) : FieldR w b v w'' v' :=
  ⟨h.lies, h.fr.trans hf fun x hx e => by omega⟩
structure PopI (w : World) (base hb : Nat) (R : Nat → Rn) (v : Value) (L : List Cu) (r : Cu) (rb tb : Nat) (w' : World) (v' : Value) (L' : List Cu) (i : Nat) : Prop where
  at_ : HeapAt w' base hb R v' L'
  dn : Hp.Dn (lt R) L' i
  perm : L.Perm (r :: L')
  fr : FieldR w hb v w' v'
  top : Blk w' tb [.int .i64 r.1, left R r] 60
  res : Blk w' rb [.int .i64 0, .slice none 0 0] 60
  own : v'.ownBlock = v.ownBlock
theorem PopI.below {w w1 w2 : World} {base hb : Nat} {R : Nat → Rn} {v : Value} {L : List Cu} {r : Cu} {rb tb : Nat} {v' : Value} {L' : List Cu} {i : Nat} (h : PopI w base hb R v L r rb tb w1 v' L' i) (hB : Below w1.heap.size w1 w2) : PopI w base hb R v L r rb tb w2 v' L' i :=
  ⟨h.at_.below hB, h.dn, h.perm, h.fr.below2 hB, h.top.below hB h.top.lt, h.res.below hB h.res.lt, h.own⟩
def PopJ (w : World) (base hb : Nat) (R : Nat → Rn) (v : Value) (L : List Cu) (r : Cu) (rb tb : Nat) : Nat → Act → World → Prop
  | 0, a, w' => ∃ (i : Nat) (v' : Value) (L' : List Cu), a = popFr hb rb tb L'.length i (fun k => a.tmps.getD k undef) ∧ L.length = L'.length + 1 ∧ i ≤ L'.length ∧ Hid (PopI w base hb R v L r rb tb w' v' L' i)
  | _, _, _ => False
structure PopTo (w : World) (base hb : Nat) (R : Nat → Rn) (v : Value) (L : List Cu) (r : Cu) (w' : World) (v' : Value) (L' : List Cu) : Prop where
  own : v'.ownBlock = v.ownBlock
  at_ : HeapAt w' base hb R v' L'
  heap : Hp.HeapE (lt R) L'
  perm : L.Perm (r :: L')
  fr : FieldR w hb v w' v'
set_option maxRecDepth 20000 in
set_option maxHeartbeats 8000000 in
theorem pop_c (w : World) (base hb : Nat) (R : Nat → Rn) (v : Value) (L : List Cu) (r : Cu) (hr : L[0]? = some r) (hA : HeapAt w base hb R v L) (hH : Hp.HeapE (lt R) L) (hR : RunsAt w base R) (hn : L.length ≤ 1048576) (hbs : base ≤ w.heap.size) :
    Calls Try.prog 23 #[.pointer (some ⟨hb, 0, none⟩)] w fun e w' => e = .returned (.agg #[.int .i64 r.1, left R r]) ∧ ∃ v' L', PopTo w base hb R v L r w' v' L' := by
  have HH := Lib.hid hH
  have HR := Lib.hid hR
  have HN := Lib.hid hn
  have HBS := Lib.hid hbs
  have HL0 := Lib.hid hA.lt
  have HRT := Lib.hid hr
  obtain ⟨m, hm⟩ : ∃ m, L.length = m + 1 := ⟨L.length - 1, by have := (List.getElem?_eq_some_iff.1 hr).1; omega⟩
  obtain ⟨z, hz⟩ : ∃ z, L[m]? = some z := ⟨L[m]'(by omega), List.getElem?_eq_getElem _⟩
  obtain ⟨g, cap, hv, _, _, _, _⟩ := hA.recs.some (by rw [List.length_map]; omega)
  rw [List.length_map] at hv
  subst hv
  have HM := Lib.hid hm
  have HZ := Lib.hid hz
  have HA := Lib.hid hA
  rw [hm] at HA
  clear hA hH hR hr hn hbs hm hz
  go_enter Try.func23, Try.ntmps23
  have HA1 := Lib.hid (HA.out.below ((Below.refl _ w).alloc (Nat.le_refl _) (.cells #[.int .i64 0, .slice none 0 0] 60)))
  have HF1 := Lib.hid ((FieldR.refl w hb (.slice (some ⟨g, 0, none⟩) (m + 1) cap)).alloc (.cells #[.int .i64 0, .slice none 0 0] 60))
  have HX1 := Lib.hid (Blk.new w [.int .i64 0, .slice none 0 0] 60)
  have HS1 : Hid ((w.alloc (.cells #[.int .i64 0, .slice none 0 0] 60)).heap.size = w.heap.size + 1) := Lib.hid (by simp)
  go_wp2_with fail
  change Hid (Blk (w.alloc (.cells #[.int .i64 0, .slice none 0 0] 60)) w.heap.size [.int .i64 0, .slice none 0 0] 60) at HX1
  refine wp_scope_jumpH (PopJ w base hb R (.slice (some ⟨g, 0, none⟩) (m + 1) cap) L r w.heap.size (w.heap.size + 1)) (fun _ a _ => L.length - natOf (a.tmps.getD 5 undef)) ?pass ?first
  case first =>
    intro hp
    have HP := Lib.hid hp
    clear hp
    generalize hrb : w.heap.size = rb at *
    generalize w.alloc (.cells #[.int .i64 0, .slice none 0 0] 60) = w1 at *
    obtain ⟨Ar, nr, cr, hlr⟩ : ∃ A n c, left R r = .slice A n c := ⟨_, _, _, rfl⟩
    obtain ⟨Az, nz, cz, hlz⟩ : ∃ A n c, left R z = .slice A n c := ⟨_, _, _, rfl⟩
    have HLR := Lib.hid hlr
    have HLZ := Lib.hid hlz
    have c0 : w1.cell? ⟨hb, 0, none⟩ = some (.slice (some ⟨g, 0, none⟩) (m + 1) cap) := HA1.out.blk.cell 0
    obtain ⟨g', cap', hv, _, _, hcell, hfz⟩ := HA1.out.recs.some (by rw [List.length_map, HM.out]; exact Nat.succ_pos m)
    rw [List.length_map, HM.out] at hv
    cases hv
    have r0 : w1.cell? ⟨g, 0, none⟩ = some (.int .i64 r.1) := hcell 0 (enc R r) 0 _ (by simp [HRT.out]) rfl
    have r1 : w1.cell? ⟨g, 1, none⟩ = some (.slice Ar nr cr) := (hcell 0 (enc R r) 1 _ (by simp [HRT.out]) rfl).trans (by rw [HLR.out])
    have z0 : w1.cell? ⟨g, m * 2, none⟩ = some (.int .i64 z.1) := hcell m (enc R z) 0 _ (by simp [HZ.out]) rfl
    have z1 : w1.cell? ⟨g, m * 2 + 1, none⟩ = some (.slice Az nz cz) := (hcell m (enc R z) 1 _ (by simp [HZ.out]) rfl).trans (by rw [HLZ.out])
    have HCAP : Hid (m + 1 ≤ cap) := Lib.hid (own_cap HA1.out.recs.own (by rw [List.length_map, HM.out]))
    clear hcell hfz hlr hlz hrb
    go_upto_region 2 with (fail)
    have HA2 := Lib.hid (HA1.out.below ((Below.refl _ w1).alloc (Nat.le_refl _) (.cells #[.int .i64 r.1, .slice Ar nr cr] 60)))
    have HF2 := Lib.hid (HF1.out.alloc (.cells #[.int .i64 r.1, .slice Ar nr cr] 60))
    have HX2 := Lib.hid (HX1.out.alloc (.cells #[.int .i64 r.1, .slice Ar nr cr] 60))
    have HY2 := Lib.hid (Blk.new w1 [.int .i64 r.1, .slice Ar nr cr] 60)
    change Hid (Blk (w1.alloc (.cells #[.int .i64 r.1, .slice Ar nr cr] 60)) w1.heap.size [.int .i64 r.1, .slice Ar nr cr] 60) at HY2
    rw [HS1.out] at HY2
    rw [HS1.out]
    clear HA1 HF1 HX1 c0 r0 r1 z0 z1
    generalize w1.alloc (.cells #[.int .i64 r.1, .slice Ar nr cr] 60) = w2 at *
    have hwm : wrap64 (m : Int) = (m : Int) := len_w (by have := HN.out; have := HM.out; omega)
    have c0 : w2.cell? ⟨hb, 0, none⟩ = some (.slice (some ⟨g, 0, none⟩) (m + 1) cap) := HA2.out.blk.cell 0
    go_upto_region 3 with (fail)
    have c0' : w2.drew.cell? ⟨hb, 0, none⟩ = some (.slice (some ⟨g, 0, none⟩) (m + 1) cap) := HA2.out.blk.cell 0
    obtain ⟨g', cap', hv, _, _, hcell, hfz⟩ := HA2.out.recs.some (by rw [List.length_map, HM.out]; exact Nat.succ_pos m)
    rw [List.length_map, HM.out] at hv
    cases hv
    have r0 : w2.cell? ⟨g, 0, none⟩ = some (.int .i64 r.1) := hcell 0 (enc R r) 0 _ (by simp [HRT.out]) rfl
    have r1 : w2.cell? ⟨g, 1, none⟩ = some (.slice Ar nr cr) := (hcell 0 (enc R r) 1 _ (by simp [HRT.out]) rfl).trans (by rw [HLR.out])
    have z0 : w2.cell? ⟨g, m * 2, none⟩ = some (.int .i64 z.1) := hcell m (enc R z) 0 _ (by simp [HZ.out]) rfl
    have z1 : w2.cell? ⟨g, m * 2 + 1, none⟩ = some (.slice Az nz cz) := (hcell m (enc R z) 1 _ (by simp [HZ.out]) rfl).trans (by rw [HLZ.out])
    have r0' : w2.drew.cell? ⟨g, 0, none⟩ = some (.int .i64 r.1) := r0
    have r1' : w2.drew.cell? ⟨g, 1, none⟩ = some (.slice Ar nr cr) := r1
    have z0' : w2.drew.cell? ⟨g, m * 2, none⟩ = some (.int .i64 z.1) := z0
    have z1' : w2.drew.cell? ⟨g, m * 2 + 1, none⟩ = some (.slice Az nz cz) := z1
    have fz : ∀ j, w2.frozen? ⟨g, j, none⟩ = false := hfz
    have fz' : ∀ j, w2.drew.frozen? ⟨g, j, none⟩ = false := hfz
    clear hcell hfz
    go_region
    have hA3 := HA2.out.put0 HRT.out (HA2.out.ok z (List.mem_of_getElem? HZ.out))
    have hF3 := fr_two w2 g (.int .i64 z.1) (left R z)
    rw [HLZ.out] at hA3 hF3
    have HGB : Hid (g < rb) := Lib.hid (HL0.out.2 g rfl).1
    have HA3 := Lib.hid (hA3.below (below_drewN (Below.refl _ _) 1))
    have HF3 : Hid (FieldR w hb (.slice (some ⟨g, 0, none⟩) (m + 1) cap) ((w2.setCell ⟨g, 0, none⟩ (.int .i64 z.1)).setCell ⟨g, 1, none⟩ (.slice Az nz cz)).drew (.slice (some ⟨g, 0, none⟩) (m + 1) cap)) := Lib.hid ((HF2.out.trans ⟨.inl rfl, hF3.mono fun j _ e => .inr (by rw [e]; rfl)⟩).drewN 1)
    have HX3 := Lib.hid ((HX2.out.fr hF3 (Nat.ne_of_gt HGB.out)).drewN 1)
    have HY3 := Lib.hid ((HY2.out.fr hF3 (Nat.ne_of_gt (Nat.lt_succ_of_lt HGB.out))).drewN 1)
    clear hA3 hF3 r0 r1 z0 z1 r0' r1' z0' z1' fz fz' c0 c0' HA2 HF2 HX2 HY2
    change Hid (HeapAt ((w2.setCell ⟨g, 0, none⟩ (.int .i64 z.1)).setCell ⟨g, 1, none⟩ (.slice Az nz cz)).drew base hb R _ _) at HA3
    change Hid (Blk ((w2.setCell ⟨g, 0, none⟩ (.int .i64 z.1)).setCell ⟨g, 1, none⟩ (.slice Az nz cz)).drew rb _ _) at HX3
    change Hid (Blk ((w2.setCell ⟨g, 0, none⟩ (.int .i64 z.1)).setCell ⟨g, 1, none⟩ (.slice Az nz cz)).drew (rb + 1) _ _) at HY3
    generalize ((w2.setCell ⟨g, 0, none⟩ (.int .i64 z.1)).setCell ⟨g, 1, none⟩ (.slice Az nz cz)).drew = w3 at *
    have c0 : w3.cell? ⟨hb, 0, none⟩ = some (.slice (some ⟨g, 0, none⟩) (m + 1) cap) := HA3.out.blk.cell 0
    have fz : w3.frozen? ⟨hb, 0, none⟩ = false := HA3.out.blk.frozen 0
    have hcapm : m ≤ cap := by have := HCAP.out; omega
    go_wp2_with fail
    have hA4 := HA3.out.take (m := m) (by rw [List.length_set, HM.out]; exact Nat.le_succ m)
    have HQ : Hid (PopI w base hb R (.slice (some ⟨g, 0, none⟩) (m + 1) cap) L r rb (rb + 1) (w3.setCell ⟨hb, 0, none⟩ (.slice (some ⟨g, 0, none⟩) m cap)) (.slice (some ⟨g, 0, none⟩) m cap) ((L.set 0 z).take m) 0) :=
      Lib.hid ⟨hA4, Hp.Dn.start HH.out z m, Hp.pop_perm HRT.out HM.out HZ.out, HF3.out.trans ⟨.inl rfl, (Fr.refl w3 _).setCell _ _ fun _ => .inl rfl⟩, by rw [HLR.out]; exact HY3.out.other _ _ (by intro e; exact absurd HL0.out.1 (by have : hb = rb + 1 := e.symm; omega)), HX3.out.other _ _ (by intro e; exact absurd HL0.out.1 (by have : hb = rb := e.symm; omega)), rfl⟩
    have HLEN : Hid (((L.set 0 z).take m).length = m) := Lib.hid (by rw [List.length_take, List.length_set, HM.out]; omega)
    go_step3
    simp only [Exit.then]
    rename_i K1 hK1
    rw [hwm]
    refine hK1 _ _ ?_
    refine HP.out 0 _ _ _ ?_ rfl
    exact ⟨0, _, (L.set 0 z).take m, by rw [HLEN.out]; rfl, by rw [HLEN.out]; exact HM.out, Nat.zero_le _, HQ⟩
  case pass =>
    clear HX1 HA1 HF1 HS1
    rintro l a w' hJ
    match l, hJ with
    | 0, hJ =>
      obtain ⟨i, v', L', ha, hlen, hil, HI⟩ := hJ
      generalize (fun k => a.tmps.getD k undef) = u at ha
      subst ha
      unfold popFr
      refine ⟨_, rfl, ?_⟩
      have HLL : Hid (L'.length ≤ 1048576) := Lib.hid (by have := HN.out; omega)
      have HIL := Lib.hid hil
      have HLEN := Lib.hid hlen
      have HBSW : Hid (∀ w1 v1 L1 j, PopI w base hb R (.slice (some ⟨g, 0, none⟩) (m + 1) cap) L r w.heap.size (w.heap.size + 1) w1 v1 L1 j → RunsAt w1 base R) := Lib.hid fun w1 v1 L1 j h => HR.out.below (h.fr.below HA.out.base (fun k e => (HL0.out.2 k e).2) HBS.out)
      clear hil hlen
      obtain ⟨d, k0, k2, f1, f2, f3, f4, f5, f6, hk0, hk2⟩ := dn_facts i L'.length HIL.out HLL.out
      have HK0 := Lib.hid hk0
      have HK2 := Lib.hid hk2
      clear hk0 hk2
      go_upto_block 0 with (fail)
      rw [f2, f4]
      go_cut [6, 7] (fun mv kv wc => ∃ (mm k : Nat), mv = .int .i64 mm ∧ Hid (LeastI R L' i k mm) ∧ Hid (k = i * 2 + 3 ∨ L'.length ≤ k) ∧ Hid (PopI w base hb R (.slice (some ⟨g, 0, none⟩) (m + 1) cap) L r w.heap.size (w.heap.size + 1) wc v' L' i))
      case first =>
        go_wp2_with fail
        go_loopg [6, 7] 3 (fun gg mv kv wr => ∃ (mm k : Nat), mv = .int .i64 mm ∧ kv = .int .i64 k ∧ gg = i * 2 + 4 - k ∧ Hid (LeastI R L' i k mm) ∧ Hid (PopI w base hb R (.slice (some ⟨g, 0, none⟩) (m + 1) cap) L r w.heap.size (w.heap.size + 1) wr v' L' i))
        case atStart => exact ⟨i, k0, rfl, rfl, by rw [HK0.out]; omega, by rw [HK0.out]; exact Lib.hid (LeastI.start R L' i), HI⟩
        case round =>
          obtain ⟨mm, k, rfl, rfl, hg, HLE, HPI⟩ := hrel
          have HG := Lib.hid hg
          clear hg
          by_cases hk : k ≤ k2
          · by_cases hkl : k < L'.length
            · have hx1 : (k : Int) < (L'.length : Int) := Int.ofNat_lt.2 hkl
              have hx2 : (k : Int) ≤ (k2 : Int) := Int.ofNat_le.2 hk
              have hx3 : decide (k < L'.length) = true := decide_eq_true hkl
              have hx4 : decide (k ≤ k2) = true := decide_eq_true hk
              have hml : mm < L'.length := m_lt (HLE.out.m1.imp id fun ⟨a, b, c, _⟩ => ⟨a, b, c⟩) hkl HLE.out.k1
              obtain ⟨k1, n1, n2, hk1⟩ := nx_facts k i L'.length HIL.out HLL.out HLE.out.k2
              have HKK : Hid (k < i * 2 + 3) := Lib.hid (kk_lt hk HK2.out)
              have HK1 := Lib.hid hk1
              obtain ⟨x, hx⟩ : ∃ x, L'[k]? = some x := ⟨L'[k]'hkl, List.getElem?_eq_getElem _⟩
              obtain ⟨y, hy⟩ : ∃ y, L'[mm]? = some y := ⟨L'[mm]'hml, List.getElem?_eq_getElem _⟩
              obtain ⟨g2, cap2, hv, _, _, hcell, hfz⟩ := HPI.out.at_.recs.some (by rw [List.length_map]; exact Nat.lt_of_le_of_lt (Nat.zero_le _) hkl)
              rw [List.length_map] at hv
              subst hv
              have hh0 : wr.cell? ⟨hb, 0, none⟩ = some (.slice (some ⟨g2, 0, none⟩) L'.length cap2) := HPI.out.at_.blk.cell 0
              have hh1 : wr.cell? ⟨hb, 1, none⟩ = some (.func (.func 21) #[] #[]) := HPI.out.at_.blk.cell 1
              have a0 : wr.cell? ⟨g2, k * 2, none⟩ = some (.int .i64 x.1) := hcell k (enc R x) 0 _ (by simp [hx]) rfl
              have a1 : wr.cell? ⟨g2, k * 2 + 1, none⟩ = some (left R x) := hcell k (enc R x) 1 _ (by simp [hx]) rfl
              have b0 : wr.cell? ⟨g2, mm * 2, none⟩ = some (.int .i64 y.1) := hcell mm (enc R y) 0 _ (by simp [hy]) rfl
              have b1 : wr.cell? ⟨g2, mm * 2 + 1, none⟩ = some (left R y) := hcell mm (enc R y) 1 _ (by simp [hy]) rfl
              have hh0' := cell_regrown hh0
              have hh1' := cell_regrown hh1
              have a0' := cell_regrown a0
              have a1' := cell_regrown a1
              have b0' := cell_regrown b0
              have b1' := cell_regrown b1
              clear hh0 hh1 a0 a1 b0 b1
              have HRW := Lib.hid (HBSW.out _ _ _ _ HPI.out)
              have LS := fun d os => Lib.hid (Calls.regrown_of (w := wr) (d := d) (os := os) (less_c R base (grow (redrawn wr d) os) (HRW.out.below ((below_regrown wr d os).mono (Nat.le_trans HBS.out HPI.out.fr.fr.size))) x y (HPI.out.at_.ok x (List.mem_of_getElem? hx)) (HPI.out.at_.ok y (List.mem_of_getElem? hy))))
              have HXX := Lib.hid hx
              have HYY := Lib.hid hy
              clear hcell hfz hx hy hk hkl hk1
              go_upto_region 9 with (fail)
              generalize hlx : left R x = lx at a1' LS
              generalize hly : left R y = ly at b1' LS
              generalize hql : lt R x y = q at LS
              have HQL := Lib.hid hql
              clear hlx hly hql
              refine wp_region_quiet_below (by kernel_rfl) (by kernel_rfl) ?_
              repeat (quiet_step (first | with_reducible exact (LS _ _).out))
              refine wpQuiet_nil ?_
              intro _ hw''
              obtain ⟨⟨dq, osq⟩, hw3⟩ := hw''
              subst hw3
              have HP2 := Lib.hid (HPI.out.below (below_regrown wr dq osq))
              generalize hw2 : grow (redrawn wr { d := dq, os := osq : Regrown }.d) { d := dq, os := osq : Regrown }.os = w2
              change grow (redrawn wr dq) osq = w2 at hw2
              rw [hw2] at HP2
              clear hw2 hh0' hh1' a0' a1' b0' b1' LS HRW HPI
              cases q
              · go_wp2_with fail
                go_roundg (i * 2 + 4 - (k + 1))
                case measure => exact gg_lt HG.out HKK.out
                case rel => exact ⟨mm, k1, rfl, congrArg (Value.int .i64) n2, by rw [HK1.out], by rw [HK1.out]; exact Lib.hid (HLE.out.no HKK.out HXX.out HYY.out HQL.out), HP2⟩
              · go_wp2_with fail
                go_roundg (i * 2 + 4 - (k + 1))
                case measure => exact gg_lt HG.out HKK.out
                case rel => exact ⟨k, k1, rfl, congrArg (Value.int .i64) n2, by rw [HK1.out], by rw [HK1.out]; exact Lib.hid (HLE.out.yes HKK.out HXX.out HYY.out HQL.out), HP2⟩
            · have hx1 : ¬ (k : Int) < (L'.length : Int) := fun e => hkl (Int.ofNat_lt.1 e)
              have hx2 : (k : Int) ≤ (k2 : Int) := Int.ofNat_le.2 hk
              have hx3 : decide (k < L'.length) = false := decide_eq_false hkl
              have hx4 : decide (k ≤ k2) = true := decide_eq_true hk
              have HKL := Lib.hid hkl
              clear hk hkl
              go_wp2
              go_meet
              exact ⟨mm, k, rfl, HLE, Lib.hid (.inr (Nat.not_lt.1 HKL.out)), HPI⟩
          · have hx2 : ¬ (k : Int) ≤ (k2 : Int) := fun e => hk (Int.ofNat_le.1 e)
            have hx4 : decide (k ≤ k2) = false := decide_eq_false hk
            have HKK : Hid (k = i * 2 + 3) := Lib.hid (kk_eq hk HK2.out HLE.out.k2)
            clear hk
            go_wp2
            go_meet
            exact ⟨mm, k, rfl, HLE, Lib.hid (.inl HKK.out), HPI⟩
      obtain ⟨mm, k, rfl, HLE, HKE, HPI⟩ := hcut
      have HKID := Lib.hid (HLE.out.kids HKE.out)
      by_cases hmi : mm = i
      · subst hmi
        have HFin := Lib.hid (HPI.out.dn.done HKID.out)
        obtain ⟨Ar, nr, cr, hlr⟩ : ∃ A n c, left R r = .slice A n c := ⟨_, _, _, rfl⟩
        have t0 : wc.cell? ⟨w.heap.size + 1, 0, none⟩ = some (.int .i64 r.1) := HPI.out.top.cell 0
        have t1 : wc.cell? ⟨w.heap.size + 1, 1, none⟩ = some (.slice Ar nr cr) := (HPI.out.top.cell 1).trans (by rw [hlr]; rfl)
        have r0 : wc.cell? ⟨w.heap.size, 0, none⟩ = some (.int .i64 0) := HPI.out.res.cell 0
        have r1 : wc.cell? ⟨w.heap.size, 1, none⟩ = some (.slice none 0 0) := HPI.out.res.cell 1
        have fz : ∀ j, wc.frozen? ⟨w.heap.size, j, none⟩ = false := fun j => HPI.out.res.frozen j
        have hne : ((mm : Int) != (mm : Int)) = false := by simp
        have HLR := Lib.hid hlr
        clear hlr
        go_wp2_with fail
        rw [jumpG_ret]
        have hsz : (Try.prog.info? 60).map (·.size) = some 2 := by kernel_rfl
        have hR2 : Blk ((wc.setCell ⟨w.heap.size, 0, none⟩ (.int .i64 r.1)).setCell ⟨w.heap.size, 1, none⟩ (.slice Ar nr cr)) w.heap.size [.int .i64 r.1, .slice Ar nr cr] 60 := (HPI.out.res.set 0 _).set 1 _
        refine bodyPost_ret (results_cell_row rfl _ _ w.heap.size 60 _ (0, 0) _ rfl hR2 Try.underlying60 rfl hsz) rfl ?_
        rw [HLR.out]
        have hF2 := fr_two wc w.heap.size (.int .i64 r.1) (.slice Ar nr cr)
        have hpp := HPI.out
        rw [← HM.out] at hpp
        refine ⟨rfl, v', L', hpp.own, HPI.out.at_.fr hF2 ?_ ?_, HFin.out, HPI.out.perm, Mg.FieldR.setTwo hpp.fr hF2⟩
        · exact Nat.ne_of_lt HL0.out.1
        · intro k e
          rw [HPI.out.own] at e
          rw [HM.out] at HL0
          exact Nat.ne_of_lt (HL0.out.2 k e).1
      · have hne : ((mm : Int) != (i : Int)) = true := ne_cast hmi
        obtain ⟨hm1, hm2, hm3, hm4⟩ : i * 2 + 1 ≤ mm ∧ mm < k ∧ mm < L'.length ∧ ∀ x y, L'[mm]? = some x → L'[i]? = some y → lt R x y = true := HLE.out.m1.resolve_left hmi
        have hil : i < L'.length := by omega
        obtain ⟨x, hx⟩ : ∃ x, L'[i]? = some x := ⟨L'[i]'hil, List.getElem?_eq_getElem _⟩
        obtain ⟨y, hy⟩ : ∃ y, L'[mm]? = some y := ⟨L'[mm]'hm3, List.getElem?_eq_getElem _⟩
        have hst := Hp.Dn.step (swo R) HPI.out.dn (m := mm) (by omega) (by have := HLE.out.k2; omega) hx hy (hm4 y x hy hx) (fun j u hj hq hu => HKID.out j u y hj hq hu hy)
        have HST := Lib.hid hst
        obtain ⟨g2, cap2, hv, _, _, hcell, hfz⟩ := HPI.out.at_.recs.some (by rw [List.length_map]; exact Nat.lt_of_le_of_lt (Nat.zero_le _) hil)
        rw [List.length_map] at hv
        subst hv
        obtain ⟨Ax, nx, cx, hlx⟩ : ∃ A n c, left R x = .slice A n c := ⟨_, _, _, rfl⟩
        obtain ⟨Ay, ny, cy, hly⟩ : ∃ A n c, left R y = .slice A n c := ⟨_, _, _, rfl⟩
        have a0 : wc.drew.cell? ⟨g2, i * 2, none⟩ = some (.int .i64 x.1) := hcell i (enc R x) 0 _ (by simp [hx]) rfl
        have a1 : wc.drew.cell? ⟨g2, i * 2 + 1, none⟩ = some (.slice Ax nx cx) := (hcell i (enc R x) 1 _ (by simp [hx]) rfl).trans (by rw [hlx])
        have b0 : wc.drew.cell? ⟨g2, mm * 2, none⟩ = some (.int .i64 y.1) := hcell mm (enc R y) 0 _ (by simp [hy]) rfl
        have b1 : wc.drew.cell? ⟨g2, mm * 2 + 1, none⟩ = some (.slice Ay ny cy) := (hcell mm (enc R y) 1 _ (by simp [hy]) rfl).trans (by rw [hly])
        have a0' : wc.cell? ⟨g2, i * 2, none⟩ = some (.int .i64 x.1) := a0
        have a1' : wc.cell? ⟨g2, i * 2 + 1, none⟩ = some (.slice Ax nx cx) := a1
        have b0' : wc.cell? ⟨g2, mm * 2, none⟩ = some (.int .i64 y.1) := b0
        have b1' : wc.cell? ⟨g2, mm * 2 + 1, none⟩ = some (.slice Ay ny cy) := b1
        have hh0 : wc.drew.cell? ⟨hb, 0, none⟩ = some (.slice (some ⟨g2, 0, none⟩) L'.length cap2) := HPI.out.at_.blk.cell 0
        have fz' : ∀ j, wc.frozen? ⟨g2, j, none⟩ = false := hfz
        have fz : ∀ j, wc.drew.frozen? ⟨g2, j, none⟩ = false := hfz
        have HIM : Hid (i < mm) := Lib.hid (by omega)
        obtain ⟨n1, n2, n3, n4, n5, n6, n7⟩ := ne_facts2 HIM.out
        have HXX := Lib.hid hx
        have HYY := Lib.hid hy
        have HLX := Lib.hid hlx
        have HLY := Lib.hid hly
        have HML := Lib.hid hm3
        clear hcell hfz hx hy hlx hly hm1 hm2 hm4 hst hmi HKE
        go_upto_region 12 with (fail)
        go_region
        have hs := HPI.out.at_.swap HXX.out HYY.out
        have hfs := fr_swap wc g2 (i * 2) (i * 2 + 1) (mm * 2) (mm * 2 + 1) (.int .i64 y.1) (left R y) (.int .i64 x.1) (left R x)
        rw [HLX.out, HLY.out] at hs hfs
        have hgo : g2 < w.heap.size := by
          have e := HPI.out.own
          have := HL0.out.2 g2 (by rw [HM.out]; exact e.symm)
          exact this.1
        have HQ : Hid (PopI w base hb R (.slice (some ⟨g, 0, none⟩) (m + 1) cap) L r w.heap.size (w.heap.size + 1) ((((wc.setCell ⟨g2, i * 2, none⟩ (.int .i64 y.1)).setCell ⟨g2, i * 2 + 1, none⟩ (.slice Ay ny cy)).setCell ⟨g2, mm * 2, none⟩ (.int .i64 x.1)).setCell ⟨g2, mm * 2 + 1, none⟩ (.slice Ax nx cx)).drew (.slice (some ⟨g2, 0, none⟩) L'.length cap2) (Hp.sw L' i mm x y) mm) :=
          Lib.hid ⟨hs.below (below_drewN (Below.refl _ _) 1), HST.out, HPI.out.perm.trans ((Hp.sw_perm HXX.out HYY.out).symm.cons r), (HPI.out.fr.trans ⟨.inl rfl, hfs.mono fun j _ e => .inr (by rw [e]; rfl)⟩).drewN 1, (HPI.out.top.fr hfs (Nat.ne_of_gt (Nat.lt_succ_of_lt hgo))).drewN 1, (HPI.out.res.fr hfs (Nat.ne_of_gt hgo)).drewN 1, HPI.out.own⟩
        clear hs hfs a0 a1 b0 b1 a0' a1' b0' b1' fz fz' hh0 n1 n2 n3 n4 n5 n6 n7 hgo
        generalize ((((wc.setCell ⟨g2, i * 2, none⟩ (.int .i64 y.1)).setCell ⟨g2, i * 2 + 1, none⟩ (.slice Ay ny cy)).setCell ⟨g2, mm * 2, none⟩ (.int .i64 x.1)).setCell ⟨g2, mm * 2 + 1, none⟩ (.slice Ax nx cx)).drew = w4 at HQ ⊢
        go_wp2_with fail
        go_step3
        change PopJ w base hb R (.slice (some ⟨g, 0, none⟩) (m + 1) cap) L r w.heap.size (w.heap.size + 1) 0 _ _ ∧ _
        refine ⟨⟨mm, _, Hp.sw L' i mm x y, by rw [Hp.sw_len]; rfl, by rw [Hp.sw_len]; exact HLEN.out, by rw [Hp.sw_len]; exact Nat.le_of_lt HML.out, HQ⟩, ?_⟩
        simp only [natOf]
        exact mu_lt HIM.out HML.out HLEN.out
end Mg
end Go.Proofs.Ytgeeaddbapjikaa
