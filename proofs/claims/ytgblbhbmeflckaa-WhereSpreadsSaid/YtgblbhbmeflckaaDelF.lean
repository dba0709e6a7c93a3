/- slices.DeleteFunc, slices.Delete at Spread's list of numbers, by the shelf's contracts. -/
import Derived.Shelf.SlicesE.DeleteFunc
import Derived.Test.YtgblbhbmeflckaaDel
import Derived.Test.YtgblbhbmeflckaaSpr1
namespace Go.Proofs
open Go.Shelf
def Try.delf_ren : Go.Shelf.Ren := ⟨fun | 6 => 40 | 10 => 33 | n => n, fun | 3 => 3 | 4 => 4 | 22 => 40 | 23 => 3 | 25 => 62 | n => n, fun n => n⟩
theorem Try.delf : Go.Proofs.SlLaysH.n10 Try.prog Try.delf_ren := {
  mixed := by kernel_rfl
  f6 := ⟨ "slices.IndexFunc[[]int,int]", by decide, Try.func40.trans (congrArg some (by kernel_rfl))⟩
  f10 := ⟨ "slices.DeleteFunc[[]int,int]", by decide, Try.func33.trans (congrArg some (by kernel_rfl))⟩
  t0 := Try.underlying0
  a0 := Try.isAgg0
  z0 := Try.sizeOf0
  v0 := Try.zeroValue0
  t3 := Try.underlying3
  a3 := Try.isAgg3
  z3 := Try.sizeOf3
  v3 := Try.zeroValue3
  t4 := Try.underlying4
  a4 := Try.isAgg4
  z4 := Try.sizeOf4
  v4 := Try.zeroValue4
  t22 := Try.underlying40
  a22 := Try.isAgg40
  z22 := Try.sizeOf40
  v22 := Try.zeroValue40
  a23 := Try.isAgg3
  z23 := Try.sizeOf3
  t25 := Try.underlying62
  a25 := Try.isAgg62
  z25 := Try.sizeOf62
  v25 := Try.zeroValue62 }
end Go.Proofs
namespace Go.Proofs.Ytgblbhbmeflckaa
open Go.RowKit Go.Sort Go.Lib St Fl
set_option linter.unusedVariables false
set_option linter.unusedSimpArgs false
/-- a block's first cells hold these numbers -/
structure RowN (w : World) (B : Nat) (l : List Nat) : Prop where
  lt : B < w.heap.size
  at' : ∀ (k j : Nat), l[k]? = some j → w.cell? ⟨B, k, none⟩ = some (.int .i64 (j : Int)) ∧ w.frozen? ⟨B, k, none⟩ = false
theorem fr_putRowG {α : Type} [Inhabited α] (enc : α → Value) (w : World) (g q : Nat) (d : Array α) : Fr w (putRow enc (Sort.ahead w q) g 0 d) (fun k => k = g) :=
  ⟨rfl, rfl, rfl, by simp [putRow, mapBlock, Sort.ahead], fun k hk hs => by
    have : g ≠ k := fun e => hs e.symm
    simp [putRow, mapBlock, Sort.ahead, Array.getElem?_modify, this]⟩
theorem rowN_holds {w : World} {B : Nat} {l : List Nat} (h : RowN w B l) : Holds encI w B 0 (l.map Int.ofNat).toArray := fun j hj => by
  have hjl : j < l.length := by simpa using hj
  have := h.at' j _ (List.getElem?_eq_getElem hjl)
  rw [Nat.zero_add]
  refine ⟨?_, this.2⟩
  rw [this.1, getElem!_pos _ j hj]
  simp [encI]
theorem delete_n (B : Nat) (l : List Nat) (i n cap : Nat) (hn : l.length = n) (hi : i < n) (hc : n ≤ cap) (hm : cap ≤ 9223372036854775807) (w : World) (h : RowN w B l) :
    Calls Try.prog 36 #[.slice (some ⟨B, 0, none⟩) n cap, .int .i64 (i : Int), .int .i64 ((i : Int) + 1)] w fun e w' => e = .returned (.slice (some ⟨B, 0, none⟩) (n - 1) cap) ∧ RowN w' B (l.eraseIdx i) ∧ Fr w w' (fun k => k = B) := by
  have hH := rowN_holds h
  have hsz0 : (l.map Int.ofNat).toArray.size = n := by simp [hn]
  have hd := Any.slices_Delete_int_arr Try.delI B 0 cap i (i + 1) (l.map Int.ofNat).toArray w hH (by omega) hm (by omega) (by omega)
  have e1 : ((i + 1 : Nat) : Int) = (i : Int) + 1 := by omega
  rw [hsz0] at hd
  refine Calls.mono (by rw [← e1]; exact hd) ?_
  rintro e w' ⟨rfl, q, rfl⟩
  have hsz : ((l.map Int.ofNat).toArray.toList.take i ++ (l.map Int.ofNat).toArray.toList.drop (i + 1) ++ List.replicate (i + 1 - i) 0).toArray.size = (l.map Int.ofNat).toArray.size := by simp; omega
  have hnew := holds_putRow encI (Sort.ahead w q) B 0 _ _ (holds_ahead encI w q B 0 _ hH) hsz
  refine ⟨by rw [show n - (i + 1 - i) = n - 1 by omega], ⟨?_, fun k j hk => ?_⟩, fr_putRowG encI w B q _⟩
  · show B < (putRow encI (Sort.ahead w q) B 0 _).heap.size
    rw [Sort.size_putRow]
    exact h.lt
  · have hkl := (List.getElem?_eq_some_iff.1 hk).1
    rw [List.length_eraseIdx_of_lt (by omega)] at hkl
    have hks : k < ((l.map Int.ofNat).toArray.toList.take i ++ (l.map Int.ofNat).toArray.toList.drop (i + 1) ++ List.replicate (i + 1 - i) 0).toArray.size := by rw [hsz, hsz0]; omega
    have h2 := hnew k hks
    rw [Nat.zero_add] at h2
    refine ⟨h2.1.trans ?_, h2.2⟩
    rw [getElem!_pos _ k hks]
    have h3 : ((l.map Int.ofNat).toArray.toList.take i ++ (l.map Int.ofNat).toArray.toList.drop (i + 1) ++ List.replicate (i + 1 - i) 0)[k]? = some (j : Int) := by
      rw [List.getElem?_append_left (by simp; omega), ← List.eraseIdx_eq_take_drop_succ]
      simp only [List.toList_toArray]
      have h5 : (l.map Int.ofNat).eraseIdx i = (l.eraseIdx i).map Int.ofNat := by
        simp only [List.eraseIdx_eq_take_drop_succ, List.map_append, List.map_take, List.map_drop]
      rw [h5, List.getElem?_map, hk]
      rfl
    have h4 : ((l.map Int.ofNat).toArray.toList.take i ++ (l.map Int.ofNat).toArray.toList.drop (i + 1) ++ List.replicate (i + 1 - i) 0).toArray[k] = (j : Int) := by
      rw [List.getElem_toArray]
      exact (List.getElem?_eq_some_iff.1 h3).2
    rw [h4]
/-- the places that are some -/
noncomputable def keepS (zr zi : Nat) (re im : Nat → Nat) (l : List Nat) : List Nat := l.filter fun j => !decide (distI (pl zr) (pl zi) (pl (re j)) (pl (im j)) < 0)
theorem filter_pmap {n : Nat} (q : Nat → Bool) : ∀ (l : List Nat) (h : ∀ j ∈ l, j < n), ((l.pmap (fun j h => (⟨j, h⟩ : Fin n)) h).filter (fun x => q x.1)).map (·.1) = l.filter q
  | [], _ => rfl
  | a :: l, h => by
    rw [List.pmap, List.filter_cons, List.filter_cons]
    have ih := filter_pmap q l (fun j hj => h j (by simp [hj]))
    dsimp only
    cases q a
    · simpa using ih
    · simpa using ih
set_option maxHeartbeats 1000000 in
theorem delf_n (zr zi lb n cap : Nat) (re im : Nat → Nat) (h0 : 0 < n) (B : Nat) (l : List Nat) (hl : ∀ j ∈ l, j < n) (m c : Nat) (hm : l.length = m) (hc : m ≤ c) (hmm : m ≤ 9223372036854775807) (ga gb : Nat) (w : World) (h : RowN w B l)
    (ha : ga < w.heap.size ∧ ga ≠ B ∧ w.cell? ⟨ga, 0, none⟩ = some (.complex .f64 zr zi)) (hb : gb < w.heap.size ∧ gb ≠ B ∧ w.cell? ⟨gb, 0, none⟩ = some (.slice (some ⟨lb, 0, none⟩) n cap)) (hlb : lb < w.heap.size ∧ lb ≠ B ∧ ∀ i, i < n → w.cell? ⟨lb, i, none⟩ = some (.complex .f64 (re i) (im i))) :
    Calls Try.prog 33 #[.slice (some ⟨B, 0, none⟩) m c, .func (.func 34) #[] #[.pointer (some ⟨ga, 0, none⟩), .pointer (some ⟨gb, 0, none⟩)]] w fun e w' => e = .returned (.slice (some ⟨B, 0, none⟩) (keepS zr zi re im l).length c) ∧ RowN w' B (keepS zr zi re im l) ∧ Fr w w' (fun k => k = B) := by
  haveI : Inhabited (Fin n) := ⟨⟨0, h0⟩⟩
  obtain ⟨enc, henc⟩ : ∃ enc : Fin n → Value, enc = fun x => Value.int .i64 (x.1 : Int) := ⟨_, rfl⟩
  have eg : ∀ args w, (callFunc 34 args).run Try.prog w = .ok (.enter 34 args) w := enters_of Try.func34 (by kernel_rfl) rfl
  obtain ⟨d, hd⟩ : ∃ d : Array (Fin n), d = (l.pmap (fun j h => (⟨j, h⟩ : Fin n)) hl).toArray := ⟨_, rfl⟩
  have hds : d.size = m := by rw [hd]; simp [hm]
  have hdg : ∀ (k j : Nat) (hk : l[k]? = some j), d[k]!.1 = j := fun k j hk => by
    have hkl := (List.getElem?_eq_some_iff.1 hk).1
    rw [getElem!_pos d k (by rw [hds]; omega)]
    subst hd
    rw [List.getElem_toArray, List.getElem_pmap]
    exact (List.getElem?_eq_some_iff.1 hk).2
  have hH : Holds enc w B 0 d := fun j hj => by
    have hjl : j < l.length := by omega
    have := h.at' j _ (List.getElem?_eq_getElem hjl)
    rw [Nat.zero_add]
    refine ⟨?_, this.2⟩
    rw [this.1, henc]
    dsimp only
    rw [hdg j _ (List.getElem?_eq_getElem hjl)]
  have hcon := AnyE.slices_DeleteFunc Try.delf enc (fun x => by rw [henc]; rfl) (fun x => decide (distI (pl zr) (pl zi) (pl (re x.1)) (pl (im x.1)) < 0)) 34 #[.pointer (some ⟨ga, 0, none⟩), .pointer (some ⟨gb, 0, none⟩)] eg ⟨0, h0⟩ (fun w => by rw [henc]; exact Try.zeroValue3 w) B 0 c d w
    (fun W x hW => by
      rw [henc]
      exact sprf_c zr zi lb n cap re im x.1 x.2 ga gb W ((hW.cell (p := ⟨ga, 0, none⟩) ha.1).trans ha.2.2) ((hW.cell (p := ⟨gb, 0, none⟩) hb.1).trans hb.2.2) ((hW.cell (p := ⟨lb, x.1, none⟩) hlb.1).trans (hlb.2.2 x.1 x.2)))
    (fun q os dk x _ => by
      have key : ∀ (k o : Nat), k < w.heap.size → k ≠ B → (sortWorld enc w B 0 q dk os).cell? ⟨k, o, none⟩ = w.cell? ⟨k, o, none⟩ := fun k o hk hne => by
        unfold sortWorld
        rw [cell?_grow _ _ _ (by show k < (putRow _ _ _ _ _).heap.size; rw [Sort.size_putRow]; exact hk), cell?_putRow_other _ _ B 0 _ _ (Or.inl hne)]
        rfl
      have := sprf_c zr zi lb n cap re im x.1 x.2 ga gb (sortWorld enc w B 0 q dk os) ((key ga 0 ha.1 ha.2.1).trans ha.2.2) ((key gb 0 hb.1 hb.2.1).trans hb.2.2) ((key lb x.1 hlb.1 hlb.2.1).trans (hlb.2.2 x.1 x.2))
      unfold FnGives
      subst henc
      exact this)
    hH (by omega) (by omega)
  rw [hds] at hcon
  have hk : (d.toList.filter fun x => !decide (distI (pl zr) (pl zi) (pl (re x.1)) (pl (im x.1)) < 0)).map (·.1) = keepS zr zi re im l := by
    rw [hd]
    exact filter_pmap (fun j => !decide (distI (pl zr) (pl zi) (pl (re j)) (pl (im j)) < 0)) l hl
  generalize (d.toList.filter fun x => !decide (distI (pl zr) (pl zi) (pl (re x.1)) (pl (im x.1)) < 0)) = r at hcon hk
  have hrl : r.length = (keepS zr zi re im l).length := by rw [← hk, List.length_map]
  have hrm : r.length ≤ m := by rw [hrl, ← hm]; exact List.length_filter_le _ _
  refine Calls.mono hcon ?_
  rintro e w' ⟨rfl, q, rfl⟩
  have hsz : (r ++ List.replicate (m - r.length) (⟨0, h0⟩ : Fin n)).toArray.size = d.size := by simp; omega
  have hnew := holds_putRow enc (Sort.ahead w q) B 0 _ _ (holds_ahead enc w q B 0 _ hH) hsz
  refine ⟨by rw [hrl], ⟨?_, fun k j hkj => ?_⟩, fr_putRowG enc w B q _⟩
  · show B < (putRow enc (Sort.ahead w q) B 0 _).heap.size
    rw [Sort.size_putRow]
    exact h.lt
  · rw [← hk, List.getElem?_map] at hkj
    obtain ⟨x, hx, rfl⟩ := Option.map_eq_some_iff.1 hkj
    have hkr := (List.getElem?_eq_some_iff.1 hx).1
    have hks : k < (r ++ List.replicate (m - r.length) (⟨0, h0⟩ : Fin n)).toArray.size := by rw [hsz, hds]; omega
    have h2 := hnew k hks
    rw [Nat.zero_add] at h2
    refine ⟨h2.1.trans ?_, h2.2⟩
    rw [getElem!_pos _ k hks, List.getElem_toArray, List.getElem_append_left hkr, (List.getElem?_eq_some_iff.1 hx).2, henc]
end Go.Proofs.Ytgblbhbmeflckaa
