/- Stable sorting of a []int by a comparing function: swapRange and rotate. -/
import Derived.Test.YtgblbhbmeflckaaKit
import Derived.Test.YtgblbhbmeflckaaPSort
import Derived.BigRegion
import Derived.IntWalk
import Derived.Shelf.SlSortCmp.QuietGrown
import Derived.CellFam
import Derived.BigGuard
import Derived.BigCall
namespace Go.Proofs.Ytgblbhbmeflckaa
open Go.RowKit Go.Lib St
set_option linter.unusedVariables false
set_option linter.unusedSimpArgs false
/-- Block blk holds these numbers; what is known of the world at the sort's begin holds of all other blocks. -/
structure Srt (w0 w : World) (blk : Nat) (xs : List Int) : Prop where
  fr : Fr w0 w (fun k => k = blk)
  lt : blk < w.heap.size
  cell : ∀ i x, xs[i]? = some x → w.cell? ⟨blk, i, none⟩ = some (.int .i64 x)
  fz : ∀ i, i < xs.length → w.frozen? ⟨blk, i, none⟩ = false
section
variable {w0 w w' : World} {blk : Nat} {xs : List Int}
theorem Srt.drewN (h : Srt w0 w blk xs) (n : Nat) : Srt w0 (w.drewN n) blk xs := ⟨h.fr.drewN n, h.lt, h.cell, h.fz⟩
theorem Srt.drew (h : Srt w0 w blk xs) : Srt w0 w.drew blk xs := h.drewN 1
theorem Srt.below (h : Srt w0 w blk xs) (hb : Below w.heap.size w w') (hl : w0.heap.size ≤ w.heap.size) : Srt w0 w' blk xs :=
  ⟨h.fr.trans (Fr.of_below (S := fun k => w.heap.size ≤ k) hb fun _ e _ => e) fun x hx e => by omega, Nat.lt_of_lt_of_le h.lt hb.size, fun i x hx => (hb.cell (p := ⟨blk, i, none⟩) h.lt).trans (h.cell i x hx), fun i hi => (hb.frozen (p := ⟨blk, i, none⟩) h.lt).trans (h.fz i hi)⟩
theorem Srt.set (h : Srt w0 w blk xs) (i : Nat) (y : Int) (hi : i < xs.length) : Srt w0 (w.setCell ⟨blk, i, none⟩ (.int .i64 y)) blk (xs.set i y) := by
  refine ⟨h.fr.setCell ⟨blk, i, none⟩ _ fun _ => rfl, by rw [World.size_setCell]; exact h.lt, fun j x hx => ?_, fun j hj => by rw [World.frozen?_setCell]; exact h.fz j (by simpa using hj)⟩
  by_cases e : i = j
  · subst e
    rw [List.getElem?_set_self hi] at hx
    cases hx
    exact World.cell?_setCell_same _ _ _ (h.cell i _ (List.getElem?_eq_getElem hi))
  · rw [List.getElem?_set_ne e] at hx
    rw [← h.cell j x hx]
    exact World.cell?_setCell_other _ _ _ _ (by intro e'; injection e' with _ e'; exact e e')
theorem Srt.swap (h : Srt w0 w blk xs) {i j : Nat} {x y : Int} (hi : i < xs.length) (hj : j < xs.length) : Srt w0 ((w.setCell ⟨blk, i, none⟩ (.int .i64 y)).setCell ⟨blk, j, none⟩ (.int .i64 x)) blk ((xs.set i y).set j x) :=
  (h.set i y hi).set j x (by rw [List.length_set]; exact hj)
end
theorem set_mid {α : Type} (A B : List α) (x y : α) : (A ++ x :: B).set A.length y = A ++ y :: B := by
  rw [List.set_append_right _ _ (Nat.le_refl _), Nat.sub_self]; rfl
theorem get_mid {α : Type} (A B : List α) (x : α) : (A ++ x :: B)[A.length]? = some x := by
  rw [List.getElem?_append_right (Nat.le_refl _), Nat.sub_self]; rfl
def curS (P X M Y R : List Int) (k : Nat) : List Int := P ++ (Y.take k ++ X.drop k) ++ M ++ (X.take k ++ Y.drop k) ++ R
theorem curS_zero (P X M Y R : List Int) : curS P X M Y R 0 = P ++ X ++ M ++ Y ++ R := by simp [curS]
theorem curS_full (P X M Y R : List Int) (h : X.length = Y.length) : curS P X M Y R X.length = P ++ Y ++ M ++ X ++ R := by
  unfold curS
  rw [List.take_of_length_le (l := Y) (by omega), List.take_of_length_le (l := X) (by omega), List.drop_of_length_le (l := X) (by omega), List.drop_of_length_le (l := Y) (by omega)]
  simp
theorem curS_len (P X M Y R : List Int) (h : X.length = Y.length) (k : Nat) (hk : k ≤ X.length) : (curS P X M Y R k).length = P.length + X.length + M.length + Y.length + R.length := by
  unfold curS
  simp only [List.length_append, List.length_take, List.length_drop]
  omega
theorem curS_step (P X M Y R : List Int) (h : X.length = Y.length) (k : Nat) (hk : k < X.length) :
    ∃ x y, (curS P X M Y R k)[P.length + k]? = some x ∧ (curS P X M Y R k)[P.length + X.length + M.length + k]? = some y ∧ ((curS P X M Y R k).set (P.length + k) y).set (P.length + X.length + M.length + k) x = curS P X M Y R (k + 1) := by
  obtain ⟨X1, x, X2, hX, h1⟩ : ∃ X1 x X2, X = X1 ++ x :: X2 ∧ X1.length = k := ⟨X.take k, X[k], X.drop (k + 1), by rw [← List.drop_eq_getElem_cons hk, List.take_append_drop], by rw [List.length_take]; omega⟩
  obtain ⟨Y1, y, Y2, hY, h2⟩ : ∃ Y1 y Y2, Y = Y1 ++ y :: Y2 ∧ Y1.length = k := ⟨Y.take k, Y[k]'(by omega), Y.drop (k + 1), by rw [← List.drop_eq_getElem_cons (by omega), List.take_append_drop], by rw [List.length_take]; omega⟩
  have e1 : curS P X M Y R k = (P ++ Y1) ++ x :: (X2 ++ M ++ X1 ++ y :: (Y2 ++ R)) := by
    unfold curS
    rw [hX, hY, List.take_left' h1, List.drop_left' h1, List.take_left' h2, List.drop_left' h2]
    simp
  have e2 : curS P X M Y R (k + 1) = (P ++ Y1) ++ y :: (X2 ++ M ++ X1 ++ x :: (Y2 ++ R)) := by
    unfold curS
    rw [show X = (X1 ++ [x]) ++ X2 by simp [hX], show Y = (Y1 ++ [y]) ++ Y2 by simp [hY], List.take_left' (by simp [h2]), List.drop_left' (by simp [h1]), List.take_left' (by simp [h1]), List.drop_left' (by simp [h2])]
    simp
  have hl : (P ++ Y1).length = P.length + k := by simp [h2]
  have hXl : X.length = k + 1 + X2.length := by rw [hX]; simp; omega
  refine ⟨x, y, ?_, ?_, ?_⟩
  · rw [e1, ← hl, get_mid]
  · have e3 : (P ++ Y1) ++ x :: (X2 ++ M ++ X1 ++ y :: (Y2 ++ R)) = ((P ++ Y1) ++ x :: (X2 ++ M ++ X1)) ++ y :: (Y2 ++ R) := by simp
    rw [e1, e3, show P.length + X.length + M.length + k = ((P ++ Y1) ++ x :: (X2 ++ M ++ X1)).length by simp; omega, get_mid]
  · have e3 : (P ++ Y1) ++ y :: (X2 ++ M ++ X1 ++ y :: (Y2 ++ R)) = ((P ++ Y1) ++ y :: (X2 ++ M ++ X1)) ++ y :: (Y2 ++ R) := by simp
    rw [e1, show P.length + k = (P ++ Y1).length from hl.symm, set_mid, e3, show P.length + X.length + M.length + k = ((P ++ Y1) ++ y :: (X2 ++ M ++ X1)).length by simp; omega, set_mid, e2]
    simp
set_option maxHeartbeats 4000000 in
set_option maxRecDepth 20000 in
theorem swapRange_c (P X M Y R : List Int) (w0 w : World) (blk cap a b n N : Nat) (cmp : Value) (hS : Srt w0 w blk (P ++ X ++ M ++ Y ++ R)) (ha : a = P.length) (hb : b = P.length + X.length + M.length) (hn : n = X.length) (hXY : X.length = Y.length) (hN : N = P.length + X.length + M.length + Y.length + R.length) (hsz : N < 4611686018427387904) :
    Calls Try.prog 44 #[.slice (some ⟨blk, 0, none⟩) N cap, .int .i64 a, .int .i64 b, .int .i64 n, cmp] w fun e w' => e = .returned (.tuple #[]) ∧ Srt w0 w' blk (P ++ Y ++ M ++ X ++ R) := by
  have HS := Lib.hid hS
  clear hS
  generalize hf : P ++ Y ++ M ++ X ++ R = fin
  have HF := Lib.hid hf
  clear hf
  go_enter Try.func44, Try.ntmps44
  go_wp2
  go_loopg [10] n (fun g v wr => ∃ k : Nat, v = .int .i64 k ∧ k ≤ n ∧ n ≤ k + g ∧ Hid (Srt w0 wr blk (curS P X M Y R k)))
  case atStart => exact ⟨0, rfl, Nat.zero_le _, by omega, by rw [curS_zero]; exact HS⟩
  case round =>
    clear HS
    obtain ⟨k, rfl, hk, hg, HS⟩ := hrel
    by_cases hlt : k < n
    · have hltz : (k : Int) < (n : Int) := by omega
      obtain ⟨x, y, hx, hy, hst⟩ := curS_step P X M Y R hXY k (by omega)
      have hl := curS_len P X M Y R hXY k (by omega)
      rw [← hb] at hy hst
      rw [← ha] at hx hst
      have c1 := HS.out.cell _ _ hx
      have c2 := HS.out.cell _ _ hy
      have f1 := HS.out.fz (a + k) (by omega)
      have f2 := HS.out.fz (b + k) (by omega)
      have c3 : (wr.setCell ⟨blk, a + k, none⟩ (.int .i64 y)).cell? ⟨blk, b + k, none⟩ = some (.int .i64 y) := by
        rw [World.cell?_setCell_other _ _ _ _ (by intro e; injection e with _ e; omega)]; exact c2
      have HS2 : Hid (Srt w0 ((wr.setCell ⟨blk, a + k, none⟩ (.int .i64 y)).setCell ⟨blk, b + k, none⟩ (.int .i64 x)).drew blk (curS P X M Y R (k + 1))) := Lib.hid (by
        rw [← hst]; exact (HS.out.swap (by omega) (by omega)).drew)
      have ia : ((a : Int) + (k : Int)).toNat = a + k := by omega
      have ib : ((b : Int) + (k : Int)).toNat = b + k := by omega
      have pa : (0 : Int) ≤ (a : Int) + (k : Int) := by omega
      have pb : (0 : Int) ≤ (b : Int) + (k : Int) := by omega
      have ba : (a : Int) + (k : Int) < (N : Int) := by omega
      have bb : (b : Int) + (k : Int) < (N : Int) := by omega
      have ra : IntKind.i64.wrap ((a : Int) + (k : Int)) = (a : Int) + (k : Int) := by rw [IntKind.wrap_i64]; omega
      have rb : IntKind.i64.wrap ((b : Int) + (k : Int)) = (b : Int) + (k : Int) := by rw [IntKind.wrap_i64]; omega
      generalize a + k = ia' at *
      generalize b + k = ib' at *
      clear hx hy hst hl HS ha hb hN hXY
      go_wp2_with fail
      have mixed : Try.prog.follows Departure.mixedOrders = true := by rfl
      go_big_region_o
      clear mixed
      clear c1 c2 c3 f1 f2 ia ib
      generalize ((wr.setCell ⟨blk, ia', none⟩ (.int .i64 y)).setCell ⟨blk, ib', none⟩ (.int .i64 x)).drew = w3 at HS2 ⊢
      go_wp2
      go_roundg (n - (k + 1))
      case measure => omega
      case rel => exact ⟨k + 1, by first | rfl | go_num, by omega, by omega, HS2⟩
    · have hltz : ¬ (k : Int) < (n : Int) := by omega
      have he : k = X.length := by omega
      subst he
      rw [curS_full _ _ _ _ _ hXY, HF.out] at HS
      clear hb ha hN hXY
      go_wp2
      exact ⟨rfl, _, results_none (by rfl) _ _ _, rfl, HS.out⟩
theorem swapRange_z (P X M Y R : List Int) (w0 w : World) (blk cap N : Nat) (za zb zn : Int) (cmp : Value) (hS : Srt w0 w blk (P ++ X ++ M ++ Y ++ R)) (ha : za = (P.length : Int)) (hb : zb = (P.length : Int) + X.length + M.length) (hn : zn = (X.length : Int)) (hXY : X.length = Y.length) (hN : N = P.length + X.length + M.length + Y.length + R.length) (hsz : N < 4611686018427387904) :
    Calls Try.prog 44 #[.slice (some ⟨blk, 0, none⟩) N cap, .int .i64 za, .int .i64 zb, .int .i64 zn, cmp] w fun e w' => e = .returned (.tuple #[]) ∧ Srt w0 w' blk (P ++ Y ++ M ++ X ++ R) := by
  subst ha hn
  rw [hb, show (P.length : Int) + X.length + M.length = ((P.length + X.length + M.length : Nat) : Int) by omega]
  exact swapRange_c P X M Y R w0 w blk cap _ _ _ N cmp hS rfl rfl rfl hXY hN hsz
set_option maxHeartbeats 4000000 in
set_option maxRecDepth 20000 in
theorem rotate_c (P X Y R : List Int) (w0 w : World) (blk cap N : Nat) (za zm zb : Int) (cmp : Value) (hS : Srt w0 w blk (P ++ X ++ Y ++ R)) (ha : za = (P.length : Int)) (hm : zm = (P.length : Int) + X.length) (hb : zb = (P.length : Int) + X.length + Y.length) (hX : 0 < X.length) (hY : 0 < Y.length) (hN : N = P.length + X.length + Y.length + R.length) (hsz : N < 4611686018427387904) :
    Calls Try.prog 43 #[.slice (some ⟨blk, 0, none⟩) N cap, .int .i64 za, .int .i64 zm, .int .i64 zb, cmp] w fun e w' => e = .returned (.tuple #[]) ∧ Srt w0 w' blk (P ++ Y ++ X ++ R) := by
  have HS := Lib.hid hS
  clear hS
  generalize hf : P ++ Y ++ X ++ R = fin
  have HF := Lib.hid hf
  clear hf
  obtain ⟨m, rfl⟩ : ∃ m : Nat, zm = m := ⟨P.length + X.length, by omega⟩
  have HM : Hid (m = P.length + X.length) := Lib.hid (by omega)
  have HN := Lib.hid hN
  have hmN : m ≤ N := by omega
  have hd1 : (m : Int) - za = (X.length : Int) := by omega
  have hd2 : zb - (m : Int) = (Y.length : Int) := by omega
  have r1 : IntKind.i64.wrap (X.length : Int) = (X.length : Int) := by rw [IntKind.wrap_i64]; omega
  have r2 : IntKind.i64.wrap (Y.length : Int) = (Y.length : Int) := by rw [IntKind.wrap_i64]; omega
  clear hN ha hm hb
  go_enter Try.func43, Try.ntmps43
  go_wp2
  go_loopg [10, 11] N (fun g vi vj wr => ∃ (P' U V R' : List Int), vi = .int .i64 U.length ∧ vj = .int .i64 V.length ∧ 0 < U.length ∧ 0 < V.length ∧ U.length + V.length ≤ g ∧ g ≤ N ∧ Hid (m = P'.length + U.length) ∧ Hid (N = P'.length + U.length + V.length + R'.length) ∧ Hid (Srt w0 wr blk (P' ++ U ++ V ++ R')) ∧ Hid (P' ++ V ++ U ++ R' = fin))
  case atStart => exact ⟨P, X, Y, R, rfl, rfl, hX, hY, by have := HN.out; omega, Nat.le_refl _, HM, HN, HS, HF⟩
  case round =>
    clear HM HN HS HF hd1 hd2 r1 r2 hX hY
    obtain ⟨P', U, V, R', rfl, rfl, hu, hv, hg, hgN, HM, HN, HS, HF⟩ := hrel
    rcases Nat.lt_trichotomy U.length V.length with hlt | heq | hlt
    · obtain ⟨V1, V2, hV, h1, h2⟩ : ∃ V1 V2, V = V1 ++ V2 ∧ V1.length + U.length = V.length ∧ V2.length = U.length := ⟨V.take (V.length - U.length), V.drop (V.length - U.length), by simp, by simp; omega, by simp; omega⟩
      have hbeq : ((U.length : Int) != (V.length : Int)) = true := by simp; omega
      have hgt : ¬ (U.length : Int) > (V.length : Int) := by omega
      have hc := fun (w2 : World) (hs : Srt w0 w2 blk (P' ++ U ++ V ++ R')) => swapRange_z P' U V1 V2 R' w0 w2 blk cap N ((m : Int) - U.length) ((m : Int) + V.length - U.length) U.length cmp (by subst hV; simpa using hs) (by have := HM.out; omega) (by have := HM.out; omega) rfl (by omega) (by have := HN.out; omega) hsz
      have HC := Lib.hid hc
      have k1 : (0 : Int) ≤ (m : Int) - U.length := by have := HM.out; omega
      have k2 : (m : Int) + V.length < 4611686018427387904 := by have := HM.out; have := HN.out; omega
      have k3 : (m : Int) < 4611686018427387904 := by omega
      have HV := Lib.hid hV
      have H1 := Lib.hid h1
      have H2 := Lib.hid h2
      clear hc hV h1 h2
      go_wp2_with (go_at_call 44; refine (HC.out _ HS.out).mono ?_; rintro _ w2 ⟨rfl, hs2⟩; have HS2 := Lib.hid hs2; clear hs2)
      go_roundg V.length
      case measure => omega
      case rel => exact ⟨P', V2, V1, U ++ R', by congr 1; have := H2.out; omega, by congr 1; have := H1.out; omega, by have := H2.out; omega, by have := H1.out; omega, by have := H1.out; have := H2.out; omega, by have := HN.out; omega, Lib.hid (by have := HM.out; have := H2.out; omega), Lib.hid (by have := HN.out; have := H1.out; have := H2.out; simp; omega), Lib.hid (by have := HS2.out; simpa using this), Lib.hid (by have := HF.out; have hV := HV.out; subst hV; simpa using this)⟩
    · have hbeq : ((U.length : Int) != (V.length : Int)) = false := by simp; omega
      have hc := fun (w2 : World) (hs : Srt w0 w2 blk (P' ++ U ++ V ++ R')) => swapRange_z P' U [] V R' w0 w2 blk cap N ((m : Int) - V.length) (m : Int) V.length cmp (by simpa using hs) (by have := HM.out; omega) (by have := HM.out; simp; omega) (by omega) (by omega) (by have := HN.out; simp; omega) hsz
      have HC := Lib.hid hc
      have k1 : (0 : Int) ≤ (m : Int) - V.length := by have := HM.out; omega
      have k3 : (m : Int) < 4611686018427387904 := by omega
      clear hc hg
      go_wp2_with (go_at_call 44; refine (HC.out _ HS.out).mono ?_; rintro _ w2 ⟨rfl, hs2⟩; have HS2 := Lib.hid hs2; clear hs2)
      exact ⟨rfl, _, results_none (by rfl) _ _ _, rfl, by have := HS2.out; have h := HF.out; rw [← h]; simpa using this⟩
    · obtain ⟨U1, U2, hU, h1, h2⟩ : ∃ U1 U2, U = U1 ++ U2 ∧ U1.length = V.length ∧ U2.length + V.length = U.length := ⟨U.take V.length, U.drop V.length, by simp, by simp; omega, by simp; omega⟩
      have hbeq : ((U.length : Int) != (V.length : Int)) = true := by simp; omega
      have hgt : (U.length : Int) > (V.length : Int) := by omega
      have hc := fun (w2 : World) (hs : Srt w0 w2 blk (P' ++ U ++ V ++ R')) => swapRange_z P' U1 U2 V R' w0 w2 blk cap N ((m : Int) - U.length) (m : Int) V.length cmp (by subst hU; simpa using hs) (by have := HM.out; omega) (by have := HM.out; omega) (by omega) (by omega) (by have := HN.out; omega) hsz
      have HC := Lib.hid hc
      have k1 : (0 : Int) ≤ (m : Int) - U.length := by have := HM.out; omega
      have k3 : (m : Int) < 4611686018427387904 := by omega
      have HU := Lib.hid hU
      have H1 := Lib.hid h1
      have H2 := Lib.hid h2
      clear hc hU h1 h2
      go_wp2_with (go_at_call 44; refine (HC.out _ HS.out).mono ?_; rintro _ w2 ⟨rfl, hs2⟩; have HS2 := Lib.hid hs2; clear hs2)
      go_roundg U.length
      case measure => omega
      case rel => exact ⟨P' ++ V, U2, U1, R', by congr 1; have := H2.out; omega, by congr 1; have := H1.out; omega, by have := H2.out; omega, by have := H1.out; omega, by have := H1.out; have := H2.out; omega, by have := HN.out; omega, Lib.hid (by have := HM.out; have := H2.out; simp; omega), Lib.hid (by have := HN.out; have := H1.out; have := H2.out; simp; omega), Lib.hid (by have := HS2.out; simpa using this), Lib.hid (by have := HF.out; have hU := HU.out; subst hU; simpa using this)⟩
end Go.Proofs.Ytgblbhbmeflckaa
