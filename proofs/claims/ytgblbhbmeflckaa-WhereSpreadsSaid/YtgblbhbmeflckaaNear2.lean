/- where.Near: the numbers of the places, the nearest first. (Under way.) -/
import Derived.Test.YtgblbhbmeflckaaNear
import Derived.Deep.RegionHeld3
import Derived.Test.YtgblbhbmeflckaaMake
import Derived.Test.YtgblbhbmeflckaaWhere2
namespace Go.Proofs.Ytgblbhbmeflckaa
open Go.RowKit Go.Lib St Fl
set_option linter.unusedVariables false
set_option linter.unusedSimpArgs false
noncomputable def farZ (zr zi : Nat) (re im : Nat → Nat) (x : Int) : Int := IntKind.u64.wrap (distI (pl zr) (pl zi) (pl (re x.toNat)) (pl (im x.toNat)))
def nums (n : Nat) : List Int := (List.range n).map Int.ofNat
/-- What Near answers. -/
noncomputable def nearL (zr zi : Nat) (re im : Nat → Nat) (n : Nat) : List Int := isort (ltf fun a b => cmpZ (farZ zr zi re im a) (farZ zr zi re im b)) (nums n)
def fillL (n i : Nat) (f : Nat → Value) (z : Value) : List Value := (List.range n).map fun k => if k < i then f k else z
theorem fillL_zero (n : Nat) (f : Nat → Value) (z : Value) : fillL n 0 f z = List.replicate n z := by
  unfold fillL
  simp [List.map_const']
theorem fillL_get (n i : Nat) (f : Nat → Value) (z : Value) (k : Nat) (hk : k < n) : (fillL n i f z)[k]? = some (if k < i then f k else z) := by
  unfold fillL
  rw [List.getElem?_map, List.getElem?_range hk]; rfl
theorem fillL_set (n i : Nat) (f : Nat → Value) (z : Value) (hi : i < n) : (fillL n i f z).set i (f i) = fillL n (i + 1) f z := by
  apply List.ext_getElem?
  intro k
  by_cases hk : k < n
  · rw [fillL_get _ _ _ _ _ hk, List.getElem?_set]
    by_cases e : i = k
    · subst e; rw [if_pos rfl, if_pos (by unfold fillL; simpa using hi), if_pos (by omega)]
    · rw [if_neg e, fillL_get _ _ _ _ _ hk]
      by_cases h : k < i
      · rw [if_pos h, if_pos (by omega)]
      · rw [if_neg h, if_neg (by omega)]
  · rw [List.getElem?_eq_none (by unfold fillL; simp; omega), List.getElem?_eq_none (by unfold fillL; simp; omega)]
set_option maxHeartbeats 4000000 in
set_option maxRecDepth 20000 in
theorem near_c (zr zi : Nat) (p : Option Addr) (lb n cap : Nat) (re im : Nat → Nat) (w : World) (hp : 0 < n → p = some ⟨lb, 0, none⟩) (hlb : 0 < n → lb < w.heap.size) (hl : ∀ i, i < n → w.cell? ⟨lb, i, none⟩ = some (.complex .f64 (re i) (im i))) (hsz : n < 35184372088832) :
    Calls Try.prog 19 #[.complex .f64 zr zi, .slice p n cap] w fun e w' => ∃ B, e = .returned (.slice (some ⟨B, 0, none⟩) n n) ∧ Below w.heap.size w w' ∧ w.heap.size ≤ B ∧ B < w'.heap.size ∧ (∀ i x, (nearL zr zi re im n)[i]? = some x → w'.cell? ⟨B, i, none⟩ = some (.int .i64 x)) ∧ (∀ i, i < n → w'.frozen? ⟨B, i, none⟩ = false) := by
  have hm1 := fun w => run_make1 (P := Try.prog) 40 3 (.int .i64 0) 8 Try.underlying40 (by kernel_rfl) rfl n (by omega) (by omega) w
  have hm2 := fun w => run_make1 (P := Try.prog) 54 55 (.int .u64 0) 8 Try.underlying54 (by kernel_rfl) rfl n (by omega) (by omega) w
  have HP := Lib.hid hp
  have HLB := Lib.hid hlb
  have HL := Lib.hid hl
  clear hp hlb hl
  go_enter Try.func19, Try.ntmps19
  go_wp2
  have M1 := Lib.hid ((((Blk.make w n (.int .i64 0) 3).alloc (.cells (rep n (.int .u64 0)) 55))).alloc (.cells #[.slice (some ⟨w.heap.size + 1, 0, none⟩) n n] 54))
  have M2 := Lib.hid ((Blk.make (w.alloc (.cells (rep n (.int .i64 0)) 3)) n (.int .u64 0) 55).alloc (.cells #[.slice (some ⟨w.heap.size + 1, 0, none⟩) n n] 54))
  have M3 := Lib.hid (Blk.new ((w.alloc (.cells (rep n (.int .i64 0)) 3)).alloc (.cells (rep n (.int .u64 0)) 55)) [.slice (some ⟨w.heap.size + 1, 0, none⟩) n n] 54)
  have MF := Lib.hid ((((Fr.refl w fun _ => False).alloc (.cells (rep n (.int .i64 0)) 3)).alloc (.cells (rep n (.int .u64 0)) 55)).alloc (.cells #[.slice (some ⟨w.heap.size + 1, 0, none⟩) n n] 54))
  rw [World.size_alloc, World.size_alloc] at M3
  rw [World.size_alloc] at M2
  rw [← fillL_zero n (fun k => .int .i64 (k : Int))] at M1
  rw [← fillL_zero n (fun k => .int .u64 (farZ zr zi re im (k : Int)))] at M2
  have HB1 : Hid (w.heap.size + 1 + 1 + 1 ≤ ((((w.alloc (.cells (rep n (.int .i64 0)) 3)).alloc (.cells (rep n (.int .u64 0)) 55)).alloc (.cells #[.slice (some ⟨w.heap.size + 1, 0, none⟩) n n] 54))).heap.size) := Lib.hid (by rw [World.size_alloc, World.size_alloc, World.size_alloc]; exact Nat.le_refl _)
  clear hm1 hm2
  generalize ((w.alloc (.cells (rep n (.int .i64 0)) 3)).alloc (.cells (rep n (.int .u64 0)) 55)).alloc (.cells #[.slice (some ⟨w.heap.size + 1, 0, none⟩) n n] 54) = w3 at *
  go_loopg [7, 8, 17] n (fun g v7 v8 v17 wr => ∃ i : Nat, v17 = .int .i64 i ∧ i ≤ n ∧ n ≤ g + i ∧ Hid (Fr w wr fun _ => False) ∧ Hid (w.heap.size + 1 + 1 + 1 ≤ wr.heap.size) ∧ Hid (Blk wr w.heap.size (fillL n i (fun k => .int .i64 (k : Int)) (.int .i64 0)) 3) ∧ Hid (Blk wr (w.heap.size + 1) (fillL n i (fun k => .int .u64 (farZ zr zi re im (k : Int))) (.int .u64 0)) 55) ∧ Hid (Blk wr (w.heap.size + 1 + 1) [.slice (some ⟨w.heap.size + 1, 0, none⟩) n n] 54))
  case atStart => exact ⟨0, rfl, Nat.zero_le _, by omega, MF, HB1, M1, M2, M3⟩
  case round =>
    clear M1 M2 M3 MF HB1
    obtain ⟨i, rfl, hi, hg, MF, HB1, M1, M2, M3⟩ := hrel
    by_cases hlt : i < n
    · have hltz : (i : Int) < (n : Int) := by omega
      obtain rfl := HP.out (by omega)
      have hlb := HLB.out (by omega)
      have HLB2 := Lib.hid hlb
      have c1 : wr.cell? ⟨lb, i, none⟩ = some (.complex .f64 (re i) (im i)) := (MF.out.cell (p := ⟨lb, i, none⟩) hlb (fun h => h)).trans (HL.out i hlt)
      have c2 := (M1.out.cell i).trans (fillL_get n i _ _ i hlt)
      have f2 := M1.out.frozen i
      have ia : ((i : Int)).toNat = i := by omega
      have pa : (0 : Int) ≤ (i : Int) := by omega
      clear hlb
      go_wp2
      have N1 := Lib.hid (M1.out.set i (.int .i64 (i : Int)))
      rw [fillL_set n i (fun k => .int .i64 (k : Int)) _ hlt] at N1
      have N2 := Lib.hid (M2.out.other ⟨w.heap.size, i, none⟩ (.int .i64 (i : Int)) (by show w.heap.size + 1 ≠ w.heap.size; omega))
      have N3 := Lib.hid (M3.out.other ⟨w.heap.size, i, none⟩ (.int .i64 (i : Int)) (by show w.heap.size + 1 + 1 ≠ w.heap.size; omega))
      have NF := Lib.hid (MF.out.setCell ⟨w.heap.size, i, none⟩ (.int .i64 (i : Int)) (fun h => Nat.lt_irrefl _ h))
      have NB : Hid (w.heap.size + 1 + 1 + 1 ≤ (wr.setCell ⟨w.heap.size, i, none⟩ (.int .i64 (i : Int))).heap.size) := Lib.hid (by rw [World.size_setCell]; exact HB1.out)
      clear M1 M2 M3 MF HB1 c1 c2 f2
      generalize wr.setCell ⟨w.heap.size, i, none⟩ (.int .i64 (i : Int)) = w4 at *
      have c1 := N3.out.cell 0
      have c2 := (N2.out.cell i).trans (fillL_get n i _ _ i hlt)
      have f2 := N2.out.frozen i
      have d1 : w4.drew.cell? ⟨w.heap.size + 1 + 1, 0, none⟩ = _ := c1
      have d2 : w4.drew.cell? ⟨w.heap.size + 1, i, none⟩ = _ := c2
      have dd := dist_any zr zi (re i) (im i)
      have d3 : ∀ u, (w4.setCell ⟨w.heap.size + 1, i, none⟩ u).drew.cell? ⟨w.heap.size + 1 + 1, 0, none⟩ = some (.slice (some ⟨w.heap.size + 1, 0, none⟩) n n) := fun u => (World.cell?_setCell_other _ _ _ _ (by intro e; injection e with e _; omega)).trans c1
      simp only [Nat.lt_irrefl, if_false] at c2 d2
      go_region_held3 (fun w' => w'.cell? ⟨w.heap.size + 1 + 1, 0, none⟩ = some (.slice (some ⟨w.heap.size + 1, 0, none⟩) n n))
        (first | exact c1 | exact d1 | exact d3 _ | go_keep)
        (first | (go_at_call 11; refine (dd _).mono ?_; rintro _ _ ⟨rfl, rfl⟩))
      all_goals
        have Q2 := Lib.hid (N2.out.set i (.int .u64 (IntKind.u64.wrap (distI (pl zr) (pl zi) (pl (re i)) (pl (im i))))))
        rw [show (.int .u64 (IntKind.u64.wrap (distI (pl zr) (pl zi) (pl (re i)) (pl (im i)))) : Value) = (fun k : Nat => Value.int .u64 (farZ zr zi re im (k : Int))) i from rfl, fillL_set n i (fun k => .int .u64 (farZ zr zi re im (k : Int))) _ hlt] at Q2
        have Q1 := Lib.hid (N1.out.other ⟨w.heap.size + 1, i, none⟩ (.int .u64 (IntKind.u64.wrap (distI (pl zr) (pl zi) (pl (re i)) (pl (im i))))) (by show w.heap.size ≠ w.heap.size + 1; omega))
        have Q3 := Lib.hid (N3.out.other ⟨w.heap.size + 1, i, none⟩ (.int .u64 (IntKind.u64.wrap (distI (pl zr) (pl zi) (pl (re i)) (pl (im i))))) (by show w.heap.size + 1 + 1 ≠ w.heap.size + 1; omega))
        have QF := Lib.hid (NF.out.setCell ⟨w.heap.size + 1, i, none⟩ (.int .u64 (IntKind.u64.wrap (distI (pl zr) (pl zi) (pl (re i)) (pl (im i))))) (fun h => by have h : w.heap.size + 1 < w.heap.size := h; omega))
        have QB : Hid (w.heap.size + 1 + 1 + 1 ≤ (w4.setCell ⟨w.heap.size + 1, i, none⟩ (.int .u64 (IntKind.u64.wrap (distI (pl zr) (pl zi) (pl (re i)) (pl (im i)))))).heap.size) := Lib.hid (by rw [World.size_setCell]; exact NB.out)
        replace Q1 := Lib.hid (Q1.out.drewN 1)
        replace Q2 := Lib.hid (Q2.out.drewN 1)
        replace Q3 := Lib.hid (Q3.out.drewN 1)
        replace QF := Lib.hid (QF.out.drewN 1)
        clear N1 N2 N3 NF NB c1 c2 f2 d1 d2 d3 dd
        go_wp2
        go_roundg (n - (i + 1))
        case measure => omega
        case rel => exact ⟨i + 1, by first | rfl | go_num, by omega, by omega, QF, QB, Q1, Q2, Q3⟩
    · have hltz : ¬ (i : Int) < (n : Int) := by omega
      have he : i = n := by omega
      subst he
      have hlen : (nums i).length = i := by simp [nums]
      have hnum : ∀ (k : Nat) (x : Int), (nums i)[k]? = some x → x = (k : Int) ∧ k < i := by
        intro k x h
        obtain ⟨hk, e⟩ := List.getElem?_eq_some_iff.1 h
        rw [hlen] at hk
        refine ⟨?_, hk⟩
        rw [← e]; simp [nums]
      have hS : Srt wr wr w.heap.size (nums i) := ⟨Fr.refl _ _, by have := HB1.out; omega, fun k x h => by
          obtain ⟨rfl, hk⟩ := hnum k x h
          rw [M1.out.cell k, fillL_get _ _ _ _ _ hk, if_pos hk], fun k _ => M1.out.frozen k⟩
      have hcmp := near_cmp (farZ zr zi re im) i i (w.heap.size + 1 + 1) (w.heap.size + 1) w.heap.size wr (by have := HB1.out; omega) (by have := HB1.out; omega) (by omega) (by omega) (M3.out.cell 0) (fun k hk => by rw [M2.out.cell k, fillL_get _ _ _ _ _ hk, if_pos hk]) (by omega)
      have hso := sortStable_c (nums i) wr wr w.heap.size i i 30 _ _ _ hS hcmp (fun args w => by rfl) (swo_cmpZ _) (fun x hx => by
        obtain ⟨k, hk⟩ := List.mem_iff_getElem?.1 hx
        obtain ⟨rfl, h⟩ := hnum k x hk
        omega) hlen.symm (by omega)
      have K := Lib.hid hso
      have HLEN := Lib.hid hlen
      clear hS hcmp hso hlen hnum M1 M2 M3
      go_wp2_with (go_at_call 29
                   with_reducible refine Calls.mono K.out ?_
                   rintro _ w5 ⟨rfl, hs5⟩
                   have HS5 := Lib.hid hs5
                   clear hs5)
      have hfr : Fr w w5 (fun k => w.heap.size ≤ k) := (MF.out.mono fun _ _ h => h.elim).trans HS5.out.fr fun x hx e => by have e : x = w.heap.size := e; omega
      have hl5 : (isort (ltf fun a b => cmpZ (farZ zr zi re im a) (farZ zr zi re im b)) (nums i)).length = i := by rw [isort_len]; exact HLEN.out
      exact bodyPost_ret (results_tmp (by rfl) _ _ _) (by rfl) ⟨w.heap.size, by rfl, hfr.below (fun k _ h => h) (Nat.le_refl _), Nat.le_refl _, HS5.out.lt, fun k x h => HS5.out.cell k x h, fun k hk => HS5.out.fz k (by rw [hl5]; exact hk)⟩
end Go.Proofs.Ytgblbhbmeflckaa
