/- attempts: under. (Under way.) -/
import Derived.Test.YtahpbcacfdkdjaaBoard2
namespace At
def zt : Try := ⟨0, 0, 0⟩
/-- how many of its attempts are running, and the last of them -/
def under (l : List Try) : Nat × Try := l.foldl (fun r t => if t.state = 0 then (r.1 + 1, t) else r) (0, zt)
theorem under_snoc (l : List Try) (t : Try) : under (l ++ [t]) = if t.state = 0 then ((under l).1 + 1, t) else under l := by unfold under; rw [List.foldl_append]; rfl
theorem under_le (l : List Try) : (under l).1 ≤ l.length := by
  suffices h : ∀ (l : List Try) (r : Nat × Try), (l.foldl (fun r t => if t.state = 0 then (r.1 + 1, t) else r) r).1 ≤ r.1 + l.length from by
    have := h l (0, zt)
    rw [Nat.zero_add] at this
    exact this
  intro l
  induction l with
  | nil => intro r; exact Nat.le_refl _
  | cons t l ih =>
    intro r
    rw [List.foldl_cons, List.length_cons]
    split
    · have := ih (r.1 + 1, t); dsimp only at this ⊢; omega
    · have := ih r; omega
end At
namespace Go.Proofs.Ytahpbcacfdkdjaa
open Go.RowKit
set_option linter.unusedVariables false
set_option linter.unusedSimpArgs false
def tryC (t : At.Try) : List Value := [.int .i64 t.node, .int .i64 t.begun, .int .i64 t.state]
theorem triesC_get {l : List At.Try} {i : Nat} {t : At.Try} (h : l[i]? = some t) (j : Nat) (hj : j < 3) : (triesC l)[i * 3 + j]? = (tryC t)[j]? := by
  unfold triesC
  exact flatten_get (sz := 3) (fun r hr => by obtain ⟨t, _, rfl⟩ := List.mem_map.1 hr; rfl) (by rw [List.getElem?_map, h]; rfl) hj
theorem Vw.at3 {w : World} {n c : Nat} {p : Option Addr} {l : List At.Try} (h : Vw w 3 p n c (triesC l)) {i : Nat} {t : At.Try} (ht : l[i]? = some t) :
    ∃ b off, p = some ⟨b, off, none⟩ ∧ b < w.heap.size ∧ w.cell? ⟨b, off + i * 3, none⟩ = some (.int .i64 t.node) ∧ w.cell? ⟨b, off + i * 3 + 1, none⟩ = some (.int .i64 t.begun) ∧ w.cell? ⟨b, off + i * 3 + 2, none⟩ = some (.int .i64 t.state) := by
  have hl := h.2.1
  rw [triesC_len] at hl
  have hi := (List.getElem?_eq_some_iff.1 ht).1
  obtain ⟨b, off, e, hb, hc⟩ := h.2.2 (by omega)
  refine ⟨b, off, e, hb, hc (i * 3) _ (triesC_get ht 0 (by decide)), ?_, ?_⟩
  · rw [Nat.add_assoc]; exact hc (i * 3 + 1) _ (triesC_get ht 1 (by decide))
  · rw [Nat.add_assoc]; exact hc (i * 3 + 2) _ (triesC_get ht 2 (by decide))
theorem results_tmp_row {P : Program} {fn : Func} {p q : Tmp} {ty : TypeId} (h : fn.results = #[.tmp q, .cell p ty]) (tmps : Array Value) (w : World) (g : Nat) (t : TypeId) (cs : Array Value) (fr : Nat × Nat) (d : TypeDesc)
    (hp : tmps.getD p undef = .pointer (some ⟨g, 0, none⟩)) (hg : w.heap[g]? = some (.cells cs t fr))
    (hu : P.underlying ty = some d) (hd : (match d with | .struct _ | .array _ _ => true | _ => false) = true) (hi : (P.info? ty).map (·.size) = some cs.size) :
    (results fn tmps).run P w = .ok (.tuple #[tmps.getD q undef, .agg cs]) w := by
  have hp' : tmps[p]?.getD undef = .pointer (some ⟨g, 0, none⟩) := by simpa using hp
  simp [results, h, hp', asAddr, run_loadVar_row w g t ty cs fr d hg hu hd hi]
theorem att_size : (Try.prog.info? 49).map (·.size) = some 3 := by kernel_rfl
set_option maxRecDepth 20000 in
set_option maxHeartbeats 4000000 in
theorem under_c (g o : Nat) (p : Option Addr) (n c : Nat) (l : List At.Try) (w : World) (hg : g < w.heap.size) (hc : w.cell? ⟨g, o, none⟩ = some (.slice p n c)) (hv : Vw w 3 p n c (triesC l)) (hn : n ≤ 140737488355328) :
    Calls Try.prog 14 #[.pointer (some ⟨g, o, none⟩)] w fun e w' => e = .returned (.tuple #[.int .i64 ((At.under l).1 : Int), .agg #[.int .i64 (At.under l).2.node, .int .i64 (At.under l).2.begun, .int .i64 (At.under l).2.state]]) ∧ Below w.heap.size w w' := by
  have hl : l.length = n := by have := hv.2.1; rw [triesC_len] at this; omega
  have HV := Lib.hid hv
  have HL := Lib.hid hl
  clear hv hl
  go_enter Try.func14, Try.ntmps14
  have hR0 := (Blk.new w [.int .i64 0, .int .i64 0, .int .i64 0] 49).alloc (.cells #[.int .i64 0, .int .i64 0, .int .i64 0] 49)
  have hL0 := Blk.new (w.alloc (.cells #[.int .i64 0, .int .i64 0, .int .i64 0] 49)) [.int .i64 0, .int .i64 0, .int .i64 0] 49
  rw [World.size_alloc] at hL0
  have hb0 := ((Below.refl w.heap.size w).alloc (Nat.le_refl _) (.cells #[.int .i64 0, .int .i64 0, .int .i64 0] 49)).alloc (by simp) (.cells #[.int .i64 0, .int .i64 0, .int .i64 0] 49)
  have HR0 := Lib.hid hR0
  have HL0 := Lib.hid hL0
  have HB0 := Lib.hid hb0
  clear hR0 hL0 hb0
  go_wp2
  generalize (w.alloc (.cells #[.int .i64 0, .int .i64 0, .int .i64 0] 49)).alloc (.cells #[.int .i64 0, .int .i64 0, .int .i64 0] 49) = w2 at HR0 HL0 HB0 ⊢
  go_loopg [4, 7, 14] n (fun gg v4 v7 v14 wr => ∃ i : Nat, v14 = .int .i64 (i : Int) ∧ i + gg = n ∧ v4 = .int .i64 ((At.under (l.take i)).1 : Int) ∧ Hid (Blk wr w.heap.size [.int .i64 0, .int .i64 0, .int .i64 0] 49) ∧ Hid (Blk wr (w.heap.size + 1) (tryC (At.under (l.take i)).2) 49) ∧ Hid (Below w.heap.size w wr))
  case atStart => exact ⟨0, rfl, by omega, rfl, HR0, HL0, HB0⟩
  case round =>
    clear HR0 HL0 HB0
    obtain ⟨i, rfl, hgg, rfl, HR, HLT, HB⟩ := hrel
    by_cases hlt : i < n
    · have t1 : decide ((i : Int) < (n : Int)) = true := decide_eq_true (by omega)
      have t1n : decide (i < n) = true := decide_eq_true hlt
      obtain ⟨t, ht⟩ : ∃ t, l[i]? = some t := ⟨l[i]'(by rw [HL.out]; exact hlt), List.getElem?_eq_getElem _⟩
      obtain ⟨b1, o1, rfl, _, c0, c1, c2⟩ := (HV.out.below HB.out (Nat.le_refl _)).at3 ht
      have hsn := At.under_snoc (l.take i) t
      rw [show l.take i ++ [t] = l.take (i + 1) by rw [List.take_add_one, ht]; rfl] at hsn
      have hle : (At.under (l.take i)).1 ≤ i := Nat.le_trans (At.under_le _) (by rw [List.length_take]; omega)
      have HSN := Lib.hid hsn
      generalize At.under (l.take i) = kq at HSN HLT hle ⊢
      obtain ⟨k, q⟩ := kq
      dsimp only at *
      have z : ∀ o j, (wr.alloc o).cell? ⟨w.heap.size + 1, j, none⟩ = [Value.int .i64 q.node, .int .i64 q.begun, .int .i64 q.state][j]? := fun o j => (HLT.out.alloc o).cell j
      have f : ∀ o j, (wr.alloc o).frozen? ⟨w.heap.size + 1, j, none⟩ = false := fun o j => (HLT.out.alloc o).frozen j
      have hne : w.heap.size + 1 ≠ wr.heap.size := by have := HLT.out.lt; omega
      have ia : ((i : Int)).toNat = i := by omega
      have pa : (0 : Int) ≤ (i : Int) := by omega
      have lz : (i : Int) < (n : Int) := by omega
      have HG := Lib.hid hgg
      clear ht hsn hgg hlt
      by_cases hs : t.state = 0
      · have t2 : (t.state == 0) = true := by rw [hs]; rfl
        have HK : Hid (At.under (l.take (i + 1)) = (k + 1, t)) := Lib.hid (by rw [HSN.out, if_pos hs])
        clear hs
        go_wp2
        go_roundg (n - (i + 1))
        case measure => have := HG.out; omega
        case rel =>
          refine ⟨i + 1, by first | rfl | go_num, by have := HG.out; omega, ?_, ?_, ?_, ?_⟩
          · rw [HK.out]; first | rfl | go_num
          · exact Lib.hid ((((HR.out.alloc _).other ⟨w.heap.size + 1, 0, none⟩ _ (by show w.heap.size ≠ w.heap.size + 1; omega)).other ⟨w.heap.size + 1, 1, none⟩ _ (by show w.heap.size ≠ w.heap.size + 1; omega)).other ⟨w.heap.size + 1, 2, none⟩ _ (by show w.heap.size ≠ w.heap.size + 1; omega))
          · rw [HK.out]; exact Lib.hid ((((HLT.out.alloc _).set 0 (.int .i64 t.node)).set 1 (.int .i64 t.begun)).set 2 (.int .i64 t.state))
          · exact Lib.hid ((((HB.out.alloc HB.out.size _).setCell (p := ⟨w.heap.size + 1, 0, none⟩) (by show w.heap.size ≤ w.heap.size + 1; omega) _).setCell (p := ⟨w.heap.size + 1, 1, none⟩) (by show w.heap.size ≤ w.heap.size + 1; omega) _).setCell (p := ⟨w.heap.size + 1, 2, none⟩) (by show w.heap.size ≤ w.heap.size + 1; omega) _)
      · have t2 : (t.state == 0) = false := beq_eq_false_iff_ne.2 hs
        have HK : Hid (At.under (l.take (i + 1)) = (k, q)) := Lib.hid (by rw [HSN.out, if_neg hs])
        clear hs
        go_wp2
        go_roundg (n - (i + 1))
        case measure => have := HG.out; omega
        case rel =>
          refine ⟨i + 1, by first | rfl | go_num, by have := HG.out; omega, ?_, Lib.hid (HR.out.alloc _), ?_, Lib.hid (HB.out.alloc HB.out.size _)⟩
          · rw [HK.out]
          · rw [HK.out]; exact Lib.hid (HLT.out.alloc _)
    · obtain rfl : i = n := by omega
      have t1 : decide ((i : Int) < (i : Int)) = false := decide_eq_false (by omega)
      have t1n : decide (i < i) = false := decide_eq_false (by omega)
      rw [List.take_of_length_le (by rw [HL.out]; omega)] at HLT ⊢
      obtain ⟨⟨k, q⟩, hu⟩ : ∃ r, At.under l = r := ⟨_, rfl⟩
      have HU := Lib.hid hu
      rw [hu] at HLT ⊢
      clear hu
      dsimp only at *
      have z : ∀ j, wr.cell? ⟨w.heap.size + 1, j, none⟩ = [Value.int .i64 q.node, .int .i64 q.begun, .int .i64 q.state][j]? := fun j => HLT.out.cell j
      clear hlt hgg
      go_upto_region 9 with (fail)
      have z3 : ∀ j, wr.cell? ⟨w.heap.size, j, none⟩ = [Value.int .i64 0, .int .i64 0, .int .i64 0][j]? := fun j => HR.out.cell j
      have f3 : ∀ j, wr.frozen? ⟨w.heap.size, j, none⟩ = false := fun j => HR.out.frozen j
      go_region
      all_goals
        go_wp2
        refine bodyPost_ret (results_tmp_row rfl _ _ w.heap.size 49 _ (0, 0) _ rfl ((((HR.out.set 0 (.int .i64 q.node)).set 1 (.int .i64 q.begun)).set 2 (.int .i64 q.state)).drewN 1) Try.underlying49 rfl att_size) rfl ⟨by rw [HU.out]; rfl, ?_⟩
        exact below_drewN (((HB.out.setCell (p := ⟨w.heap.size, 0, none⟩) (Nat.le_refl _) _).setCell (p := ⟨w.heap.size, 1, none⟩) (Nat.le_refl _) _).setCell (p := ⟨w.heap.size, 2, none⟩) (Nat.le_refl _) _) 1
end Go.Proofs.Ytahpbcacfdkdjaa
