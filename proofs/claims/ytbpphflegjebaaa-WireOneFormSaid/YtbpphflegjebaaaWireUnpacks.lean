/- WireUnpacks: any bytes taken apart in any order of kinds: each answer, and the end's error behind each. -/
import Derived.Test.YtbpphflegjebaaaUnpRef
import Derived.Test.YtbpphflegjebaaaWirePacks
import Derived.Test.YtbpphflegjebaaaView
import Derived.Test.YtbpphflegjebaaaMake
import Derived.Lib.QuietBelow
namespace Go.Proofs.Ytbpphflegjebaaa
open Go.RowKit Go.Sort
set_option linter.unusedVariables false
set_option linter.unusedSimpArgs false
theorem opens_kinds (w : World) : Opens Try.prog w 40 RInts (bulkL fun x => vbulk [.int .i64 x]) := opens_ints (e := 3) Try.underlying40 (by kernel_rfl) (by kernel_rfl) (by kernel_rfl) w
theorem take_size (s : St) (k : Nat) : (s.take k).rest.size ≤ s.rest.size := by unfold St.take; simp
theorem int_size (s : St) : s.int.1.rest.size ≤ s.rest.size := by
  unfold St.int
  split
  · exact Nat.le_refl _
  · split
    · exact Nat.le_refl _
    · exact take_size s _
theorem text_size (s : St) : s.text.1.rest.size ≤ s.rest.size := by
  have h := int_size s
  unfold St.text textOf
  repeat' split
  all_goals first | exact h | exact Nat.le_trans (take_size _ _) h
theorem bool_size (s : St) : s.bool.1.rest.size ≤ s.rest.size := by
  unfold St.bool
  split
  · exact Nat.le_refl _
  · split
    · exact Nat.le_refl _
    · split
      · exact Nat.le_refl _
      · exact take_size s _
theorem uend_reg (b : Nat) (s : St) (w : World) (h : UnpAt w b s) (p : Nat) (os : Array Obj) :
    Calls Try.prog 24 #[.pointer (some ⟨b, 0, none⟩)] (grow (redrawn w p) os) fun e w'' => e = .returned (.int .i64 (s.fin : Int)) ∧ ∃ q : Regrown, w'' = grow (redrawn w q.d) q.os :=
  Calls.regrown_of ((uend_any b s _ (Blk.below h (below_regrown w p os) h.lt)).mono fun e w' ⟨h1, h2⟩ => ⟨h1, h2 ▸ Below.refl _ _⟩)
theorem rend_reg (s : St) (w : World) (p : Nat) (os : Array Obj) :
    Calls Try.prog 25 #[.agg #[.string s.rest, .int .i64 (s.err : Int)]] (grow (redrawn w p) os) fun e w'' => e = .returned (.int .i64 (s.fin : Int)) ∧ ∃ q : Regrown, w'' = grow (redrawn w q.d) q.os :=
  Calls.regrown_of (rend_any s _)
theorem reg_of {f : FuncId} {args : Array Value} {v : Value} (h : ∀ w, Calls Try.prog f args w fun e w' => e = .returned v ∧ w = w') (w : World) (p : Nat) (os : Array Obj) :
    Calls Try.prog f args (grow (redrawn w p) os) fun e w'' => e = .returned v ∧ ∃ q : Regrown, w'' = grow (redrawn w q.d) q.os :=
  Calls.regrown_of ((h _).mono fun e w' ⟨h1, h2⟩ => ⟨h1, h2 ▸ Below.refl _ _⟩)
set_option maxRecDepth 20000 in
set_option maxHeartbeats 4000000 in
theorem wireUnpacks_walk (W : World) (s : ByteArray) (hs : s.size ≤ 140737488351232) (A : Option Addr) (n c : Nat) (ks : List Int) (hx : RInts W [.slice A n c] ks) :
    Calls Try.prog 5 #[.string s, .slice A n c] W fun e w' => e = .returned (.bool true) ∧ Below W.heap.size W w' := by
  obtain ⟨hln, hcb, hwf, hV⟩ := vw_rsl1 hx
  have hn : n ≤ 140737488351232 := by have := hV.1; omega
  have HWF := Lib.hid hwf
  have HV := Lib.hid hV
  have HLN := Lib.hid hln
  have HSZ := Lib.hid hs
  clear hwf hV hln hx hcb hs
  go_enter Try.func5, Try.ntmps5
  go_wp2_with fail
  refine (wireSpeaks_any W).mono ?_
  rintro e w0 ⟨rfl, hB0⟩
  have B0 := Lib.hid hB0
  have V0 := Lib.hid (HV.out.below hB0 (Nat.le_refl _))
  clear hB0
  go_wp2_with fail
  refine (uopen_any s w0).mono ?_
  rintro e w1 ⟨rfl, hU, hB1, hsz1⟩
  have U1 := Lib.hid hU
  have B1 := Lib.hid (below_then B0.out B0.out.size hB1)
  have V1 := Lib.hid (V0.out.below hB1 (Nat.le_refl _))
  have Z1 := Lib.hid hsz1
  have ZB0 := Lib.hid B0.out.size
  clear hU hB1 hsz1
  go_wp2
  have U2 := Lib.hid (Blk.alloc U1.out (.cells #[.string s, .int .i64 0] 44) : UnpAt _ w0.heap.size ⟨s, 0⟩)
  have R2 := Lib.hid (Blk.new w1 [.string s, .int .i64 0] 44 : RefAt _ w1.heap.size ⟨s, 0⟩)
  have B2 := Lib.hid (B1.out.alloc (by have := Z1.out; have := ZB0.out; omega) (.cells #[.string s, .int .i64 0] 44))
  have V2 := Lib.hid (V1.out.alloc (.cells #[.string s, .int .i64 0] 44))
  have S2 : Hid ((w1.alloc (.cells #[.string s, .int .i64 0] 44)).heap.size = w1.heap.size + 1) := Lib.hid (by simp)
  clear U1 B1 V1
  rw [show ∀ a b : Value, ([a, b] : List Value).toArray = #[a, b] from fun _ _ => rfl] at R2
  generalize w1.alloc (.cells #[.string s, .int .i64 0] 44) = w2 at U2 R2 B2 V2 S2 ⊢
  have ZZ := Z1
  go_loopg [7] n (fun g v7 wr => ∃ (i : Nat) (st : St), v7 = .int .i64 i ∧ i ≤ n ∧ n ≤ g + i ∧ Hid (st.rest.size ≤ 140737488351232) ∧ Hid (UnpAt wr w0.heap.size st) ∧ Hid (RefAt wr w1.heap.size st) ∧ Hid (Fr w2 wr (fun k => k = w0.heap.size ∨ k = w1.heap.size)))
  case atStart => exact ⟨0, ⟨s, 0⟩, rfl, Nat.zero_le _, by omega, HSZ, U2, R2, Lib.hid (Fr.refl _ _)⟩
  case round =>
    clear U2 R2
    obtain ⟨i, st, rfl, hi, hg, HST, HU, HR, HF⟩ := hrel
    have ia : ((i : Int)).toNat = i := by omega
    have pa : (0 : Int) ≤ (i : Int) := by omega
    by_cases hlt : i < n
    · have hltz : (i : Int) < (n : Int) := by omega
      obtain ⟨q, hq⟩ : ∃ q, ks[i]? = some q := ⟨ks[i]'(by rw [HLN.out]; exact hlt), List.getElem?_eq_getElem _⟩
      have hw := HWF.out q (List.mem_of_getElem? hq)
      have gq : (ks.map (Value.int .i64))[i]? = some (.int .i64 q) := by rw [List.getElem?_map, hq]; rfl
      obtain ⟨b, o, rfl, hb, kq⟩ := HV.out.at1 gq
      have kw : wr.cell? ⟨b, o + i, none⟩ = some (.int .i64 q) := (HF.out.cell (p := ⟨b, o + i, none⟩) (Nat.lt_of_lt_of_le hb B2.out.size) (by have := ZZ.out; have := ZB0.out; show ¬ (b = w0.heap.size ∨ b = w1.heap.size); omega)).trans ((B2.out.cell (p := ⟨b, o + i, none⟩) hb).trans kq)
      have HWQ := Lib.hid hw
      clear hq gq kq hb hw
      go_wp2_with fail
      refine (kind_any q HWQ.out.lo HWQ.out.hi wr).mono ?_
      rintro e w' ⟨rfl, rfl⟩
      rcases (show q % 3 = 0 ∨ q % 3 = 1 ∨ q % 3 = 2 by omega) with hk | hk | hk
      · have k0 : ((q % 3).toNat) = 0 := by omega
        rw [k0]
        have HK0 := Lib.hid k0
        have HQ := Lib.hid hk
        clear k0 hk
        go_wp2_with fail
        refine (uint_any (w0.heap.size) st wr HU.out).mono ?_
        rintro e w3 ⟨rfl, hU3, hF3⟩
        have U3 := Lib.hid hU3
        have R3 := Lib.hid (HR.out.fr hF3 (by have := ZZ.out; omega) : RefAt w3 w1.heap.size st)
        have F3 := Lib.hid (HF.out.trans hF3 (fun _ _ h => Or.inl h))
        clear hU3 hF3
        go_wp2_with fail
        refine (rint_any (w1.heap.size) st w3 R3.out).mono ?_
        rintro e w4 ⟨rfl, hR4, hF4⟩
        have U4 := Lib.hid (U3.out.fr hF4 (by have := ZZ.out; omega) : UnpAt w4 w0.heap.size st.int.1)
        have R4 := Lib.hid hR4
        have F4 := Lib.hid (F3.out.trans hF4 (fun _ _ h => Or.inr h))
        have HSZ2 := Lib.hid (Nat.le_trans (int_size st) HST.out)
        clear hR4 hF4 U3 R3 F3 HU HR HF
        have N1 := fun p os => Lib.hid (uend_reg w0.heap.size _ w4 U4.out p os)
        have N2 := fun p os => Lib.hid (rend_reg st.int.1 w4 p os)
        have d0 := cell_regrown (Blk.cell R4.out 0 : w4.cell? ⟨w1.heap.size, 0, none⟩ = some (.string st.int.1.rest))
        have d1 := cell_regrown (Blk.cell R4.out 1 : w4.cell? ⟨w1.heap.size, 1, none⟩ = some (.int .i64 (st.int.1.err : Int)))
        generalize st.int.2 = ans
        generalize st.int.1 = st' at U4 R4 N1 N2 d0 d1 HSZ2
        go_wp2_with fail
        refine wp_region_quiet_below (by kernel_rfl) (by kernel_rfl) ?_
        repeat (quiet_step (first | with_reducible exact (N1 _ _).out | with_reducible exact (N2 _ _).out))
        refine wpQuiet_nil ?_
        intro _ hw'
        obtain ⟨⟨dq, osq⟩, hw''⟩ := hw'
        subst hw''
        have U5 := Lib.hid (Blk.below U4.out (below_regrown w4 dq osq) U4.out.lt : UnpAt _ _ st')
        have R5 := Lib.hid (Blk.below R4.out (below_regrown w4 dq osq) R4.out.lt : RefAt _ _ st')
        have F5 := Lib.hid (F4.out.trans (Fr.of_below (S := fun _ => False) (below_regrown w4 dq osq) (fun k h1 h2 => by omega)) (fun _ _ h => h.elim))
        clear U4 R4 F4 N1 N2 d0 d1
        generalize grow (redrawn w4 dq) osq = w5 at U5 R5 F5 ⊢
        go_wp2
        go_roundg (n - (i + 1))
        case measure => omega
        case rel => exact ⟨i + 1, st', by first | rfl | go_num, by omega, by omega, HSZ2, U5, R5, F5⟩
      · have k0 : ((q % 3).toNat) = 1 := by omega
        rw [k0]
        have HK0 := Lib.hid k0
        have HQ := Lib.hid hk
        clear k0 hk
        go_wp2_with fail
        refine (utext_any (w0.heap.size) st wr HU.out HST.out).mono ?_
        rintro e w3 ⟨rfl, hU3, hF3⟩
        have U3 := Lib.hid hU3
        have R3 := Lib.hid (HR.out.fr hF3 (by have := ZZ.out; omega) : RefAt w3 w1.heap.size st)
        have F3 := Lib.hid (HF.out.trans hF3 (fun _ _ h => Or.inl h))
        clear hU3 hF3
        go_wp2_with fail
        refine (rtext_any (w1.heap.size) st w3 R3.out HST.out).mono ?_
        rintro e w4 ⟨rfl, hR4, hF4⟩
        have U4 := Lib.hid (U3.out.fr hF4 (by have := ZZ.out; omega) : UnpAt w4 w0.heap.size st.text.1)
        have R4 := Lib.hid hR4
        have F4 := Lib.hid (F3.out.trans hF4 (fun _ _ h => Or.inr h))
        have HSZ2 := Lib.hid (Nat.le_trans (text_size st) HST.out)
        clear hR4 hF4 U3 R3 F3 HU HR HF
        have N1 := fun p os => Lib.hid (uend_reg w0.heap.size _ w4 U4.out p os)
        have N2 := fun p os => Lib.hid (rend_reg st.text.1 w4 p os)
        have d0 := cell_regrown (Blk.cell R4.out 0 : w4.cell? ⟨w1.heap.size, 0, none⟩ = some (.string st.text.1.rest))
        have d1 := cell_regrown (Blk.cell R4.out 1 : w4.cell? ⟨w1.heap.size, 1, none⟩ = some (.int .i64 (st.text.1.err : Int)))
        generalize st.text.2 = ans
        generalize st.text.1 = st' at U4 R4 N1 N2 d0 d1 HSZ2
        go_wp2_with fail
        refine wp_region_quiet_below (by kernel_rfl) (by kernel_rfl) ?_
        repeat (quiet_step (first | with_reducible exact (N1 _ _).out | with_reducible exact (N2 _ _).out))
        refine wpQuiet_nil ?_
        intro _ hw'
        obtain ⟨⟨dq, osq⟩, hw''⟩ := hw'
        subst hw''
        have U5 := Lib.hid (Blk.below U4.out (below_regrown w4 dq osq) U4.out.lt : UnpAt _ _ st')
        have R5 := Lib.hid (Blk.below R4.out (below_regrown w4 dq osq) R4.out.lt : RefAt _ _ st')
        have F5 := Lib.hid (F4.out.trans (Fr.of_below (S := fun _ => False) (below_regrown w4 dq osq) (fun k h1 h2 => by omega)) (fun _ _ h => h.elim))
        clear U4 R4 F4 N1 N2 d0 d1
        generalize grow (redrawn w4 dq) osq = w5 at U5 R5 F5 ⊢
        go_wp2
        go_roundg (n - (i + 1))
        case measure => omega
        case rel => exact ⟨i + 1, st', by first | rfl | go_num, by omega, by omega, HSZ2, U5, R5, F5⟩
      · have k0 : ((q % 3).toNat) = 2 := by omega
        rw [k0]
        have HK0 := Lib.hid k0
        have HQ := Lib.hid hk
        clear k0 hk
        go_wp2_with fail
        refine (ubool_any (w0.heap.size) st wr HU.out).mono ?_
        rintro e w3 ⟨rfl, hU3, hF3⟩
        have U3 := Lib.hid hU3
        have R3 := Lib.hid (HR.out.fr hF3 (by have := ZZ.out; omega) : RefAt w3 w1.heap.size st)
        have F3 := Lib.hid (HF.out.trans hF3 (fun _ _ h => Or.inl h))
        clear hU3 hF3
        go_wp2_with fail
        refine (rbool_any (w1.heap.size) st w3 R3.out).mono ?_
        rintro e w4 ⟨rfl, hR4, hF4⟩
        have U4 := Lib.hid (U3.out.fr hF4 (by have := ZZ.out; omega) : UnpAt w4 w0.heap.size st.bool.1)
        have R4 := Lib.hid hR4
        have F4 := Lib.hid (F3.out.trans hF4 (fun _ _ h => Or.inr h))
        have HSZ2 := Lib.hid (Nat.le_trans (bool_size st) HST.out)
        clear hR4 hF4 U3 R3 F3 HU HR HF
        have N1 := fun p os => Lib.hid (uend_reg w0.heap.size _ w4 U4.out p os)
        have N2 := fun p os => Lib.hid (rend_reg st.bool.1 w4 p os)
        have d0 := cell_regrown (Blk.cell R4.out 0 : w4.cell? ⟨w1.heap.size, 0, none⟩ = some (.string st.bool.1.rest))
        have d1 := cell_regrown (Blk.cell R4.out 1 : w4.cell? ⟨w1.heap.size, 1, none⟩ = some (.int .i64 (st.bool.1.err : Int)))
        generalize st.bool.2 = ans
        generalize st.bool.1 = st' at U4 R4 N1 N2 d0 d1 HSZ2
        go_wp2_with fail
        refine wp_region_quiet_below (by kernel_rfl) (by kernel_rfl) ?_
        repeat (quiet_step (first | with_reducible exact (N1 _ _).out | with_reducible exact (N2 _ _).out))
        refine wpQuiet_nil ?_
        intro _ hw'
        obtain ⟨⟨dq, osq⟩, hw''⟩ := hw'
        subst hw''
        have U5 := Lib.hid (Blk.below U4.out (below_regrown w4 dq osq) U4.out.lt : UnpAt _ _ st')
        have R5 := Lib.hid (Blk.below R4.out (below_regrown w4 dq osq) R4.out.lt : RefAt _ _ st')
        have F5 := Lib.hid (F4.out.trans (Fr.of_below (S := fun _ => False) (below_regrown w4 dq osq) (fun k h1 h2 => by omega)) (fun _ _ h => h.elim))
        clear U4 R4 F4 N1 N2 d0 d1
        generalize grow (redrawn w4 dq) osq = w5 at U5 R5 F5 ⊢
        go_wp2
        go_roundg (n - (i + 1))
        case measure => omega
        case rel => exact ⟨i + 1, st', by first | rfl | go_num, by omega, by omega, HSZ2, U5, R5, F5⟩
    · have hltz : ¬ (i : Int) < (n : Int) := by omega
      have N1 := fun p os => Lib.hid (uend_reg w0.heap.size _ wr HU.out p os)
      have N2 := fun p os => Lib.hid (rend_reg st wr p os)
      have M1 := fun p os => Lib.hid (reg_of uend_nil wr p os)
      have M2 := fun p os => Lib.hid (reg_of uint_nil wr p os)
      have M3 := fun p os => Lib.hid (reg_of utext_nil wr p os)
      have M4 := fun p os => Lib.hid (reg_of ubool_nil wr p os)
      have d0 := cell_regrown (Blk.cell HR.out 0 : wr.cell? ⟨w1.heap.size, 0, none⟩ = some (.string st.rest))
      have d1 := cell_regrown (Blk.cell HR.out 1 : wr.cell? ⟨w1.heap.size, 1, none⟩ = some (.int .i64 (st.err : Int)))
      go_wp2_with fail
      refine wp_region_quiet_below (by kernel_rfl) (by kernel_rfl) ?_
      repeat (quiet_step (first | with_reducible exact (N1 _ _).out | with_reducible exact (N2 _ _).out | with_reducible exact (M1 _ _).out | with_reducible exact (M2 _ _).out | with_reducible exact (M3 _ _).out | with_reducible exact (M4 _ _).out))
      refine wpQuiet_nil ?_
      intro _ hw'
      obtain ⟨⟨dq, osq⟩, hw''⟩ := hw'
      subst hw''
      have HBW : Hid (Below W.heap.size W wr) := Lib.hid (B2.out.trans (HF.out.below (B := W.heap.size) (fun k _ h => by have := ZZ.out; have := ZB0.out; omega) (by have := B2.out.size; omega)))
      have HB5 := Lib.hid (below_then HBW.out HBW.out.size (below_regrown wr dq osq))
      generalize grow (redrawn wr dq) osq = w5 at HB5 ⊢
      go_wp2
      go_ret
      exact ⟨rfl, HB5.out⟩
end Go.Proofs.Ytbpphflegjebaaa
