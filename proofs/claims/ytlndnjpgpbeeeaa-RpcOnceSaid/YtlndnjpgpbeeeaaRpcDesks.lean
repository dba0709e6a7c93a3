/- The walk of RpcDesks. -/
import Derived.Test.YtlndnjpgpbeeeaaRpcRefD
import Derived.Deep.RegionHeld3
namespace Go.Proofs.Ytlndnjpgpbeeeaa
open Go.RowKit Go.Maps
set_option linter.unusedVariables false
set_option linter.unusedSimpArgs false
/-- A block of cells of another type than all that changes stays. -/
theorem Blk.keep {w w' : World} {g : Nat} {cs : List Value} {t : TypeId} {S : Nat → Prop} (h : Blk w g cs t) (hf : Fr w w' S) (hS : ∀ k, S k → ∀ cs', w.heap[k]? ≠ some (.cells cs' t (0, 0))) : Blk w' g cs t :=
  h.fr hf fun e => hS g e _ h
theorem DeskAt.off {w : World} {b n : Nat} {mv : Value} {f : View} (h : DeskAt w b mv n f) {t : TypeId} (ht : t ≠ 26) : ∀ k, (k = b ∨ mv = .map (some k)) → ∀ cs', w.heap[k]? ≠ some (.cells cs' t (0, 0)) := by
  rintro k (rfl | e) cs' hk
  · have := h.blk.symm.trans hk
    simp at this; exact ht this.2.symm
  · rcases h.map with ⟨e', _⟩ | ⟨j, e', _, ⟨D, ⟨es, cl, hb, _⟩, _⟩⟩
    · rw [e] at e'; cases e'
    · rw [e] at e'; cases e'
      rw [hk] at hb; cases hb
theorem DeskAt.offSelf {w : World} {b n : Nat} {mv : Value} {f : View} (h : DeskAt w b mv n f) {o : Nat} (ho : o ≠ b) {cs : List Value} {t : TypeId} (hB : Blk w o cs t) : ¬ (o = b ∨ mv = .map (some o)) := by
  rintro (e | e)
  · exact ho e
  · rcases h.map with ⟨e', _⟩ | ⟨j, e', _, ⟨D, ⟨es, cl, hb, _⟩, _⟩⟩
    · rw [e] at e'; cases e'
    · rw [e] at e'; cases e'
      rw [hB] at hb; cases hb
theorem own_heap {w : World} {base : Nat} {e : TypeId} {size n : Nat} {v : Value} {xs : List Value} (h : w.ownsRow base e size v n xs) {k : Nat} (hk : v.ownBlock = some k) : ∃ cur, w.heap[k]? = some (.cells cur e (0, 0)) := by
  rcases h.2 with ⟨rfl, _⟩ | ⟨g, cap, cur, rfl, _, hg, _⟩
  · cases hk
  · cases hk; exact ⟨cur, hg⟩
theorem RefDeskAt.off {w : World} {b : Nat} {v : Value} {L : List (Int × Last)} (h : RefDeskAt w b v L) {t : TypeId} (ht : t ≠ 38) (ht2 : t ≠ 71) : ∀ k, FieldS b v k → ∀ cs', w.heap[k]? ≠ some (.cells cs' t (0, 0)) := by
  rintro k (rfl | e) cs' hk
  · have := h.blk.symm.trans hk
    simp at this; exact ht this.2.symm
  · obtain ⟨cur, hg⟩ := own_heap h.recs.own e
    rw [hg] at hk; simp at hk; exact ht2 hk.2.symm
theorem RefDeskAt.offMap {w : World} {b : Nat} {v : Value} {L : List (Int × Last)} (h : RefDeskAt w b v L) {k : Nat} {es : Array MapEntry} {cl : Nat} (hk : w.heap[k]? = some (.map es cl)) : ¬ FieldS b v k := by
  rintro (rfl | e)
  · rw [h.blk] at hk; cases hk
  · obtain ⟨cur, hg⟩ := own_heap h.recs.own e
    rw [hg] at hk; cases hk
/-- a call on the desk leaves the reference's as it was -/
theorem RefDeskAt.keep {w w' : World} {b br n : Nat} {mv mv' v : Value} {f : View} {L : List (Int × Last)} (h : RefDeskAt w br v L) (hD : DeskAt w b mv n f) (hR : DeskR w b mv w' mv') : RefDeskAt w' br v L :=
  ⟨h.blk.keep hR.fr (hD.off (by decide)), h.recs.fr hR.fr (fun k hk e => by obtain ⟨cur, hg⟩ := own_heap h.recs.own hk; exact hD.off (t := 71) (by decide) k e cur hg), h.ne⟩
/-- and the other way round -/
theorem DeskAt.keep {w w' : World} {b br n : Nat} {mv v v' : Value} {f : View} {L : List (Int × Last)} (h : DeskAt w b mv n f) (hD : RefDeskAt w br v L) (hR : FieldR w br v w' v') : DeskAt w' b mv n f :=
  ⟨h.blk.keep hR.fr (hD.off (by decide) (by decide)), h.map.imp id fun ⟨k, e, hne, hM⟩ => ⟨k, e, hne, hM.fr hR.fr (by obtain ⟨D, ⟨es, cl, hb, _⟩, _⟩ := hM; exact hD.offMap hb)⟩⟩
/-- What the two calls may have changed of the world ahead of the loop. -/
structure Both (w0 : World) (bd br : Nat) (wr : World) (mv v : Value) : Prop where
  mv0 : ∀ k, mv = .map (some k) → w0.heap.size ≤ k
  v0 : ∀ k, v.ownBlock = some k → w0.heap.size ≤ k
  fr : Fr w0 wr (fun k => k = bd ∨ k = br)
theorem Both.desk {w0 wr w' : World} {bd br : Nat} {mv mv' v : Value} (h : Both w0 bd br wr mv v) (hR : DeskR wr bd mv w' mv') : Both w0 bd br w' mv' v := by
  refine ⟨fun k hk => ?_, h.v0, h.fr.trans hR.fr fun x hx e => ?_⟩
  · rcases hR.lies with e | ⟨j, e, hj⟩
    · exact h.mv0 k (e ▸ hk)
    · rw [e] at hk; cases hk; exact Nat.le_trans h.fr.size hj
  · rcases e with rfl | e
    · exact .inl rfl
    · have := h.mv0 x e; omega
theorem Both.ref {w0 wr w' : World} {bd br : Nat} {mv v v' : Value} (h : Both w0 bd br wr mv v) (hR : FieldR wr br v w' v') : Both w0 bd br w' mv v' := by
  refine ⟨h.mv0, fun k hk => ?_, h.fr.trans hR.fr fun x hx e => ?_⟩
  · rcases hR.lies with e | ⟨j, e, hj⟩
    · exact h.v0 k (e ▸ hk)
    · rw [e] at hk; cases hk; exact Nat.le_trans h.fr.size hj
  · rcases e with rfl | e
    · exact .inr rfl
    · have := h.v0 x e; omega
theorem Both.alloc {w0 wr : World} {bd br : Nat} {mv v : Value} (h : Both w0 bd br wr mv v) (o : Obj) : Both w0 bd br (wr.alloc o) mv v := ⟨h.mv0, h.v0, h.fr.alloc o⟩
theorem Both.drewN {w0 wr : World} {bd br : Nat} {mv v : Value} (h : Both w0 bd br wr mv v) (n : Nat) : Both w0 bd br (wr.drewN n) mv v := ⟨h.mv0, h.v0, h.fr.drewN n⟩
set_option maxRecDepth 20000 in
set_option maxHeartbeats 1000000 in
theorem rpcDesks_walk (W : World) (sa : Option Addr) (sl sc : Nat) (xs : List Act) (hR : RActs W [.slice sa sl sc] xs) :
    Calls Try.prog 4 #[.slice sa sl sc] W fun e w' => e = .returned (.bool true) ∧ Below W.heap.size W w' := by
  obtain ⟨hn, hnc, hcb, hcm, hel⟩ := rsl_get hR
  have HEL := Lib.hid hel
  have hsl : sl * 40 ≤ 140737488351232 := by omega
  clear hR hel hcb hcm
  have hbi : ∀ x : Int, (x != x) = false := fun x => by simp
  go_enter Try.func4, Try.ntmps4
  go_wp2_with fail
  refine (rpcSpeaks_any W).mono ?_
  rintro e w1 ⟨rfl, hb⟩
  have HB := Lib.hid hb
  clear hb
  go_upto_region 6 with (fail)
  have HD0 := Lib.hid (((DeskAt.new w1).alloc (.cells #[.map none] 26)).alloc (.cells #[.slice none 0 0] 38))
  have HO0 := Lib.hid ((Blk.new (w1.alloc (.cells #[.map none] 26)) [.map none] 26).alloc (.cells #[.slice none 0 0] 38))
  have HR0 : Hid (RefDeskAt (((w1.alloc (.cells #[.map none] 26)).alloc (.cells #[.map none] 26)).alloc (.cells #[.slice none 0 0] 38)) (w1.heap.size + 2) (.slice none 0 0) []) :=
    Lib.hid ⟨by have := Blk.new ((w1.alloc (.cells #[.map none] 26)).alloc (.cells #[.map none] 26)) [.slice none 0 0] 38; rw [show ((w1.alloc (.cells #[.map none] 26)).alloc (.cells #[.map none] 26)).heap.size = w1.heap.size + 2 by simp] at this; exact this, Recs.nil _ _ _ _, by intro h; cases h⟩
  rw [show (w1.alloc (.cells #[.map none] 26)).heap.size = w1.heap.size + 1 by simp] at HO0
  have HB0 : Hid (Below W.heap.size W (((w1.alloc (.cells #[.map none] 26)).alloc (.cells #[.map none] 26)).alloc (.cells #[.slice none 0 0] 38))) := by
    have h1 := HB.out.size
    exact Lib.hid (((HB.out.alloc h1 _).alloc (by simp; omega) _).alloc (by simp; omega) _)
  have hsz0 : (((w1.alloc (.cells #[.map none] 26)).alloc (.cells #[.map none] 26)).alloc (.cells #[.slice none 0 0] 38)).heap.size = w1.heap.size + 3 := by simp
  have hsz : W.heap.size ≤ w1.heap.size := HB.out.size
  rw [show ([Value.map none] : List Value).toArray = #[Value.map none] from rfl] at HO0
  generalize (((w1.alloc (.cells #[.map none] 26)).alloc (.cells #[.map none] 26)).alloc (.cells #[.slice none 0 0] 38)) = w0 at HD0 HO0 HR0 HB0 hsz0 ⊢
  clear HB
  go_loopg [6] sl (fun g iv wr => ∃ (k : Nat) (mv v : Value) (L : List (Int × Last)), iv = .int .i64 k ∧ k ≤ sl ∧ g = sl - k ∧ L.length ≤ k ∧ Hid (DeskAt wr w1.heap.size mv k (viewOf L)) ∧ Hid (RefDeskAt wr (w1.heap.size + 2) v L) ∧ Hid (Blk wr (w1.heap.size + 1) [.map none] 26) ∧ Hid (Both w0 w1.heap.size (w1.heap.size + 2) wr mv v))
  case atStart => exact ⟨0, _, _, [], rfl, Nat.zero_le _, rfl, Nat.le_refl _, HD0, HR0, HO0, Lib.hid ⟨fun k e => by (cases e), fun k e => by (cases e), Fr.refl _ _⟩⟩
  case round =>
    obtain ⟨k, mv, v, L, rfl, hk, hg, hL, HD, HR, HO, HBo⟩ := hrel
    subst hg
    clear HD0 HR0 HO0
    by_cases h : k < sl
    · obtain ⟨x, hx⟩ : ∃ x, xs[k]? = some x := ⟨xs[k], List.getElem?_eq_getElem (by omega)⟩
      obtain ⟨b, off, rfl, hbW, hxw, hcell⟩ := HEL.out k x hx
      have hcw : ∀ (i : Nat) (v : Value), x.cells[i]? = some v → wr.cell? ⟨b, off + (k * 4 + i), none⟩ = some v := fun i v hv => by
        rw [HBo.out.fr.cell (by show b < _; omega) (by intro e; have e : b = _ ∨ b = _ := e; omega), ← hcell i v hv]
        exact World.cell?_of_block (HB0.out.block b hbW)
      have d0 : wr.cell? ⟨b, off + k * 4, none⟩ = some (.int .i64 x.what) := hcw 0 _ rfl
      have d1 : wr.cell? ⟨b, off + k * 4 + 1, none⟩ = some (.int .i64 x.a) := hcw 1 _ rfl
      have d2 : wr.cell? ⟨b, off + k * 4 + 2, none⟩ = some (.int .i64 x.b) := hcw 2 _ rfl
      have d3 : wr.cell? ⟨b, off + k * 4 + 3, none⟩ = some (.string x.text) := hcw 3 _ rfl
      have hkd := tmod3 x.what hxw.w1 hxw.w2
      have hwa := Lib.hid (i64_wf hxw.a1 hxw.a2)
      have hkm : Hid (k < maxLen) := Lib.hid (by unfold maxLen; omega)
      have hLn : Hid ((L.length + 1) * 40 ≤ 140737488355328) := Lib.hid (by omega)
      clear hcw hcell hx hxw HEL
      obtain ⟨what, ta, tb, tt⟩ := x
      dsimp only at *
      go_upto_region 9 with (fail)
      have HI := Lib.hid (Blk.new wr [.int .i64 what, .int .i64 ta, .int .i64 tb, .string tt] 40)
      have HDx := Lib.hid (HD.out.alloc (.cells #[.int .i64 what, .int .i64 ta, .int .i64 tb, .string tt] 40))
      have HRx := Lib.hid (HR.out.alloc (.cells #[.int .i64 what, .int .i64 ta, .int .i64 tb, .string tt] 40))
      have HOx := Lib.hid (HO.out.alloc (.cells #[.int .i64 what, .int .i64 ta, .int .i64 tb, .string tt] 40))
      have HBx := Lib.hid (HBo.out.alloc (.cells #[.int .i64 what, .int .i64 ta, .int .i64 tb, .string tt] 40))
      generalize wr.alloc (.cells #[.int .i64 what, .int .i64 ta, .int .i64 tb, .string tt] 40) = wx at HI HDx HRx HOx HBx ⊢
      have i0 : wx.cell? ⟨wr.heap.size, 0, none⟩ = some (.int .i64 what) := HI.out.cell 0
      have i1 : wx.cell? ⟨wr.heap.size, 1, none⟩ = some (.int .i64 ta) := HI.out.cell 1
      have i2 : wx.cell? ⟨wr.heap.size, 2, none⟩ = some (.int .i64 tb) := HI.out.cell 2
      have i3 : wx.cell? ⟨wr.heap.size, 3, none⟩ = some (.string tt) := HI.out.cell 3
      clear d0 d1 d2 d3 HD HR HO HBo
      rcases hkd with hkd | hkd | hkd
      · go_wp2_with fail
        refine (ask_any w1.heap.size mv k _ ta tb hwa.out wx HDx.out hkm.out).mono ?_
        rintro e w3 ⟨rfl, mv', hD3, hR3⟩
        have HR3 := Lib.hid (HRx.out.keep HDx.out hR3)
        have HO3 := Lib.hid (HOx.out.fr hR3.fr (HDx.out.offSelf (by omega) HOx.out))
        have HI3 := Lib.hid (HI.out.keep hR3.fr (HDx.out.off (by decide)))
        have HB3 := Lib.hid (HBx.out.desk hR3)
        have HD3 := Lib.hid hD3
        clear hD3 hR3 HDx HRx HOx HI HBx i0 i1 i2 i3
        have i1 : w3.cell? ⟨wr.heap.size, 1, none⟩ = some (.int .i64 ta) := HI3.out.cell 1
        have i2 : w3.cell? ⟨wr.heap.size, 2, none⟩ = some (.int .i64 tb) := HI3.out.cell 2
        go_wp2_with fail
        refine (refAsk_any (w1.heap.size + 2) v L ta tb w3 HR3.out hLn.out).mono ?_
        rintro e w4 ⟨rfl, v', L', hR4, hV, hL', hF4⟩
        have HD4 := Lib.hid (HD3.out.keep HR3.out hF4)
        have HO4 := Lib.hid (HO3.out.keep hF4.fr (HR3.out.off (by decide) (by decide)))
        have HB4 := Lib.hid (HB3.out.ref hF4)
        have HR4 := Lib.hid hR4
        rw [← hV] at HD4
        clear hR4 hF4 HD3 HO3 HI3 HB3 HR3 hV i1 i2
        generalize (viewOf L).ask ta tb = r
        go_wp2_with fail
        go_roundg (sl - (k + 1))
        case measure => omega
        case rel => exact ⟨k + 1, _, _, _, val_int (by omega), by omega, rfl, by omega, HD4, HR4, HO4, HB4⟩
      · go_upto_region 18 with (fail)
        clear i0
        generalize hr : (viewOf L).reply ta tb tt = r
        have HRR := Lib.hid hr
        clear hr
        go_region_held3 (fun w' => w'.cell? ⟨wr.heap.size, 1, none⟩ = some (.int .i64 ta) ∧ w'.cell? ⟨wr.heap.size, 2, none⟩ = some (.int .i64 tb) ∧ w'.cell? ⟨wr.heap.size, 3, none⟩ = some (.string tt))
          (first | exact ⟨i1, i2, i3⟩ | exact ⟨j1, j2, j3⟩ | exact ⟨l1, l2, l3⟩)
          (first
            | (go_at_call 10; refine (reply_any w1.heap.size mv k _ ta tb hwa.out tt _ (HDx.out.drewN 1) hkm.out).mono ?_; rw [HRR.out]; rintro e w3 ⟨rfl, mv', hD3, hR3⟩; have HR3 := Lib.hid ((HRx.out.drewN 1).keep (HDx.out.drewN 1) hR3); have HO3 := Lib.hid (Blk.fr (HOx.out.drewN 1) hR3.fr ((HDx.out.drewN 1).offSelf (by omega) (HOx.out.drewN 1))); have HI3 := Lib.hid (Blk.keep (HI.out.drewN 1) hR3.fr ((HDx.out.drewN 1).off (by decide))); have HB3 := Lib.hid ((HBx.out.drewN 1).desk hR3); have HD3 := Lib.hid hD3; have j1 := HI3.out.cell 1; have j2 := HI3.out.cell 2; have j3 := HI3.out.cell 3; clear hD3 hR3)
            | (go_at_call 13; refine (refReply_any (w1.heap.size + 2) v L ta tb tt _ HR3.out).mono ?_; rw [HRR.out]; rintro e w4 ⟨rfl, v', L', hR4, hV, hL', hF4⟩; have HD4 := Lib.hid (HD3.out.keep HR3.out hF4); have HO4 := Lib.hid (HO3.out.keep hF4.fr (HR3.out.off (by decide) (by decide))); have HI4 := Lib.hid (HI3.out.keep hF4.fr (HR3.out.off (by decide) (by decide))); have HB4 := Lib.hid (HB3.out.ref hF4); have HR4 := Lib.hid hR4; have l1 := HI4.out.cell 1; have l2 := HI4.out.cell 2; have l3 := HI4.out.cell 3; rw [← hV] at HD4; clear hR4 hF4))
        clear i1 i2 i3 j1 j2 j3 l1 l2 l3
        have hbb : ∀ x : Bool, (x != x) = false := fun x => by cases x <;> rfl
        go_wp2_with fail
        go_roundg (sl - (k + 1))
        case measure => omega
        case rel => exact ⟨k + 1, _, _, _, val_int (by omega), by omega, rfl, by omega, HD4, HR4, HO4, HB4⟩
      · go_wp2_with fail
        refine (set_any w1.heap.size mv k _ ta tb hwa.out tt wx HDx.out hkm.out).mono ?_
        rintro e w3 ⟨rfl, mv', hD3, hR3⟩
        have HR3 := Lib.hid (HRx.out.keep HDx.out hR3)
        have HO3 := Lib.hid (HOx.out.fr hR3.fr (HDx.out.offSelf (by omega) HOx.out))
        have HI3 := Lib.hid (HI.out.keep hR3.fr (HDx.out.off (by decide)))
        have HB3 := Lib.hid (HBx.out.desk hR3)
        have HD3 := Lib.hid hD3
        clear hD3 hR3 HDx HRx HOx HI HBx i0 i1 i2 i3
        have i1 : w3.cell? ⟨wr.heap.size, 1, none⟩ = some (.int .i64 ta) := HI3.out.cell 1
        have i2 : w3.cell? ⟨wr.heap.size, 2, none⟩ = some (.int .i64 tb) := HI3.out.cell 2
        have i3 : w3.cell? ⟨wr.heap.size, 3, none⟩ = some (.string tt) := HI3.out.cell 3
        go_wp2_with fail
        refine (refSet_any (w1.heap.size + 2) v L ta tb tt w3 HR3.out hLn.out).mono ?_
        rintro e w4 ⟨rfl, v', L', hR4, hV, hL', hF4⟩
        have HD4 := Lib.hid (HD3.out.keep HR3.out hF4)
        have HO4 := Lib.hid (HO3.out.keep hF4.fr (HR3.out.off (by decide) (by decide)))
        have HB4 := Lib.hid (HB3.out.ref hF4)
        have HR4 := Lib.hid hR4
        rw [← hV] at HD4
        clear hR4 hF4 HD3 HO3 HI3 HB3 HR3 hV i1 i2 i3
        go_wp2_with fail
        go_roundg (sl - (k + 1))
        case measure => omega
        case rel => exact ⟨k + 1, _, _, _, val_int (by omega), by omega, rfl, by omega, HD4, HR4, HO4, HB4⟩
    · obtain rfl : k = sl := by omega
      have HOD : Hid (DeskAt wr (w1.heap.size + 1) (.map none) 0 (fun _ => none)) := Lib.hid ⟨HO.out, .inl ⟨rfl, rfl⟩⟩
      go_wp2_with fail
      refine (ask_any (w1.heap.size + 1) _ 0 _ 1 (-9) (by decide) wr HOD.out (by decide)).mono ?_
      rintro e w3 ⟨rfl, mv', hD3, hR3⟩
      have HF := Lib.hid ((HBo.out.fr.below (B := W.heap.size) (fun j _ e => by rcases e with rfl | rfl; exact hsz; omega) (by omega)).trans (hR3.fr.below (B := W.heap.size) (fun j _ e => by rcases e with rfl | e; omega; cases e) (by have := HBo.out.fr.size; omega)))
      clear hD3 hR3
      go_wp2_with fail
      go_ret
      exact ⟨rfl, HB0.out.trans HF.out⟩
end Go.Proofs.Ytlndnjpgpbeeeaa
