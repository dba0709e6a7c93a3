/- The walk of RpcOnce. -/
import Derived.Test.YtlndnjpgpbeeeaaRpcDesks
import Derived.Laws.StructEq
import Derived.Laws.Cover2
namespace Go.Proofs.Ytlndnjpgpbeeeaa
open Go.RowKit Go.Maps
set_option linter.unusedVariables false
set_option linter.unusedSimpArgs false
def pairCells (x : Int × Int) : List Value := [.int .i64 x.1, .int .i64 x.2]
structure PairWf (x : Int × Int) : Prop where
  a1 : -9223372036854775808 ≤ x.1
  a2 : x.1 ≤ 9223372036854775807
  b1 : -9223372036854775808 ≤ x.2
  b2 : x.2 ≤ 9223372036854775807
theorem pair_flat : flat Try.prog 8 27 = some [.int .i64, .int .i64] := by kernel_rfl
theorem opens_pair (w : World) : Opens Try.prog w 27 (fun _ cs (x : Int × Int) => cs = pairCells x ∧ PairWf x) (fun x => vbulk (pairCells x)) :=
  opens_flat pair_flat pairCells PairWf fun cs h => by
    obtain ⟨k, d1, rfl, k1, k2, ha⟩ := h.i64_inv
    obtain ⟨n, d2, rfl, n1, n2, hb⟩ := ha.i64_inv
    obtain rfl := hb.nil_inv
    exact ⟨(k, n), rfl, k1, k2, n1, n2⟩
def RPairs := RSl 2 16 (fun (_ : World) (cs : List Value) (x : Int × Int) => cs = pairCells x ∧ PairWf x)
theorem opens_pairs (w : World) : Opens Try.prog w 22 RPairs (bulkL fun (x : Int × Int) => vbulk (pairCells x)) :=
  opens_slice Try.underlying22 (by kernel_rfl) (by kernel_rfl) (by decide) (opens_pair w)
def textOf (x : Int × Int) : ByteArray := ⟨#[UInt8.ofNat (x.1 % 256).toNat, UInt8.ofNat (x.2 % 256).toNat, 114]⟩
set_option maxHeartbeats 1000000 in
theorem text_any (x : Int × Int) (w : World) : Calls Try.prog 11 #[.agg #[.int .i64 x.1, .int .i64 x.2]] w fun e w' => e = .returned (.string (textOf x)) ∧ Below w.heap.size w w' := by
  have e1 : ((UInt8.ofNat (x.1 % 256).toNat).toNat : Int) = x.1 % 256 := by rw [UInt8.toNat_ofNat']; omega
  have e2 : ((UInt8.ofNat (x.2 % 256).toNat).toNat : Int) = x.2 % 256 := by rw [UInt8.toNat_ofNat']; omega
  have hB := Blk.new (w.alloc (.cells #[.int .i64 x.1, .int .i64 x.2] 27)) (bytes [UInt8.ofNat (x.1 % 256).toNat, UInt8.ofNat (x.2 % 256).toNat, 114]) 5
  rw [show (w.alloc (.cells #[.int .i64 x.1, .int .i64 x.2] 27)).heap.size = w.heap.size + 1 by simp] at hB
  have hcv := conv_bytes (P := Try.prog) hB.cells 68 9 5 3 Try.underlying68 Try.underlying5 Try.underlying9 3 rfl
  rw [show (bytes [UInt8.ofNat (x.1 % 256).toNat, UInt8.ofNat (x.2 % 256).toNat, 114]).toArray = #[.int .u8 (x.1 % 256), .int .u8 (x.2 % 256), .int .u8 114] by simp [bytes, e1, e2]; omega] at hcv
  clear hB e1 e2
  go_enter Try.func11, Try.ntmps11
  go_wp2_with fail
  go_ret
  exact ⟨rfl, ((Below.refl _ w).alloc (Nat.le_refl _) _).alloc (by simp) _⟩
/-- What the desk knows, of all that was begun. -/
structure Once (f : View) (B : List (Int × Int)) : Prop where
  has : ∀ c l, f c = some l → l.rep = true ∧ l.body = textOf (c, l.call) ∧ (c, l.call) ∈ B ∧ ∀ y, (c, y) ∈ B → y ≤ l.call
  hasnt : ∀ c, f c = none → ∀ y, (c, y) ∉ B
theorem Once.new {f : View} {B : List (Int × Int)} (h : Once f B) {c call : Int} (hn : (f.ask c call).1 = 0) : f.ask c call = (0, ⟨#[]⟩, f.set c ⟨call, false, ⟨#[]⟩⟩) ∧ (c, call) ∉ B ∧
    Once ((f.set c ⟨call, false, ⟨#[]⟩⟩).set c ⟨call, true, textOf (c, call)⟩) (B ++ [(c, call)]) := by
  have hset : ∀ x, ((f.set c ⟨call, false, ⟨#[]⟩⟩).set c ⟨call, true, textOf (c, call)⟩) x = if x = c then some ⟨call, true, textOf (c, call)⟩ else f x := by
    intro x; unfold View.set; split <;> rfl
  have hO : (∀ y, (c, y) ∈ B → y < call) → Once ((f.set c ⟨call, false, ⟨#[]⟩⟩).set c ⟨call, true, textOf (c, call)⟩) (B ++ [(c, call)]) := by
    intro hlt
    refine ⟨fun c' l hl => ?_, fun c' hc y hy => ?_⟩
    · rw [hset] at hl
      split at hl
      · rename_i e; subst e; cases hl
        refine ⟨rfl, rfl, by simp, fun y hy => ?_⟩
        rcases List.mem_append.1 hy with hy | hy
        · have := hlt y hy; show y ≤ call; omega
        · simp at hy; show y ≤ call; omega
      · rename_i e
        obtain ⟨h1, h2, h3, h4⟩ := h.has c' l hl
        refine ⟨h1, h2, by simp [h3], fun y hy => ?_⟩
        rcases List.mem_append.1 hy with hy | hy
        · exact h4 y hy
        · simp at hy; exact absurd hy.1 e
    · rw [hset] at hc
      split at hc
      · cases hc
      · rename_i e
        rcases List.mem_append.1 hy with hy | hy
        · exact h.hasnt c' hc y hy
        · simp at hy; exact e hy.1
  unfold View.ask at *
  cases hf : f c with
  | none => exact ⟨rfl, h.hasnt c hf call, hO fun y hy => absurd hy (h.hasnt c hf y)⟩
  | some l =>
    obtain ⟨h1, h2, h3, h4⟩ := h.has c l hf
    rw [hf] at hn
    simp only [h1, if_true] at *
    by_cases e : l.call < call
    · simp only [e, if_true]
      exact ⟨by simp, fun hm => by have := h4 call hm; omega, hO fun y hy => by have := h4 y hy; omega⟩
    · simp only [e, if_false] at hn
      by_cases e2 : call < l.call <;> simp [e2] at hn
theorem View.reply_fresh (f : View) (c call : Int) (t : ByteArray) : (f.set c ⟨call, false, ⟨#[]⟩⟩).reply c call t = (true, (f.set c ⟨call, false, ⟨#[]⟩⟩).set c ⟨call, true, t⟩) := by
  unfold View.reply View.set; simp
theorem View.reply_again (f : View) (c call : Int) (t u : ByteArray) : (f.set c ⟨call, true, t⟩).reply c call u = (false, f.set c ⟨call, true, t⟩) := by
  unfold View.reply View.set; simp
theorem Once.done {f : View} {B : List (Int × Int)} (h : Once f B) {c call : Int} (hn : (f.ask c call).1 ≠ 0) : (f.ask c call).2.2 = f ∧
    (((f.ask c call).1 = 2 ∧ (c, call) ∈ B ∧ (f.ask c call).2.1 = textOf (c, call)) ∨ ((f.ask c call).1 = 3 ∧ (f.ask c call).2.1 = ⟨#[]⟩)) := by
  unfold View.ask at *
  cases hf : f c with
  | none => rw [hf] at hn; simp at hn
  | some l =>
    obtain ⟨h1, h2, h3, h4⟩ := h.has c l hf
    rw [hf] at hn
    simp only [h1, if_true] at *
    by_cases e : l.call < call
    · simp [e] at hn
    · by_cases e2 : call < l.call
      · simp [e, e2]
      · have e3 : l.call = call := by omega
        subst e3
        simp only [Int.lt_irrefl, if_false, true_and]
        exact .inl ⟨h3, h2⟩
theorem eqPair (a b c d : Int) (w : World) : (Op.equalIn 10000 27 (.agg #[.int .i64 a, .int .i64 b]) (.agg #[.int .i64 c, .int .i64 d])).run Try.prog w = .ok (a == c && b == d) w := by
  have u3 := Try.underlying3
  have a3 := Try.isAgg3
  have z3 := Try.sizeOf3
  rw [show (10000 : Nat) = 9999 + 1 from rfl, Op.equalIn]
  simp only [Sem.run_bind, run_underlying Try.underlying27, Result.andThen_ok]
  simp only [Std.Legacy.Range.forIn_eq_forIn_range', Std.Legacy.Range.size, Nat.sub_zero, Nat.add_sub_cancel, Nat.div_one, List.range'_succ, List.range'_zero, List.forIn_cons, List.forIn_nil]
  go_simp
  by_cases h1 : a = c <;> by_cases h2 : b = d <;> simp [h1, h2]
theorem pair_info : (Try.prog.info? 27).map (fun i => (i.zero, i.size, i.bytes)) = some (some (.agg #[.int .i64 0, .int .i64 0]), 2, 16) := by kernel_rfl
theorem DeskAt.below {w w' : World} {b n : Nat} {mv : Value} {f : View} (h : DeskAt w b mv n f) (hb : Below w.heap.size w w') : DeskAt w' b mv n f :=
  h.fr (Fr.of_below (S := fun k => w.heap.size ≤ k) hb fun k e _ => e) (by have := h.blk.lt; omega) fun k hk => by
    rcases h.map with ⟨e, _⟩ | ⟨j, e, _, hM⟩
    · rw [hk] at e; cases e
    · rw [hk] at e; cases e; have := hM.lt; omega
/-- What the desk's calls may have changed. -/
structure Desk1 (w0 : World) (bd : Nat) (wr : World) (mv : Value) : Prop where
  mv0 : ∀ k, mv = .map (some k) → w0.heap.size ≤ k
  fr : Fr w0 wr (fun k => k = bd)
theorem Desk1.desk {w0 wr w' : World} {bd : Nat} {mv mv' : Value} (h : Desk1 w0 bd wr mv) (hR : DeskR wr bd mv w' mv') : Desk1 w0 bd w' mv' := by
  refine ⟨fun k hk => ?_, h.fr.trans hR.fr fun x hx e => ?_⟩
  · rcases hR.lies with e | ⟨j, e, hj⟩
    · exact h.mv0 k (e ▸ hk)
    · rw [e] at hk; cases hk; exact Nat.le_trans h.fr.size hj
  · rcases e with rfl | e
    · rfl
    · have := h.mv0 x e; omega
theorem Desk1.alloc {w0 wr : World} {bd : Nat} {mv : Value} (h : Desk1 w0 bd wr mv) (o : Obj) : Desk1 w0 bd (wr.alloc o) mv := ⟨h.mv0, h.fr.alloc o⟩
theorem Desk1.drewN {w0 wr : World} {bd : Nat} {mv : Value} (h : Desk1 w0 bd wr mv) (n : Nat) : Desk1 w0 bd (wr.drewN n) mv := ⟨h.mv0, h.fr.drewN n⟩
theorem Desk1.below {w0 wr w' : World} {bd : Nat} {mv : Value} (h : Desk1 w0 bd wr mv) (hb : Below wr.heap.size wr w') : Desk1 w0 bd w' mv :=
  ⟨h.mv0, h.fr.trans (Fr.of_below (S := fun k => wr.heap.size ≤ k) hb fun k e _ => e) fun x hx e => by have := h.fr.size; omega⟩
theorem Desk1.row {w0 wr w' : World} {bd : Nat} {mv v : Value} (h : Desk1 w0 bd wr mv) (hG : wr.grownBy w' v.ownBlock) (hv : ∀ k, v.ownBlock = some k → w0.heap.size ≤ k) : Desk1 w0 bd w' mv :=
  ⟨h.mv0, h.fr.trans (Fr.of_grown (S := fun k => v.ownBlock = some k) hG fun k e => e) fun x hx e => by have := hv x e; omega⟩
theorem Recs.below {w w' : World} {base : Nat} {e : TypeId} {sz : Nat} {v : Value} {rs : List (List Value)} (h : Recs w base e sz v rs) (hb : Below w.heap.size w w') : Recs w' base e sz v rs := ⟨own_below h.own hb (Nat.le_refl _), h.len⟩
theorem Recs.keep {w w' : World} {b n base : Nat} {mv mv' v : Value} {f : View} {e : TypeId} {sz : Nat} {rs : List (List Value)} (h : Recs w base e sz v rs) (hD : DeskAt w b mv n f) (he : e ≠ 26) (hR : DeskR w b mv w' mv') : Recs w' base e sz v rs :=
  h.fr hR.fr fun k hk hs => by obtain ⟨cur, hg⟩ := own_heap h.own hk; exact hD.off he k hs cur hg
theorem DeskAt.row {w w' : World} {b n base : Nat} {mv v : Value} {f : View} {e : TypeId} {sz : Nat} {rs : List (List Value)} (h : DeskAt w b mv n f) (hr : Recs w base e sz v rs) (he : e ≠ 26) (hG : w.grownBy w' v.ownBlock) : DeskAt w' b mv n f :=
  h.fr (Fr.of_grown (S := fun k => v.ownBlock = some k) hG fun k e => e) (fun hk => by obtain ⟨cur, hg⟩ := own_heap hr.own hk; have := h.blk.symm.trans hg; simp at this; exact he this.2.symm) fun k hk hs => by
    obtain ⟨cur, hg⟩ := own_heap hr.own hs
    rcases h.map with ⟨e, _⟩ | ⟨j, e, _, ⟨D, ⟨es, cl, hb, _⟩, _⟩⟩
    · rw [hk] at e; cases e
    · rw [hk] at e; cases e; rw [hb] at hg; cases hg
set_option maxRecDepth 20000 in
set_option maxHeartbeats 1000000 in
theorem rpcOnce_walk (W : World) (sa : Option Addr) (sl sc : Nat) (xs : List (Int × Int)) (hR : RPairs W [.slice sa sl sc] xs) :
    Calls Try.prog 3 #[.slice sa sl sc] W fun e w' => e = .returned (.bool true) ∧ Below W.heap.size W w' := by
  obtain ⟨hn, hnc, hcb, hcm, hel⟩ := rsl_get hR
  have HEL := Lib.hid hel
  have hsl : sl * 16 ≤ 140737488351232 := by omega
  clear hR hel hcb hcm
  have heq := eqPair
  go_enter Try.func3, Try.ntmps3
  go_wp2_with fail
  refine (rpcSpeaks_any W).mono ?_
  rintro e w1 ⟨rfl, hb⟩
  have HB := Lib.hid hb
  clear hb
  go_upto_region 6 with (fail)
  have HD0 := Lib.hid (DeskAt.new w1)
  have HB0 := Lib.hid (HB.out.alloc HB.out.size (.cells #[.map none] 26))
  have hsz0 : (w1.alloc (.cells #[.map none] 26)).heap.size = w1.heap.size + 1 := by simp
  have hsz : W.heap.size ≤ w1.heap.size := HB.out.size
  generalize w1.alloc (.cells #[.map none] 26) = w0 at HD0 HB0 hsz0 ⊢
  clear HB
  go_loopg [4, 5] sl (fun g bv iv wr => ∃ (k : Nat) (mv : Value) (f : View) (B : List (Int × Int)), iv = .int .i64 k ∧ k ≤ sl ∧ g = sl - k ∧ B.length ≤ k ∧ Hid (DeskAt wr w1.heap.size mv (3 * k) f) ∧ Hid (Recs wr w0.heap.size 27 2 bv (B.map pairCells)) ∧ Hid (Once f B) ∧ Hid (Desk1 w0 w1.heap.size wr mv))
  case atStart => exact ⟨0, _, _, [], rfl, Nat.zero_le _, rfl, Nat.le_refl _, HD0, Lib.hid (Recs.nil _ _ _ _), Lib.hid ⟨fun c l h => by (cases h), fun c _ y h => by (cases h)⟩, Lib.hid ⟨fun k e => by (cases e), Fr.refl _ _⟩⟩
  case round =>
    obtain ⟨k, mv, f, B, rfl, hk, hg, hBk, HD, HRc, HOn, HDo⟩ := hrel
    subst hg
    clear HD0
    by_cases h : k < sl
    · obtain ⟨x, hx⟩ : ∃ x, xs[k]? = some x := ⟨xs[k], List.getElem?_eq_getElem (by omega)⟩
      obtain ⟨b, off, rfl, hbW, hxw, hcell⟩ := HEL.out k x hx
      have hcw : ∀ (i : Nat) (v : Value), (pairCells x)[i]? = some v → wr.cell? ⟨b, off + (k * 2 + i), none⟩ = some v := fun i v hv => by
        rw [HDo.out.fr.cell (by show b < _; omega) (by intro e; have e : b = _ := e; omega), ← hcell i v hv]
        exact World.cell?_of_block (HB0.out.block b hbW)
      have d0 : wr.cell? ⟨b, off + k * 2, none⟩ = some (.int .i64 x.1) := hcw 0 _ rfl
      have d1 : wr.cell? ⟨b, off + k * 2 + 1, none⟩ = some (.int .i64 x.2) := hcw 1 _ rfl
      have hwa := Lib.hid (i64_wf hxw.a1 hxw.a2)
      have hkm : Hid (3 * k + 3 < maxLen) := Lib.hid (by unfold maxLen; omega)
      clear hcw hcell hx hxw HEL
      obtain ⟨c, call⟩ := x
      dsimp only at *
      go_upto_region 9 with (fail)
      have HI := Lib.hid (Blk.new wr [.int .i64 c, .int .i64 call] 27)
      have HDx := Lib.hid (HD.out.alloc (.cells #[.int .i64 c, .int .i64 call] 27))
      have HRx := Lib.hid (HRc.out.alloc (.cells #[.int .i64 c, .int .i64 call] 27))
      have HOx := Lib.hid (HDo.out.alloc (.cells #[.int .i64 c, .int .i64 call] 27))
      generalize wr.alloc (.cells #[.int .i64 c, .int .i64 call] 27) = wx at HI HDx HRx HOx ⊢
      have i0 : wx.cell? ⟨wr.heap.size, 0, none⟩ = some (.int .i64 c) := HI.out.cell 0
      have i1 : wx.cell? ⟨wr.heap.size, 1, none⟩ = some (.int .i64 call) := HI.out.cell 1
      clear d0 d1 HD HRc HDo
      go_wp2_with fail
      refine (ask_any w1.heap.size mv (3 * k) f c call hwa.out wx HDx.out (by have := hkm.out; omega)).mono ?_
      rintro e w3 ⟨rfl, mv', hD3, hR3⟩
      have HR3 := Lib.hid (HRx.out.keep HDx.out (by decide) hR3)
      have HI3 := Lib.hid (HI.out.keep hR3.fr (HDx.out.off (by decide)))
      have HO3 := Lib.hid (HOx.out.desk hR3)
      have HD3 := Lib.hid hD3
      clear hD3 hR3 HDx HRx HOx HI i0 i1
      have hlen : Hid (B.length ≤ maxLen) := Lib.hid (by have := HR3.out.len_le; rwa [List.length_map] at this)
      obtain ⟨A, cap, hbv⟩ := HR3.out.slice
      rw [List.length_map] at hbv
      subst hbv
      have i0 : w3.cell? ⟨wr.heap.size, 0, none⟩ = some (.int .i64 c) := HI3.out.cell 0
      have i1 : w3.cell? ⟨wr.heap.size, 1, none⟩ = some (.int .i64 call) := HI3.out.cell 1
      generalize hr : f.ask c call = r
      have HRR := Lib.hid hr
      clear hr
      go_wp2_with fail
      go_loopg [9, 10] B.length (fun g sv kv wi => ∃ (j m : Nat), sv = .bool (decide ((c, call) ∈ B.take j)) ∧ kv = .int .i64 j ∧ j ≤ B.length ∧ g = B.length - j ∧ wi = w3.drewN m)
      case atStart => exact ⟨0, 0, by simp, rfl, Nat.zero_le _, rfl, rfl⟩
      case round =>
        obtain ⟨j, m, rfl, rfl, hj, hg, rfl⟩ := hrel
        subst hg
        by_cases hlt : j < B.length
        · obtain ⟨y, hy⟩ : ∃ y, B[j]? = some y := ⟨B[j], List.getElem?_eq_getElem hlt⟩
          have htk : (c, call) ∈ B.take (j + 1) ↔ (c, call) ∈ B.take j ∨ y = (c, call) := by
            obtain ⟨hl, rfl⟩ := List.getElem?_eq_some_iff.1 hy
            rw [List.take_succ_eq_append_getElem hl, List.mem_append]
            simp [eq_comm]
          obtain ⟨g, cap', hv, _, _, hcell, _⟩ := HR3.out.some (by rw [List.length_map]; omega)
          rw [List.length_map] at hv
          cases hv
          have y0 : w3.cell? ⟨g, j * 2, none⟩ = some (.int .i64 y.1) := hcell j (pairCells y) 0 _ (by simp [hy]) rfl
          have y1 : w3.cell? ⟨g, j * 2 + 1, none⟩ = some (.int .i64 y.2) := hcell j (pairCells y) 1 _ (by simp [hy]) rfl
          have j0 : (0 : Int) ≤ (j : Int) := by omega
          have j1 : (j : Int) < (B.length : Int) := by omega
          have HTK := Lib.hid htk
          clear hcell hy htk
          by_cases hin : (c, call) ∈ B.take j
          · have hdec : decide ((c, call) ∈ B.take j) = true := by simp [hin]
            rw [hdec]
            clear hdec
            go_upto_region 14 with (fail)
            go_quiet (fail)
            go_wp2
            go_roundg (B.length - (j + 1))
            case measure => omega
            case rel =>
              refine ⟨j + 1, _, ?_, val_int (by omega), by omega, rfl, rfl⟩
              have : (c, call) ∈ B.take (j + 1) := HTK.out.2 (.inl hin)
              simp [this]
          · have hdec : decide ((c, call) ∈ B.take j) = false := by simp [hin]
            rw [hdec]
            clear hdec
            go_upto_region 14 with (fail)
            go_quiet (fail)
            go_wp2
            go_roundg (B.length - (j + 1))
            case measure => omega
            case rel =>
              refine ⟨j + 1, _, ?_, val_int (by omega), by omega, rfl, rfl⟩
              congr 1
              by_cases e : y = (c, call)
              · have : (c, call) ∈ B.take (j + 1) := HTK.out.2 (.inr e)
                simp [this, e]
              · have : ¬ (c, call) ∈ B.take (j + 1) := fun hm => (HTK.out.1 hm).elim hin e
                simp only [this, decide_false]
                have e' : ¬ (y.1 = c ∧ y.2 = call) := fun h => e (Prod.ext h.1 h.2)
                simp; intro h1 h2; exact e' ⟨h1, h2⟩
        · obtain rfl : j = B.length := by omega
          rw [List.take_length]
          have HD5 := Lib.hid (HD3.out.drewN m)
          have HR5 := Lib.hid (HR3.out.drewN m)
          have HI5 := Lib.hid (HI3.out.drewN m)
          have HO5 := Lib.hid (HO3.out.drewN m)
          rw [HRR.out] at HD5
          clear HD3 HR3 HI3 HO3 i0 i1
          generalize w3.drewN m = w5 at HD5 HR5 HI5 HO5 ⊢
          have i0 : w5.cell? ⟨wr.heap.size, 0, none⟩ = some (.int .i64 c) := HI5.out.cell 0
          have i1 : w5.cell? ⟨wr.heap.size, 1, none⟩ = some (.int .i64 call) := HI5.out.cell 1
          by_cases hv0 : r.1 = 0
          · obtain ⟨hask, hnin, hnew⟩ := HOn.out.new (c := c) (call := call) (by rw [HRR.out]; exact hv0)
            have hr : r = (0, ⟨#[]⟩, f.set c ⟨call, false, ⟨#[]⟩⟩) := HRR.out.symm.trans hask
            subst hr
            have hdec : decide ((c, call) ∈ B) = false := by simp [hnin]
            rw [hdec]
            have HNew := Lib.hid hnew
            clear hask hnin hnew hdec hv0 HRR
            dsimp only at *
            go_upto_region 18 with (fail)
            go_region_held3 (fun w' => w'.cell? ⟨wr.heap.size, 0, none⟩ = some (.int .i64 c) ∧ w'.cell? ⟨wr.heap.size, 1, none⟩ = some (.int .i64 call))
              (first | exact ⟨i0, i1⟩ | exact ⟨k0, k1⟩ | exact ⟨l0, l1⟩ | exact ⟨m0, m1⟩)
              (first
                | (go_at_call 11; refine (text_any (c, call) _).mono ?_; rintro e w6 ⟨rfl, hb6⟩; have HD6 := Lib.hid ((HD5.out.drewN 1).below hb6); have HR6 := Lib.hid ((HR5.out.drewN 1).below hb6); have HI6 := Lib.hid (Blk.below (HI5.out.drewN 1) hb6 (HI5.out.drewN 1).lt); have HO6 := Lib.hid ((HO5.out.drewN 1).below hb6); have k0 := HI6.out.cell 0; have k1 := HI6.out.cell 1; clear hb6)
                | (go_at_call 10; refine (reply_any w1.heap.size mv' (3 * k + 1) _ c call hwa.out (textOf (c, call)) _ HD6.out (by have := hkm.out; omega)).mono ?_; rw [View.reply_fresh]; rintro e w7 ⟨rfl, mv7, hD7, hR7⟩; have HR7 := Lib.hid (HR6.out.keep HD6.out (by decide) hR7); have HI7 := Lib.hid (HI6.out.keep hR7.fr (HD6.out.off (by decide))); have HO7 := Lib.hid (HO6.out.desk hR7); have HD7 := Lib.hid hD7; have l0 := HI7.out.cell 0; have l1 := HI7.out.cell 1; clear hD7 hR7 HD6)
                | (go_at_call 10; refine (reply_any w1.heap.size mv7 (3 * k + 1 + 1) _ c call hwa.out ⟨#[111, 116, 104, 101, 114]⟩ _ HD7.out (by have := hkm.out; omega)).mono ?_; rw [View.reply_again]; rintro e w8 ⟨rfl, mv8, hD8, hR8⟩; have HR8 := Lib.hid (HR7.out.keep HD7.out (by decide) hR8); have HI8 := Lib.hid (HI7.out.keep hR8.fr (HD7.out.off (by decide))); have HO8 := Lib.hid (HO7.out.desk hR8); have HD8 := Lib.hid hD8; have m0 := HI8.out.cell 0; have m1 := HI8.out.cell 1; clear hD8 hR8))
            clear i0 i1 k0 k1 l0 l1 HI6 HI7 HR6 HR7 HO6 HO7 HD7 HI5 HR5 HO5 HD5
            have m0 : w8.cell? ⟨wr.heap.size, 0, none⟩ = some (.int .i64 c) := HI8.out.cell 0
            have m1 : w8.cell? ⟨wr.heap.size, 1, none⟩ = some (.int .i64 call) := HI8.out.cell 1
            have HOw : Hid (w8.ownsRow w0.heap.size 27 2 (.slice A B.length cap) B.length (B.map pairCells).flatten) := Lib.hid (by have := HR8.out.own; rw [List.length_map] at this; exact this)
            have hB2 : w0.heap.size ≤ w8.heap.size := HO8.out.fr.size
            clear m0 m1
            have m0 : w8.cell? ⟨wr.heap.size, 0, none⟩ = some (.int .i64 c) := HI8.out.cell 0
            have m1 : w8.cell? ⟨wr.heap.size, 1, none⟩ = some (.int .i64 call) := HI8.out.cell 1
            go_wp2_with (at_builtin; refine wpList_app rfl _ _ 22 rfl w0.heap.size 27 _ 2 16 Try.underlying22 pair_info rfl (by decide) _ B.length _ rfl HOw.out _ _ 1 1 rfl rfl rfl (by unfold maxLen; omega) (by omega) hB2 ?_; intro v' w9 hO hG hN)
            go_roundg (sl - (k + 1))
            case measure => omega
            case rel =>
              refine ⟨k + 1, mv8, _, B ++ [(c, call)], val_int (by omega), by omega, rfl, by simp; omega, Lib.hid ((HD8.out.row HR8.out (by decide) hG.out).mono (by omega)), Lib.hid ?_, HNew, Lib.hid (HO8.out.row hG.out (own_base HOw.out))⟩
              rw [List.map_append]
              exact HR8.out.app (pairCells (c, call)) rfl (by rw [List.length_map]; exact hO.out)
          · obtain ⟨hsame, hcase⟩ := HOn.out.done (c := c) (call := call) (by rw [HRR.out]; exact hv0)
            rw [HRR.out] at hsame hcase
            obtain ⟨r1, r2, r3⟩ := r
            dsimp only at *
            subst hsame
            clear hv0 HRR
            rcases hcase with ⟨rfl, hmem, rfl⟩ | ⟨rfl, rfl⟩
            · have hdec : decide ((c, call) ∈ B) = true := by simp [hmem]
              rw [hdec]
              clear hdec hmem
              go_wp2_with fail
              refine (text_any (c, call) _).mono ?_
              rintro e w6 ⟨rfl, hb6⟩
              have HD6 := Lib.hid (HD5.out.below hb6)
              have HR6 := Lib.hid (HR5.out.below hb6)
              have HO6 := Lib.hid (HO5.out.below hb6)
              clear hb6 i0 i1
              generalize textOf (c, call) = tt
              go_wp2_with fail
              go_roundg (sl - (k + 1))
              case measure => omega
              case rel => exact ⟨k + 1, mv', _, B, val_int (by omega), by omega, rfl, by omega, Lib.hid (HD6.out.mono (by omega)), HR6, HOn, HO6⟩
            · generalize decide ((c, call) ∈ B) = q
              go_wp2_with fail
              go_roundg (sl - (k + 1))
              case measure => omega
              case rel => exact ⟨k + 1, mv', _, B, val_int (by omega), by omega, rfl, by omega, Lib.hid (HD5.out.mono (by omega)), HR5, HOn, HO5⟩
    · obtain rfl : k = sl := by omega
      go_wp2_with fail
      go_ret
      exact ⟨rfl, HB0.out.trans (HDo.out.fr.below (fun j _ e => by rw [e]; exact hsz) (by omega))⟩
end Go.Proofs.Ytlndnjpgpbeeeaa
