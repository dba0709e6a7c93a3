/- leases: the reference's table: Drop. -/
import Derived.Test.YtngpmlolpigeoaaLeaseSpk
import Derived.Test.YtngpmlolpigeoaaRecs
namespace Go.Proofs.Ytngpmlolpigeoaa
open Go.RowKit Go.Maps
set_option linter.unusedVariables false
set_option linter.unusedSimpArgs false
abbrev LR := ByteArray × Int × Int
def lrC (e : LR) : List Value := [.string e.1, .int .i64 e.2.1, .int .i64 e.2.2]
theorem lrC_len (l : List LR) : ∀ r ∈ l.map lrC, r.length = 3 := fun r hr => by obtain ⟨e, _, rfl⟩ := List.mem_map.1 hr; rfl
theorem lr_info : (Try.prog.info? 45).map (fun i => (i.zero, i.size, i.bytes)) = some (some (.agg #[.string ⟨#[]⟩, .int .i64 0, .int .i64 0]), 3, 32) := by kernel_rfl
/-- The reference's table at block rt. -/
structure RefAt (w : World) (B rt : Nat) (v : Value) (len : Int) (l : List LR) : Prop where
  blk : Blk w rt [.int .i64 len, v] 37
  row : Recs w B 45 3 v (l.map lrC)
  lo : B ≤ rt
  ne : ∀ q, v.ownBlock = some q → q ≠ rt
theorem RefAt.fr {w w' : World} {B rt : Nat} {v : Value} {len : Int} {l : List LR} {S : Nat → Prop} (h : RefAt w B rt v len l) (hf : Fr w w' S) (h1 : ¬ S rt) (h2 : ∀ q, v.ownBlock = some q → ¬ S q) : RefAt w' B rt v len l :=
  ⟨h.blk.fr hf h1, h.row.fr hf h2, h.lo, h.ne⟩
theorem RefAt.frNone {w w' : World} {B rt : Nat} {v : Value} {len : Int} {l : List LR} (h : RefAt w B rt v len l) (hf : Fr w w' (fun _ => False)) : RefAt w' B rt v len l := h.fr hf (fun e => e) (fun _ _ e => e)
structure RefR (w : World) (rt : Nat) (v : Value) (w' : World) (v' : Value) : Prop where
  lies : ∀ q, v'.ownBlock = some q → v.ownBlock = some q ∨ w.heap.size ≤ q
  fr : Fr w w' (fun k => k = rt ∨ v.ownBlock = some k)
theorem RefR.trans {a c d : World} {b : Nat} {v v' v'' : Value} (h : RefR a b v c v') (k : RefR c b v' d v'') : RefR a b v d v'' := by
  refine ⟨fun q e => ?_, h.fr.trans k.fr ?_⟩
  · rcases k.lies q e with e | e
    · exact h.lies q e
    · exact .inr (Nat.le_trans h.fr.size e)
  · intro x hx hs
    rcases hs with rfl | e
    · exact .inl rfl
    · rcases h.lies x e with e | e
      · exact .inr e
      · omega
theorem RefR.of_fr {w w' : World} {b : Nat} {v : Value} (h : Fr w w' (fun _ => False)) : RefR w b v w' v := ⟨fun _ e => .inl e, h.mono fun _ _ e => e.elim⟩
def RefTo (w : World) (B rt : Nat) (v : Value) (len : Int) (l : List LR) (w' : World) : Prop := ∃ v', RefAt w' B rt v' len l ∧ RefR w rt v w' v'
theorem rclamp_c (n least : Int) (hl : least ≤ 1099511627776) (w : World) : Calls Try.prog 21 #[.int .i64 n, .int .i64 least] w fun e w' => e = .returned (.int .i64 (clamp n least)) ∧ w = w' := by
  rcases Int.lt_or_le n least with h | h
  · go_enter Try.func21, Try.ntmps21
    go_wp2_with fail
    all_goals (go_ret; exact ⟨ret_int (by unfold clamp; omega), rfl⟩)
  · by_cases h2 : 1099511627776 < n
    · go_enter Try.func21, Try.ntmps21
      go_wp2_with fail
      all_goals (go_ret; exact ⟨ret_int (by unfold clamp; omega), rfl⟩)
    · go_enter Try.func21, Try.ntmps21
      go_wp2_with fail
      all_goals (go_ret; exact ⟨ret_int (by unfold clamp; omega), rfl⟩)
/-- out takes the table's place -/
theorem RefAt.setL {w w' : World} {B rt : Nat} {v v' : Value} {len : Int} {l l' : List LR} (h : RefAt w B rt v len l) (hf : Fr w w' (fun _ => False)) (hO : w'.ownsRow w.heap.size 45 3 v' l'.length (l'.map lrC).flatten) :
    RefAt (w'.setCell ⟨rt, 1, none⟩ v') B rt v' len l' ∧ RefR w rt v (w'.setCell ⟨rt, 1, none⟩ v') v' := by
  have hlt := h.blk.lt
  have hne : ∀ q, v'.ownBlock = some q → q ≠ rt := fun q e => by have := (hO.lt q e).1; omega
  have hfb : Fr w' (w'.setCell ⟨rt, 1, none⟩ v') (fun j => j = rt) := by
    refine Fr.setCell (Fr.refl w' (fun j => j = rt)) ⟨rt, 1, none⟩ _ ?_
    intro _; rfl
  refine ⟨⟨(h.blk.fr hf (fun e => e)).set 1 v', ⟨?_, lrC_len _⟩, h.lo, hne⟩, ⟨?_, ?_⟩⟩
  · rw [List.length_map]
    exact own_mono (own_fr hO hfb (fun q e e2 => hne q e e2)) (Nat.le_trans h.lo (Nat.le_of_lt hlt))
  · exact fun q e => .inr (hO.lt q e).1
  · exact (hf.mono fun _ _ e => e.elim).trans (hfb.mono fun _ _ e => .inl e) fun _ _ e => e
theorem lrs_snoc {w : World} {base : Nat} {e : TypeId} {v : Value} {l : List LR} {x : LR} (h : w.ownsRow base e 3 v (l.length + 1) ((l.map lrC).flatten ++ lrC x)) : w.ownsRow base e 3 v (l ++ [x]).length (((l ++ [x]).map lrC).flatten) := by
  rw [List.length_append, List.map_append, List.flatten_append]
  simpa using h
theorem RefAt.at {w : World} {B rt : Nat} {v : Value} {len : Int} {l : List LR} (h : RefAt w B rt v len l) {i : Nat} {x : LR} (hx : l[i]? = some x) :
    ∃ g cap, v = .slice (some ⟨g, 0, none⟩) l.length cap ∧ g ≠ rt ∧ g < w.heap.size ∧ w.cell? ⟨g, i * 3, none⟩ = some (.string x.1) ∧ w.cell? ⟨g, i * 3 + 1, none⟩ = some (.int .i64 x.2.1) ∧ w.cell? ⟨g, i * 3 + 2, none⟩ = some (.int .i64 x.2.2) ∧ w.frozen? ⟨g, i * 3 + 2, none⟩ = false := by
  have hi := (List.getElem?_eq_some_iff.1 hx).1
  obtain ⟨g, cap, rfl, _, hlt, hc, hf⟩ := h.row.some (by rw [List.length_map]; omega)
  have hr : (l.map lrC)[i]? = some (lrC x) := by rw [List.getElem?_map, hx]; rfl
  refine ⟨g, cap, by rw [List.length_map], h.ne g rfl, hlt, hc i _ 0 _ hr rfl, hc i _ 1 _ hr rfl, hc i _ 2 _ hr rfl, hf _⟩
def lrNot (p : ByteArray) (e : LR) : Bool := e.1.toList != p.toList
set_option maxRecDepth 20000 in
set_option maxHeartbeats 4000000 in
theorem rdrop_c (B rt : Nat) (v : Value) (len : Int) (l : List LR) (p : ByteArray) (w : World) (h : RefAt w B rt v len l) (hn : l.length < 4000000000000) :
    Calls Try.prog 16 #[.pointer (some ⟨rt, 0, none⟩), .string p] w fun e w' => e = .returned (.tuple #[]) ∧ RefTo w B rt v len (l.filter (lrNot p)) w' := by
  have H := Lib.hid h
  have HN := Lib.hid hn
  clear h hn
  go_enter Try.func16, Try.ntmps16
  go_wp2_with fail
  go_loopg [4, 5] l.length (fun g v4 v5 wr => ∃ k : Nat, v5 = .int .i64 (k : Int) ∧ k + g = l.length ∧ Hid (wr.ownsRow w.heap.size 45 3 v4 ((l.take k).filter (lrNot p)).length (((l.take k).filter (lrNot p)).map lrC).flatten) ∧ Hid (Fr w wr (fun _ => False)))
  case atStart => exact ⟨0, rfl, by omega, Lib.hid (World.ownsRow_nil _ _ _ _), Lib.hid (Fr.refl _ _)⟩
  case round =>
    obtain ⟨k, rfl, hk, HO, HF⟩ := hrel
    have HK := Lib.hid hk
    have HA := Lib.hid (H.out.frNone HF.out)
    by_cases hlt : k < l.length
    · have t1 : decide ((k : Int) < (l.length : Int)) = true := decide_eq_true (by omega)
      have t1n : decide (k < l.length) = true := decide_eq_true hlt
      have HLT := Lib.hid hlt
      obtain ⟨x, hx⟩ : ∃ x, l[k]? = some x := ⟨l[k], List.getElem?_eq_getElem _⟩
      obtain ⟨g, cap, rfl, _, _, c0, c1, c2, _⟩ := HA.out.at hx
      have z1 : wr.cell? ⟨rt, 1, none⟩ = some (.slice (some ⟨g, 0, none⟩) l.length cap) := HA.out.blk.cell 1
      have ka : ((k : Int)).toNat = k := by omega
      have kp : (0 : Int) ≤ (k : Int) := by omega
      have kz : (k : Int) < (l.length : Int) := by omega
      have HTK : Hid ((l.take (k + 1)).filter (lrNot p) = (l.take k).filter (lrNot p) ++ (if lrNot p x = true then [x] else [])) := Lib.hid (by
        rw [List.take_add_one, hx, List.filter_append]
        congr 1
        cases hq : lrNot p x <;> simp [hq])
      have hml : ((l.take k).filter (lrNot p)).length ≤ l.length := Nat.le_trans (List.length_filter_le _ _) (by rw [List.length_take]; omega)
      have HML : Hid (((l.take k).filter (lrNot p)).length < 4000000000000) := Lib.hid (Nat.lt_of_le_of_lt hml HN.out)
      have kw : k + 1 < 4000000000001 := by have := HN.out; omega
      have hqd : (x.1.toList != p.toList) = lrNot p x := rfl
      have hqe : (x.1.toList == p.toList) = !lrNot p x := by unfold lrNot bne; simp
      generalize (l.take k).filter (lrNot p) = out at HO HML HTK ⊢
      clear hx hlt hk hml
      cases hq : lrNot p x with
      | true =>
        rw [hq] at hqd hqe HTK
        have hqp : ¬ x.1.toList = p.toList := by simpa using hqd
        have hqf : (x.1.toList == p.toList) = false := hqe
        clear hq hqe
        go_wp2_with (at_builtin; refine wpList_app rfl _ _ 35 rfl w.heap.size 45 _ 3 32 Try.underlying35 lr_info rfl (by decide) _ out.length _ rfl HO.out [.string x.1, .int .i64 x.2.1, .int .i64 x.2.2] _ 1 1 rfl rfl rfl (by have := HML.out; unfold maxLen; omega) (by have := HML.out; omega) HF.out.size ?_; intro v' w7 hO hG hN2)
        have hf7 : Fr wr w7 (fun j => w.heap.size ≤ j) := Fr.of_grown hG.out fun j e => (HO.out.lt j e).1
        have HF7 : Hid (Fr w w7 (fun _ => False)) := Lib.hid (HF.out.trans hf7 fun y hy e => by omega)
        clear kw hf7
        go_roundg (l.length - (k + 1))
        case measure => have := HK.out; have := HLT.out; omega
        case rel => exact ⟨k + 1, by first | rfl | go_num, by have := HK.out; have := HLT.out; omega, by rw [HTK.out]; exact Lib.hid (lrs_snoc hO.out), HF7⟩
      | false =>
        rw [hq] at hqd hqe HTK
        have hqf : (x.1.toList == p.toList) = true := hqe
        have hqp : x.1.toList = p.toList := by simpa using hqd
        clear hq hqe
        go_wp2_with fail
        clear kw
        go_roundg (l.length - (k + 1))
        case measure => have := HK.out; have := HLT.out; omega
        case rel => exact ⟨k + 1, by first | rfl | go_num, by have := HK.out; have := HLT.out; omega, by rw [HTK.out]; simpa using HO, HF⟩
    · have t1 : decide ((k : Int) < (l.length : Int)) = false := decide_eq_false (by omega)
      have t1n : decide (k < l.length) = false := decide_eq_false hlt
      have hfull : l.take k = l := List.take_of_length_le (by omega)
      rw [hfull] at HO
      obtain ⟨A, cc, rfl⟩ := H.out.row.slice
      rw [List.length_map] at HA H
      have z1 : wr.cell? ⟨rt, 1, none⟩ = some (.slice A l.length cc) := by
        have := HA.out.blk.cell 1
        simpa using this
      have f1 : wr.frozen? ⟨rt, 1, none⟩ = false := HA.out.blk.frozen 1
      obtain ⟨A4, c4, rfl⟩ := own_slice HO.out
      obtain ⟨h1, h2⟩ := H.out.setL HF.out HO.out
      have HP := Lib.hid (show RefTo w B rt (.slice A l.length cc) len (l.filter (lrNot p)) _ from ⟨_, h1, h2⟩)
      clear h1 h2 hlt hk hfull
      go_wp2_with fail
      go_end0
      rw [List.length_map]
      exact ⟨rfl, HP.out⟩
end Go.Proofs.Ytngpmlolpigeoaa
