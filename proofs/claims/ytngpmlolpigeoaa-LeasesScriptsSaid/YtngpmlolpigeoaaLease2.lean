/- leases: Renew. -/
import Derived.Test.YtngpmlolpigeoaaLease
namespace Go.Proofs.Ytngpmlolpigeoaa
open Go.RowKit Go.Maps
set_option linter.unusedVariables false
set_option linter.unusedSimpArgs false
def strs (l : List ByteArray) : List Value := l.map Value.string
theorem str_info : (Try.prog.info? 9).map (fun i => (i.zero, i.size, i.bytes)) = some (some (.string ⟨#[]⟩), 1, 16) := by kernel_rfl
theorem strs_snoc {w : World} {base : Nat} {e : TypeId} {v : Value} {l : List ByteArray} {x : ByteArray} (h : w.ownsRow base e 1 v (l.length + 1) (strs l ++ [.string x])) : w.ownsRow base e 1 v (l ++ [x]).length (strs (l ++ [x])) := by
  rw [List.length_append]
  simpa [strs] using h
theorem own_grown {w w' : World} {base : Nat} {e : TypeId} {size n : Nat} {v : Value} {xs : List Value} {row : Option Nat} (h : w.ownsRow base e size v n xs) (hg : w.grownBy w' row) (hne : ∀ q, row = some q → v.ownBlock ≠ some q) : w'.ownsRow base e size v n xs :=
  own_fr h (Fr.of_grown hg (S := fun q => row = some q) fun q e => e) fun q hq e => hne q e hq
/-- of these paths those that the client holds -/
def Le.isMine (T : Le.Tab) (c : Int) (x : ByteArray) : Bool := match T.g x with | some p => p.1 == c | none => false
def Le.Tab.renew (T : Le.Tab) (c h : Int) : Le.Tab := { T with g := fun x => if Le.isMine T c x = true then some (c, h) else T.g x }
theorem Le.ins_same {p : ByteArray} {L : List ByteArray} (h : p ∈ L) : Le.ins p L = L := by unfold Le.ins; rw [if_pos h]
def Le.puts (T : Le.Tab) (c h : Int) (l : List ByteArray) : Le.Tab := l.foldl (fun T p => T.put p c h) T
theorem Le.puts_len (c h : Int) : ∀ (l : List ByteArray) (T : Le.Tab), (Le.puts T c h l).len = T.len
  | [], _ => rfl
  | p :: l, T => (Le.puts_len c h l (T.put p c h)).trans rfl
theorem Le.puts_g (c h : Int) : ∀ (l : List ByteArray) (T : Le.Tab) (x : ByteArray), (Le.puts T c h l).g x = if x ∈ l then some (c, h) else T.g x
  | [], _, _ => by simp [Le.puts]
  | p :: l, T, x => by
    refine (Le.puts_g c h l (T.put p c h) x).trans ?_
    by_cases e : x ∈ l
    · simp [e]
    · by_cases e2 : x = p <;> simp [e, e2, Le.Tab.put]
theorem Le.puts_renew (T : Le.Tab) (c h : Int) (l : List ByteArray) (hl : ∀ x ∈ l, Le.isMine T c x = true) (hl2 : ∀ x, Le.isMine T c x = true → x ∈ l) : Le.puts T c h l = T.renew c h := by
  have e1 := Le.puts_len c h l T
  have e2 : (Le.puts T c h l).g = (T.renew c h).g := by
    funext x
    rw [Le.puts_g]
    unfold Le.Tab.renew
    by_cases e : x ∈ l
    · simp [e, hl x e]
    · have : Le.isMine T c x = false := by
        cases hh : Le.isMine T c x
        · rfl
        · exact absurd (hl2 x hh) e
      simp [e, this]
  cases h1 : Le.puts T c h l
  rw [h1] at e1 e2
  cases e1
  cases e2
  rfl
theorem Le.isMine_some {T : Le.Tab} {c : Int} {x : ByteArray} (h : Le.isMine T c x = true) : (T.g x).isSome = true := by
  unfold Le.isMine at h
  cases e : T.g x with
  | none => rw [e] at h; cases h
  | some p => rfl
theorem nodup_filter_len {α : Type} [DecidableEq α] {l m : List α} (h : l.Nodup) (hs : ∀ x ∈ l, x ∈ m) (p : α → Bool) : (l.filter p).length ≤ m.length :=
  Nat.le_trans (List.length_filter_le _ _) (nodup_sub_length l m h hs)
theorem TabAt.isMine_mem {w : World} {t m : Nat} {L : List ByteArray} {T : Le.Tab} (h : TabAt w t m L T) {c : Int} {x : ByteArray} (hx : Le.isMine T c x = true) : x ∈ L := h.cov x (Le.isMine_some hx)
theorem MapR.doneIn {w : World} {b r n : Nat} {T : Le.Tab} {done : List ByteArray} (h : MapR w Le.key b r n (Le.view T) done) : done.Nodup ∧ ∀ x ∈ done, (T.g x).isSome = true := by
  obtain ⟨_, _, _, _, _, _, h1, h2⟩ := h
  exact ⟨h1, fun x hx => by simpa [Le.view] using (h2 x hx).2⟩
set_option maxRecDepth 20000 in
set_option maxHeartbeats 4000000 in
theorem renew_c (t m : Nat) (L : List ByteArray) (T : Le.Tab) (c now : Int) (w : World) (h : TabAt w t m L T) (hn : L.length < 8796093022208) :
    Calls Try.prog 10 #[.pointer (some ⟨t, 0, none⟩), .int .i64 c, .int .i64 now] w fun e w' => e = .returned (.tuple #[]) ∧ TabTo w t m L (T.renew c (clamp now 0)) w' := by
  have c1 : w.cell? ⟨t, 1, none⟩ = some (.map (some m)) := h.blk.cell 1
  have H := Lib.hid h
  have HN := Lib.hid hn
  have HT := Lib.hid h.blk.lt
  have HM := Lib.hid h.map.lt
  clear h hn
  go_enter Try.func10, Try.ntmps10
  go_wp2_with (first
    | (at_range; refine wpList_rangeM _ rfl _ 53 rfl 57 Try.underlying53 m L.length (Le.view T) rfl H.out.map ?_; intro w0 HR0 HF0 hs0)
    | go_in)
  go_frame
  clear c1
  generalize hr : w.heap.size = r at HR0 HT HM ⊢
  have HRS : Hid (r < w0.heap.size) := Lib.hid (by omega)
  go_loopg [6, 7, 8] (w0.rangeLeft m r) (fun gg v6 v7 v8 wr => ∃ done : List ByteArray, gg = wr.rangeLeft m r ∧ Hid (MapR wr Le.key m r L.length (Le.view T) done) ∧ Hid (wr.ownsRow r 9 1 v6 (done.filter (Le.isMine T c)).length (strs (done.filter (Le.isMine T c)))) ∧ Hid (∀ q, v6.ownBlock = some q → q ≠ r) ∧ Hid (Fr w wr (fun _ => False)) ∧ Hid (r < wr.heap.size))
  case atStart => exact ⟨[], rfl, HR0, Lib.hid (World.ownsRow_nil _ _ _ _), Lib.hid (fun q e => by cases e), HF0, HRS⟩
  case round =>
    obtain ⟨done, hgg, HR, HO, HQ, HF, HS⟩ := hrel
    have HG := Lib.hid hgg
    clear hgg
    go_wp2_with (first
      | (at_next; refine wpList_nextM _ rfl _ rfl Le.inv m r L.length (Le.view T) done rfl HR.out ?_ ?_)
      | go_in)
    · intro hall
      have hall2 : ∀ x, Le.isMine T c x = true → x ∈ done.filter (Le.isMine T c) := fun x hx => List.mem_filter.2 ⟨hall x (H.out.ok x (H.out.isMine_mem hx)) (by simpa [Le.view] using Le.isMine_some hx), hx⟩
      have hall3 : ∀ x ∈ done.filter (Le.isMine T c), Le.isMine T c x = true := fun x hx => (List.mem_filter.1 hx).2
      have hml : (done.filter (Le.isMine T c)).length ≤ L.length := nodup_filter_len HR.out.doneIn.1 (fun x hx => H.out.cov x (HR.out.doneIn.2 x hx)) _
      obtain ⟨A, cc, rfl⟩ := own_slice HO.out
      generalize done.filter (Le.isMine T c) = mine at HO hall2 hall3 hml ⊢
      have HA2 := Lib.hid hall2
      have HA3 := Lib.hid hall3
      have HML := Lib.hid hml
      have HTR : Hid (TabAt wr t m L T) := Lib.hid (H.out.fr HF.out (fun e => e) (fun e => e))
      clear hall hall2 hall3 hml HR HG HF0 HR0 HRS
      go_wp2_with fail
      go_loopg [10, 33] mine.length (fun gg v10 v33 wt => ∃ k : Nat, v33 = .int .i64 (k : Int) ∧ k + gg = mine.length ∧ Hid (TabAt wt t m L (Le.puts T c (clamp now 0) (mine.take k))) ∧ Hid (wt.ownsRow r 9 1 (.slice A mine.length cc) mine.length (strs mine)) ∧ Hid (Fr w wt (fun j => j = m)))
      case atStart => exact ⟨0, rfl, by omega, HTR, HO, Lib.hid (HF.out.mono fun _ _ e => e.elim)⟩
      case round =>
        obtain ⟨k, rfl, hk, HTK, HOK, HFK⟩ := hrel
        have HG := Lib.hid hk
        by_cases hlt : k < mine.length
        · have t1 : decide ((k : Int) < (mine.length : Int)) = true := decide_eq_true (by omega)
          have t1n : decide (k < mine.length) = true := decide_eq_true hlt
          obtain ⟨x, hx⟩ : ∃ x, mine[k]? = some x := ⟨mine[k]'hlt, List.getElem?_eq_getElem _⟩
          obtain ⟨gb, cp, he, hgb, hgl, hC⟩ := own_some HOK.out (by omega)
          cases he
          have c0 : World.cell? _ ⟨gb, k, none⟩ = some (.string x) := (hC.get (j := k) (by simp [strs, hx])).1
          have ka : ((k : Int)).toNat = k := by omega
          have kp : (0 : Int) ≤ (k : Int) := by omega
          have kz : (k : Int) < (mine.length : Int) := by omega
          have hxm := HA3.out x (List.mem_of_getElem? hx)
          have hgr := grant_c t m L (Le.puts T c (clamp now 0) (mine.take k)) x (H.out.ok x (H.out.isMine_mem hxm)) c now _ HTK.out (by have := HN.out; unfold maxLen; omega)
          rw [Le.ins_same (H.out.isMine_mem hxm)] at hgr
          have HGR := Lib.hid hgr
          have hpt : Le.puts T c (clamp now 0) (mine.take (k + 1)) = (Le.puts T c (clamp now 0) (mine.take k)).put x c (clamp now 0) := by
            unfold Le.puts
            rw [List.take_add_one, hx]
            simp [List.foldl_append]
          have HPT := Lib.hid hpt
          have HNE : Hid (∀ q, (Value.slice (some ⟨gb, 0, none⟩) mine.length cc).ownBlock = some q → ¬ q = m) := Lib.hid fun q e e2 => by
            have := (HOK.out.lt q e).1
            have := HM.out
            omega
          have K1 : Hid (k + 1 < 8796093022208) := Lib.hid (by have := HN.out; have := HML.out; omega)
          clear hC hxm hgr hx hk hpt hlt
          go_wp2_with fail
          refine HGR.out.mono ?_
          rintro _ w5 ⟨rfl, h5, f5⟩
          have H5 := Lib.hid h5
          have F5 := Lib.hid (HFK.out.trans f5 fun _ _ e => e)
          have O5 := Lib.hid (own_fr HOK.out f5 HNE.out)
          clear h5 f5
          have kw := K1.out
          go_wp2_with fail
          clear kw
          go_roundg (mine.length - (k + 1))
          case measure => have := HG.out; omega
          case rel => exact ⟨k + 1, by first | rfl | go_num, by have := HG.out; omega, by rw [HPT.out]; exact H5, O5, F5⟩
        · have t1 : decide ((k : Int) < (mine.length : Int)) = false := decide_eq_false (by omega)
          have t1n : decide (k < mine.length) = false := decide_eq_false hlt
          have hke : mine.take k = mine := List.take_of_length_le (by omega)
          have HF2 : Hid (TabAt _ t m L (T.renew c (clamp now 0))) := Lib.hid (by
            have := HTK.out
            rw [hke, Le.puts_renew T c _ mine HA3.out HA2.out] at this
            exact this)
          clear hke hk hlt
          go_wp2_with fail
          go_end0
          exact ⟨rfl, HF2.out, HFK.out⟩
    · intro x v w1 hx hg hnd HR1 HLT HF1 hsz hen
      obtain ⟨q, hT, rfl⟩ : ∃ q : Int × Int, T.g x = some q ∧ v = .agg #[.int .i64 q.1, .int .i64 q.2] := by
        unfold Le.view at hg
        cases h1 : T.g x with
        | none => rw [h1] at hg; cases hg
        | some q => rw [h1] at hg; exact ⟨q, rfl, (Option.some.inj hg).symm⟩
      obtain ⟨cq, hq⟩ := q
      dsimp only at *
      have hen2 : (Instr.entry (.pointer (some ⟨r, 0, none⟩))).run Try.prog w1 = .ok (.tuple #[.string x, .agg #[.int .i64 cq, .int .i64 hq]]) w1 := hen
      have hkv : Le.key.kv x = .string x := rfl
      have hr1 : decide (r < w1.heap.size) = true := decide_eq_true (by rw [hsz]; exact HS.out)
      clear hen hg hnd
      go_upto_region 5 with (fail)
      have hal := (Fr.refl w1 (fun j => j = r)).alloc (.cells ([.int .i64 cq, .int .i64 hq] : List Value).toArray 57)
      have hF2 : Fr wr (w1.alloc (.cells ([.int .i64 cq, .int .i64 hq] : List Value).toArray 57)) (fun j => j = r) := HF1.out.trans hal fun _ _ e => e
      have HF2 := Lib.hid hF2
      have HR2 := Lib.hid (HR1.out.fr ((Fr.refl w1 (fun _ => False)).alloc (.cells ([.int .i64 cq, .int .i64 hq] : List Value).toArray 57)) (fun e => e) (fun e => e))
      have HL2 : Hid ((w1.alloc (.cells ([.int .i64 cq, .int .i64 hq] : List Value).toArray 57)).rangeLeft m r < gk) := Lib.hid (by
        rw [rangeLeft_fr ((Fr.refl w1 (fun _ => False)).alloc _) (fun e => e) (fun e => e) HR1.out.lt.1 HR1.out.lt.2.1, HG.out]
        exact HLT.out)
      have HO2 := Lib.hid (own_fr HO.out hF2 fun q e e2 => HQ.out q e e2)
      have HS2 : Hid (r < (w1.alloc (.cells ([.int .i64 cq, .int .i64 hq] : List Value).toArray 57)).heap.size) := Lib.hid (Nat.lt_of_lt_of_le HS.out hF2.size)
      have d0 : (w1.alloc (.cells ([.int .i64 cq, .int .i64 hq] : List Value).toArray 57)).cell? ⟨wr.heap.size, 0, none⟩ = some (.int .i64 cq) := by
        have := (Blk.new w1 [.int .i64 cq, .int .i64 hq] 57).cell 0
        rw [hsz] at this
        exact this
      have HFR : Hid (Fr w (w1.alloc (.cells ([.int .i64 cq, .int .i64 hq] : List Value).toArray 57)) (fun _ => False)) := Lib.hid (HF.out.trans hF2 fun y hy e => by have : y = r := e; omega)
      have hml : (done.filter (Le.isMine T c)).length ≤ L.length := nodup_filter_len HR.out.doneIn.1 (fun y hy => H.out.cov y (HR.out.doneIn.2 y hy)) _
      have HML : Hid ((done.filter (Le.isMine T c)).length < 8796093022208) := Lib.hid (Nat.lt_of_le_of_lt hml HN.out)
      change Code.wp _ _ _ _ (w1.alloc (.cells ([.int .i64 cq, .int .i64 hq] : List Value).toArray 57))
      clear hal hF2 HF1 HR HR1 HLT HO HF HF0 HR0 hen2 hr1 hsz hml
      generalize w1.alloc (.cells ([.int .i64 cq, .int .i64 hq] : List Value).toArray 57) = w2 at HF2 HR2 HL2 HO2 HS2 d0 HFR ⊢
      by_cases he : cq = c
      · have e1 : (cq == c) = true := by rw [he]; exact beq_self_eq_true _
        have hmi : Le.isMine T c x = true := by unfold Le.isMine; rw [hT]; exact e1
        have hfi : (done ++ [x]).filter (Le.isMine T c) = done.filter (Le.isMine T c) ++ [x] := by rw [List.filter_append]; simp [hmi]
        have HFI := Lib.hid hfi
        clear he hfi hT hmi
        generalize done.filter (Le.isMine T c) = mine at HO2 HML HFI ⊢
        go_wp2_with (at_builtin; refine wpList_app rfl _ _ 22 rfl r 9 _ 1 16 Try.underlying22 str_info rfl (by decide) _ mine.length _ rfl HO2.out _ _ 1 1 rfl rfl rfl (by have := HML.out; unfold maxLen; omega) (by have := HML.out; omega) (Nat.le_of_lt HS2.out) ?_; intro v' w7 hO hG hN)
        have hf7 := Fr.of_grown hG.out (S := fun j => some j = u6.ownBlock) fun j e => e.symm
        have hnr : ¬ some r = u6.ownBlock := fun e => HQ.out r e.symm rfl
        have hnm : ¬ some m = u6.ownBlock := fun e => by
          have := (HO2.out.lt m e.symm).1
          have := HM.out
          omega
        have HR7 := Lib.hid (HR2.out.fr hf7 hnm hnr)
        have HL7 : Hid (w7.rangeLeft m r < gk) := Lib.hid (by
          rw [rangeLeft_fr hf7 hnm hnr HR2.out.lt.1 HR2.out.lt.2.1]
          exact HL2.out)
        have HQ7 : Hid (∀ q, v'.ownBlock = some q → q ≠ r) := Lib.hid fun q hq e => by
          rcases hN.out with h | ⟨g, h, hg⟩
          · exact HQ.out q (h ▸ hq) e
          · rw [h] at hq
            have := Option.some.inj hq
            have := HS2.out
            omega
        have HF7 : Hid (Fr w w7 (fun _ => False)) := Lib.hid (HFR.out.trans hf7 fun y hy e => by
          have := (HO2.out.lt y (show _ = some y from Eq.symm e)).1
          omega)
        have HS7 : Hid (r < w7.heap.size) := Lib.hid (Nat.lt_of_lt_of_le HS2.out hf7.size)
        clear hf7 hnr hnm
        go_roundg (w7.rangeLeft m r)
        case measure => exact HL7.out
        case rel => exact ⟨done ++ [x], rfl, HR7, by rw [HFI.out]; exact Lib.hid (strs_snoc hO.out), HQ7, HF7, HS7⟩
      · have e1 : (cq == c) = false := beq_eq_false_iff_ne.2 he
        have hmi : Le.isMine T c x = false := by unfold Le.isMine; rw [hT]; exact e1
        have hfi : (done ++ [x]).filter (Le.isMine T c) = done.filter (Le.isMine T c) := by rw [List.filter_append]; simp [hmi]
        have HFI := Lib.hid hfi
        clear he hfi hT hmi
        go_wp2_with fail
        go_roundg (w2.rangeLeft m r)
        case measure => exact HL2.out
        case rel => exact ⟨done ++ [x], rfl, HR2, by rw [HFI.out]; exact HO2, HQ, HFR, HS2⟩
end Go.Proofs.Ytngpmlolpigeoaa
