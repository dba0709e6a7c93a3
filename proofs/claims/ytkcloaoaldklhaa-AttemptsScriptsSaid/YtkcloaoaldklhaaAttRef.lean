/- attempts: the reference's board: New, Winner, may, Dead, Finished. (Under way.) -/
import Derived.Test.YtkcloaoaldklhaaBoardLaw
namespace Ar
structure Try where
  task : Int
  num : Int
  node : Int
  begun : Int
  state : Int
  win : Bool
structure Bd where
  maps : Nat
  reds : Nat
  limit : Int
  patience : Int
  l : List Try
def new (maps reduces limit patience : Int) : Bd := ⟨(At.clamp maps 0 4096).toNat, (At.clamp reduces 0 4096).toNat, max limit 1, At.clamp patience 1 1099511627776, []⟩
def hit (t : Int) (x : Try) : Bool := decide (x.task = t) && x.win
/-- the place of the first that hits, -1 -/
def idx (f : Try → Bool) (l : List Try) : Int := match l.findIdx? f with
  | some i => (i : Int)
  | none => -1
def won (S : Bd) (t : Int) : Bool := S.l.any (hit t)
def may (S : Bd) (t : Int) : Bool := !won S t && (decide (t < (S.maps : Int)) || (List.range S.maps).all fun i => won S (i : Int))
def isFull (t : Int) (x : Try) : Bool := decide (x.task = t) && decide (x.state = 3)
def dead (S : Bd) : Bool := (List.range (S.maps + S.reds)).any fun t => decide (S.limit ≤ (S.l.countP (isFull (t : Int)) : Int))
def fin (S : Bd) : Bool := (List.range S.reds).all fun i => won S ((S.maps + i : Nat) : Int)
theorem idx_at {f : Try → Bool} {l : List Try} {k : Nat} {x : Try} (h : ∀ j y, j < k → l[j]? = some y → f y = false) (hx : l[k]? = some x) (hf : f x = true) : l.findIdx? f = some k := by
  obtain ⟨hk, rfl⟩ := List.getElem?_eq_some_iff.1 hx
  rw [List.findIdx?_eq_some_iff_getElem]
  refine ⟨hk, hf, fun j hj => ?_⟩
  rw [h j _ hj (List.getElem?_eq_getElem _)]
  exact Bool.false_ne_true
theorem idx_none {f : Try → Bool} {l : List Try} (h : ∀ j y, j < l.length → l[j]? = some y → f y = false) : l.findIdx? f = none := by
  rw [List.findIdx?_eq_none_iff]
  intro x hx
  obtain ⟨j, hj⟩ := List.mem_iff_getElem?.1 hx
  exact h j x (List.getElem?_eq_some_iff.1 hj).1 hj
theorem idx_any (f : Try → Bool) (l : List Try) : decide (0 ≤ idx f l) = l.any f := by
  unfold idx
  cases h : l.findIdx? f with
  | none =>
    rw [List.findIdx?_eq_none_iff] at h
    symm
    rw [List.any_eq_false.2 fun x hx => by rw [h x hx]; exact Bool.false_ne_true]
    rfl
  | some i =>
    rw [List.findIdx?_eq_some_iff_getElem] at h
    obtain ⟨hi, hf, _⟩ := h
    symm
    rw [List.any_eq_true.2 ⟨l[i], List.getElem_mem hi, hf⟩]
    exact (decide_eq_true (Int.natCast_nonneg i)).symm
theorem idx_neg (f : Try → Bool) (l : List Try) : decide (idx f l < 0) = !l.any f := by
  rw [← idx_any]
  by_cases h : 0 ≤ idx f l
  · rw [decide_eq_true h, decide_eq_false (by omega)]; rfl
  · rw [decide_eq_false h, decide_eq_true (by omega)]; rfl
end Ar
namespace Go.Proofs.Ytkcloaoaldklhaa
open Go.RowKit
set_option linter.unusedVariables false
set_option linter.unusedSimpArgs false
def rtryC (x : Ar.Try) : List Value := [.int .i64 x.task, .int .i64 x.num, .int .i64 x.node, .int .i64 x.begun, .int .i64 x.state, .bool x.win]
theorem rtryC_len (l : List Ar.Try) : ∀ r ∈ l.map rtryC, r.length = 6 := fun r hr => by obtain ⟨e, _, rfl⟩ := List.mem_map.1 hr; rfl
theorem rtry_info : (Try.prog.info? 48).map (fun i => (i.zero, i.size, i.bytes)) = some (some (.agg #[.int .i64 0, .int .i64 0, .int .i64 0, .int .i64 0, .int .i64 0, .bool false]), 6, 48) := by kernel_rfl
/-- The reference's board at block rt; its attempts in row v. -/
structure RefAt (w : World) (B rt : Nat) (v : Value) (S : Ar.Bd) : Prop where
  blk : Blk w rt [.int .i64 (S.maps : Int), .int .i64 (S.reds : Int), .int .i64 S.limit, .int .i64 S.patience, v] 51
  row : Recs w B 48 6 v (S.l.map rtryC)
  lo : B ≤ rt
  ne : ∀ q, v.ownBlock = some q → q ≠ rt
theorem RefAt.fr {w w' : World} {B rt : Nat} {v : Value} {S : Ar.Bd} {P : Nat → Prop} (h : RefAt w B rt v S) (hf : Fr w w' P) (h1 : ¬ P rt) (h2 : ∀ q, v.ownBlock = some q → ¬ P q) : RefAt w' B rt v S :=
  ⟨h.blk.fr hf h1, h.row.fr hf h2, h.lo, h.ne⟩
theorem RefAt.frNone {w w' : World} {B rt : Nat} {v : Value} {S : Ar.Bd} (h : RefAt w B rt v S) (hf : Fr w w' (fun _ => False)) : RefAt w' B rt v S := h.fr hf (fun e => e) (fun _ _ e => e)
theorem RefAt.slice {w : World} {B rt : Nat} {v : Value} {S : Ar.Bd} (h : RefAt w B rt v S) : ∃ A cap, v = .slice A S.l.length cap := by
  obtain ⟨A, c, e⟩ := h.row.slice
  rw [List.length_map] at e
  exact ⟨A, c, e⟩
theorem RefAt.at {w : World} {B rt : Nat} {v : Value} {S : Ar.Bd} (h : RefAt w B rt v S) {i : Nat} {x : Ar.Try} (hx : S.l[i]? = some x) :
    ∃ g cap, v = .slice (some ⟨g, 0, none⟩) S.l.length cap ∧ g ≠ rt ∧ g < w.heap.size ∧ (w.cell? ⟨g, i * 6, none⟩ = some (.int .i64 x.task) ∧ w.cell? ⟨g, i * 6 + 1, none⟩ = some (.int .i64 x.num) ∧ w.cell? ⟨g, i * 6 + 2, none⟩ = some (.int .i64 x.node) ∧ w.cell? ⟨g, i * 6 + 3, none⟩ = some (.int .i64 x.begun) ∧ w.cell? ⟨g, i * 6 + 4, none⟩ = some (.int .i64 x.state) ∧ w.cell? ⟨g, i * 6 + 5, none⟩ = some (.bool x.win)) ∧ ∀ j, w.frozen? ⟨g, j, none⟩ = false := by
  have hi := (List.getElem?_eq_some_iff.1 hx).1
  obtain ⟨g, cap, rfl, _, hlt, hc, hf⟩ := h.row.some (by rw [List.length_map]; omega)
  have hr : (S.l.map rtryC)[i]? = some (rtryC x) := by rw [List.getElem?_map, hx]; rfl
  exact ⟨g, cap, by rw [List.length_map], h.ne g rfl, hlt, ⟨hc i _ 0 _ hr rfl, hc i _ 1 _ hr rfl, hc i _ 2 _ hr rfl, hc i _ 3 _ hr rfl, hc i _ 4 _ hr rfl, hc i _ 5 _ hr rfl⟩, hf⟩
theorem frNone_below {w w' : World} {B : Nat} (h : Fr w w' (fun _ => False)) (hs : B ≤ w.heap.size) : Below B w w' := h.below (fun _ _ e => e.elim) hs
set_option maxHeartbeats 1000000 in
theorem rclamp_c (n least most : Int) (hlm : least ≤ most) (w : World) : Calls Try.prog 31 #[.int .i64 n, .int .i64 least, .int .i64 most] w fun e w' => e = .returned (.int .i64 (At.clamp n least most)) ∧ w = w' := by
  have H := Lib.hid hlm
  clear hlm
  go_enter Try.func31, Try.ntmps31
  go_wp2
  all_goals
    go_ret
    refine ⟨ret_int ?_, rfl⟩
    have := H.out
    unfold At.clamp
    omega
set_option maxRecDepth 20000 in
set_option maxHeartbeats 4000000 in
theorem rwin_c (B rt : Nat) (v : Value) (S : Ar.Bd) (t : Int) (w : World) (h : RefAt w B rt v S) (hn : S.l.length < 4000000000000) :
    Calls Try.prog 22 #[.pointer (some ⟨rt, 0, none⟩), .int .i64 t] w fun e w' => e = .returned (.int .i64 (Ar.idx (Ar.hit t) S.l)) ∧ w = w' := by
  have H := Lib.hid h
  have HN := Lib.hid hn
  obtain ⟨A0, cA, hv0⟩ := h.slice
  have HV := Lib.hid hv0
  clear h hn hv0
  go_enter Try.func22, Try.ntmps22
  go_wp2_with fail
  go_loopg [5] S.l.length (fun g v5 wr => ∃ k : Nat, v5 = .int .i64 (k : Int) ∧ k + g = S.l.length ∧ Hid (∀ j y, j < k → S.l[j]? = some y → Ar.hit t y = false) ∧ w = wr)
  case atStart => exact ⟨0, rfl, by omega, Lib.hid fun j y hj => by omega, rfl⟩
  case round =>
    obtain ⟨k, rfl, hk, HB, rfl⟩ := hrel
    have HK := Lib.hid hk
    by_cases hlt : k < S.l.length
    · have t1 : decide ((k : Int) < (S.l.length : Int)) = true := decide_eq_true (by omega)
      have t1n : decide (k < S.l.length) = true := decide_eq_true hlt
      have HLT := Lib.hid hlt
      obtain ⟨x, hx⟩ : ∃ x, S.l[k]? = some x := ⟨S.l[k], List.getElem?_eq_getElem _⟩
      obtain ⟨g, cap, rfl, _, _, ⟨c0, c1, c2, c3, c4, c5⟩, _⟩ := H.out.at hx
      have z1 : w.cell? ⟨rt, 4, none⟩ = some (.slice (some ⟨g, 0, none⟩) S.l.length cap) := H.out.blk.cell 4
      have ka : ((k : Int)).toNat = k := by omega
      have kp : (0 : Int) ≤ (k : Int) := by omega
      have kz : (k : Int) < (S.l.length : Int) := by omega
      have kw : k + 1 < 4000000000001 := by have := HN.out; omega
      cases hq : Ar.hit t x with
      | true =>
        have HI : Hid (Ar.idx (Ar.hit t) S.l = (k : Int)) := Lib.hid (by
          unfold Ar.idx
          rw [Ar.idx_at HB.out hx hq])
        unfold Ar.hit at hq
        rw [Bool.and_eq_true] at hq
        have q1 : (x.task == t) = true := by rw [of_decide_eq_true hq.1]; simp
        have q2 : x.task = t := of_decide_eq_true hq.1
        have q3 : x.win = true := hq.2
        clear hq hx hlt hk HB
        generalize x.task = xt at *
        subst q2
        go_wp2_with fail
        go_ret
        exact ⟨ret_int HI.out.symm, rfl⟩
      | false =>
        have HB2 : Hid (∀ j y, j < k + 1 → S.l[j]? = some y → Ar.hit t y = false) := Lib.hid fun j y hj hy => by
          by_cases e : j = k
          · subst e; rw [hx] at hy; cases hy; exact hq
          · exact HB.out j y (by omega) hy
        clear hx hlt hk HB
        by_cases ht : x.task = t
        · have q1 : (x.task == t) = true := by rw [ht]; simp
          have q3 : x.win = false := by unfold Ar.hit at hq; rw [decide_eq_true ht] at hq; exact hq
          clear hq
          generalize x.task = xt at *
          subst ht
          go_wp2_with fail
          clear kw
          go_roundg (S.l.length - (k + 1))
          case measure => have := HK.out; have := HLT.out; omega
          case rel => exact ⟨k + 1, by first | rfl | go_num, by have := HK.out; have := HLT.out; omega, HB2, rfl⟩
        · have q1 : (x.task == t) = false := beq_eq_false_iff_ne.2 ht
          clear hq ht
          go_wp2_with fail
          clear kw
          go_roundg (S.l.length - (k + 1))
          case measure => have := HK.out; have := HLT.out; omega
          case rel => exact ⟨k + 1, by first | rfl | go_num, by have := HK.out; have := HLT.out; omega, HB2, rfl⟩
    · have t1 : decide ((k : Int) < (S.l.length : Int)) = false := decide_eq_false (by omega)
      have t1n : decide (k < S.l.length) = false := decide_eq_false hlt
      have HI : Hid (Ar.idx (Ar.hit t) S.l = -1) := Lib.hid (by
        unfold Ar.idx
        rw [Ar.idx_none fun j y hj hy => HB.out j y (by omega) hy])
      have z1 : w.cell? ⟨rt, 4, none⟩ = some (.slice A0 S.l.length cA) := by rw [← HV.out]; exact H.out.blk.cell 4
      clear hlt hk HB
      go_wp2_with fail
      go_ret
      exact ⟨ret_int HI.out.symm, rfl⟩
end Go.Proofs.Ytkcloaoaldklhaa
