/- where.least, where.Spread$1. -/
import Derived.Test.YtgblbhbmeflckaaPSpread
import Derived.Test.YtgblbhbmeflckaaRNear
namespace Go.Proofs.Ytgblbhbmeflckaa
open Go.RowKit Go.Lib St Fl
set_option linter.unusedVariables false
set_option linter.unusedSimpArgs false
/-- how far the places i and j of a list are apart -/
noncomputable def dA (re im : Nat → Nat) (i j : Nat) : Int := distI (pl (re i)) (pl (im i)) (pl (re j)) (pl (im j))
/-- the numbers that a slice holds -/
structure NatsAt (w : World) (p : Option Addr) (n : Nat) (l : List Nat) : Prop where
  len : l.length = n
  at' : ∀ (k j : Nat), l[k]? = some j → ∃ g, p = some ⟨g, 0, none⟩ ∧ g < w.heap.size ∧ w.cell? ⟨g, k, none⟩ = some (.int .i64 (j : Int))
theorem NatsAt.below {w w' : World} {p : Option Addr} {n N : Nat} {l : List Nat} (h : NatsAt w p n l) (hb : Below N w w') (hN : w.heap.size ≤ N) : NatsAt w' p n l :=
  ⟨h.len, fun k j hk => by
    obtain ⟨g, e, hl, hc⟩ := h.at' k j hk
    exact ⟨g, e, Nat.lt_of_lt_of_le hl hb.size, (hb.cell (p := ⟨g, k, none⟩) (Nat.lt_of_lt_of_le hl hN)).trans hc⟩⟩
theorem drewN_more {w wr : World} (h : ∃ q, wr = w.drewN q) (n : Nat) : ∃ q, wr.drewN n = w.drewN q := by
  obtain ⟨q, rfl⟩ := h
  exact ⟨q + n, by simp [World.drewN, Nat.add_assoc]⟩
theorem dA_bd (re im : Nat → Nat) (i j : Nat) : -1 ≤ dA re im i j ∧ dA re im i j ≤ 8000000 := ⟨distI_lo _ _ _ _, distI_hi _ _ _ _⟩
set_option maxHeartbeats 4000000 in
set_option maxRecDepth 20000 in
theorem least_c (lb n cap : Nat) (re im : Nat → Nat) (i : Nat) (hi : i < n) (so : Option Addr) (m sc : Nat) (out : List Nat) (w : World) (hl : ∀ i, i < n → w.cell? ⟨lb, i, none⟩ = some (.complex .f64 (re i) (im i))) (hsz : n < 35184372088832) (ho : NatsAt w so m out) (hon : ∀ j ∈ out, j < n) (hm : m ≤ 35184372088832) :
    Calls Try.prog 35 #[.slice (some ⟨lb, 0, none⟩) n cap, .int .i64 (i : Int), .slice so m sc] w fun e w' => e = .returned (.int .i64 (leastP (out.map (dA re im i)))) ∧ ∃ q, w' = w.drewN q := by
  have HO := Lib.hid ho
  have HON := Lib.hid hon
  have HL := Lib.hid hl
  have HI := Lib.hid hi
  have HM := Lib.hid hm
  have HSZ := Lib.hid hsz
  clear ho hon hl hi hm hsz
  go_enter Try.func35, Try.ntmps35
  go_wp2_with fail
  go_loopg [7, 13] m (fun g ov kv wr => ∃ k : Nat, kv = .int .i64 (k : Int) ∧ k + g = m ∧ ov = .int .i64 (leastP ((out.take k).map (dA re im i))) ∧ ∃ q, wr = w.drewN q)
  case atStart => exact ⟨0, rfl, by omega, rfl, 0, rfl⟩
  case round =>
    obtain ⟨k, rfl, hk, rfl, q, hwq⟩ := hrel
    have HQ : Hid (∃ q, wr = w.drewN q) := Lib.hid ⟨q, hwq⟩
    have HK := Lib.hid hk
    by_cases hlt : k < m
    · have t1 : decide ((k : Int) < (m : Int)) = true := decide_eq_true (by omega)
      have t1n : decide (k < m) = true := decide_eq_true hlt
      have HLT := Lib.hid hlt
      obtain ⟨j, hj⟩ : ∃ j, out[k]? = some j := ⟨out[k]'(by rw [HO.out.len]; exact hlt), List.getElem?_eq_getElem _⟩
      have hjn := HON.out j (List.mem_of_getElem? hj)
      obtain ⟨g, rfl, hg, hcell⟩ := HO.out.at' k j hj
      have hin := HI.out
      have k0 : ∀ d, (wr.drewN d).cell? ⟨g, k, none⟩ = some (.int .i64 (j : Int)) := fun d => by rw [hwq]; exact hcell
      have k9 : wr.cell? ⟨g, k, none⟩ = some (.int .i64 (j : Int)) := by rw [hwq]; exact hcell
      have k1 : ∀ d, (wr.drewN d).cell? ⟨lb, i, none⟩ = some (.complex .f64 (re i) (im i)) := fun d => by rw [hwq]; exact HL.out i hin
      have k2 : ∀ d, (wr.drewN d).cell? ⟨lb, j, none⟩ = some (.complex .f64 (re j) (im j)) := fun d => by rw [hwq]; exact HL.out j hjn
      have hsn := leastP_snoc ((out.take k).map (dA re im i)) (dA re im i j)
      have htk : (out.take k).map (dA re im i) ++ [dA re im i j] = (out.take (k + 1)).map (dA re im i) := by rw [List.take_add_one, hj, List.map_append]; rfl
      rw [htk] at hsn
      have hnil : (out.take k).map (dA re im i) = [] ↔ k = 0 := by
        rw [List.map_eq_nil_iff]
        constructor
        · intro e
          have := congrArg List.length e
          rw [List.length_take, HO.out.len] at this
          simp at this
          omega
        · rintro rfl; rfl
      have HD : ∀ X, Hid (Calls Try.prog 11 #[.complex .f64 (re i) (im i), .complex .f64 (re j) (im j)] X fun e w' => e = .returned (.int .i64 (dA re im i j)) ∧ X = w') := fun X => Lib.hid (dist_any _ _ _ _ X)
      generalize leastP ((out.take k).map (dA re im i)) = cur at hsn
      generalize dA re im i j = d at hsn HD
      generalize re i = ri at k1 HD
      generalize im i = mi at k1 HD
      generalize re j = rj at k2 HD
      generalize im j = mj at k2 HD
      have ia : ((k : Int)).toNat = k := by omega
      have ip : (0 : Int) ≤ (k : Int) := by omega
      have iz : (k : Int) < (m : Int) := by omega
      have ja : ((j : Int)).toNat = j := by omega
      have jp : (0 : Int) ≤ (j : Int) := by omega
      have jz : (j : Int) < (n : Int) := by omega
      have na : ((i : Int)).toNat = i := by omega
      have np : (0 : Int) ≤ (i : Int) := by omega
      have nz : (i : Int) < (n : Int) := by omega
      have kw : k + 1 < 35184372088834 := by have := HM.out; omega
      have HKW := Lib.hid kw
      clear hj hjn hcell hin htk hg hk kw hwq
      by_cases hc : k = 0 ∨ d < cur
      · rw [if_pos (by rcases hc with h | h; exact .inl (hnil.2 h); exact .inr h)] at hsn
        have HSN := Lib.hid hsn
        obtain ⟨b0, hb0⟩ : ∃ b0 : Bool, b0 = decide (k = 0) := ⟨_, rfl⟩
        have c0 : ((k : Int) == 0) = b0 := by rw [hb0]; by_cases h : k = 0 <;> simp [h]
        have c0n : (k == 0) = b0 := by rw [hb0]; by_cases h : k = 0 <;> simp [h]
        have c1 : b0 = false → decide (d < cur) = true := fun h => by
          rw [hb0] at h
          rcases hc with h1 | h1
          · exact absurd h1 (of_decide_eq_false h)
          · exact decide_eq_true h1
        clear hb0 hc hnil hlt hsn
        go_upto_region 5 with (fail)
        go_quiet ((go_at_call 11; exact quiet_of (HD _).out))
        cases b0 with
        | true =>
          clear c1
          have kw := HKW.out
          go_wp2_with fail
          clear kw
          go_roundg (m - (k + 1))
          case measure => have := HK.out; have := HLT.out; omega
          case rel => exact ⟨k + 1, by first | rfl | go_num, by have := HK.out; have := HLT.out; omega, by rw [HSN.out], drewN_more HQ.out _⟩
        | false =>
          have c2 := c1 rfl
          clear c1
          have kw := HKW.out
          go_wp2_with fail
          clear kw
          go_roundg (m - (k + 1))
          case measure => have := HK.out; have := HLT.out; omega
          case rel => exact ⟨k + 1, by first | rfl | go_num, by have := HK.out; have := HLT.out; omega, by rw [HSN.out], drewN_more HQ.out _⟩
      · rw [if_neg (by rintro (h | h); exact hc (.inl (hnil.1 h)); exact hc (.inr h))] at hsn
        have HSN := Lib.hid hsn
        have c0 : ((k : Int) == 0) = false := beq_eq_false_iff_ne.2 (by omega)
        have c0n : (k == 0) = false := beq_eq_false_iff_ne.2 (by omega)
        have c2 : decide (d < cur) = false := decide_eq_false (by omega)
        clear hc hnil hlt hsn
        go_upto_region 5 with (fail)
        go_quiet ((go_at_call 11; exact quiet_of (HD _).out))
        have kw := HKW.out
        go_wp2_with fail
        clear kw
        go_roundg (m - (k + 1))
        case measure => have := HK.out; have := HLT.out; omega
        case rel => exact ⟨k + 1, by first | rfl | go_num, by have := HK.out; have := HLT.out; omega, by rw [HSN.out], drewN_more HQ.out _⟩
    · have t1 : decide ((k : Int) < (m : Int)) = false := decide_eq_false (by omega)
      have t1n : decide (k < m) = false := decide_eq_false hlt
      rw [List.take_of_length_le (by rw [HO.out.len]; omega)]
      clear hlt hk hwq
      go_wp2_with fail
      go_ret
      exact ⟨rfl, HQ.out⟩
set_option maxHeartbeats 2000000 in
theorem sprf_c (zr zi lb n cap : Nat) (re im : Nat → Nat) (i : Nat) (hi : i < n) (ga gb : Nat) (w : World) (ha : w.cell? ⟨ga, 0, none⟩ = some (.complex .f64 zr zi)) (hb : w.cell? ⟨gb, 0, none⟩ = some (.slice (some ⟨lb, 0, none⟩) n cap)) (hl : w.cell? ⟨lb, i, none⟩ = some (.complex .f64 (re i) (im i))) :
    Calls Try.prog 34 #[.int .i64 (i : Int), .pointer (some ⟨ga, 0, none⟩), .pointer (some ⟨gb, 0, none⟩)] w fun e w' => e = .returned (.bool (decide (distI (pl zr) (pl zi) (pl (re i)) (pl (im i)) < 0))) ∧ ∃ q, w' = w.drewN q := by
  have HD : ∀ X, Hid (Calls Try.prog 11 #[.complex .f64 zr zi, .complex .f64 (re i) (im i)] X fun e w' => e = .returned (.int .i64 (distI (pl zr) (pl zi) (pl (re i)) (pl (im i)))) ∧ X = w') := fun X => Lib.hid (dist_any _ _ _ _ X)
  have k0 : ∀ d, (w.drewN d).cell? ⟨ga, 0, none⟩ = some (.complex .f64 zr zi) := fun d => ha
  have k1 : ∀ d, (w.drewN d).cell? ⟨gb, 0, none⟩ = some (.slice (some ⟨lb, 0, none⟩) n cap) := fun d => hb
  have k2 : ∀ d, (w.drewN d).cell? ⟨lb, i, none⟩ = some (.complex .f64 (re i) (im i)) := fun d => hl
  have ia : ((i : Int)).toNat = i := by omega
  have ip : (0 : Int) ≤ (i : Int) := by omega
  have iz : (i : Int) < (n : Int) := by omega
  generalize distI (pl zr) (pl zi) (pl (re i)) (pl (im i)) = d at HD ⊢
  generalize re i = ri at k2 HD
  generalize im i = mi at k2 HD
  clear ha hb hl hi
  go_enter Try.func34, Try.ntmps34
  go_upto_region 1 with (fail)
  go_quiet ((go_at_call 11; exact quiet_of (HD _).out))
  go_wp2
  all_goals
    go_ret
    exact ⟨rfl, _, rfl⟩
end Go.Proofs.Ytgblbhbmeflckaa
