/- Stable sorting of a []int by a comparing function: symMergeCmpFunc. -/
import Derived.Test.YtgblbhbmeflckaaSort3
namespace Go.Proofs.Ytgblbhbmeflckaa
open Go.RowKit Go.Lib St
set_option linter.unusedVariables false
set_option linter.unusedSimpArgs false
/-- symMerge merges what has n elements at most. -/
def SymOk (w0 : World) (blk cap N g : Nat) (cb : Array Value) (ok : Int → Prop) (cf : Int → Int → Int) (n : Nat) : Prop :=
  ∀ (P A B R : List Int) (w : World) (za zm zb : Int), A.length + B.length ≤ n → 0 < A.length → 0 < B.length → Sorted (ltf cf) A → Sorted (ltf cf) B → (∀ x ∈ A, ok x) → (∀ x ∈ B, ok x) → Srt w0 w blk (P ++ A ++ B ++ R) →
    za = (P.length : Int) → zm = (P.length : Int) + A.length → zb = (P.length : Int) + A.length + B.length → N = P.length + A.length + B.length + R.length →
    Calls Try.prog 42 #[.slice (some ⟨blk, 0, none⟩) N cap, .int .i64 za, .int .i64 zm, .int .i64 zb, .func (.func g) #[] cb] w fun e w' => e = .returned (.tuple #[]) ∧ Srt w0 w' blk (P ++ merge (ltf cf) A B ++ R)
set_option maxHeartbeats 4000000 in
set_option maxRecDepth 20000 in
theorem sym_two_c (P A B R : List Int) (w0 w : World) (blk cap N g n0 : Nat) (cb : Array Value) (ok : Int → Prop) (cf : Int → Int → Int) (za zm zb : Int) (hIH : SymOk w0 blk cap N g cb ok cf n0) (hn0 : A.length + B.length = n0 + 1) (hS : Srt w0 w blk (P ++ A ++ B ++ R)) (hC : CmpIs w0 blk g cb ok cf) (eg : ∀ args w, (callFunc g args).run Try.prog w = .ok (.enter g args) w) (SW : Swo (ltf cf)) (hokA : ∀ x ∈ A, ok x) (hokB : ∀ x ∈ B, ok x) (hA : Sorted (ltf cf) A) (hB : Sorted (ltf cf) B) (h2 : 2 ≤ A.length) (h3 : 2 ≤ B.length)
    (ha : za = (P.length : Int)) (hm : zm = (P.length : Int) + A.length) (hb : zb = (P.length : Int) + A.length + B.length) (hN : N = P.length + A.length + B.length + R.length) (hsz : N < 4611686018427387904) :
    Calls Try.prog 42 #[.slice (some ⟨blk, 0, none⟩) N cap, .int .i64 za, .int .i64 zm, .int .i64 zb, .func (.func g) #[] cb] w fun e w' => e = .returned (.tuple #[]) ∧ Srt w0 w' blk (P ++ merge (ltf cf) A B ++ R) := by
  have HS := Lib.hid hS
  have HC := Lib.hid hC
  have HW := Lib.hid SW
  have HKA := Lib.hid hokA
  have HKB := Lib.hid hokB
  have HSA := Lib.hid hA
  have HSB := Lib.hid hB
  have HIH := Lib.hid hIH
  clear hS hC SW hokA hokB hA hB hIH
  generalize hf : P ++ merge (ltf cf) A B ++ R = fin
  have HF := Lib.hid hf
  clear hf
  obtain ⟨a, rfl⟩ : ∃ a : Nat, za = a := ⟨_, ha⟩
  obtain ⟨m, rfl⟩ : ∃ m : Nat, zm = m := ⟨P.length + A.length, by omega⟩
  obtain ⟨b, rfl⟩ : ∃ b : Nat, zb = b := ⟨P.length + A.length + B.length, by omega⟩
  have HA : Hid (a = P.length) := Lib.hid (by omega)
  have HX : Hid (m = a + A.length) := Lib.hid (by omega)
  have HY : Hid (b = m + B.length) := Lib.hid (by omega)
  have HN : Hid (N = b + R.length) := Lib.hid (by omega)
  have HN0 : Hid (b = a + n0 + 1) := Lib.hid (by omega)
  have ham : a + 2 ≤ m := by omega
  have hmb : m + 2 ≤ b := by omega
  have hbN : b ≤ N := by omega
  have hq : ((m : Int) - (a : Int) == 1) = false := by simp; omega
  have hq2 : ((b : Int) - (m : Int) == 1) = false := by simp; omega
  obtain ⟨mid, hmid⟩ : ∃ h : Nat, ((a : Int) + (b : Int)) / 2 = (h : Int) := ⟨(a + b) / 2, by omega⟩
  have hmid1 : a < mid := by omega
  have hmid2 : mid < b := by omega
  have HMID : Hid (a + b = 2 * mid ∨ a + b = 2 * mid + 1) := Lib.hid (by omega)
  clear ha hb hN hm h2 h3 hn0
  go_enter Try.func42, Try.ntmps42
  go_upto_if 140 with (fail)
  clear hq hq2
  go_cut [20, 21] (fun vs vr wc => w = wc ∧ ∃ s r : Nat, vs = .int .i64 s ∧ vr = .int .i64 r ∧ a ≤ s ∧ s ≤ r ∧ r ≤ m ∧ r ≤ mid ∧ mid + m ≤ s + b ∧ Hid (s = a ∨ s + b = mid + m) ∧ Hid (r = m ∨ r = mid))
  case first =>
    clear HS HF
    have HM := HMID.out
    by_cases h : mid < m
    · have hz : (m : Int) > (mid : Int) := by omega
      go_wp2
      all_goals go_meet
      all_goals exact ⟨rfl, mid + m - b, mid, by congr 1; omega, rfl, by omega, by omega, by omega, Nat.le_refl _, by omega, Lib.hid (Or.inr (by omega)), Lib.hid (Or.inr rfl)⟩
    · have hz : ¬ (m : Int) > (mid : Int) := by omega
      go_wp2
      all_goals go_meet
      all_goals exact ⟨rfl, a, m, rfl, rfl, Nat.le_refl _, by omega, Nat.le_refl _, by omega, by omega, Lib.hid (Or.inl rfl), Lib.hid (Or.inl rfl)⟩
  obtain ⟨rfl, s0, r0, rfl, rfl, has, hsr, hrm, hrd, hsb, HL, HH⟩ := hcut
  go_wp2
  go_loopg [20, 21] N (fun g1 vs vr wr => ∃ (s r : Nat), vs = .int .i64 s ∧ vr = .int .i64 r ∧ a ≤ s ∧ s ≤ r ∧ r ≤ m ∧ r ≤ mid ∧ mid + m ≤ s + b ∧ r ≤ g1 + s ∧ Hid (s = a ∨ s + b = mid + m ∨ ∃ x y, A[s - 1 - a]? = some x ∧ B[mid - s]? = some y ∧ ltf cf y x = false) ∧ Hid (r = m ∨ r = mid ∨ ∃ x y, A[r - a]? = some x ∧ B[mid - 1 - r]? = some y ∧ ltf cf y x = true) ∧ Hid (Srt w0 wr blk (P ++ A ++ B ++ R)))
  case atStart => exact ⟨s0, r0, rfl, rfl, has, hsr, hrm, hrd, hsb, by omega, Lib.hid (by rcases HL.out with h | h <;> simp [h]), Lib.hid (by rcases HH.out with h | h <;> simp [h]), HS⟩
  case round =>
    clear HS HL HH has hsr hrm hrd hsb
    obtain ⟨s, r, rfl, rfl, has, hsr, hrm, hrd, hsb, hg, HI, HJ, HS⟩ := hrel
    by_cases hlt : s < r
    · have hltz : (s : Int) < (r : Int) := by omega
      go_wp2
      obtain ⟨c, hh⟩ : ∃ h : Nat, ((s : Int) + (r : Int)) / 2 = (h : Int) := ⟨(s + r) / 2, by omega⟩
      have hcs : s ≤ c := by omega
      have hcr : c < r := by omega
      obtain ⟨e, he⟩ : ∃ e : Nat, (mid : Int) + (m : Int) - 1 - (c : Int) = (e : Int) := ⟨mid + m - 1 - c, by omega⟩
      have HE : Hid (e + c + 1 = mid + m) := Lib.hid (by omega)
      obtain ⟨x, gx, gx', hxm⟩ := part_get P A (B ++ R) c (by have := HA.out; omega) (by have := HA.out; have := HX.out; omega)
      obtain ⟨y, gy, gy', hym⟩ := part_get (P ++ A) B R e (by have := HA.out; have := HX.out; simp; omega) (by have := HA.out; have := HX.out; have := HY.out; simp; omega)
      have gx2 : (P ++ A ++ B ++ R)[c]? = some x := by rw [← gx]; simp
      have gx3 : Hid (A[c - a]? = some x) := Lib.hid (by rw [← gx', HA.out])
      have gy3 : Hid (B[e - m]? = some y) := Lib.hid (by rw [← gy', HX.out, HA.out]; simp)
      have c1 := HS.out.cell _ _ gx2
      have c2 := HS.out.cell _ _ gy
      have cc := fun n' => HC.out.at_ HS.out (HKB.out y hym) (HKA.out x hxm) n'
      have CC := Lib.hid cc
      have ia : ((c : Int)).toNat = c := by omega
      have ih : ((e : Int)).toNat = e := by omega
      have pa : (0 : Int) ≤ (c : Int) := by omega
      have ba : (c : Int) < (N : Int) := by omega
      have pb : (0 : Int) ≤ (e : Int) := by omega
      have bb : (e : Int) < (N : Int) := by omega
      clear gx gx' hxm gy gy' hym gx2 cc
      cases hlv : ltf cf y x with
      | false =>
        have hd : decide (cf y x < 0) = false := hlv
        have HV := Lib.hid hlv
        clear hlv
        go_wp2_with fail
        go_quiet (first | (go_at_fn g; refine CC.out _))
        have HS3 := Lib.hid (HS.out.drewN nq)
        clear CC HS c1 c2
        generalize wr.drewN nq = w2 at HS3 ⊢
        clear nq
        go_wp2
        go_roundg (r - (c + 1))
        case measure => omega
        case rel => exact ⟨c + 1, r, by first | rfl | go_num, rfl, by omega, by omega, by omega, by omega, by omega, by omega, Lib.hid (Or.inr (Or.inr ⟨x, y, gx3.out, by have h := gy3.out; have h1 := HE.out; rw [show mid - (c + 1) = e - m by omega]; exact h, HV.out⟩)), HJ, HS3⟩
      | true =>
        have hd : decide (cf y x < 0) = true := hlv
        have HV := Lib.hid hlv
        clear hlv
        go_wp2_with fail
        go_quiet (first | (go_at_fn g; refine CC.out _))
        have HS3 := Lib.hid (HS.out.drewN nq)
        clear CC HS c1 c2
        generalize wr.drewN nq = w2 at HS3 ⊢
        clear nq
        go_wp2
        go_roundg (c - s)
        case measure => omega
        case rel => exact ⟨s, c, rfl, by first | rfl | rw [hh], by omega, by omega, by omega, by omega, by omega, by omega, HI, Lib.hid (Or.inr (Or.inr ⟨x, y, gx3.out, by have h := gy3.out; have h1 := HE.out; rw [show mid - 1 - c = e - m by omega]; exact h, HV.out⟩)), HS3⟩
    · have hltz : ¬ (s : Int) < (r : Int) := by omega
      have he : r = s := by omega
      subst he
      clear hsr hg
      obtain ⟨e, he⟩ : ∃ e : Nat, (mid : Int) + (m : Int) - (r : Int) = (e : Int) := ⟨mid + m - r, by omega⟩
      have HE : Hid (e + r = mid + m) := Lib.hid (by omega)
      obtain ⟨A1, A2, hA12, h1⟩ : ∃ A1 A2, A = A1 ++ A2 ∧ a + A1.length = r := ⟨A.take (r - a), A.drop (r - a), by simp, by have := HX.out; simp; omega⟩
      obtain ⟨B1, B2, hB12, h2⟩ : ∃ B1 B2, B = B1 ++ B2 ∧ m + B1.length = e := ⟨B.take (e - m), B.drop (e - m), by simp, by have := HY.out; have := HE.out; simp; omega⟩
      have e1 : A1 = A.take (r - a) := by rw [hA12, List.take_left' (by omega)]
      have e2 : A2 = A.drop (r - a) := by rw [hA12, List.drop_left' (by omega)]
      have e3 : B1 = B.take (e - m) := by rw [hB12, List.take_left' (by omega)]
      have e4 : B2 = B.drop (e - m) := by rw [hB12, List.drop_left' (by omega)]
      have hlA : A.length = A1.length + A2.length := by rw [hA12]; simp
      have hlB : B.length = B1.length + B2.length := by rw [hB12]; simp
      have hX := HX.out
      have hY := HY.out
      have hE := HE.out
      have m1 : ∀ x ∈ A1, ∀ y ∈ B2, ltf cf y x = false := by
        rcases HI.out with h | h | ⟨x0, y0, g1, g2, g3⟩
        · have : A1 = [] := by cases A1 with
            | nil => rfl
            | cons _ _ => exfalso; simp at h1; omega
          rw [this]; intro y hy; cases hy
        · have : B2 = [] := by cases B2 with
            | nil => rfl
            | cons _ _ => exfalso; simp at hlB; omega
          rw [this]; intro x hx y hy; cases hy
        · intro x hx y hy
          rw [e1] at hx
          rw [e4] at hy
          by_cases h4 : r = a
          · rw [h4, Nat.sub_self] at hx; cases hx
          · have q1 := notabove_all HW.out HSA.out g1 g3 x (by rw [show r - 1 - a + 1 = r - a by omega]; exact hx)
            exact notbelow_all HW.out HSB.out g2 q1 y (by rw [show mid - r = e - m by omega]; exact hy)
      have m2 : ∀ x ∈ A2, ∀ y ∈ B1, ltf cf y x = true := by
        rcases HJ.out with h | h | ⟨x0, y0, g1, g2, g3⟩
        · have : A2 = [] := by cases A2 with
            | nil => rfl
            | cons _ _ => exfalso; simp at hlA; omega
          rw [this]; intro y hy; cases hy
        · have : B1 = [] := by cases B1 with
            | nil => rfl
            | cons _ _ => exfalso; simp at h2; omega
          rw [this]; intro x hx y hy; cases hy
        · intro x hx y hy
          rw [e2] at hx
          rw [e3] at hy
          by_cases h4 : r = mid
          · rw [show e - m = 0 by omega] at hy; cases hy
          · have q1 := below_all HW.out HSB.out g2 g3 y (by rw [show mid - 1 - r + 1 = e - m by omega]; exact hy)
            exact above_all HW.out HSA.out g1 q1 x hx
      have hm : merge (ltf cf) A B = merge (ltf cf) A1 B1 ++ merge (ltf cf) A2 B2 := by
        rw [hA12, hB12]; exact merge_parts HW.out _ A1 A2 B1 B2 (Nat.le_refl _) (by rw [← hA12]; exact HSA.out) (by rw [← hB12]; exact HSB.out) m1 m2
      have hsA := HSA.out
      have hsB := HSB.out
      rw [hA12] at hsA
      rw [hB12] at hsB
      have hsA := List.pairwise_append.1 hsA
      have hsB := List.pairwise_append.1 hsB
      have kA : ∀ x ∈ A1 ++ A2, ok x := by rw [← hA12]; exact HKA.out
      have kB : ∀ x ∈ B1 ++ B2, ok x := by rw [← hB12]; exact HKB.out
      have hN := HN.out
      have hN0 := HN0.out
      have hP := HA.out
      have hml := merge_len (lt := ltf cf) _ A1 B1 (Nat.le_refl _)
      have k1 := fun (w2 : World) (hs : Srt w0 w2 blk (P ++ A1 ++ A2 ++ B1 ++ (B2 ++ R))) (p1 : r < m) (p2 : m < e) => rotate_c (P ++ A1) A2 B1 (B2 ++ R) w0 w2 blk cap N (r : Int) (m : Int) (e : Int) (.func (.func g) #[] cb) hs (by simp; omega) (by simp; omega) (by simp; omega) (by omega) (by omega) (by simp; omega) hsz
      have k2 := fun (w2 : World) (hs : Srt w0 w2 blk (P ++ A1 ++ B1 ++ A2 ++ (B2 ++ R))) (p1 : a < r) (p2 : r < mid) => HIH.out P A1 B1 (A2 ++ (B2 ++ R)) w2 (a : Int) (r : Int) (mid : Int) (by omega) (by omega) (by omega) hsA.1 hsB.1 (fun x hx => kA x (List.mem_append_left _ hx)) (fun x hx => kB x (List.mem_append_left _ hx)) (by rw [← List.append_assoc]; exact hs) (by omega) (by omega) (by omega) (by simp; omega)
      have k3 := fun (w2 : World) (hs : Srt w0 w2 blk (P ++ merge (ltf cf) A1 B1 ++ (A2 ++ (B2 ++ R)))) (p1 : mid < e) (p2 : e < b) => HIH.out (P ++ merge (ltf cf) A1 B1) A2 B2 R w2 (mid : Int) (e : Int) (b : Int) (by omega) (by omega) (by omega) hsA.2.1 hsB.2.1 (fun x hx => kA x (List.mem_append_right _ hx)) (fun x hx => kB x (List.mem_append_right _ hx)) (by simpa using hs) (by simp; omega) (by simp; omega) (by simp; omega) (by simp; omega)
      have v1 : (¬ r < m ∨ ¬ m < e) → P ++ A1 ++ A2 ++ B1 ++ (B2 ++ R) = P ++ A1 ++ B1 ++ A2 ++ (B2 ++ R) := by
        rintro (h | h)
        · have : A2 = [] := List.eq_nil_of_length_eq_zero (by omega)
          rw [this]; simp
        · have : B1 = [] := List.eq_nil_of_length_eq_zero (by omega)
          rw [this]; simp
      have v2 : (¬ a < r ∨ ¬ r < mid) → P ++ A1 ++ B1 ++ A2 ++ (B2 ++ R) = P ++ merge (ltf cf) A1 B1 ++ (A2 ++ (B2 ++ R)) := by
        rintro (h | h)
        · have : A1 = [] := List.eq_nil_of_length_eq_zero (by omega)
          rw [this, merge_nil_left]; simp
        · have : B1 = [] := List.eq_nil_of_length_eq_zero (by omega)
          rw [this, merge_nil_right]; simp
      have v3 : (¬ mid < e ∨ ¬ e < b) → P ++ merge (ltf cf) A1 B1 ++ (A2 ++ (B2 ++ R)) = fin := by
        intro h
        rw [← HF.out, hm]
        rcases h with h | h
        · have : A2 = [] := List.eq_nil_of_length_eq_zero (by omega)
          rw [this, merge_nil_left]; simp
        · have : B2 = [] := List.eq_nil_of_length_eq_zero (by omega)
          rw [this, merge_nil_right]; simp
      have hs1 : Srt w0 wr blk (P ++ A1 ++ A2 ++ B1 ++ (B2 ++ R)) := by
        have := HS.out
        rw [hA12, hB12] at this
        simpa using this
      have hfin : P ++ merge (ltf cf) A1 B1 ++ merge (ltf cf) A2 B2 ++ R = fin := by rw [← HF.out, hm]; simp
      rw [hfin] at k3
      generalize P ++ merge (ltf cf) A1 B1 ++ (A2 ++ (B2 ++ R)) = l3 at k2 k3 v2 v3
      generalize P ++ A1 ++ B1 ++ A2 ++ (B2 ++ R) = l2 at k1 k2 v1 v2
      generalize P ++ A1 ++ A2 ++ B1 ++ (B2 ++ R) = l1 at k1 v1 hs1
      have K1 := Lib.hid k1
      have K2 := Lib.hid k2
      have K3 := Lib.hid k3
      have V1 := Lib.hid v1
      have V2 := Lib.hid v2
      have V3 := Lib.hid v3
      have HS1 := Lib.hid hs1
      have hbm : b = m + (B1.length + B2.length) := by omega
      have hpe : mid + m = e + r := by omega
      have HPE := Lib.hid hpe
      clear k1 k2 k3 v1 v2 v3 hs1 hfin hm m1 m2 e1 e2 e3 e4 HS HI HJ HF HW HSA HSB HKA HKB HIH hsA hsB kA kB hml hX hY hE hN hN0 hP hbm hpe hA12 hB12 h1 h2 hlA hlB
      by_cases p1 : (r : Int) < (m : Int) <;> by_cases p2 : (m : Int) < (e : Int) <;> by_cases p3 : (a : Int) < (r : Int) <;> by_cases p4 : (e : Int) < (b : Int) <;> by_cases p5 : (r : Int) < (mid : Int) <;> by_cases p6 : (mid : Int) < (e : Int)
      all_goals first | (exfalso; have h := HPE.out; omega) | skip
      all_goals clear hsb hrm hrd
      all_goals go_wp2_with (first
        | (go_at_call 43
           with_reducible refine Calls.mono (K1.out _ HS1.out ?_ ?_) ?_
           · omega
           · omega
           rintro _ w2 ⟨rfl, hs2⟩
           have HS2 := Lib.hid hs2
           clear hs2)
        | (go_at_call 42
           with_reducible refine Calls.mono (K2.out _ ?_ ?_ ?_) ?_
           · first | exact HS2.out | exact (V1.out (by omega)) ▸ HS1.out
           · omega
           · omega
           rintro _ w3 ⟨rfl, hs3⟩
           have HS3 := Lib.hid hs3
           clear hs3)
        | (go_at_call 42
           with_reducible refine Calls.mono (K3.out _ ?_ ?_ ?_) ?_
           · first | exact HS3.out | exact (V2.out (by omega)) ▸ HS2.out | exact (V2.out (by omega)) ▸ (V1.out (by omega)) ▸ HS1.out
           · omega
           · omega
           rintro _ w4 ⟨rfl, hs4⟩
           have HS4 := Lib.hid hs4
           clear hs4))
      all_goals exact ⟨rfl, _, results_none (by rfl) _ _ _, rfl, by first | exact HS4.out | exact (V3.out (by omega)) ▸ HS3.out | exact (V3.out (by omega)) ▸ (V2.out (by omega)) ▸ HS2.out | exact (V3.out (by omega)) ▸ (V2.out (by omega)) ▸ (V1.out (by omega)) ▸ HS1.out⟩
theorem sym_c (w0 : World) (blk cap N g : Nat) (cb : Array Value) (ok : Int → Prop) (cf : Int → Int → Int) (hC : CmpIs w0 blk g cb ok cf) (eg : ∀ args w, (callFunc g args).run Try.prog w = .ok (.enter g args) w) (SW : Swo (ltf cf)) (hsz : N < 4611686018427387904) : ∀ n, SymOk w0 blk cap N g cb ok cf n
  | 0 => fun P A B R w za zm zb hn hA => by omega
  | n + 1 => fun P A B R w za zm zb hn hA hB sA sB kA kB hS ha hm hb hN => by
    have ih := sym_c w0 blk cap N g cb ok cf hC eg SW hsz n
    by_cases hle : A.length + B.length ≤ n
    · exact ih P A B R w za zm zb hle hA hB sA sB kA kB hS ha hm hb hN
    by_cases h1 : A.length = 1
    · obtain ⟨x, rfl⟩ := List.length_eq_one_iff.1 h1
      exact sym_one_c P B R x w0 w blk cap N g cb ok cf za zm zb (by simpa using hS) hC eg SW kB (kA x (by simp)) sB ha (by simpa using hm) (by simpa using hb) (by simpa using hN) hsz
    by_cases h2 : B.length = 1
    · obtain ⟨x, rfl⟩ := List.length_eq_one_iff.1 h2
      exact sym_last_c P A R x w0 w blk cap N g cb ok cf za zm zb (by simpa using hS) hC eg SW kA (kB x (by simp)) sA (by omega) ha hm (by simpa using hb) (by simpa using hN) hsz
    exact sym_two_c P A B R w0 w blk cap N g n cb ok cf za zm zb ih (by omega) hS hC eg SW kA kB sA sB (by omega) (by omega) ha hm hb hN hsz
end Go.Proofs.Ytgblbhbmeflckaa
