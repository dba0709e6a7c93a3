/- Stable sorting of a []int by a comparing function: symMergeCmpFunc where one part is a single element. -/
import Derived.Test.YtgblbhbmeflckaaSort2
namespace Go.Proofs.Ytgblbhbmeflckaa
open Go.RowKit Go.Lib St
set_option linter.unusedVariables false
set_option linter.unusedSimpArgs false
/-- The k-th of the part behind P. -/
theorem part_get (P A R : List Int) (c : Nat) (h1 : P.length ≤ c) (h2 : c < P.length + A.length) : ∃ x, (P ++ A ++ R)[c]? = some x ∧ A[c - P.length]? = some x ∧ x ∈ A := by
  have hc : c - P.length < A.length := by omega
  refine ⟨A[c - P.length], ?_, List.getElem?_eq_getElem hc, List.getElem_mem hc⟩
  rw [List.append_assoc, List.getElem?_append_right h1, List.getElem?_append_left hc]
  exact List.getElem?_eq_getElem hc
section
variable {α : Type} {lt : α → α → Bool}
/-- All ahead of place i of a sorted list are below y where the one at i-1 is. -/
theorem below_all (S : Swo lt) {s : List α} (h : Sorted lt s) {i : Nat} {y z : α} (hz : s[i]? = some z) (hl : lt z y = true) : ∀ x ∈ s.take (i + 1), lt x y = true := by
  intro x hx
  obtain ⟨j, hj, rfl⟩ := List.getElem_of_mem hx
  rw [List.length_take] at hj
  rw [List.getElem_take]
  obtain ⟨hi, rfl⟩ := List.getElem?_eq_some_iff.1 hz
  rcases Nat.lt_or_eq_of_le (show j ≤ i by omega) with hlt | rfl
  · exact S.lt_of' (List.pairwise_iff_getElem.1 h j i (by omega) hi hlt) hl
  · exact hl
theorem notabove_all (S : Swo lt) {s : List α} (h : Sorted lt s) {i : Nat} {y z : α} (hz : s[i]? = some z) (hl : lt y z = false) : ∀ x ∈ s.take (i + 1), lt y x = false := by
  intro x hx
  obtain ⟨j, hj, rfl⟩ := List.getElem_of_mem hx
  rw [List.length_take] at hj
  rw [List.getElem_take]
  obtain ⟨hi, rfl⟩ := List.getElem?_eq_some_iff.1 hz
  rcases Nat.lt_or_eq_of_le (show j ≤ i by omega) with hlt | rfl
  · exact S.trans (List.pairwise_iff_getElem.1 h j i (by omega) hi hlt) hl
  · exact hl
theorem above_all (S : Swo lt) {s : List α} (h : Sorted lt s) {i : Nat} {y z : α} (hz : s[i]? = some z) (hl : lt y z = true) : ∀ x ∈ s.drop i, lt y x = true := by
  intro x hx
  obtain ⟨j, hj, rfl⟩ := List.getElem_of_mem hx
  rw [List.length_drop] at hj
  rw [List.getElem_drop]
  obtain ⟨hi, rfl⟩ := List.getElem?_eq_some_iff.1 hz
  rcases Nat.eq_zero_or_pos j with rfl | hp
  · exact hl
  · exact S.lt_of hl (List.pairwise_iff_getElem.1 h i (i + j) hi (by omega) (by omega))
theorem notbelow_all (S : Swo lt) {s : List α} (h : Sorted lt s) {i : Nat} {y z : α} (hz : s[i]? = some z) (hl : lt z y = false) : ∀ x ∈ s.drop i, lt x y = false := by
  intro x hx
  obtain ⟨j, hj, rfl⟩ := List.getElem_of_mem hx
  rw [List.length_drop] at hj
  rw [List.getElem_drop]
  obtain ⟨hi, rfl⟩ := List.getElem?_eq_some_iff.1 hz
  rcases Nat.eq_zero_or_pos j with rfl | hp
  · exact hl
  · exact S.trans hl (List.pairwise_iff_getElem.1 h i (i + j) hi (by omega) (by omega))
end
theorem swap_next' (A B : List Int) (z y : Int) (n : Nat) (hn : n = A.length) :
    (A ++ z :: y :: B)[n]? = some z ∧ (A ++ z :: y :: B)[n + 1]? = some y ∧ ((A ++ z :: y :: B).set n y).set (n + 1) z = A ++ y :: z :: B := by
  obtain ⟨h1, h2, _⟩ := swap_next A B z y n hn
  refine ⟨h1, h2, ?_⟩
  subst hn
  rw [set_mid]
  have h1 := set_mid (A ++ [y]) B y z
  simp only [List.length_append, List.length_singleton, List.append_assoc, List.singleton_append] at h1
  exact h1
set_option maxHeartbeats 4000000 in
set_option maxRecDepth 20000 in
theorem sym_one_c (P B R : List Int) (x : Int) (w0 w : World) (blk cap N g : Nat) (cb : Array Value) (ok : Int → Prop) (cf : Int → Int → Int) (za zm zb : Int) (hS : Srt w0 w blk (P ++ x :: (B ++ R))) (hC : CmpIs w0 blk g cb ok cf) (eg : ∀ args w, (callFunc g args).run Try.prog w = .ok (.enter g args) w) (SW : Swo (ltf cf)) (hok : ∀ x ∈ B, ok x) (hx : ok x) (hB : Sorted (ltf cf) B)
    (ha : za = (P.length : Int)) (hm : zm = (P.length : Int) + 1) (hb : zb = (P.length : Int) + 1 + B.length) (hN : N = P.length + 1 + B.length + R.length) (hsz : N < 4611686018427387904) :
    Calls Try.prog 42 #[.slice (some ⟨blk, 0, none⟩) N cap, .int .i64 za, .int .i64 zm, .int .i64 zb, .func (.func g) #[] cb] w fun e w' => e = .returned (.tuple #[]) ∧ Srt w0 w' blk (P ++ merge (ltf cf) [x] B ++ R) := by
  have HS := Lib.hid hS
  have HC := Lib.hid hC
  have HW := Lib.hid SW
  have HK := Lib.hid hok
  have HKX := Lib.hid hx
  have HB := Lib.hid hB
  clear hS hC SW hok hx hB
  generalize hf : P ++ merge (ltf cf) [x] B ++ R = fin
  have HF := Lib.hid hf
  clear hf
  obtain ⟨a, rfl⟩ : ∃ a : Nat, za = a := ⟨_, ha⟩
  obtain ⟨b, rfl⟩ : ∃ b : Nat, zb = b := ⟨P.length + 1 + B.length, by omega⟩
  have hm' : zm = (a : Int) + 1 := by omega
  subst hm'
  have HA : Hid (a = P.length) := Lib.hid (by omega)
  have HX : Hid (b = a + 1 + B.length) := Lib.hid (by omega)
  have HN : Hid (N = b + R.length) := Lib.hid (by omega)
  have haN : a + 1 ≤ b := by omega
  have hbN : b ≤ N := by omega
  clear ha hb hN hm
  go_enter Try.func42, Try.ntmps42
  go_wp2
  go_loopg [10, 11] b (fun g1 vi vj wr => ∃ (i j : Nat), vi = .int .i64 i ∧ vj = .int .i64 j ∧ a + 1 ≤ i ∧ i ≤ j ∧ j ≤ b ∧ j ≤ g1 + i ∧ Hid (i = a + 1 ∨ ∃ z, B[i - 1 - (a + 1)]? = some z ∧ ltf cf z x = true) ∧ Hid (j = b ∨ ∃ z, B[j - (a + 1)]? = some z ∧ ltf cf z x = false) ∧ Hid (Srt w0 wr blk (P ++ x :: (B ++ R))))
  case atStart => exact ⟨a + 1, b, by go_num, rfl, Nat.le_refl _, haN, Nat.le_refl _, by omega, Lib.hid (Or.inl rfl), Lib.hid (Or.inl rfl), HS⟩
  case round =>
    clear HS
    obtain ⟨i, j, rfl, rfl, hi, hij, hj, hg, HI, HJ, HS⟩ := hrel
    by_cases hlt : i < j
    · have hltz : (i : Int) < (j : Int) := by omega
      obtain ⟨h, hh⟩ : ∃ h : Nat, ((i : Int) + (j : Int)) / 2 = (h : Int) := ⟨(i + j) / 2, by omega⟩
      have hhi : i ≤ h := by omega
      have hhj : h < j := by omega
      have gx : (P ++ x :: (B ++ R))[a]? = some x := by rw [HA.out]; exact get_mid P _ x
      obtain ⟨z, gz, gz', hzm⟩ := part_get (P ++ [x]) B R h (by have := HA.out; simp; omega) (by have := HA.out; have := HX.out; simp; omega)
      have gz2 : (P ++ x :: (B ++ R))[h]? = some z := by rw [← gz]; simp
      have gz3 : Hid (B[h - (a + 1)]? = some z) := Lib.hid (by rw [← gz', HA.out]; simp)
      have c1 := HS.out.cell _ _ gx
      have c2 := HS.out.cell _ _ gz2
      have cc := fun n' => HC.out.at_ HS.out (HK.out z hzm) HKX.out n'
      have CC := Lib.hid cc
      have ia : ((a : Int)).toNat = a := by omega
      have ih : ((h : Int)).toNat = h := by omega
      have pa : (0 : Int) ≤ (h : Int) := by omega
      have ba : (h : Int) < (N : Int) := by omega
      have pb : (0 : Int) ≤ (a : Int) := by omega
      have bb : (a : Int) < (N : Int) := by omega
      clear gx gz gz' hzm gz2 cc
      cases hlv : ltf cf z x with
      | true =>
        have hd : decide (cf z x < 0) = true := hlv
        have HV := Lib.hid hlv
        clear hlv
        go_wp2_with fail
        go_quiet (first | (go_at_fn g; refine CC.out _))
        have HS3 := Lib.hid (HS.out.drewN nq)
        clear CC HS c1 c2
        generalize wr.drewN nq = w2 at HS3 ⊢
        clear nq
        go_wp2
        go_roundg (j - (h + 1))
        case measure => omega
        case rel => exact ⟨h + 1, j, by first | rfl | go_num, rfl, by omega, by omega, by omega, by omega, Lib.hid (Or.inr ⟨z, gz3.out, HV.out⟩), HJ, HS3⟩
      | false =>
        have hd : decide (cf z x < 0) = false := hlv
        have HV := Lib.hid hlv
        clear hlv
        go_wp2_with fail
        go_quiet (first | (go_at_fn g; refine CC.out _))
        have HS3 := Lib.hid (HS.out.drewN nq)
        clear CC HS c1 c2
        generalize wr.drewN nq = w2 at HS3 ⊢
        clear nq
        go_wp2
        go_roundg (h - i)
        case measure => omega
        case rel => exact ⟨i, h, rfl, by first | rfl | rw [hh], by omega, by omega, by omega, by omega, HI, Lib.hid (Or.inr ⟨z, gz3.out, HV.out⟩), HS3⟩
    · have hltz : ¬ (i : Int) < (j : Int) := by omega
      have he : j = i := by omega
      subst he
      clear hij hg
      obtain ⟨B1, B2, hB12, h1⟩ : ∃ B1 B2, B = B1 ++ B2 ∧ a + 1 + B1.length = j := ⟨B.take (j - (a + 1)), B.drop (j - (a + 1)), by simp, by have := HX.out; simp; omega⟩
      have e1 : B1 = B.take (j - (a + 1)) := by rw [hB12, List.take_left' (by omega)]
      have e2 : B2 = B.drop (j - (a + 1)) := by rw [hB12, List.drop_left' (by omega)]
      have m1 : ∀ y ∈ B1, ltf cf y x = true := by
        rcases HI.out with h | ⟨z, h2, h3⟩
        · have : B1 = [] := by cases B1 with
            | nil => rfl
            | cons _ _ => exfalso; simp at h1; omega
          rw [this]; intro y hy; cases hy
        · intro y hy
          rw [e1] at hy
          by_cases h4 : j = a + 1
          · rw [h4, Nat.sub_self] at hy; cases hy
          · exact below_all HW.out HB.out h2 h3 y (by rw [show j - 1 - (a + 1) + 1 = j - (a + 1) by omega]; exact hy)
      have m2 : ∀ y ∈ B2, ltf cf y x = false := by
        rcases HJ.out with h | ⟨z, h2, h3⟩
        · have : B2 = [] := by cases B2 with
            | nil => rfl
            | cons _ _ => exfalso; have := HX.out; rw [hB12] at this; simp at this; omega
          rw [this]; intro y hy; cases hy
        · rw [e2]; exact notbelow_all HW.out HB.out h2 h3
      have hm : merge (ltf cf) [x] B = B1 ++ x :: B2 := by
        have e := merge_parts HW.out _ [] [x] B1 B2 (Nat.le_refl _) (List.pairwise_singleton _ _) (by rw [← hB12]; exact HB.out) (fun _ h => by cases h) (fun y hy z hz => by rcases List.mem_singleton.1 hy with rfl; exact m1 z hz)
        have e' := merge_parts HW.out _ [x] [] [] B2 (Nat.le_refl _) (List.pairwise_singleton _ _) (by rw [List.nil_append]; have := HB.out; rw [hB12] at this; exact (List.pairwise_append.1 this).2.1) (fun y hy z hz => by rcases List.mem_singleton.1 hy with rfl; exact m2 z hz) (fun _ h => by cases h)
        simp only [List.append_nil, List.nil_append, merge_nil_right, merge_nil_left] at e e'
        rw [hB12, e, e']; simp
      have HF2 : Hid (P ++ B1 ++ x :: (B2 ++ R) = fin) := Lib.hid (by rw [← HF.out, hm]; simp)
      have HS2 : Hid (Srt w0 wr blk (P ++ x :: (B1 ++ B2 ++ R))) := Lib.hid (by rw [← hB12]; exact HS.out)
      have H1 := Lib.hid h1
      have HX2 : Hid (N = a + 1 + B1.length + B2.length + R.length) := Lib.hid (by have := HN.out; have := HX.out; rw [hB12] at this; simp at this; omega)
      clear e1 e2 m1 m2 hm hB12 HI HJ HS HF HK HKX HB HX h1
      go_wp2
      go_loopg [13] N (fun g2 vk wr2 => ∃ (k : Nat) (C1 C2 : List Int), vk = .int .i64 k ∧ a ≤ k ∧ k + 1 ≤ j ∧ j ≤ g2 + k ∧ g2 ≤ N ∧ Hid (B1 = C1 ++ C2) ∧ Hid (a + C1.length = k) ∧ Hid (Srt w0 wr2 blk (P ++ C1 ++ x :: (C2 ++ B2 ++ R))))
      case atStart => exact ⟨a, [], B1, by rfl, Nat.le_refl _, by have := H1.out; omega, by omega, Nat.le_refl _, rfl, rfl, Lib.hid (by simpa using HS2.out)⟩
      case round =>
        clear HS2
        obtain ⟨k, C1, C2, rfl, hak, hkj, hg2, hgN, HC12, HC1, HS⟩ := hrel
        by_cases hlt : k + 1 < j
        · have hltz : (k : Int) < (j : Int) - 1 := by omega
          obtain ⟨y, C3, rfl⟩ : ∃ y C3, C2 = y :: C3 := by
            cases C2 with
            | nil => exfalso; have h := HC12.out; have h2 := HC1.out; have h3 := H1.out; rw [h] at h3; simp at h3; omega
            | cons y C3 => exact ⟨y, C3, rfl⟩
          have HS2 : Hid (Srt w0 wr blk ((P ++ C1) ++ x :: y :: (C3 ++ B2 ++ R))) := Lib.hid (by simpa using HS.out)
          obtain ⟨q1, q2, q3⟩ := swap_next' (P ++ C1) (C3 ++ B2 ++ R) x y k (by have := HC1.out; have := HA.out; simp; omega)
          have HG := Lib.hid q3
          have c1 := HS2.out.cell _ _ q1
          have c2 := HS2.out.cell _ _ q2
          have hl : k + 1 < ((P ++ C1) ++ x :: y :: (C3 ++ B2 ++ R)).length := by
            by_cases h : k + 1 < ((P ++ C1) ++ x :: y :: (C3 ++ B2 ++ R)).length
            · exact h
            · rw [List.getElem?_eq_none (by omega)] at q2; cases q2
          have f1 := HS2.out.fz k (by omega)
          have f2 := HS2.out.fz (k + 1) hl
          have c3 : (wr.setCell ⟨blk, k, none⟩ (.int .i64 y)).cell? ⟨blk, k + 1, none⟩ = some (.int .i64 y) := by
            rw [World.cell?_setCell_other _ _ _ _ (by intro e; injection e with _ e; omega)]; exact c2
          have HS4 : Hid (Srt w0 ((wr.setCell ⟨blk, k, none⟩ (.int .i64 y)).setCell ⟨blk, k + 1, none⟩ (.int .i64 x)).drew blk ((P ++ C1) ++ y :: x :: (C3 ++ B2 ++ R))) := Lib.hid (by
            rw [← HG.out]; exact (HS2.out.swap (by omega) hl).drew)
          have ia : ((k : Int) + 1).toNat = k + 1 := by omega
          have pa : (0 : Int) ≤ (k : Int) + 1 := by omega
          have ba : (k : Int) + 1 < (N : Int) := by omega
          have ra : IntKind.i64.wrap ((k : Int) + 1) = (k : Int) + 1 := by rw [IntKind.wrap_i64]; omega
          have bb : (k : Int) < (N : Int) := by omega
          have mixed : Try.prog.follows Departure.mixedOrders = true := by rfl
          generalize hjq : k + 1 = jq at c2 c3 f2 HS4 ia
          have HJQ := Lib.hid hjq
          clear q1 q2 q3 hl HS hjq
          go_wp2_with fail
          go_big_region_o
          clear c1 c2 c3 f1 f2 mixed ia
          generalize ((wr.setCell ⟨blk, k, none⟩ (.int .i64 y)).setCell ⟨blk, jq, none⟩ (.int .i64 x)).drew = w3 at HS4 ⊢
          go_wp2
          go_roundg (j - (k + 1))
          case measure => omega
          case rel => exact ⟨k + 1, C1 ++ [y], C3, by first | rfl | go_num, by omega, by omega, by omega, by omega, Lib.hid (by rw [HC12.out]; simp), Lib.hid (by have := HC1.out; simp; omega), Lib.hid (by simpa using HS4.out)⟩
        · have hltz : ¬ (k : Int) < (j : Int) - 1 := by omega
          have HE : Hid (P ++ C1 ++ x :: (C2 ++ B2 ++ R) = fin) := Lib.hid (by
            have h : C2 = [] := by
              cases C2 with
              | nil => rfl
              | cons _ _ => exfalso; have h := HC12.out; have h2 := HC1.out; have h3 := H1.out; rw [h] at h3; simp at h3; omega
            have h2 := HC12.out
            rw [h, List.append_nil] at h2
            rw [← HF2.out, h, h2]; simp)
          go_wp2
          exact ⟨rfl, _, results_none (by rfl) _ _ _, rfl, by rw [← HE.out]; exact HS.out⟩
set_option maxHeartbeats 4000000 in
set_option maxRecDepth 20000 in
theorem sym_last_c (P A R : List Int) (x : Int) (w0 w : World) (blk cap N g : Nat) (cb : Array Value) (ok : Int → Prop) (cf : Int → Int → Int) (za zm zb : Int) (hS : Srt w0 w blk (P ++ A ++ x :: R)) (hC : CmpIs w0 blk g cb ok cf) (eg : ∀ args w, (callFunc g args).run Try.prog w = .ok (.enter g args) w) (SW : Swo (ltf cf)) (hok : ∀ x ∈ A, ok x) (hx : ok x) (hB : Sorted (ltf cf) A) (h2 : 2 ≤ A.length)
    (ha : za = (P.length : Int)) (hm : zm = (P.length : Int) + A.length) (hb : zb = (P.length : Int) + A.length + 1) (hN : N = P.length + A.length + 1 + R.length) (hsz : N < 4611686018427387904) :
    Calls Try.prog 42 #[.slice (some ⟨blk, 0, none⟩) N cap, .int .i64 za, .int .i64 zm, .int .i64 zb, .func (.func g) #[] cb] w fun e w' => e = .returned (.tuple #[]) ∧ Srt w0 w' blk (P ++ merge (ltf cf) A [x] ++ R) := by
  have HS := Lib.hid hS
  have HC := Lib.hid hC
  have HW := Lib.hid SW
  have HK := Lib.hid hok
  have HKX := Lib.hid hx
  have HB := Lib.hid hB
  clear hS hC SW hok hx hB
  generalize hf : P ++ merge (ltf cf) A [x] ++ R = fin
  have HF := Lib.hid hf
  clear hf
  obtain ⟨a, rfl⟩ : ∃ a : Nat, za = a := ⟨_, ha⟩
  obtain ⟨m, rfl⟩ : ∃ m : Nat, zm = m := ⟨P.length + A.length, by omega⟩
  have hb' : zb = (m : Int) + 1 := by omega
  subst hb'
  have HA : Hid (a = P.length) := Lib.hid (by omega)
  have HX : Hid (m = a + A.length) := Lib.hid (by omega)
  have HN : Hid (N = m + 1 + R.length) := Lib.hid (by omega)
  have haN : a + 2 ≤ m := by omega
  have hbN : m + 1 ≤ N := by omega
  have hq : ((m : Int) - (a : Int) == 1) = false := by simp; omega
  clear ha hb hN hm h2
  go_enter Try.func42, Try.ntmps42
  go_wp2
  go_loopg [14, 15] m (fun g1 vi vj wr => ∃ (i j : Nat), vi = .int .i64 i ∧ vj = .int .i64 j ∧ a ≤ i ∧ i ≤ j ∧ j ≤ m ∧ j ≤ g1 + i ∧ Hid (i = a ∨ ∃ z, A[i - 1 - a]? = some z ∧ ltf cf x z = false) ∧ Hid (j = m ∨ ∃ z, A[j - a]? = some z ∧ ltf cf x z = true) ∧ Hid (Srt w0 wr blk (P ++ A ++ x :: R)))
  case atStart => exact ⟨a, m, rfl, rfl, Nat.le_refl _, by omega, Nat.le_refl _, by omega, Lib.hid (Or.inl rfl), Lib.hid (Or.inl rfl), HS⟩
  case round =>
    clear HS hq
    obtain ⟨i, j, rfl, rfl, hi, hij, hj, hg, HI, HJ, HS⟩ := hrel
    by_cases hlt : i < j
    · have hltz : (i : Int) < (j : Int) := by omega
      go_wp2
      obtain ⟨h, hh⟩ : ∃ h : Nat, ((i : Int) + (j : Int)) / 2 = (h : Int) := ⟨(i + j) / 2, by omega⟩
      have hhi : i ≤ h := by omega
      have hhj : h < j := by omega
      have gx : (P ++ A ++ x :: R)[m]? = some x := by rw [show m = (P ++ A).length by have := HA.out; have := HX.out; simp; omega]; exact get_mid _ _ x
      obtain ⟨z, gz, gz', hzm⟩ := part_get P A (x :: R) h (by have := HA.out; omega) (by have := HA.out; have := HX.out; omega)
      have gz3 : Hid (A[h - a]? = some z) := Lib.hid (by rw [← gz', HA.out])
      have c1 := HS.out.cell _ _ gx
      have c2 := HS.out.cell _ _ gz
      have cc := fun n' => HC.out.at_ HS.out HKX.out (HK.out z hzm) n'
      have CC := Lib.hid cc
      have ia : ((m : Int)).toNat = m := by omega
      have ih : ((h : Int)).toNat = h := by omega
      have pa : (0 : Int) ≤ (h : Int) := by omega
      have ba : (h : Int) < (N : Int) := by omega
      have pb : (0 : Int) ≤ (m : Int) := by omega
      have bb : (m : Int) < (N : Int) := by omega
      clear gx gz gz' hzm cc
      cases hlv : ltf cf x z with
      | false =>
        have hd : decide (cf x z < 0) = false := hlv
        have HV := Lib.hid hlv
        clear hlv
        go_wp2_with fail
        go_quiet (first | (go_at_fn g; refine CC.out _))
        have HS3 := Lib.hid (HS.out.drewN nq)
        clear CC HS c1 c2
        generalize wr.drewN nq = w2 at HS3 ⊢
        clear nq
        go_wp2
        go_roundg (j - (h + 1))
        case measure => omega
        case rel => exact ⟨h + 1, j, by first | rfl | go_num, rfl, by omega, by omega, by omega, by omega, Lib.hid (Or.inr ⟨z, gz3.out, HV.out⟩), HJ, HS3⟩
      | true =>
        have hd : decide (cf x z < 0) = true := hlv
        have HV := Lib.hid hlv
        clear hlv
        go_wp2_with fail
        go_quiet (first | (go_at_fn g; refine CC.out _))
        have HS3 := Lib.hid (HS.out.drewN nq)
        clear CC HS c1 c2
        generalize wr.drewN nq = w2 at HS3 ⊢
        clear nq
        go_wp2
        go_roundg (h - i)
        case measure => omega
        case rel => exact ⟨i, h, rfl, by first | rfl | rw [hh], by omega, by omega, by omega, by omega, HI, Lib.hid (Or.inr ⟨z, gz3.out, HV.out⟩), HS3⟩
    · have hltz : ¬ (i : Int) < (j : Int) := by omega
      have he : j = i := by omega
      subst he
      clear hij hg
      obtain ⟨A1, A2, hA12, h1⟩ : ∃ A1 A2, A = A1 ++ A2 ∧ a + A1.length = j := ⟨A.take (j - a), A.drop (j - a), by simp, by have := HX.out; simp; omega⟩
      have e1 : A1 = A.take (j - a) := by rw [hA12, List.take_left' (by omega)]
      have e2 : A2 = A.drop (j - a) := by rw [hA12, List.drop_left' (by omega)]
      have m1 : ∀ y ∈ A1, ltf cf x y = false := by
        rcases HI.out with h | ⟨z, h2, h3⟩
        · have : A1 = [] := by cases A1 with
            | nil => rfl
            | cons _ _ => exfalso; simp at h1; omega
          rw [this]; intro y hy; cases hy
        · intro y hy
          rw [e1] at hy
          by_cases h4 : j = a
          · rw [h4, Nat.sub_self] at hy; cases hy
          · exact notabove_all HW.out HB.out h2 h3 y (by rw [show j - 1 - a + 1 = j - a by omega]; exact hy)
      have m2 : ∀ y ∈ A2, ltf cf x y = true := by
        rcases HJ.out with h | ⟨z, h2, h3⟩
        · have : A2 = [] := by cases A2 with
            | nil => rfl
            | cons _ _ => exfalso; have := HX.out; rw [hA12] at this; simp at this; omega
          rw [this]; intro y hy; cases hy
        · rw [e2]; exact above_all HW.out HB.out h2 h3
      have hm : merge (ltf cf) A [x] = A1 ++ x :: A2 := by
        rw [hA12]; exact merge_insert HW.out A1 A2 x (by rw [← hA12]; exact HB.out) m1 m2
      have HF2 : Hid (P ++ A1 ++ x :: (A2 ++ R) = fin) := Lib.hid (by rw [← HF.out, hm]; simp)
      have HS2 : Hid (Srt w0 wr blk (P ++ A1 ++ A2 ++ x :: R)) := Lib.hid (by have := HS.out; rw [hA12] at this; simpa using this)
      have H1 := Lib.hid h1
      have HX2 : Hid (m = a + A1.length + A2.length) := Lib.hid (by have := HX.out; rw [hA12] at this; simp at this; omega)
      clear e1 e2 m1 m2 hm hA12 HI HJ HS HF HK HKX HB HX h1
      go_wp2
      go_loopg [17] N (fun g2 vk wr => ∃ (k : Nat) (C1 C2 : List Int), vk = .int .i64 k ∧ j ≤ k ∧ k ≤ m ∧ k ≤ g2 ∧ Hid (A2 = C1 ++ C2) ∧ Hid (j + C1.length = k) ∧ Hid (Srt w0 wr blk (P ++ A1 ++ C1 ++ x :: (C2 ++ R))))
      case atStart => exact ⟨m, A2, [], by rfl, hj, Nat.le_refl _, by omega, Lib.hid (by simp), Lib.hid (by have := HX2.out; have := H1.out; omega), Lib.hid (by simpa using HS2.out)⟩
      case round =>
        clear HS2
        obtain ⟨k, C1, C2, rfl, hak, hkm, hg2, HC12, HC1, HS⟩ := hrel
        by_cases hlt : j < k
        · obtain ⟨kp, hkp⟩ : ∃ q, q + 1 = k := ⟨k - 1, by omega⟩
          have zkp : (k : Int) = (kp : Int) + 1 := by omega
          have hltz : (j : Int) < (kp : Int) + 1 := by omega
          obtain ⟨C3, z, rfl⟩ : ∃ C3 z, C1 = C3 ++ [z] := by
            rcases List.eq_nil_or_concat C1 with h | ⟨C3, z, h⟩
            · exfalso; have := HC1.out; rw [h] at this; simp at this; omega
            · exact ⟨C3, z, by simpa using h⟩
          have HS2 : Hid (Srt w0 wr blk ((P ++ A1 ++ C3) ++ z :: x :: (C2 ++ R))) := Lib.hid (by simpa using HS.out)
          obtain ⟨q1, q2, q3⟩ := swap_next (P ++ A1 ++ C3) (C2 ++ R) z x kp (by have h1 := HC1.out; have := HA.out; have := H1.out; simp at h1; simp; omega)
          have HG := Lib.hid q3
          have c1 := HS2.out.cell _ _ q1
          have c2 := HS2.out.cell _ _ q2
          have hl : kp + 1 < ((P ++ A1 ++ C3) ++ z :: x :: (C2 ++ R)).length := by
            by_cases h : kp + 1 < ((P ++ A1 ++ C3) ++ z :: x :: (C2 ++ R)).length
            · exact h
            · rw [List.getElem?_eq_none (by omega)] at q2; cases q2
          have f1 := HS2.out.fz kp (by omega)
          have f2 := HS2.out.fz (kp + 1) hl
          have c3 : (wr.setCell ⟨blk, kp + 1, none⟩ (.int .i64 z)).cell? ⟨blk, kp, none⟩ = some (.int .i64 z) := by
            rw [World.cell?_setCell_other _ _ _ _ (by intro e; injection e with _ e; omega)]; exact c1
          have HS4 : Hid (Srt w0 ((wr.setCell ⟨blk, kp + 1, none⟩ (.int .i64 z)).setCell ⟨blk, kp, none⟩ (.int .i64 x)).drew blk ((P ++ A1 ++ C3) ++ x :: z :: (C2 ++ R))) := Lib.hid (by
            rw [← HG.out]; exact (HS2.out.swap hl (by omega)).drew)
          have ia : ((kp : Int) + 1).toNat = kp + 1 := by omega
          have pa : (0 : Int) ≤ (kp : Int) + 1 := by omega
          have ba : (kp : Int) + 1 < (N : Int) := by omega
          have ra : IntKind.i64.wrap ((kp : Int) + 1) = (kp : Int) + 1 := by rw [IntKind.wrap_i64]; omega
          have rb : IntKind.i64.wrap (kp : Int) = (kp : Int) := by rw [IntKind.wrap_i64]; omega
          have bb : (kp : Int) < (N : Int) := by omega
          have mixed : Try.prog.follows Departure.mixedOrders = true := by rfl
          generalize hjq : kp + 1 = jq at c2 c3 f2 HS4 ia
          have HJQ := Lib.hid hjq
          have HKP := Lib.hid hkp
          clear q1 q2 q3 hl HS hjq hkp
          go_wp2_with fail
          go_big_region_o
          clear c1 c2 c3 f1 f2 mixed ia
          generalize ((wr.setCell ⟨blk, jq, none⟩ (.int .i64 z)).setCell ⟨blk, kp, none⟩ (.int .i64 x)).drew = w3 at HS4 ⊢
          go_wp2
          go_roundg kp
          case measure => omega
          case rel => exact ⟨kp, C3, z :: C2, by first | rfl | go_num, by omega, by omega, Nat.le_refl _, Lib.hid (by rw [HC12.out]; simp), Lib.hid (by have h1 := HC1.out; have := HKP.out; simp at h1; omega), Lib.hid (by simpa using HS4.out)⟩
        · have hltz : ¬ (j : Int) < (k : Int) := by omega
          have HE : Hid (P ++ A1 ++ C1 ++ x :: (C2 ++ R) = fin) := Lib.hid (by
            have h : C1 = [] := by
              cases C1 with
              | nil => rfl
              | cons _ _ => exfalso; have h2 := HC1.out; simp at h2; omega
            have h2 := HC12.out
            rw [h, List.nil_append] at h2
            rw [← HF2.out, h, h2]; simp)
          go_wp2
          exact ⟨rfl, _, results_none (by rfl) _ _ _, rfl, by rw [← HE.out]; exact HS.out⟩
end Go.Proofs.Ytgblbhbmeflckaa
