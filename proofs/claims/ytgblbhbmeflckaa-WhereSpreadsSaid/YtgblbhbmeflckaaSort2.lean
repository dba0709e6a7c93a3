/- Stable sorting of a []int by a comparing function: insertionSortCmpFunc. -/
import Derived.Test.YtgblbhbmeflckaaSort1
import Derived.Shelf.Abstract
namespace Go.Proofs.Ytgblbhbmeflckaa
open Go.RowKit Go.Lib St
set_option linter.unusedVariables false
set_option linter.unusedSimpArgs false
/-- The comparing function answers cf where the elements are fit, and changes nothing. -/
def CmpIs (w0 : World) (blk g : Nat) (cb : Array Value) (ok : Int → Prop) (cf : Int → Int → Int) : Prop :=
  ∀ w xs x y, Srt w0 w blk xs → ok x → ok y → Calls Try.prog g (#[.int .i64 x, .int .i64 y] ++ cb) w fun e w' => e = .returned (.int .i64 (cf x y)) ∧ ∃ q, w' = w.drewN q
def ltf (cf : Int → Int → Int) (x y : Int) : Bool := decide (cf x y < 0)
theorem drewN_add (w : World) (a b : Nat) : (w.drewN a).drewN b = w.drewN (a + b) := by
  simp [World.drewN, Nat.add_assoc]
theorem CmpIs.at_ {w0 w : World} {blk g : Nat} {cb : Array Value} {ok : Int → Prop} {cf : Int → Int → Int} {xs : List Int} (h : CmpIs w0 blk g cb ok cf) (hS : Srt w0 w blk xs) {x y : Int} (hx : ok x) (hy : ok y) (n : Nat) :
    Calls Try.prog g (#[.int .i64 x, .int .i64 y] ++ cb) (w.drewN n) fun e w' => e = .returned (.int .i64 (cf x y)) ∧ ∃ q, w' = w.drewN q :=
  (h _ xs x y (hS.drewN n) hx hy).mono fun _ _ ⟨he, q, hq⟩ => ⟨he, n + q, by rw [hq, drewN_add]⟩
section
variable {α : Type} {lt : α → α → Bool}
theorem merge_insert (S : Swo lt) (a b : List α) (y : α) (hs : Sorted lt (a ++ b)) (h1 : ∀ x ∈ a, lt y x = false) (h2 : ∀ x ∈ b, lt y x = true) : merge lt (a ++ b) [y] = a ++ y :: b := by
  have e1 := merge_parts S _ a b [y] [] (Nat.le_refl _) hs (List.pairwise_singleton _ _) (fun _ _ _ h => by cases h) (fun x hx z hz => by
    rcases List.mem_singleton.1 hz with rfl; exact h2 x hx)
  have e2 := merge_parts S _ a [] [] [y] (Nat.le_refl _) (by rw [List.append_nil]; exact (List.pairwise_append.1 hs).1) (List.pairwise_singleton _ _) (fun x hx z hz => by rcases List.mem_singleton.1 hz with rfl; exact h1 x hx) (fun _ h => by cases h)
  simp only [List.append_nil, List.nil_append, merge_nil_right, merge_nil_left] at e1 e2
  rw [e1, e2]
  simp
theorem isort_snoc (S : Swo lt) (xs : List α) (y : α) : isort lt (xs ++ [y]) = merge lt (isort lt xs) [y] := by
  rw [isort_append S]; rfl
/-- All of a sorted list that ends in z are at most z. -/
theorem sorted_last (S : Swo lt) {s : List α} {z y : α} (h : Sorted lt (s ++ [z])) (hz : lt y z = false) : ∀ x ∈ s ++ [z], lt y x = false := by
  intro x hx
  rcases List.mem_append.1 hx with hx | hx
  · exact S.trans ((List.pairwise_append.1 h).2.2 x hx z (List.mem_singleton.2 rfl)) hz
  · rcases List.mem_singleton.1 hx with rfl; exact hz
theorem isort_mem (x : α) (l : List α) : x ∈ isort lt l ↔ x ∈ l := by
  induction l with
  | nil => simp [isort]
  | cons y ys ih => rw [isort, ins_mem, ih]; simp
end
theorem swap_next (A B : List Int) (z y : Int) (n : Nat) (hn : n = A.length) :
    (A ++ z :: y :: B)[n]? = some z ∧ (A ++ z :: y :: B)[n + 1]? = some y ∧ ((A ++ z :: y :: B).set (n + 1) z).set n y = A ++ y :: z :: B := by
  subst hn
  refine ⟨get_mid A _ z, ?_, ?_⟩
  · have := get_mid (A ++ [z]) B y
    simp only [List.length_append, List.length_singleton, List.append_assoc, List.singleton_append] at this
    exact this
  · have h1 := set_mid (A ++ [z]) B y z
    simp only [List.length_append, List.length_singleton, List.append_assoc, List.singleton_append] at h1
    rw [h1, set_mid]
set_option maxHeartbeats 4000000 in
set_option maxRecDepth 20000 in
theorem insertion_c (P X R : List Int) (w0 w : World) (blk cap N g : Nat) (cb : Array Value) (ok : Int → Prop) (cf : Int → Int → Int) (za zb : Int) (hS : Srt w0 w blk (P ++ X ++ R)) (hC : CmpIs w0 blk g cb ok cf) (eg : ∀ args w, (callFunc g args).run Try.prog w = .ok (.enter g args) w) (SW : Swo (ltf cf)) (hok : ∀ x ∈ X, ok x)
    (ha : za = (P.length : Int)) (hb : zb = (P.length : Int) + X.length) (hN : N = P.length + X.length + R.length) (hsz : N < 4611686018427387904) :
    Calls Try.prog 41 #[.slice (some ⟨blk, 0, none⟩) N cap, .int .i64 za, .int .i64 zb, .func (.func g) #[] cb] w fun e w' => e = .returned (.tuple #[]) ∧ Srt w0 w' blk (P ++ isort (ltf cf) X ++ R) := by
  have HS := Lib.hid hS
  have HC := Lib.hid hC
  have HW := Lib.hid SW
  have HK := Lib.hid hok
  clear hS hC SW hok
  generalize hf : P ++ isort (ltf cf) X ++ R = fin
  have HF := Lib.hid hf
  clear hf
  obtain ⟨a, rfl⟩ : ∃ a : Nat, za = a := ⟨_, ha⟩
  obtain ⟨b, rfl⟩ : ∃ b : Nat, zb = b := ⟨P.length + X.length, by omega⟩
  have HA : Hid (a = P.length) := Lib.hid (by omega)
  have HX : Hid (b = a + X.length) := Lib.hid (by omega)
  have HN : Hid (N = b + R.length) := Lib.hid (by omega)
  have haN : a ≤ b := by omega
  have hbN : b ≤ N := by omega
  clear ha hb hN
  go_enter Try.func41, Try.ntmps41
  go_wp2
  go_loopg [8] b (fun g1 vi wr => ∃ (i : Nat) (A B : List Int), vi = .int .i64 i ∧ a + 1 ≤ i ∧ b ≤ g1 + i ∧ i ≤ b + 1 ∧ Hid (X = A ++ B) ∧ Hid (a + A.length = i ∨ (a = b ∧ i = a + 1 ∧ B = [])) ∧ Hid (Srt w0 wr blk (P ++ isort (ltf cf) A ++ B ++ R)))
  case atStart =>
    clear HF
    have h2 := HX.out
    cases X with
    | nil => exact ⟨a + 1, [], [], by go_num, Nat.le_refl _, by omega, by omega, rfl, Or.inr ⟨h2.symm, rfl, rfl⟩, Lib.hid (by simpa [isort] using HS.out)⟩
    | cons x xs => exact ⟨a + 1, [x], xs, by go_num, Nat.le_refl _, by omega, by simp at h2; omega, rfl, Or.inl rfl, Lib.hid (by simpa [isort, ins] using HS.out)⟩
  case round =>
    clear HS
    obtain ⟨i, A, B, rfl, hi1, hg1, hin, HXE, HAi, HS⟩ := hrel
    by_cases hlt : i < b
    · have hltz : (i : Int) < (b : Int) := by omega
      have HAl : Hid (a + A.length = i) := Lib.hid (by have h3 := HAi.out; omega)
      obtain ⟨y, B', rfl⟩ : ∃ y B', B = y :: B' := by
        cases B with
        | nil => exfalso; have h := HXE.out; have h2 := HX.out; have h3 := HAl.out; rw [h] at h2; simp at h2; omega
        | cons y B' => exact ⟨y, B', rfl⟩
      have HY : Hid (ok y) := Lib.hid (HK.out y (by rw [HXE.out]; simp))
      go_wp2
      go_loopg [9] i (fun g2 vj wr2 => ∃ (j : Nat) (S1 S2 : List Int), vj = .int .i64 j ∧ a ≤ j ∧ j ≤ i ∧ j ≤ g2 ∧ Hid (isort (ltf cf) A = S1 ++ S2) ∧ Hid (a + S1.length = j) ∧ Hid (∀ x ∈ S2, ltf cf y x = true) ∧ Hid (Srt w0 wr2 blk (P ++ S1 ++ y :: S2 ++ B' ++ R)))
      case atStart => exact ⟨i, isort (ltf cf) A, [], rfl, by omega, Nat.le_refl _, Nat.le_refl _, Lib.hid (by simp), Lib.hid (by rw [isort_len]; exact HAl.out), Lib.hid (fun _ h => by cases h), Lib.hid (by simpa using HS.out)⟩
      case round =>
        clear HS
        obtain ⟨j, S1, S2, rfl, haj, hji, hg2, HI, HL, HL2, HS⟩ := hrel
        have out : (∀ x ∈ S1, ltf cf y x = false) → Hid (P ++ S1 ++ y :: S2 ++ B' ++ R = P ++ isort (ltf cf) (A ++ [y]) ++ B' ++ R) := fun h => Lib.hid (by
          have hm := merge_insert HW.out S1 S2 y (by rw [← HI.out]; exact isort_sorted HW.out A) h HL2.out
          rw [isort_snoc HW.out, HI.out, hm]; simp)
        have OUT := Lib.hid out
        clear out
        by_cases hja : a < j
        · have hjaz : (a : Int) < (j : Int) := by omega
          obtain ⟨jp, hjp⟩ : ∃ q, q + 1 = j := ⟨j - 1, by omega⟩
          have zjp : (j : Int) = (jp : Int) + 1 := by omega
          have hjad : decide ((jp : Int) + 1 > (a : Int)) = true := decide_eq_true (by omega)
          have hjaz' : (a : Int) < (jp : Int) + 1 := by omega
          obtain ⟨S3, z, rfl⟩ : ∃ S3 z, S1 = S3 ++ [z] := by
            rcases List.eq_nil_or_concat S1 with h | ⟨S3, z, h⟩
            · exfalso; have := HL.out; rw [h] at this; simp at this; omega
            · exact ⟨S3, z, by simpa using h⟩
          have hz : ok z := HK.out z (by
            rw [HXE.out]; exact List.mem_append_left _ ((isort_mem (lt := ltf cf) z A).1 (by rw [HI.out]; simp)))
          have e0 : P ++ (S3 ++ [z]) ++ y :: S2 ++ B' ++ R = (P ++ S3) ++ z :: y :: (S2 ++ B' ++ R) := by simp
          have HS' := HS.out
          rw [e0] at HS'
          obtain ⟨g1', g2', g3'⟩ := swap_next (P ++ S3) (S2 ++ B' ++ R) z y jp (by have := HL.out; have := HA.out; simp at *; omega)
          have c1 := HS'.cell _ _ g1'
          have c2 := HS'.cell _ _ g2'
          have hln : jp + 1 < ((P ++ S3) ++ z :: y :: (S2 ++ B' ++ R)).length := by
            by_cases h : jp + 1 < ((P ++ S3) ++ z :: y :: (S2 ++ B' ++ R)).length
            · exact h
            · rw [List.getElem?_eq_none (by omega)] at g2'; cases g2'
          have f1 := HS'.fz jp (by omega)
          have f2 := HS'.fz (jp + 1) hln
          have cc := fun n' => HC.out.at_ HS' HY.out hz n'
          have ia : ((jp : Int) + 1).toNat = jp + 1 := by omega
          have pa : (0 : Int) ≤ (jp : Int) + 1 := by omega
          have ba : (jp : Int) + 1 < (N : Int) := by omega
          have ra : IntKind.i64.wrap ((jp : Int) + 1) = (jp : Int) + 1 := by rw [IntKind.wrap_i64]; omega
          have pb : (0 : Int) ≤ (jp : Int) := by omega
          have bb : (jp : Int) < (N : Int) := by omega
          have rb : IntKind.i64.wrap (jp : Int) = (jp : Int) := by rw [IntKind.wrap_i64]; omega
          have HG := Lib.hid g3'
          have HJ := Lib.hid hjp
          have HLN := Lib.hid hln
          have CC := Lib.hid cc
          have HS2 := Lib.hid HS'
          clear HS g1' g2' g3' hjp hln cc HS' e0 hz
          cases hlv : ltf cf y z with
          | true =>
            have hd : decide (cf y z < 0) = true := hlv
            have HV := Lib.hid hlv
            clear hlv
            go_wp2_with fail
            go_quiet (first | (go_at_fn g; refine CC.out _))
            have HS3 : Hid (Srt w0 (wr.drewN nq) blk ((P ++ S3) ++ z :: y :: (S2 ++ B' ++ R))) := Lib.hid (HS2.out.drewN nq)
            clear CC HS2 c1 c2 f1 f2
            generalize wr.drewN nq = w2 at HS3 ⊢
            clear nq ia ra rb
            have c1 := HS3.out.cell _ _ (swap_next (P ++ S3) (S2 ++ B' ++ R) z y jp (by have := HL.out; have := HA.out; have := HJ.out; simp at *; omega)).1
            have c2 := HS3.out.cell _ _ (swap_next (P ++ S3) (S2 ++ B' ++ R) z y jp (by have := HL.out; have := HA.out; have := HJ.out; simp at *; omega)).2.1
            have f1 := HS3.out.fz jp (by have := HLN.out; omega)
            have f2 := HS3.out.fz (jp + 1) HLN.out
            have c3 : (w2.setCell ⟨blk, jp + 1, none⟩ (.int .i64 z)).cell? ⟨blk, jp, none⟩ = some (.int .i64 z) := by
              rw [World.cell?_setCell_other _ _ _ _ (by intro e; injection e with _ e; omega)]; exact c1
            have HS4 : Hid (Srt w0 ((w2.setCell ⟨blk, jp + 1, none⟩ (.int .i64 z)).setCell ⟨blk, jp, none⟩ (.int .i64 y)).drew blk ((P ++ S3) ++ y :: z :: (S2 ++ B' ++ R))) := Lib.hid (by
              rw [← HG.out]; exact (HS3.out.swap HLN.out (by have := HLN.out; omega)).drew)
            have ia : ((jp : Int) + 1).toNat = jp + 1 := by omega
            have ra : IntKind.i64.wrap ((jp : Int) + 1) = (jp : Int) + 1 := by rw [IntKind.wrap_i64]; omega
            have rb : IntKind.i64.wrap (jp : Int) = (jp : Int) := by rw [IntKind.wrap_i64]; omega
            have mixed : Try.prog.follows Departure.mixedOrders = true := by rfl
            generalize hjq : jp + 1 = jq at c2 c3 f2 HS4 ia
            have HJQ := Lib.hid hjq
            clear HS3 hjq
            go_wp2_with fail
            go_big_region_o
            clear c1 c2 c3 f1 f2 mixed ia
            generalize ((w2.setCell ⟨blk, jq, none⟩ (.int .i64 z)).setCell ⟨blk, jp, none⟩ (.int .i64 y)).drew = w3 at HS4 ⊢
            go_wp2
            go_roundg jp
            case measure => omega
            case rel => exact ⟨jp, S3, z :: S2, by first | rfl | go_num, by omega, by omega, Nat.le_refl _, Lib.hid (by rw [HI.out]; simp), Lib.hid (by have h1 := HL.out; have := HJ.out; simp at h1; omega), Lib.hid (fun x hx => by
                rcases List.mem_cons.1 hx with rfl | hx
                · exact HV.out
                · exact HL2.out x hx), Lib.hid (by simpa using HS4.out)⟩
          | false =>
            have hd : decide (cf y z < 0) = false := hlv
            have HE := OUT.out (sorted_last HW.out (by have := isort_sorted HW.out A; rw [HI.out] at this; exact (List.pairwise_append.1 this).1) hlv)
            clear hlv
            go_wp2_with fail
            go_quiet (first | (go_at_fn g; refine CC.out _))
            have HS3 : Hid (Srt w0 (wr.drewN nq) blk ((P ++ S3) ++ z :: y :: (S2 ++ B' ++ R))) := Lib.hid (HS2.out.drewN nq)
            clear CC HS2 c1 c2 f1 f2
            generalize wr.drewN nq = w2 at HS3 ⊢
            clear nq ia ra rb
            go_wp2
            go_roundg (b - (i + 1))
            case measure => omega
            case rel => exact ⟨i + 1, A ++ [y], B', by first | rfl | go_num, by omega, by omega, by omega, Lib.hid (by rw [HXE.out]; simp), Lib.hid (Or.inl (by have := HAl.out; simp; omega)), Lib.hid (by rw [← HE.out]; simpa using HS3.out)⟩
        · have hjaz : ¬ (a : Int) < (j : Int) := by omega
          have hjad : decide ((j : Int) > (a : Int)) = false := decide_eq_false (by omega)
          have HE := OUT.out (by
            have h : S1 = [] := by cases S1 with
              | nil => rfl
              | cons _ _ => exfalso; have := HL.out; simp at this; omega
            rw [h]; intro x hx; cases hx)
          go_wp2_with fail
          go_quiet (fail)
          have HS3 : Hid (Srt w0 (wr.drewN nq) blk (P ++ S1 ++ y :: S2 ++ B' ++ R)) := Lib.hid (HS.out.drewN nq)
          clear HS
          generalize wr.drewN nq = w2 at HS3 ⊢
          clear nq
          go_wp2
          go_roundg (b - (i + 1))
          case measure => omega
          case rel => exact ⟨i + 1, A ++ [y], B', by first | rfl | go_num, by omega, by omega, by omega, Lib.hid (by rw [HXE.out]; simp), Lib.hid (Or.inl (by have := HAl.out; simp; omega)), Lib.hid (by rw [← HE.out]; exact HS3.out)⟩
    · have hltz : ¬ (i : Int) < (b : Int) := by omega
      have HE : Hid (P ++ isort (ltf cf) A ++ B ++ R = fin) := Lib.hid (by
        have h : B = [] := by
          rcases HAi.out with h | h
          · have h1 := HX.out
            rw [HXE.out] at h1
            simp at h1
            cases B with
            | nil => rfl
            | cons _ _ => exfalso; simp at h1; omega
          · exact h.2.2
        have h2 := HXE.out
        rw [h, List.append_nil] at h2
        rw [h, List.append_nil, ← HF.out, h2])
      go_wp2
      exact ⟨rfl, _, results_none (by rfl) _ _ _, rfl, by rw [← HE.out]; exact HS.out⟩
end Go.Proofs.Ytgblbhbmeflckaa
