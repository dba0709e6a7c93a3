/- mahoutref03.Near: each time the first of those that are left, gives the same list. -/
import Derived.Test.YtgblbhbmeflckaaNear3
import Derived.Test.YtgblbhbmeflckaaNumbers
namespace Go.Proofs.Ytgblbhbmeflckaa
open Go.RowKit Go.Lib St Fl
set_option linter.unusedVariables false
set_option linter.unusedSimpArgs false
theorem distI_lo (a b c d : Option Int) : -1 ≤ distI a b c d := by
  unfold distI
  split
  · rename_i a b c d
    have h1 : 0 ≤ (a - c) * (a - c) := by
      rcases Int.le_total 0 (a - c) with h | h
      · exact Int.mul_nonneg h h
      · exact Int.mul_nonneg_of_nonpos_of_nonpos h h
    have h2 : 0 ≤ (b - d) * (b - d) := by
      rcases Int.le_total 0 (b - d) with h | h
      · exact Int.mul_nonneg h h
      · exact Int.mul_nonneg_of_nonpos_of_nonpos h h
    omega
  · omega
theorem distI_hi (a b c d : Nat) : distI (pl a) (pl b) (pl c) (pl d) ≤ 8000000 := by
  have HB : ∀ (x : Nat) (n : Int), pl x = some n → -1000 ≤ n ∧ n ≤ 1000 := fun x n h => ⟨(pl_is h).1, (pl_is h).2.1⟩
  unfold distI
  split
  · rename_i x y z u h1 h2 h3 h4
    have e1 := HB _ _ h1; have e2 := HB _ _ h2; have e3 := HB _ _ h3; have e4 := HB _ _ h4
    obtain ⟨p1, p2⟩ := sq_bd (x := x - z) (by omega) (by omega)
    obtain ⟨q1, q2⟩ := sq_bd (x := y - u) (by omega) (by omega)
    omega
  · omega
/-- stands x ahead of y? -/
def RR (zr zi : Nat) (re im : Nat → Nat) (x y : Int) : Prop := farZ zr zi re im x < farZ zr zi re im y ∨ (farZ zr zi re im x ≤ farZ zr zi re im y ∧ x < y)
theorem RR.asymm {zr zi : Nat} {re im : Nat → Nat} {x y : Int} (h : RR zr zi re im x y) (k : RR zr zi re im y x) : False := by
  unfold RR at h k
  omega
noncomputable def dI (zr zi : Nat) (re im : Nat → Nat) (i : Nat) : Int := distI (pl zr) (pl zi) (pl (re i)) (pl (im i))
noncomputable def aheadB (zr zi : Nat) (re im : Nat → Nat) (i k : Nat) : Bool := if dI zr zi re im i = dI zr zi re im k then decide (i < k) else if dI zr zi re im i < 0 ∨ dI zr zi re im k < 0 then decide (dI zr zi re im k < 0) else decide (dI zr zi re im i < dI zr zi re im k)
theorem aheadB_iff (zr zi : Nat) (re im : Nat → Nat) (i k : Nat) : aheadB zr zi re im i k = true ↔ RR zr zi re im (i : Int) (k : Int) := by
  have h1 := distI_lo (pl zr) (pl zi) (pl (re i)) (pl (im i))
  have h2 := distI_hi zr zi (re i) (im i)
  have h3 := distI_lo (pl zr) (pl zi) (pl (re k)) (pl (im k))
  have h4 := distI_hi zr zi (re k) (im k)
  unfold aheadB RR farZ dI
  simp only [Int.toNat_natCast]
  generalize distI (pl zr) (pl zi) (pl (re i)) (pl (im i)) = a at *
  generalize distI (pl zr) (pl zi) (pl (re k)) (pl (im k)) = b at *
  simp only [IntKind.wrap_u64]
  split
  · rw [decide_eq_true_eq]; omega
  · split
    · rw [decide_eq_true_eq]; omega
    · rw [decide_eq_true_eq]; omega
/-- has the number been chosen? -/
def tk (nl : List Int) (k : Nat) (i : Nat) : Bool := decide ((i : Int) ∈ nl.take k)
/-- the first of those that are left, among the first i -/
def Best (R : Int → Int → Prop) (nl : List Int) (k i : Nat) (bz : Int) : Prop :=
  (bz = -1 ∧ ∀ j, j < i → tk nl k j = true) ∨ (∃ b : Nat, bz = (b : Int) ∧ b < i ∧ tk nl k b = false ∧ ∀ j, j < i → tk nl k j = false → j = b ∨ R (b : Int) (j : Int))
theorem Best.start (R : Int → Int → Prop) (nl : List Int) (k : Nat) : Best R nl k 0 (-1) := .inl ⟨rfl, fun j h => absurd h (Nat.not_lt_zero _)⟩
theorem Best.skip {R : Int → Int → Prop} {nl : List Int} {k i : Nat} {bz : Int} (h : Best R nl k i bz) (ht : tk nl k i = true) : Best R nl k (i + 1) bz := by
  rcases h with ⟨h1, h2⟩ | ⟨b, h1, h2, h3, h4⟩
  · refine .inl ⟨h1, fun j hj => ?_⟩
    by_cases e : j = i
    · subst e; exact ht
    · exact h2 j (by omega)
  · refine .inr ⟨b, h1, by omega, h3, fun j hj hf => ?_⟩
    by_cases e : j = i
    · subst e; rw [ht] at hf; cases hf
    · exact h4 j (by omega) hf
theorem Best.first {R : Int → Int → Prop} {nl : List Int} {k i : Nat} {bz : Int} (h : Best R nl k i bz) (hb : bz < 0) (ht : tk nl k i = false) : Best R nl k (i + 1) (i : Int) := by
  rcases h with ⟨h1, h2⟩ | ⟨b, h1, h2, h3, h4⟩
  · refine .inr ⟨i, rfl, by omega, ht, fun j hj hf => ?_⟩
    by_cases e : j = i
    · exact .inl e
    · rw [h2 j (by omega)] at hf; cases hf
  · omega
theorem Best.take {R : Int → Int → Prop} {nl : List Int} {k i b : Nat} (h : Best R nl k i (b : Int)) (tr : ∀ x y z, R x y → R y z → R x z) (ht : tk nl k i = false) (hr : R (i : Int) (b : Int)) : Best R nl k (i + 1) (i : Int) := by
  rcases h with ⟨h1, h2⟩ | ⟨c, h1, h2, h3, h4⟩
  · omega
  · obtain rfl : b = c := by omega
    refine .inr ⟨i, rfl, by omega, ht, fun j hj hf => ?_⟩
    by_cases e : j = i
    · exact .inl e
    · rcases h4 j (by omega) hf with rfl | h5
      · exact .inr hr
      · exact .inr (tr _ _ _ hr h5)
theorem Best.keep {R : Int → Int → Prop} {nl : List Int} {k i b : Nat} (h : Best R nl k i (b : Int)) (tot : ∀ i j : Nat, i ≠ j → ¬ R (i : Int) (j : Int) → R (j : Int) (i : Int)) (hr : ¬ R (i : Int) (b : Int)) : Best R nl k (i + 1) (b : Int) := by
  rcases h with ⟨h1, h2⟩ | ⟨c, h1, h2, h3, h4⟩
  · omega
  · obtain rfl : b = c := by omega
    refine .inr ⟨b, rfl, by omega, h3, fun j hj hf => ?_⟩
    by_cases e : j = i
    · subst e
      exact .inr (tot j b (by omega) hr)
    · exact h4 j (by omega) hf
theorem Best.done {R : Int → Int → Prop} (asy : ∀ x y, R x y → R y x → False) {nl : List Int} (hp : nl.Pairwise R) {n : Nat} (hl : nl.length = n) (hm : ∀ x, x ∈ nl ↔ ∃ j : Nat, j < n ∧ x = (j : Int)) {k : Nat} (hk : k < n) {bz : Int} (h : Best R nl k n bz) : nl[k]? = some bz := by
  obtain ⟨y, hy⟩ : ∃ y, nl[k]? = some y := ⟨nl[k]'(by omega), List.getElem?_eq_getElem _⟩
  have hpa := hp
  rw [← List.take_append_drop k nl, List.pairwise_append] at hpa
  have hyd : nl.drop k = y :: nl.drop (k + 1) := by
    rw [List.drop_eq_getElem_cons (by omega)]
    congr 1
    exact (List.getElem?_eq_some_iff.1 hy).2
  obtain ⟨j, hj, rfl⟩ := (hm y).1 (List.mem_of_getElem? hy)
  have hnt : (j : Int) ∉ nl.take k := fun hin => asy _ _ (hpa.2.2 _ hin _ (by rw [hyd]; simp)) (hpa.2.2 _ hin _ (by rw [hyd]; simp))
  have hjf : tk nl k j = false := decide_eq_false hnt
  rcases h with ⟨h1, h2⟩ | ⟨b, rfl, h2, h3, h4⟩
  · rw [h2 j hj] at hjf; cases hjf
  · rcases h4 j hj hjf with rfl | h5
    · exact hy
    · exfalso
      have hb : (b : Int) ∈ nl := (hm _).2 ⟨b, h2, rfl⟩
      have hbn : (b : Int) ∉ nl.take k := of_decide_eq_false h3
      rw [← List.take_append_drop k nl, List.mem_append, hyd] at hb
      rcases hb with hb | hb
      · exact hbn hb
      · rcases List.mem_cons.1 hb with e | hb
        · rw [e] at h5; exact asy _ _ h5 h5
        · have h6 := hpa.2.1
          rw [hyd, List.pairwise_cons] at h6
          exact asy _ _ h5 (h6.1 _ hb)
theorem RR.tr {zr zi : Nat} {re im : Nat → Nat} (x y z : Int) (h : RR zr zi re im x y) (k : RR zr zi re im y z) : RR zr zi re im x z := by
  unfold RR at *
  omega
theorem RR.tot {zr zi : Nat} {re im : Nat → Nat} (i j : Nat) (hij : i ≠ j) (h : ¬ RR zr zi re im (i : Int) (j : Int)) : RR zr zi re im (j : Int) (i : Int) := by
  unfold RR at *
  omega
def ints (l : List Int) : List Value := l.map (Value.int .i64)
theorem int_info : (Try.prog.info? 3).map (fun i => (i.zero, i.size, i.bytes)) = some (some (.int .i64 0), 1, 8) := by kernel_rfl
set_option maxRecDepth 20000 in
set_option maxHeartbeats 4000000 in
theorem same_c (ga n c gb cb : Nat) (l : List Int) (w : World) (hl : l.length = n) (hn : n ≤ 35184372088832) (ha : ∀ (i : Nat) x, l[i]? = some x → w.cell? ⟨ga, i, none⟩ = some (.int .i64 x)) (hb : ∀ (i : Nat) x, l[i]? = some x → w.cell? ⟨gb, i, none⟩ = some (.int .i64 x)) (pa pb : Option Addr) (hpa : 0 < n → pa = some ⟨ga, 0, none⟩) (hpb : 0 < n → pb = some ⟨gb, 0, none⟩) :
    Calls Try.prog 20 #[.slice pa n c, .slice pb n cb] w fun e w' => e = .returned (.bool true) ∧ Fr w w' (fun _ => False) := by
  have HL := Lib.hid hl
  have HNB := Lib.hid hn
  have HA := Lib.hid ha
  have HB := Lib.hid hb
  have HPA := Lib.hid hpa
  have HPB := Lib.hid hpb
  have hbi : ((n : Int) != (n : Int)) = false := by simp
  clear hl hn ha hb hpa hpb
  go_enter Try.func20, Try.ntmps20
  go_wp2_with fail
  go_loopg [5] n (fun g v5 wr => ∃ k : Nat, v5 = .int .i64 (k : Int) ∧ k + g = n ∧ Hid (Fr w wr (fun _ => False)) ∧ Hid (∀ a, (∃ v, w.cell? a = some v) → wr.cell? a = w.cell? a))
  case atStart => exact ⟨0, rfl, by omega, Lib.hid (Fr.refl _ _), Lib.hid (fun _ _ => rfl)⟩
  case round =>
    obtain ⟨k, rfl, hk, HF, HCC⟩ := hrel
    have HK := Lib.hid hk
    by_cases hlt : k < n
    · have t1 : decide ((k : Int) < (n : Int)) = true := decide_eq_true (by omega)
      have t1n : decide (k < n) = true := decide_eq_true hlt
      have HLT := Lib.hid hlt
      obtain ⟨x, hx⟩ : ∃ x, l[k]? = some x := ⟨l[k]'(by rw [HL.out]; exact hlt), List.getElem?_eq_getElem _⟩
      obtain rfl := HPA.out (by omega)
      obtain rfl := HPB.out (by omega)
      have d1 : ∀ d, (wr.drewN d).cell? ⟨ga, k, none⟩ = some (.int .i64 x) := fun d => (HCC.out _ ⟨_, HA.out k x hx⟩).trans (HA.out k x hx)
      have d2 : ∀ d, (wr.drewN d).cell? ⟨gb, k, none⟩ = some (.int .i64 x) := fun d => (HCC.out _ ⟨_, HB.out k x hx⟩).trans (HB.out k x hx)
      have ka : ((k : Int)).toNat = k := by omega
      have kp : (0 : Int) ≤ (k : Int) := by omega
      have kz : (k : Int) < (n : Int) := by omega
      have kw : k + 1 < 35184372088833 := by have := HNB.out; omega
      have hxx : (x != x) = false := by simp
      clear hx hlt hk
      go_upto_region 6 with (fail)
      go_quiet (fail)
      have HF3 := Lib.hid (HF.out.drewN nq)
      have HC3 : Hid (∀ a, (∃ v, w.cell? a = some v) → (wr.drewN nq).cell? a = w.cell? a) := Lib.hid HCC.out
      clear d1 d2 hxx HF HCC
      generalize wr.drewN nq = w3 at HF3 HC3 ⊢
      go_wp2_with fail
      clear kw
      go_roundg (n - (k + 1))
      case measure => have := HK.out; have := HLT.out; omega
      case rel => exact ⟨k + 1, by first | rfl | go_num, by have := HK.out; have := HLT.out; omega, HF3, HC3⟩
    · have t1 : decide ((k : Int) < (n : Int)) = false := decide_eq_false (by omega)
      have t1n : decide (k < n) = false := decide_eq_false hlt
      clear hlt hk
      go_wp2_with fail
      go_ret
      exact ⟨rfl, HF.out⟩
set_option maxRecDepth 20000 in
set_option maxHeartbeats 4000000 in
theorem ahead_c (zr zi : Nat) (p : Option Addr) (lb n cap : Nat) (re im : Nat → Nat) (i k : Nat) (hi : i < n) (hk : k < n) (w : World) (hp : p = some ⟨lb, 0, none⟩) (hl : ∀ i, i < n → w.cell? ⟨lb, i, none⟩ = some (.complex .f64 (re i) (im i))) :
    Calls Try.prog 32 #[.complex .f64 zr zi, .slice p n cap, .int .i64 (i : Int), .int .i64 (k : Int)] w fun e w' => e = .returned (.bool (aheadB zr zi re im i k)) ∧ ∃ m, w' = w.drewN m := by
  subst hp
  have d1 : ∀ d, (w.drewN d).cell? ⟨lb, i, none⟩ = some (.complex .f64 (re i) (im i)) := fun d => hl i hi
  have d2 : ∀ d, (w.drewN d).cell? ⟨lb, k, none⟩ = some (.complex .f64 (re k) (im k)) := fun d => hl k hk
  have ia : ((i : Int)).toNat = i := by omega
  have ip : (0 : Int) ≤ (i : Int) := by omega
  have iz : (i : Int) < (n : Int) := by omega
  have ka : ((k : Int)).toNat = k := by omega
  have kp : (0 : Int) ≤ (k : Int) := by omega
  have kz : (k : Int) < (n : Int) := by omega
  have D1 := Lib.hid (fun w => rdist_any zr zi (re i) (im i) w)
  have D2 := Lib.hid (fun w => rdist_any zr zi (re k) (im k) w)
  have HAB : Hid (aheadB zr zi re im i k = if dI zr zi re im i = dI zr zi re im k then decide (i < k) else if dI zr zi re im i < 0 ∨ dI zr zi re im k < 0 then decide (dI zr zi re im k < 0) else decide (dI zr zi re im i < dI zr zi re im k)) := Lib.hid rfl
  unfold dI at HAB
  generalize aheadB zr zi re im i k = ab at HAB ⊢
  generalize distI (pl zr) (pl zi) (pl (re i)) (pl (im i)) = a at D1 HAB
  generalize distI (pl zr) (pl zi) (pl (re k)) (pl (im k)) = b at D2 HAB
  have HIK : Hid (decide ((i : Int) < (k : Int)) = decide (i < k)) := Lib.hid (decide_eq_decide.2 (by omega))
  clear hl hi hk
  go_enter Try.func32, Try.ntmps32
  go_wp2_with fail
  go_quiet ((first | (go_at_call 17; with_reducible exact quiet_of (D1.out _)) | (go_at_call 17; with_reducible exact quiet_of (D2.out _))))
  clear d1 d2 D1 D2
  have HZ : Hid (∃ m, w.drewN nq = w.drewN m) := Lib.hid ⟨nq, rfl⟩
  generalize w.drewN nq = w1 at HZ ⊢
  by_cases hab : a = b
  · have t1 : (a == b) = true := by rw [hab]; simp
    have HR := Lib.hid (HAB.out.trans (if_pos hab))
    clear hab
    go_wp2
    go_ret
    exact ⟨by rw [HR.out, ← HIK.out]; rfl, HZ.out⟩
  · have t1 : (a == b) = false := beq_eq_false_iff_ne.2 hab
    have h2 := HAB.out.trans (if_neg hab)
    clear hab
    by_cases ha : a < 0
    · have HR := Lib.hid (h2.trans (if_pos (.inl ha)))
      have t2 := decide_eq_true ha
      clear h2 ha
      go_wp2
      go_ret
      exact ⟨by rw [HR.out]; rfl, HZ.out⟩
    · have t2 := decide_eq_false ha
      by_cases hb : b < 0
      · have HR := Lib.hid (h2.trans (if_pos (.inr hb)))
        have t3 := decide_eq_true hb
        clear h2 ha hb
        go_wp2
        go_ret
        exact ⟨by rw [HR.out, t3]; rfl, HZ.out⟩
      · have HR := Lib.hid (h2.trans (if_neg (by omega)))
        have t3 := decide_eq_false hb
        clear h2 ha hb
        go_wp2
        go_ret
        exact ⟨by rw [HR.out]; rfl, HZ.out⟩
theorem ints_snoc {w : World} {base : Nat} {e : TypeId} {v : Value} {l : List Int} {x : Int} (h : w.ownsRow base e 1 v (l.length + 1) (ints l ++ [.int .i64 x])) : w.ownsRow base e 1 v (l ++ [x]).length (ints (l ++ [x])) := by
  rw [List.length_append]
  simpa [ints] using h
/-- which numbers have been chosen -/
def tkL (nl : List Int) (n k : Nat) : List Value := (List.range n).map fun i => .bool (tk nl k i)
theorem tkL_zero (nl : List Int) (n : Nat) : tkL nl n 0 = List.replicate n (.bool false) := by
  unfold tkL tk
  simp [List.map_const']
theorem tkL_get (nl : List Int) (n k i : Nat) (hi : i < n) : (tkL nl n k)[i]? = some (.bool (tk nl k i)) := by
  unfold tkL
  rw [List.getElem?_map, List.getElem?_range hi]; rfl
theorem tkL_set (nl : List Int) (n k b : Nat) (hk : nl[k]? = some (b : Int)) (hb : b < n) : (tkL nl n k).set b (.bool true) = tkL nl n (k + 1) := by
  have hl : ∀ k, (tkL nl n k).length = n := fun k => by unfold tkL; simp
  apply List.ext_getElem?
  intro i
  by_cases hi : i < n
  · rw [tkL_get _ _ _ _ hi, List.getElem?_set]
    by_cases e : b = i
    · subst e
      rw [if_pos rfl, if_pos (by rw [hl]; exact hb)]
      unfold tk
      rw [List.take_add_one, hk]
      simp
    · rw [if_neg e, tkL_get _ _ _ _ hi]
      unfold tk
      rw [List.take_add_one, hk]
      congr 2
      apply decide_eq_decide.2
      simp
      omega
  · rw [List.getElem?_eq_none (by rw [List.length_set, hl]; omega), List.getElem?_eq_none (by rw [hl]; omega)]
set_option maxRecDepth 20000 in
set_option maxHeartbeats 8000000 in
theorem rnear_c (zr zi : Nat) (p : Option Addr) (lb n cap : Nat) (re im : Nat → Nat) (w : World) (hp : 0 < n → p = some ⟨lb, 0, none⟩) (hlb : 0 < n → lb < w.heap.size) (hl : ∀ i, i < n → w.cell? ⟨lb, i, none⟩ = some (.complex .f64 (re i) (im i))) (hsz : n < 8796093022208) :
    Calls Try.prog 21 #[.complex .f64 zr zi, .slice p n cap] w fun e w' => ∃ v, e = .returned v ∧ Below w.heap.size w w' ∧ w'.ownsRow w.heap.size 3 1 v n (ints (nearL zr zi re im n)) := by
  have hm1 := fun w => run_make1 (P := Try.prog) 59 4 (.bool false) 1 Try.underlying59 (by kernel_rfl) rfl n (by omega) (by omega) w
  have HP := Lib.hid hp
  have HLB := Lib.hid hlb
  have HL := Lib.hid hl
  have HSZ := Lib.hid hsz
  have HNL := Lib.hid (nearL_len zr zi re im n)
  have HDN := Lib.hid (fun (k : Nat) (bz : Int) (hk : k < n) (h : Best (RR zr zi re im) (nearL zr zi re im n) k n bz) => Best.done (fun x y => RR.asymm) (nearL_ahead zr zi re im n) (nearL_len zr zi re im n) (nearL_mem zr zi re im n) hk h)
  have HMM := Lib.hid (fun x h => (nearL_mem zr zi re im n x).1 h)
  generalize nearL zr zi re im n = nl at HNL HDN HMM ⊢
  clear hp hlb hl hsz
  go_enter Try.func21, Try.ntmps21
  go_wp2
  have M1 := Lib.hid (Blk.make w n (.bool false) 4)
  have MF := Lib.hid ((Fr.refl w fun _ => False).alloc (.cells (rep n (.bool false)) 4))
  rw [← tkL_zero nl n] at M1
  clear hm1
  generalize w.alloc (.cells (rep n (.bool false)) 4) = w1 at *
  go_loopg [5] n (fun g v5 wr => ∃ k : Nat, k + g = n ∧ Hid (wr.ownsRow w.heap.size 3 1 v5 (nl.take k).length (ints (nl.take k))) ∧ Hid (∀ q, v5.ownBlock = some q → q ≠ w.heap.size) ∧ Hid (Blk wr w.heap.size (tkL nl n k) 4) ∧ Hid (Fr w wr (fun _ => False)))
  case atStart => exact ⟨0, by omega, Lib.hid (World.ownsRow_nil _ _ _ _), Lib.hid (fun q e => by cases e), M1, MF⟩
  case round =>
    clear M1 MF
    obtain ⟨k, hg, HO, HQ, HT, HF⟩ := hrel
    have HG := Lib.hid hg
    have HTL : Hid ((nl.take k).length = k) := Lib.hid (by rw [List.length_take, HNL.out]; omega)
    obtain ⟨A5, c5, hv5⟩ := own_slice HO.out
    rw [HTL.out] at hv5
    subst hv5
    clear hg
    by_cases hlt : k < n
    · have t1 : decide ((k : Int) < (n : Int)) = true := decide_eq_true (by omega)
      have t1n : decide (k < n) = true := decide_eq_true hlt
      have HLT := Lib.hid hlt
      clear hlt
      go_wp2_with fail
      go_loopg [7, 8] n (fun g2 v7 v8 wq => ∃ (i : Nat) (bz : Int), v7 = .int .i64 bz ∧ v8 = .int .i64 (i : Int) ∧ i + g2 = n ∧ Hid (Best (RR zr zi re im) nl k i bz) ∧ Hid (wq.ownsRow w.heap.size 3 1 (.slice A5 k c5) (nl.take k).length (ints (nl.take k))) ∧ Hid (Blk wq w.heap.size (tkL nl n k) 4) ∧ Hid (Fr w wq (fun _ => False)))
      case atStart => exact ⟨0, -1, rfl, rfl, by omega, Lib.hid (Best.start _ _ _), HO, HT, HF⟩
      case round =>
        obtain ⟨i, bz, rfl, rfl, hg2, HBE, HO2, HT2, HF2⟩ := hrel
        have HG2 := Lib.hid hg2
        clear HO HT HF hg2
        by_cases hin : i < n
        · have s1 : decide ((i : Int) < (n : Int)) = true := decide_eq_true (by omega)
          have s1n : decide (i < n) = true := decide_eq_true hin
          have c0 : wr.cell? ⟨w.heap.size, i, none⟩ = some (.bool (tk nl k i)) := (HT2.out.cell i).trans (tkL_get nl n k i hin)
          have ia : ((i : Int)).toNat = i := by omega
          have ip : (0 : Int) ≤ (i : Int) := by omega
          have iz : (i : Int) < (n : Int) := by omega
          have kw : i + 1 < 8796093022209 := by have := HSZ.out; omega
          have HIN := Lib.hid hin
          have hcell : ∀ j, j < n → wr.cell? ⟨lb, j, none⟩ = some (.complex .f64 (re j) (im j)) := fun j hj => (HF2.out.cell (p := ⟨lb, j, none⟩) (HLB.out (by omega)) (fun e => e)).trans (HL.out j hj)
          have HCL := Lib.hid hcell
          clear hcell hin
          cases htk : tk nl k i with
          | true =>
            rw [htk] at c0
            have HB2 := Lib.hid (HBE.out.skip htk)
            clear htk
            go_wp2_with fail
            clear kw
            go_roundg (n - (i + 1))
            case measure => have := HIN.out; have := HG2.out; omega
            case rel => exact ⟨i + 1, bz, rfl, by first | rfl | go_num, by have := HIN.out; omega, HB2, HO2, HT2, HF2⟩
          | false =>
            rw [htk] at c0
            by_cases hbz : bz < 0
            · have b1 := decide_eq_true hbz
              have HB2 := Lib.hid (HBE.out.first hbz htk)
              clear htk hbz
              go_wp2_with fail
              clear kw
              go_roundg (n - (i + 1))
              case measure => have := HIN.out; have := HG2.out; omega
              case rel => exact ⟨i + 1, (i : Int), by first | rfl | go_num, by first | rfl | go_num, by have := HIN.out; omega, HB2, HO2, HT2, HF2⟩
            · have b1 := decide_eq_false hbz
              obtain ⟨b, rfl, hbi⟩ : ∃ b : Nat, bz = (b : Int) ∧ b < i := by
                rcases HBE.out with ⟨h1, _⟩ | ⟨b, h1, h2, _⟩
                · omega
                · exact ⟨b, h1, h2⟩
              have HAC := Lib.hid (ahead_c zr zi p lb n cap re im i b HIN.out (by have := HIN.out; omega) wr (HP.out (by have := HIN.out; omega)) HCL.out)
              have hiff := aheadB_iff zr zi re im i b
              cases hab : aheadB zr zi re im i b with
              | true =>
                rw [hab] at HAC
                have HB2 := Lib.hid (HBE.out.take RR.tr htk (hiff.1 hab))
                clear htk hbz hiff hab hbi
                go_wp2_with fail
                refine HAC.out.mono ?_
                rintro _ w3 ⟨rfl, m3, hw3⟩
                have HO3 : Hid (w3.ownsRow w.heap.size 3 1 (.slice A5 k c5) (nl.take k).length (ints (nl.take k))) := Lib.hid (by rw [hw3]; exact own_drewN HO2.out m3)
                have HT3 : Hid (Blk w3 w.heap.size (tkL nl n k) 4) := Lib.hid (by rw [hw3]; exact HT2.out.drewN m3)
                have HF3 : Hid (Fr w w3 (fun _ => False)) := Lib.hid (by rw [hw3]; exact HF2.out.drewN m3)
                clear hw3
                go_wp2_with fail
                clear kw
                go_roundg (n - (i + 1))
                case measure => have := HIN.out; have := HG2.out; omega
                case rel => exact ⟨i + 1, (i : Int), by first | rfl | go_num, by first | rfl | go_num, by have := HIN.out; omega, HB2, HO3, HT3, HF3⟩
              | false =>
                rw [hab] at HAC
                have HB2 := Lib.hid (HBE.out.keep RR.tot (fun e => by rw [hiff.2 e] at hab; cases hab))
                clear htk hbz hiff hab hbi
                go_wp2_with fail
                refine HAC.out.mono ?_
                rintro _ w3 ⟨rfl, m3, hw3⟩
                have HO3 : Hid (w3.ownsRow w.heap.size 3 1 (.slice A5 k c5) (nl.take k).length (ints (nl.take k))) := Lib.hid (by rw [hw3]; exact own_drewN HO2.out m3)
                have HT3 : Hid (Blk w3 w.heap.size (tkL nl n k) 4) := Lib.hid (by rw [hw3]; exact HT2.out.drewN m3)
                have HF3 : Hid (Fr w w3 (fun _ => False)) := Lib.hid (by rw [hw3]; exact HF2.out.drewN m3)
                clear hw3
                go_wp2_with fail
                clear kw
                go_roundg (n - (i + 1))
                case measure => have := HIN.out; have := HG2.out; omega
                case rel => exact ⟨i + 1, (b : Int), by first | rfl | go_num, by first | rfl | go_num, by have := HIN.out; omega, HB2, HO3, HT3, HF3⟩
        · have s1 : decide ((i : Int) < (n : Int)) = false := decide_eq_false (by omega)
          have s1n : decide (i < n) = false := decide_eq_false hin
          obtain rfl : i = n := by have := HG2.out; omega
          have hkb := HDN.out k bz HLT.out HBE.out
          obtain ⟨b, hb, rfl⟩ := HMM.out bz (List.mem_of_getElem? hkb)
          have c0 : wr.cell? ⟨w.heap.size, b, none⟩ = some (.bool (tk nl k b)) := (HT2.out.cell b).trans (tkL_get nl i k b hb)
          have f0 : wr.frozen? ⟨w.heap.size, b, none⟩ = false := HT2.out.frozen b
          have ba : ((b : Int)).toNat = b := by omega
          have bp : (0 : Int) ≤ (b : Int) := by omega
          have bz : (b : Int) < (i : Int) := by omega
          have hset := HT2.out.set b (.bool true)
          rw [tkL_set nl i k b hkb hb] at hset
          have HS := Lib.hid hset
          have hff : Fr wr (wr.setCell ⟨w.heap.size, b, none⟩ (.bool true)) (fun j => j = w.heap.size) := (Fr.refl wr _).setCell _ _ fun _ => rfl
          have HF4 : Hid (Fr w (wr.setCell ⟨w.heap.size, b, none⟩ (.bool true)) (fun _ => False)) := Lib.hid (HF2.out.trans hff fun y hy e => by omega)
          have HO4 : Hid ((wr.setCell ⟨w.heap.size, b, none⟩ (.bool true)).ownsRow w.heap.size 3 1 (.slice A5 k c5) (nl.take k).length (ints (nl.take k))) := Lib.hid (own_fr HO2.out hff (fun q e e2 => HQ.out q e e2))
          have HTK : Hid (nl.take (k + 1) = nl.take k ++ [(b : Int)]) := Lib.hid (by rw [List.take_add_one, hkb]; rfl)
          have HSI : Hid (w.heap.size ≤ (wr.setCell ⟨w.heap.size, b, none⟩ (.bool true)).heap.size) := Lib.hid HF4.out.size
          clear hset hff hkb hin hb HO2 HT2 HF2
          go_upto_region 11 with (fail)
          clear c0 f0
          generalize wr.setCell ⟨w.heap.size, b, none⟩ (.bool true) = w4 at HS HF4 HO4 HSI ⊢
          generalize nl.take k = out at HO4 HTK HTL
          have HO5 : Hid (w4.ownsRow w.heap.size 3 1 (.slice A5 k c5) k (ints out)) := Lib.hid (by have := HO4.out; rw [HTL.out] at this; exact this)
          go_wp2_with (at_builtin; refine wpList_app rfl _ _ 40 rfl w.heap.size 3 _ 1 8 Try.underlying40 int_info rfl (by decide) _ k _ rfl HO5.out _ _ 1 1 rfl rfl rfl (by have := HTL.out; have := HSZ.out; have := HLT.out; unfold maxLen; omega) (by have := HTL.out; have := HSZ.out; have := HLT.out; omega) HSI.out ?_; intro v' w7 hO hG hN)
          have hf7 := Fr.of_grown hG.out (S := fun j => some j = (Value.slice A5 k c5).ownBlock) fun j e => e.symm
          have HT7 : Hid (Blk w7 w.heap.size (tkL nl i (k + 1)) 4) := Lib.hid (HS.out.fr hf7 fun e => HQ.out _ e.symm rfl)
          have HF7 : Hid (Fr w w7 (fun _ => False)) := Lib.hid (HF4.out.trans hf7 fun y hy e => by have := (HO4.out.lt y e.symm).1; omega)
          have HQ7 : Hid (∀ q, v'.ownBlock = some q → q ≠ w.heap.size) := Lib.hid fun q hq e => by
            rcases hN.out with h | ⟨g, h, hg⟩
            · exact HQ.out q (h ▸ hq) e
            · rw [h] at hq
              have := Option.some.inj hq
              have := HS.out.lt
              omega
          clear hf7
          go_roundg (i - (k + 1))
          case measure => have := HLT.out; have := HG.out; omega
          case rel => exact ⟨k + 1, by have := HLT.out; omega, by rw [HTK.out]; exact Lib.hid (ints_snoc (by rw [HTL.out]; exact hO.out)), HQ7, HT7, HF7⟩
    · have t1 : decide ((k : Int) < (n : Int)) = false := decide_eq_false (by omega)
      have t1n : decide (k < n) = false := decide_eq_false hlt
      have hkn : k = n := by have := HG.out; omega
      have hfull : nl.take k = nl := List.take_of_length_le (by rw [HNL.out]; omega)
      have HOF : Hid (wr.ownsRow w.heap.size 3 1 (.slice A5 k c5) n (ints nl)) := Lib.hid (by
        have := HO.out
        rw [HTL.out, hfull] at this
        exact hkn ▸ this)
      have HBB := Lib.hid (Fr.below (B := w.heap.size) HF.out (fun _ _ e => e.elim) (Nat.le_refl _))
      clear hlt hfull hkn HO HT HF
      go_wp2
      exact bodyPost_ret (results_tmp (by rfl) _ _ _) (by rfl) ⟨_, by rfl, HBB.out, HOF.out⟩
end Go.Proofs.Ytgblbhbmeflckaa
