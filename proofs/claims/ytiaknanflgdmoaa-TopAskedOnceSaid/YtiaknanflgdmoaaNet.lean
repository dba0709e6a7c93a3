/- The contracts of Net. -/
import Derived.Test.YtiaknanflgdmoaaMaps
import Derived.Test.YtiaknanflgdmoaaRecs
import Derived.DeepKeys4
import Derived.Deep.RegionHeld3
import Derived.Deep.RegionLaw
import Derived.Lib.SliceRun
namespace Go.Proofs.Ytiaknanflgdmoaa
open Go.RowKit Go.Maps
set_option linter.unusedVariables false
set_option linter.unusedSimpArgs false
structure Letter where
  num : Int
  src : Int
  dst : Int
  txt : ByteArray
def Letter.cells (l : Letter) : List Value := [.int .i64 l.num, .int .i64 l.src, .int .i64 l.dst, .string l.txt]
theorem way_row : (70 : TypeId) < Try.prog.types.size := of_decide_eq_true (by kernel_rfl)
theorem way_keyed : Keyed Try.prog 70 := Keyed.of_law (deep_law_laid (m := 2) (by kernel_rfl) (by omega) way_row (by kernel_rfl) (by kernel_rfl))
theorem way_cells : Try.prog.cellsOf 70 = 2 := by kernel_rfl
theorem int_cells : Try.prog.cellsOf 3 = 1 := by kernel_rfl
def wayV (x : Int × Int) : Value := .agg #[.int .i64 x.1, .int .i64 x.2]
noncomputable def way : Key Try.prog 70 (Int × Int) := anyKey way_keyed wayV fun x y h => by
  unfold wayV at h
  simp at h
  exact Prod.ext h.1 h.2
theorem way_ok (a b : Int) (ha : (Lit.int .i64 a).wf = true) (hb : (Lit.int .i64 b).wf = true) : way.ok (a, b) := by
  show ∃ l, keyOf Try.prog 70 (wayV (a, b)) = some l
  unfold keyOf
  have h3 := Try.underlying3
  simp only [Try.underlying70]
  rw [if_pos (by kernel_rfl)]
  have h0 := way_cells
  have h1 := int_cells
  obtain ⟨n, hn⟩ : ∃ n, Try.prog.types.size + 1 = n + 1 + 1 := by
    obtain ⟨m, hm⟩ := Nat.exists_eq_succ_of_ne_zero (n := Try.prog.types.size) (by intro h; have := way_row; rw [h] at this; exact Nat.not_lt_zero _ this)
    exact ⟨m, by omega⟩
  rw [hn]
  unfold Program.keyLits
  simp only [Try.underlying70, wayV, Value.cells]
  unfold Program.keyLits
  simp [h0, h1, h3, ha, hb]
/-- Between two nodes: the smaller one first. -/
def wayOf (a b : Int) : Int × Int := (min a b, max a b)
set_option maxHeartbeats 1000000 in
theorem between_any (a b : Int) (w : World) : Calls Try.prog 26 #[.int .i64 a, .int .i64 b] w fun e w' => e = .returned (wayV (wayOf a b)) ∧ Below w.heap.size w w' := by
  have hsz : (Try.prog.info? 70).map (·.size) = some 2 := by kernel_rfl
  have HS := Lib.hid hsz
  clear hsz
  rcases Int.lt_trichotomy a b with h | h | h
  all_goals
    go_enter Try.func26, Try.ntmps26
    go_wp2
    refine bodyPost_ret ?_ rfl ⟨rfl, (Below.refl _ w).alloc (Nat.le_refl _) _⟩
    refine (results_cell_row rfl _ _ w.heap.size 70 _ (0, 0) _ rfl (heap_alloc_new w _) Try.underlying70 rfl (by rw [HS.out]; rfl)).trans ?_
    unfold wayV wayOf
    congr 5
    all_goals (congr 1; omega)
/-- A net at block b. -/
structure NetAt (w : World) (b : Nat) (nodes sent : Int) (v : Value) (L : List Letter) (k n : Nat) (g : Int × Int → Option Value) : Prop where
  blk : Blk w b [.int .i64 nodes, .int .i64 sent, v, .map (some k)] 55
  recs : Recs w 0 39 4 v (L.map Letter.cells)
  map : MapAt w way k n g
  ne : v.ownBlock ≠ some b
set_option maxHeartbeats 1000000 in
theorem knows_any (b g : Nat) (nodes : Int) (xs : List Int) (w : World) (h0 : w.cell? ⟨b, 0, none⟩ = some (.int .i64 nodes)) (hx : Cells w g (xs.map (.int .i64))) (hml : xs.length ≤ 1000) :
    Calls Try.prog 20 #[.pointer (some ⟨b, 0, none⟩), .slice (some ⟨g, 0, none⟩) xs.length xs.length] w fun e w' => e = .returned (.bool (xs.all fun x => decide (0 ≤ x ∧ x < nodes))) ∧ w = w' := by
  have HX := Lib.hid hx
  clear hx
  generalize hr : (xs.all fun x => decide (0 ≤ x ∧ x < nodes)) = r
  have HR := Lib.hid hr
  clear hr
  go_enter Try.func20, Try.ntmps20
  go_wp2
  go_loopg [6, 9] xs.length (fun m _ iv wr => w = wr ∧ ∃ k : Nat, iv = .int .i64 k ∧ k ≤ xs.length ∧ m = xs.length - k ∧ Hid (∀ j < k, ∀ x, xs[j]? = some x → 0 ≤ x ∧ x < nodes))
  case atStart => exact ⟨rfl, 0, rfl, Nat.zero_le _, rfl, Lib.hid fun j hj => by omega⟩
  case round =>
    obtain ⟨rfl, k, rfl, hk, hm, HK⟩ := hrel
    subst hm
    by_cases hlt : k < xs.length
    · obtain ⟨x, hx⟩ : ∃ x, xs[k]? = some x := ⟨xs[k], List.getElem?_eq_getElem hlt⟩
      have c1 : w.cell? ⟨g, k, none⟩ = some (.int .i64 x) := (HX.out.get (j := k) (v := .int .i64 x) (by simp [hx])).1
      have HXK := Lib.hid hx
      clear hx
      by_cases hb : 0 ≤ x ∧ x < nodes
      · have h1 : ¬ x < 0 := by omega
        have h2 : ¬ nodes ≤ x := by omega
        go_wp2
        go_roundg (xs.length - (k + 1))
        case measure => omega
        case rel =>
          refine ⟨rfl, k + 1, val_int (by omega), by omega, rfl, Lib.hid fun j hj y hy => ?_⟩
          by_cases e : j = k
          · subst e; rw [HXK.out] at hy; cases hy; exact hb
          · exact HK.out j (by omega) y hy
      · have hf : r = false := by
          rw [← HR.out, List.all_eq_false]
          exact ⟨x, List.mem_of_getElem? HXK.out, by simpa using hb⟩
        subst hf
        by_cases h1 : x < 0
        · go_wp2
          go_ret
          exact ⟨rfl, rfl⟩
        · have h2 : nodes ≤ x := by omega
          go_wp2
          go_ret
          exact ⟨rfl, rfl⟩
    · have ht : r = true := by
        rw [← HR.out, List.all_eq_true]
        intro x hx
        obtain ⟨j, hj⟩ := List.mem_iff_getElem?.1 hx
        simpa using HK.out j (by have := (List.getElem?_eq_some_iff.1 hj).1; omega) x hj
      subst ht
      go_wp2
      go_ret
      exact ⟨rfl, rfl⟩
theorem has_nil (k : Int) (w : World) : Calls Try.prog 22 #[.pointer none, .int .i64 k] w fun e w' => e = .returned (.bool false) ∧ w = w' := by
  go_enter Try.func22, Try.ntmps22
  go_wp2
  go_ret
  exact ⟨rfl, rfl⟩
set_option maxHeartbeats 1000000 in
theorem has_any (b : Nat) (A : Option Addr) (n cap : Nat) (k : Int) (w : World) (h2 : w.cell? ⟨b, 2, none⟩ = some (.slice A n cap)) :
    Calls Try.prog 22 #[.pointer (some ⟨b, 0, none⟩), .int .i64 k] w fun e w' => e = .returned (.bool (decide (0 ≤ k ∧ k < n))) ∧ w = w' := by
  by_cases h : k < 0
  · have e : decide (0 ≤ k ∧ k < (n : Int)) = false := by simp; omega
    rw [e]
    clear e
    go_enter Try.func22, Try.ntmps22
    go_wp2
    go_ret
    exact ⟨rfl, rfl⟩
  · by_cases h3 : k < n
    · have e : decide (0 ≤ k ∧ k < (n : Int)) = true := by simp; omega
      rw [e]
      clear e
      have h4 : 0 ≤ k := by omega
      go_enter Try.func22, Try.ntmps22
      go_wp2
      go_ret
      exact ⟨rfl, rfl⟩
    · have e : decide (0 ≤ k ∧ k < (n : Int)) = false := by simp; omega
      rw [e]
      clear e
      have h4 : 0 ≤ k := by omega
      go_enter Try.func22, Try.ntmps22
      go_wp2
      go_ret
      exact ⟨rfl, rfl⟩
set_option maxHeartbeats 1000000 in
theorem netNew_any (n : Int) (w : World) : Calls Try.prog 4 #[.int .i64 n] w fun e w' => e = .returned (.pointer (some ⟨w.heap.size + 1, 0, none⟩)) ∧ NetAt w' (w.heap.size + 1) (min (max n 0) 64) 0 (.slice none 0 0) [] w.heap.size 0 (fun _ => none) ∧ Below w.heap.size w w' := by
  have hmm := @run_makeMap Try.prog
  have key : ∀ m : Int, m = min (max n 0) 64 → NetAt ((w.alloc (.map #[] 0)).alloc (.cells #[.int .i64 m, .int .i64 0, .slice none 0 0, .map (some w.heap.size)] 55)) (w.heap.size + 1) (min (max n 0) 64) 0 (.slice none 0 0) [] w.heap.size 0 (fun _ => none) ∧
      Below w.heap.size w ((w.alloc (.map #[] 0)).alloc (.cells #[.int .i64 m, .int .i64 0, .slice none 0 0, .map (some w.heap.size)] 55)) := by
    rintro m rfl
    have hB := Blk.new (w.alloc (.map #[] 0)) [.int .i64 (min (max n 0) 64), .int .i64 0, .slice none 0 0, .map (some w.heap.size)] 55
    rw [show (w.alloc (.map #[] 0)).heap.size = w.heap.size + 1 by simp] at hB
    exact ⟨⟨hB, Recs.nil _ _ _ _, (MapAt.new w way).alloc _, by intro h; cases h⟩, ((Below.refl _ w).alloc (Nat.le_refl _) _).alloc (by simp) _⟩
  have HK := Lib.hid key
  clear key
  have hcase : n < 0 ∨ n = 0 ∨ (0 < n ∧ n ≤ 64) ∨ 64 < n := by omega
  rcases hcase with h | h | ⟨h, h2⟩ | h
  all_goals
    go_enter Try.func4, Try.ntmps4
    go_wp2
    all_goals (go_ret; exact ⟨rfl, HK.out _ (by omega)⟩)
theorem i64_wf {n : Int} (h1 : -9223372036854775808 ≤ n) (h2 : n ≤ 9223372036854775807) : (Lit.int .i64 n).wf = true := by simp [Lit.wf, IntKind.min, IntKind.max, IntKind.signed, IntKind.bits]; omega
def cutMap (cut : Int × Int → Bool) : Int × Int → Option Value := fun p => if cut p then some (.int .i64 1) else none
theorem zeroInt (w : World) : (zeroValue 3).run Try.prog w = .ok (.int .i64 0) w := by kernel_rfl
theorem parted_nil (a c : Int) (w : World) : Calls Try.prog 23 #[.pointer none, .int .i64 a, .int .i64 c] w fun e w' => e = .returned (.bool false) ∧ ∃ n, w' = w.drewN n := by
  go_enter Try.func23, Try.ntmps23
  go_wp2
  go_quiet (fail)
  go_wp2
  go_ret
  exact ⟨rfl, _, rfl⟩
set_option maxHeartbeats 1000000 in
theorem parted_any (b k n : Nat) (cut : Int × Int → Bool) (a c : Int) (ha : (Lit.int .i64 a).wf = true) (hc : (Lit.int .i64 c).wf = true) (w : World) (h3 : w.cell? ⟨b, 3, none⟩ = some (.map (some k))) (hb : b < w.heap.size) (hM : MapAt w way k n (cutMap cut)) :
    Calls Try.prog 23 #[.pointer (some ⟨b, 0, none⟩), .int .i64 a, .int .i64 c] w fun e w' => e = .returned (.bool (cut (wayOf a c))) ∧ Below w.heap.size w w' := by
  have hok : way.ok (wayOf a c) := by
    unfold wayOf
    rcases Int.le_total a c with h | h
    · rw [Int.min_eq_left h, Int.max_eq_right h]; exact way_ok a c ha hc
    · rw [Int.min_eq_right h, Int.max_eq_left h]; exact way_ok c a hc ha
  have hl : ∀ w', MapAt w' way k n (cutMap cut) → (Instr.lookup 53 (.map (some k)) (wayV (wayOf a c)) false).run Try.prog w' = .ok (.int .i64 (if cut (wayOf a c) then 1 else 0)) w' := fun w' h => by
    have := h.look1 (t := 53) (e := 3) Try.underlying53 (zeroInt w') (wayOf a c) hok
    rw [show (cutMap cut (wayOf a c)).getD (.int .i64 0) = .int .i64 (if cut (wayOf a c) then 1 else 0) by unfold cutMap; split <;> rfl] at this
    exact this
  have HL := Lib.hid hl
  have HB := Lib.hid hb
  have HM := Lib.hid hM
  clear hl hok ha hc hM hb
  generalize hp : wayOf a c = p at HL ⊢
  have HP := Lib.hid hp
  clear hp
  have h30 : w.drew.cell? ⟨b, 3, none⟩ = some (.map (some k)) := h3
  cases hcut : cut p
  all_goals
    have HCUT := Lib.hid hcut
    clear hcut
    go_enter Try.func23, Try.ntmps23
    go_wp2_with fail
    go_region_held3 (fun w' => w'.cell? ⟨b, 3, none⟩ = some (.map (some k)))
      (first | exact h30 | exact h31 | go_keep)
      (first | (go_at_call 26; refine (between_any a c _).mono ?_; rw [HP.out]; rintro e w1 ⟨rfl, hb1⟩; have HB1 := Lib.hid hb1; have h31 : w1.cell? ⟨b, 3, none⟩ = some (.map (some k)) := (World.cell?_of_block (hb1.block b HB.out)).trans h30; have hl1 := HL.out w1 (HM.out.drew.fr (Fr.of_below (S := fun j => w.heap.size ≤ j) hb1 fun j e _ => e) (by have := HM.out.lt; omega)); rw [HCUT.out] at hl1; clear hb1))
    go_wp2
    go_ret
    exact ⟨rfl, (below_drewN (Below.refl w.heap.size w) 1).trans HB1.out⟩
theorem letter_info : (Try.prog.info? 39).map (fun i => (i.zero, i.size, i.bytes)) = some (some (.agg #[.int .i64 0, .int .i64 0, .int .i64 0, .string ⟨#[]⟩]), 4, 40) := by kernel_rfl
theorem letter_zero (w : World) : (zeroValue 39).run Try.prog w = .ok (.agg #[.int .i64 0, .int .i64 0, .int .i64 0, .string ⟨#[]⟩]) w := by kernel_rfl
theorem letters_one (L : List Letter) : ∀ u ∈ (L.map Letter.cells).flatten, u.oneCell' = true := by
  intro u hu
  simp only [List.mem_flatten, List.mem_map] at hu
  obtain ⟨l, ⟨x, _, rfl⟩, h⟩ := hu
  simp [Letter.cells] at h
  rcases h with rfl | rfl | rfl | rfl <;> rfl
/-- Cloned: the same letters, in memory of the call's own. -/
theorem clone_any (v : Value) (base : Nat) (L : List Letter) (w : World) (h : Recs w base 39 4 v (L.map Letter.cells)) (hb : L.length * 40 ≤ 140737488355328) :
    Calls Try.prog 21 #[v] w fun e w' => ∃ v', e = .returned v' ∧ Recs w' w.heap.size 39 4 v' (L.map Letter.cells) ∧ Below w.heap.size w w' := by
  obtain ⟨i0, hi, hz0, hz1, hz2⟩ := info_parts letter_info
  have q22 : ∀ (w : World) (a : Option Addr) (n c n' c' : Nat), (binOp .eql 34 (.slice a n c) (.slice none n' c')).run Try.prog w = .ok (.bool a.isNone) w := fun w a n c n' c' => Lib.run_eql_slice_nil w _ _ a n c n' c' Try.underlying34
  have hml := h.len_le
  rcases h.own.2 with ⟨rfl, h0⟩ | ⟨g, cap, cur, rfl, hbg, hg, hnc, hcm, hcs, htake⟩
  · rw [List.length_map] at h0
    obtain rfl := List.length_eq_zero_iff.1 h0
    clear h
    go_enter Try.func21, Try.ntmps21
    go_wp2
    go_ret
    exact ⟨_, rfl, Recs.nil _ _ _ _, Below.refl _ _⟩
  · have hcells : ∀ j u, (L.map Letter.cells).flatten[j]? = some u → w.cell? ⟨g, j, none⟩ = some u := fun j u hj => by
      have := h.own.cells (g := g) rfl j u hj
      rwa [Addr.add_lit, Nat.zero_add] at this
    have HC := Lib.hid hcells
    have hfl := flatten_len h.len
    have HR := Lib.hid h
    clear hcells h htake hg hcs
    rw [List.length_map] at *
    go_enter Try.func21, Try.ntmps21
    go_wp2_with (at_builtin; refine wpList_append_own _ rfl _ _ 34 rfl w.heap.size 39 i0 _ 4 40 Try.underlying34 hi hz0 hz1 hz2 rfl (by decide) _ _ _ rfl (World.ownsRow_made w #[] 0 (Nat.le_refl _) (Nat.zero_le _) (by simp)) ⟨g, 0, none⟩ L.length cap (L.map Letter.cells).flatten rfl ?qc1 ?qc2 ?qc3 ?qc4 ?qc5 ?qc6 ?_)
    case qc1 => exact hfl
    case qc2 =>
      intro j u hj
      rw [Addr.add_lit]
      exact Lib.cell?_alloc_some _ (by rw [Nat.zero_add]; exact HC.out j u hj)
    case qc3 => exact letters_one L
    case qc4 => rw [Nat.zero_add]; exact hml
    case qc5 => rw [Nat.zero_add]; exact hb
    case qc6 => simp
    intro v' w1 hown hgrow hnil
    go_wp2
    go_ret
    refine ⟨v', rfl, ⟨by rw [List.length_map]; simpa using hown, HR.out.len⟩, ((Below.refl _ w).alloc (Nat.le_refl _) _).grown hgrow (by simp) (by intro k hk; simp [Value.ownBlock] at hk; omega)⟩
theorem erase_flat {α : Type} (L : List (List α)) (k : Nat) (hk : k < L.length) (hl : ∀ r ∈ L, r.length = 4) :
    L.flatten.take (k * 4) = (L.take k).flatten ∧ (L.drop (k + 1)).flatten.length = (L.length - (k + 1)) * 4 := by
  refine ⟨?_, ?_⟩
  · have h := flatten_len (fun r hr => hl r (List.mem_of_mem_take hr) : ∀ r ∈ L.take k, r.length = 4)
    rw [List.length_take, Nat.min_eq_left (by omega)] at h
    conv => lhs; rw [← List.take_append_drop k L, List.flatten_append, ← h]
    simp
  · rw [flatten_len (fun r hr => hl r (List.mem_of_mem_drop hr)), List.length_drop]
set_option maxRecDepth 20000 in
set_option maxHeartbeats 1000000 in
theorem delete_any (g cap k : Nat) (base : Nat) (L : List Letter) (hk : k < L.length) (w : World) (h : Recs w base 39 4 (.slice (some ⟨g, 0, none⟩) L.length cap) (L.map Letter.cells)) :
    Calls Try.prog 25 #[.slice (some ⟨g, 0, none⟩) L.length cap, .int .i64 k, .int .i64 ((k : Int) + 1)] w fun e w' => e = .returned (.slice (some ⟨g, 0, none⟩) (L.length - 1) cap) ∧ Recs w' base 39 4 (.slice (some ⟨g, 0, none⟩) (L.length - 1) cap) ((L.eraseIdx k).map Letter.cells) ∧ Fr w w' (fun j => j = g) := by
  obtain ⟨i0, hi, hz0, hz1, hz2⟩ := info_parts letter_info
  have hown := h.own
  rw [List.length_map] at hown
  have hml := h.len_le
  rw [List.length_map] at hml
  have hcap : L.length ≤ cap ∧ cap ≤ 9223372036854775807 := by
    rcases hown.2 with ⟨hv, _⟩ | ⟨g', cap', cur, hv, _, _, h1, h2, _⟩
    · cases hv
    · cases hv; exact ⟨h1, h2⟩
  obtain ⟨news, hnews⟩ : ∃ news, news = ((L.map Letter.cells).drop (k + 1)).flatten := ⟨_, rfl⟩
  have hlen : news.length = (L.length - (k + 1)) * 4 := by
    have := (erase_flat (L.map Letter.cells) k (by rw [List.length_map]; exact hk) h.len).2
    rw [List.length_map] at this
    rw [hnews]; exact this
  have hone : ∀ u ∈ news, u.oneCell' = true := fun u hu => letters_one L u (by
    rw [hnews] at hu
    obtain ⟨r, hr, hu⟩ := List.mem_flatten.1 hu
    exact List.mem_flatten.2 ⟨r, List.mem_of_mem_drop hr, hu⟩)
  have hdrop : ∀ t u, news[t]? = some u → w.cell? ⟨g, (k + 1) * 4 + t, none⟩ = some u := fun t u hu => by
    have ht : t < (L.length - (k + 1)) * 4 := by have := (List.getElem?_eq_some_iff.1 hu).1; omega
    rw [hown.cellAt _ (by omega)]
    have hfl := flatten_len (fun r hr => h.len r (List.mem_of_mem_take hr) : ∀ r ∈ (L.map Letter.cells).take (k + 1), r.length = 4)
    rw [List.length_take, List.length_map, Nat.min_eq_left (by omega)] at hfl
    conv => lhs; rw [← List.take_append_drop (k + 1) (L.map Letter.cells), List.flatten_append]
    rw [List.getElem?_append_right (by rw [hfl]; omega), hfl, ← hnews]
    rw [show (k + 1) * 4 + t - (k + 1) * 4 = t by omega]; exact hu
  obtain ⟨A, hA, hsrc⟩ : ∃ A : Addr, (if cap = k + 1 then some (⟨g, 0, none⟩ : Addr) else some ⟨g, (k + 1) * 4, none⟩) = some A ∧ Hid (∀ t u, news[t]? = some u → w.drew.cell? (A.add t) = some u) := by
    by_cases hc : cap = k + 1
    · refine ⟨⟨g, 0, none⟩, by simp [hc], fun t u hu => ?_⟩
      have h0 : news.length = 0 := by rw [hlen]; omega
      rw [List.length_eq_zero_iff.1 h0] at hu
      simp at hu
    · refine ⟨⟨g, (k + 1) * 4, none⟩, by simp [hc], fun t u hu => ?_⟩
      rw [Addr.add_lit]
      exact hdrop t u hu
  have s3 : Hid (∀ t, t < news.length → (w.drew.cell? ⟨g, 0 + k * 4 + t, none⟩).isSome = true ∧ w.drew.frozen? ⟨g, 0 + k * 4 + t, none⟩ = false) := by
    intro t ht
    refine ⟨?_, hown.frozenAt _⟩
    show (w.cell? _).isSome = true
    rw [hown.cellAt _ (by omega), List.getElem?_eq_getElem (by rw [hown.1]; omega)]; rfl
  have S1 := Lib.hid hlen
  have S2 := Lib.hid hone
  have HN := Lib.hid hnews
  clear hnews hone hdrop hlen
  have hkc : k ≤ cap := by omega
  have hp0 : (0 : Int) ≤ (k : Int) + 1 := by omega
  have hp1 : (k : Int) + 1 ≤ (L.length : Int) := by omega
  have hp2 : ((k : Int) + 1).toNat = k + 1 := by omega
  go_enter Try.func25, Try.ntmps25
  go_wp2_with fail
  go_region_law (refine step_append_room rfl (.tmp 22) (.tmp 25) 34 rfl 39 i0 4 Try.underlying34 hi hz1 g 0 k cap (by simp [Act.eval, Act.put]) A (L.length - (k + 1)) (cap - (k + 1)) news (by simp [Act.eval, Act.put]) S1.out hsrc.out S2.out (by omega) s3.out ?_)
  generalize hn' : k + (L.length - (k + 1)) = n'
  have hn1 : L.length = n' + 1 := by omega
  clear hn'
  obtain ⟨zs, hzs⟩ : ∃ zs : List Value, zs = [.int .i64 0, .int .i64 0, .int .i64 0, .string ⟨#[]⟩] := ⟨_, rfl⟩
  have HZ := Lib.hid hzs
  have hown1 : Hid (((w.drew.setCells g (0 + k * 4) news)).ownsRow base 39 4 (.slice (some ⟨g, 0, none⟩) L.length cap) L.length (setL (L.map Letter.cells).flatten (0 + k * 4) news)) := Lib.hid (own_setCells news _ _ _ (own_drewN hown 1))
  have hclr := run_clear_one (P := Try.prog) (w.drew.setCells g (k * 4) news) 34 39 0 _ zs Try.underlying34 letter_zero (by rw [hzs]; rfl) (by rw [hzs]; decide) g (n' * 4) (cap - n') (fun j hj => by
    have := hown1.out
    rw [Nat.zero_add] at this
    rw [this.cellAt _ (by rw [hzs] at hj; simp at hj; omega), List.getElem?_eq_getElem (by rw [this.1]; rw [hzs] at hj; simp at hj; omega)]; rfl) (fun j hj => by
    have := hown1.out
    rw [Nat.zero_add] at this
    exact this.frozenAt _)
  have hown2 := own_cut (own_setCells zs _ (n' * 4) _ hown1.out) (m := n') (by omega)
  have hfr : Fr w (((w.drew.setCells g (0 + k * 4) news)).setCells g (n' * 4) zs) (fun j => j = g) := ((Fr.refl w (fun j => j = g)).drewN 1).trans ((fr_setCells g news _ _).trans (fr_setCells g zs _ _) fun _ _ e => e) fun _ _ e => e
  have hxs : (setL (setL (L.map Letter.cells).flatten (0 + k * 4) news) (n' * 4) zs).take (n' * 4) = ((L.eraseIdx k).map Letter.cells).flatten := by
    have e1 := hown.1
    have e2 := S1.out
    have e3 := (erase_flat (L.map Letter.cells) k (by rw [List.length_map]; exact hk) h.len).1
    rw [setL_eq news _ _ (by rw [e1, e2]; omega)]
    generalize hq : (L.map Letter.cells).flatten.take (0 + k * 4) ++ news = q
    have hql : q.length = n' * 4 := by rw [← hq, List.length_append, List.length_take, e1, e2]; omega
    rw [setL_eq zs _ _ (by rw [List.length_append, hql, hzs, List.length_drop, e1, e2]; simp; omega)]
    rw [List.take_append_of_le_length (by rw [List.length_append, List.length_take, List.length_append]; omega), List.take_append_of_le_length (by rw [List.length_take, List.length_append]; omega), List.take_take, Nat.min_self, ← hql, List.take_left']
    · rw [← hq, Nat.zero_add, e3, HN.out, ← List.flatten_append, List.eraseIdx_eq_take_drop_succ, List.map_append, List.map_take, List.map_drop]
    · rfl
  rw [hxs] at hown2
  have HO2 := Lib.hid hown2
  have HFR := Lib.hid hfr
  clear hown2 hfr hxs hzs
  rw [Nat.zero_add] at HO2 HFR
  go_wp2_with fail
  go_ret
  refine ⟨by rw [hn1]; rfl, ⟨?_, fun r hr => ?_⟩, HFR.out⟩
  · rw [List.length_map, List.length_eraseIdx, if_pos hk, hn1]; exact HO2.out
  · obtain ⟨l, _, rfl⟩ := List.mem_map.1 hr; rfl
end Go.Proofs.Ytiaknanflgdmoaa
