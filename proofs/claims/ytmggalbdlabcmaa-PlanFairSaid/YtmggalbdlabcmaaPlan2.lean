/- plan: points, the tasks that a law lays, speaks. (Under way.) -/
import Derived.Test.YtmggalbdlabcmaaPlan
import Derived.Test.YtmggalbdlabcmaaApp
import Derived.Deep.RegionHeld3
namespace Go.Proofs.Ytmggalbdlabcmaa
open Go.RowKit Go.Lib St Fl
set_option linter.unusedVariables false
set_option linter.unusedSimpArgs false
def spotC (h : Spot) : Value := .complex .f64 h.1 h.2
theorem c128_info : (Try.prog.info? 31).map (fun i => (i.zero, i.size, i.bytes)) = some (some (.complex .f64 0 0), 1, 16) := by kernel_rfl
theorem ptask_info : (Try.prog.info? 29).map (fun i => (i.zero, i.size, i.bytes)) = some (some (.agg #[.int .i64 0, .slice none 0 0]), 2, 32) := by kernel_rfl
theorem hold_of_own {w : World} {base : Nat} {v : Value} {hs : List Spot} (h : w.ownsRow base 31 1 v hs.length (hs.map spotC)) (hl : hs.length < 35184372088832) : ∃ p c, v = .slice p hs.length c ∧ HoldAt w p hs.length c hs := by
  obtain ⟨p, c, rfl⟩ := own_slice h
  refine ⟨p, c, rfl, rfl, hl, fun h0 => ?_⟩
  obtain ⟨g, cap, e, _, hlt, hC⟩ := own_some h h0
  cases e
  exact ⟨g, rfl, hlt, fun i x hx => (hC.get (j := i) (by rw [List.getElem?_map, hx]; rfl)).1⟩
/-- rows of other elements lie in other blocks -/
theorem own_types {w : World} {b1 b2 s1 s2 n1 n2 : Nat} {e1 e2 : TypeId} {v1 v2 : Value} {x1 x2 : List Value} (h1 : w.ownsRow b1 e1 s1 v1 n1 x1) (h2 : w.ownsRow b2 e2 s2 v2 n2 x2) (hne : e1 ≠ e2) : ∀ q, v1.ownBlock = some q → v2.ownBlock ≠ some q := by
  intro q k1 k2
  rcases h1.2 with ⟨rfl, _⟩ | ⟨g1, c1, cur1, rfl, _, hh1, _⟩
  · cases k1
  · rcases h2.2 with ⟨rfl, _⟩ | ⟨g2, c2, cur2, rfl, _, hh2, _⟩
    · cases k2
    · cases k1
      cases k2
      rw [hh1] at hh2
      injection hh2 with hh2
      injection hh2 with _ hh2
      exact hne hh2
theorem own_grown {w w' : World} {base : Nat} {e : TypeId} {size n : Nat} {v : Value} {xs : List Value} {row : Option Nat} (h : w.ownsRow base e size v n xs) (hg : w.grownBy w' row) (hne : ∀ q, row = some q → v.ownBlock ≠ some q) : w'.ownsRow base e size v n xs :=
  own_fr h (Fr.of_grown hg (S := fun q => row = some q) fun q e => e) fun q hq e => hne q e hq
def taskRow (u : Value) (t : Int × List Spot) : List Value := [.int .i64 t.1, u]
/-- the law's own tasks: their holders lie in rows us -/
structure InAt (w : World) (base : Nat) (v : Value) (us : List Value) (ts : List (Int × List Spot)) : Prop where
  ul : us.length = ts.length
  row : w.ownsRow base 29 2 v ts.length (List.zipWith taskRow us ts).flatten
  hold : ∀ (i : Nat) (u : Value) (t : Int × List Spot), us[i]? = some u → ts[i]? = some t → w.ownsRow base 31 1 u t.2.length (t.2.map spotC) ∧ t.2.length < 35184372088832
theorem taskRow_len {us : List Value} {ts : List (Int × List Spot)} : ∀ r ∈ List.zipWith taskRow us ts, r.length = 2 := by
  intro r hr
  obtain ⟨k, hk⟩ := List.mem_iff_getElem?.1 hr
  rw [List.getElem?_zipWith] at hk
  cases h1 : us[k]? <;> cases h2 : ts[k]? <;> rw [h1, h2] at hk <;> simp at hk
  rw [← hk]; rfl
theorem InAt.nil (w : World) (base : Nat) : InAt w base (.slice none 0 0) [] [] := ⟨rfl, World.ownsRow_nil _ _ _ _, fun i u t h => by simp at h⟩
theorem InAt.below {w w' : World} {base N : Nat} {v : Value} {us : List Value} {ts : List (Int × List Spot)} (h : InAt w base v us ts) (hb : Below N w w') (hN : w.heap.size ≤ N) : InAt w' base v us ts :=
  ⟨h.ul, own_below h.row hb hN, fun i u t hu ht => ⟨own_below (h.hold i u t hu ht).1 hb hN, (h.hold i u t hu ht).2⟩⟩
theorem InAt.tasks {w : World} {base : Nat} {v : Value} {us : List Value} {ts : List (Int × List Spot)} (h : InAt w base v us ts) (hl : ts.length < 8796093022208) : ∃ p c, v = .slice p ts.length c ∧ TasksAt w p ts.length c ts := by
  obtain ⟨p, c, rfl⟩ := own_slice h.row
  refine ⟨p, c, rfl, rfl, hl, fun i t ht => ?_⟩
  have hi := (List.getElem?_eq_some_iff.1 ht).1
  obtain ⟨u, hu⟩ : ∃ u, us[i]? = some u := ⟨us[i]'(by rw [h.ul]; exact hi), List.getElem?_eq_getElem _⟩
  obtain ⟨g, cap, e, _, hlt, hC⟩ := own_some h.row (by omega)
  cases e
  have hz : (List.zipWith taskRow us ts)[i]? = some (taskRow u t) := by rw [List.getElem?_zipWith, hu, ht]
  have key : ∀ j x, (taskRow u t)[j]? = some x → w.cell? ⟨g, i * 2 + j, none⟩ = some x := fun j x hx => by
    have hj : j < 2 := (List.getElem?_eq_some_iff.1 hx).1
    exact (hC.get (j := i * 2 + j) (by rw [flatten_get (sz := 2) taskRow_len hz hj]; exact hx)).1
  obtain ⟨ho, hol⟩ := h.hold i u t hu ht
  obtain ⟨q, k, rfl, hh⟩ := hold_of_own ho hol
  exact ⟨g, q, t.2.length, k, rfl, hlt, key 0 _ rfl, key 1 _ rfl, hh⟩
theorem InAt.push {w w' : World} {base : Nat} {v v' u : Value} {us : List Value} {ts : List (Int × List Spot)} {t : Int × List Spot} (h : InAt w base v us ts) (hu : w.ownsRow base 31 1 u t.2.length (t.2.map spotC)) (hul : t.2.length < 35184372088832)
    (hO : w'.ownsRow base 29 2 v' (ts.length + 1) ((List.zipWith taskRow us ts).flatten ++ taskRow u t)) (hG : w.grownBy w' v.ownBlock) : InAt w' base v' (us ++ [u]) (ts ++ [t]) := by
  have hty : 29 ≠ 31 := by decide
  refine ⟨by simp [h.ul], ?_, fun i x y hx hy => ?_⟩
  · rw [List.zipWith_append h.ul, List.flatten_append, List.length_append]
    simpa using hO
  · by_cases hi : i < ts.length
    · rw [List.getElem?_append_left (by rw [h.ul]; exact hi)] at hx
      rw [List.getElem?_append_left hi] at hy
      obtain ⟨h1, h2⟩ := h.hold i x y hx hy
      exact ⟨own_grown h1 hG (own_types h.row h1 hty), h2⟩
    · have hil := (List.getElem?_eq_some_iff.1 hy).1
      rw [List.length_append] at hil
      obtain rfl : i = ts.length := by simp at hil; omega
      rw [← h.ul, List.getElem?_append_right (Nat.le_refl _), Nat.sub_self] at hx
      rw [List.getElem?_append_right (Nat.le_refl _), Nat.sub_self] at hy
      obtain rfl := Option.some.inj hx
      obtain rfl := Option.some.inj hy
      exact ⟨own_grown hu hG (own_types h.row hu hty), hul⟩
/-! ### points -/
def RPair (_ : World) (cs : List Value) (p : Int × Int) : Prop := cs = [.int .i64 p.1, .int .i64 p.2] ∧ (-9223372036854775808 ≤ p.1 ∧ p.1 ≤ 9223372036854775807) ∧ -9223372036854775808 ≤ p.2 ∧ p.2 ≤ 9223372036854775807
theorem opens_pair (w : World) : Opens Try.prog w 32 RPair (fun p => vbulk [.int .i64 p.1, .int .i64 p.2]) :=
  opens_flat (n := 4) (ks := [.int .i64, .int .i64]) (by kernel_rfl) (fun p : Int × Int => [.int .i64 p.1, .int .i64 p.2]) (fun p => (-9223372036854775808 ≤ p.1 ∧ p.1 ≤ 9223372036854775807) ∧ -9223372036854775808 ≤ p.2 ∧ p.2 ≤ 9223372036854775807) fun cs h => by
    obtain ⟨a, d1, rfl, a1, a2, h1⟩ := h.i64_inv
    obtain ⟨b, d2, rfl, b1, b2, h2⟩ := h1.i64_inv
    obtain rfl := h2.nil_inv
    exact ⟨(a, b), rfl, ⟨a1, a2⟩, b1, b2⟩
def RPairs := RSl 2 16 RPair
theorem opens_pairs (w : World) : Opens Try.prog w 25 RPairs (bulkL fun p : Int × Int => vbulk [.int .i64 p.1, .int .i64 p.2]) :=
  opens_slice Try.underlying25 (by kernel_rfl) (by kernel_rfl) (by decide) (opens_pair w)
def RPairss := RSl 1 24 RPairs
theorem opens_pairss (w : World) : Opens Try.prog w 22 RPairss (bulkL (bulkL fun p : Int × Int => vbulk [.int .i64 p.1, .int .i64 p.2])) :=
  opens_slice Try.underlying22 (by kernel_rfl) (by kernel_rfl) (by decide) (opens_pairs w)
theorem rsl_below {α : Type} {sz bytes : Nat} {R : World → List Value → α → Prop} {w w' : World} {cs : List Value} {xs : List α} {N : Nat} (h : RSl sz bytes R w cs xs) (hb : Below N w w') (hN : w.heap.size ≤ N) (hR : ∀ es x, R w es x → R w' es x) : RSl sz bytes R w' cs xs := by
  obtain ⟨a', n', c', hv, h1, h2, h3, h4, h5, h6⟩ := h
  refine ⟨a', n', c', hv, h1, h2, h3, h4, h5, fun h0 => ?_⟩
  obtain ⟨b, off, e1, e2, e3⟩ := h6 h0
  refine ⟨b, off, e1, by have := hb.size; omega, fun j x hx => ?_⟩
  obtain ⟨es, k1, k2, k3⟩ := e3 j x hx
  exact ⟨es, k1, fun i cc hc => (hb.cell (p := ⟨b, off + (j * sz + i), none⟩) (by show b < N; omega)).trans (k2 i cc hc), hR es x k3⟩
theorem RPairs.below {w w' : World} {cs : List Value} {xs : List (Int × Int)} {N : Nat} (h : RPairs w cs xs) (hb : Below N w w') (hN : w.heap.size ≤ N) : RPairs w' cs xs := rsl_below h hb hN fun _ _ h => h
theorem RPairss.below {w w' : World} {cs : List Value} {xs : List (List (Int × Int))} {N : Nat} (h : RPairss w cs xs) (hb : Below N w w') (hN : w.heap.size ≤ N) : RPairss w' cs xs := rsl_below h hb hN fun _ _ h => RPairs.below h hb hN
noncomputable def spotOf (p : Int × Int) : Spot := (fw p.1, fw p.2)
set_option maxHeartbeats 2000000 in
set_option maxRecDepth 20000 in
theorem points_c (ps : List (Int × Int)) (a : Option Addr) (n c : Nat) (w : World) (h : RPairs w [.slice a n c] ps) : Calls Try.prog 7 #[.slice a n c] w fun e w' => ∃ v, e = .returned v ∧ Below w.heap.size w w' ∧ w'.ownsRow w.heap.size 31 1 v ps.length (ps.map fun p => spotC (spotOf p)) := by
  obtain ⟨hn, hnc, hcb, hcm, hget⟩ := rsl_get (en := fun p : Int × Int => [.int .i64 p.1, .int .i64 p.2]) h
  have HN := Lib.hid hn
  have HG := Lib.hid hget
  have HNB : Hid (n ≤ 8796093021952) := Lib.hid (by omega)
  clear h hn hget hnc hcb
  go_enter Try.func7, Try.ntmps7
  go_wp2_with fail
  go_loopg [3, 4] n (fun g v3 v4 wr => ∃ i : Nat, v4 = .int .i64 i ∧ i + g = n ∧ Hid (Below w.heap.size w wr) ∧ Hid (wr.ownsRow w.heap.size 31 1 v3 i ((ps.take i).map fun p => spotC (spotOf p))))
  case atStart => exact ⟨0, rfl, by omega, Lib.hid (Below.refl _ _), Lib.hid (World.ownsRow_nil _ _ _ _)⟩
  case round =>
    obtain ⟨i, rfl, hi, HBW, HO⟩ := hrel
    have HI := Lib.hid hi
    by_cases hlt : i < n
    · have t1 : decide ((i : Int) < (n : Int)) = true := decide_eq_true (by omega)
      have t1n : decide (i < n) = true := decide_eq_true hlt
      have HLT := Lib.hid hlt
      obtain ⟨⟨px, py⟩, hp⟩ : ∃ p, ps[i]? = some p := ⟨ps[i]'(by rw [HN.out]; exact hlt), List.getElem?_eq_getElem _⟩
      obtain ⟨b, off, rfl, hb, hwf, hcell⟩ := HG.out i _ hp
      have hf1 := fi_eq
      have k0 : ∀ d, (wr.drewN d).cell? ⟨b, off + i * 2, none⟩ = some (.int .i64 px) := fun d => (HBW.out.cell (p := ⟨b, off + i * 2, none⟩) hb).trans (hcell 0 _ rfl)
      have k1 : ∀ d, (wr.drewN d).cell? ⟨b, off + i * 2 + 1, none⟩ = some (.int .i64 py) := fun d => (HBW.out.cell (p := ⟨b, off + i * 2 + 1, none⟩) hb).trans (hcell 1 _ rfl)
      have ia : ((i : Int)).toNat = i := by omega
      have pa : (0 : Int) ≤ (i : Int) := by omega
      have iz : (i : Int) < (n : Int) := by omega
      have kw : i + 1 < 8796093022209 := by have := HNB.out; omega
      have HKW := Lib.hid kw
      have HTK : Hid ((ps.take (i + 1)).map (fun p => spotC (spotOf p)) = (ps.take i).map (fun p => spotC (spotOf p)) ++ [.complex .f64 (fw px) (fw py)]) := Lib.hid (by rw [List.take_add_one, hp, List.map_append]; rfl)
      generalize (ps.take i).map (fun p => spotC (spotOf p)) = out at HO HTK
      clear hcell hp hwf hb hlt hi kw
      go_upto_region 5 with (fail)
      have j0 : wr.drew.cell? ⟨b, off + i * 2, none⟩ = some (.int .i64 px) := k0 1
      have j1 : wr.drew.cell? ⟨b, off + i * 2 + 1, none⟩ = some (.int .i64 py) := k1 1
      go_region_law ((refine step_app_d (by rfl) (.tmp 11) (.tmp 25) 26 (by rfl) w.heap.size 31 _ 1 16 Try.underlying26 c128_info rfl (by decide) _ i _ (by rfl) HO.out [.complex .f64 (fw px) (fw py)] 31 1 1 (by rfl) (by rfl) (by rfl) (by have := HNB.out; have := HLT.out; unfold maxLen; omega) (by have := HNB.out; have := HLT.out; omega) HBW.out.size ?_; intro v' w' hO hG hN))
      all_goals
        have HB2 := Lib.hid (below_row HO.out hG.out HBW.out (Nat.le_refl _) HBW.out.size)
        have kw := HKW.out
        clear k0 k1 j0 j1
        go_wp2_with fail
        clear kw
        go_roundg (n - (i + 1))
        case measure => have := HI.out; have := HLT.out; omega
        case rel => exact ⟨i + 1, by first | rfl | go_num, by have := HI.out; have := HLT.out; omega, HB2, by rw [HTK.out]; exact hO⟩
    · have t1 : decide ((i : Int) < (n : Int)) = false := decide_eq_false (by omega)
      have t1n : decide (i < n) = false := decide_eq_false hlt
      obtain rfl : i = n := by omega
      rw [List.take_of_length_le (by rw [HN.out]; exact Nat.le_refl _), ← HN.out] at HO
      clear hlt hi
      go_wp2_with fail
      exact bodyPost_ret (results_tmp (by rfl) _ _ _) (by rfl) ⟨_, by rfl, HBW.out, HO.out⟩
end Go.Proofs.Ytmggalbdlabcmaa
