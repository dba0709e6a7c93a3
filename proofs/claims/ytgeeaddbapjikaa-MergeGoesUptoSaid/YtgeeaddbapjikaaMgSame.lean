/- mahoutlaw19's same and refs. -/
import Derived.Test.YtgeeaddbapjikaaCollect
import Derived.Laws.StructEq
import Derived.Laws.Cover2
namespace Go.Proofs.Ytgeeaddbapjikaa
open Go.RowKit Go.Proofs.Ytgeeaddbapjikaa.St
set_option linter.unusedVariables false
set_option linter.unusedSimpArgs false
namespace Mg
/-- pairs that stand behind an address -/
def PsAt (w : World) (A : Option Addr) (xs : List Pr) : Prop :=
  ∀ k x, xs[k]? = some x → ∃ b off, A = some ⟨b, off, none⟩ ∧ b < w.heap.size ∧ w.cell? ⟨b, off + k * 2, none⟩ = some (.string x.1) ∧ w.cell? ⟨b, off + k * 2 + 1, none⟩ = some (.string x.2)
theorem PsAt.below {w w' : World} {A : Option Addr} {xs : List Pr} (h : PsAt w A xs) (hb : Below w.heap.size w w') : PsAt w' A xs := fun k x hx => by
  obtain ⟨b, off, h1, h2, h3, h4⟩ := h k x hx
  exact ⟨b, off, h1, Nat.lt_of_lt_of_le h2 hb.size, (hb.cell (p := ⟨b, off + k * 2, none⟩) h2).trans h3, (hb.cell (p := ⟨b, off + k * 2 + 1, none⟩) h2).trans h4⟩
theorem PsAt.of_recs {w : World} {base : Nat} {e : TypeId} {A : Option Addr} {n c : Nat} {xs : List Pr} (h : Recs w base e 2 (.slice A n c) (xs.map prc)) : n = xs.length ∧ PsAt w A xs := by
  obtain ⟨A', c', hv⟩ := h.slice
  cases hv
  refine ⟨by simp, fun k x hx => ?_⟩
  obtain ⟨g, cap, hv, _, hlt, hcell, _⟩ := h.some (by rw [List.length_map]; have := (List.getElem?_eq_some_iff.1 hx).1; omega)
  cases hv
  refine ⟨g, 0, rfl, hlt, ?_, ?_⟩
  · have := hcell k (prc x) 0 _ (by simp [hx]) rfl
    rw [Nat.zero_add]; exact this
  · have := hcell k (prc x) 1 _ (by simp [hx]) rfl
    rw [Nat.zero_add]; exact this
theorem two_map {α β : Type} (f : α → β) {l : List α} {x y : β} (h : l.map f = [x, y]) : ∃ a b, l = [a, b] ∧ f a = x ∧ f b = y := by
  cases l with
  | nil => simp at h
  | cons a l => cases l with
    | nil => simp at h
    | cons b l => cases l with
      | nil => simp at h; exact ⟨a, b, rfl, h.1, h.2⟩
      | cons c l => simp at h
theorem eqPr (a b c d : ByteArray) (w : World) : (Op.equalIn 10000 53 (.agg #[.string a, .string b]) (.agg #[.string c, .string d])).run Try.prog w = .ok (a == c && b == d) w := by
  have u3 := Try.underlying9
  have h := run_equalIn_struct (P := Try.prog) w 9999 53 #[.string a, .string b] #[.string c, .string d] (by kernel_rfl) (by kernel_rfl)
  rw [show (10000 : Nat) = 9999 + 1 from rfl, h]
  have hf : ((Try.prog.fieldsOf 53).toList.map fun f => (f.name, f.type, f.offset)) = [("Key", 9, 0), ("Value", 9, 1)] := by kernel_rfl
  generalize (Try.prog.fieldsOf 53).toList = fs at hf
  obtain ⟨f1, f2, rfl, e1, e2⟩ := two_map _ hf
  simp only [Prod.mk.injEq] at e1 e2
  obtain ⟨n1, t1, o1⟩ := e1
  obtain ⟨n2, t2, o2⟩ := e2
  simp only [Op.eqFields, n1, t1, o1, n2, t2, o2]
  have p1 := Try.isAgg9
  have p2 := Try.sizeOf9
  go_simp
  by_cases h1 : a.toList = c.toList <;> by_cases h2 : b.toList = d.toList <;> simp [h1, h2, beq_toListBytes]
theorem bb_eq (x y : ByteArray) : (x == y) = decide (x = y) := by
  have h1 : (x == y) = (x.data == y.data) := rfl
  rw [h1]
  by_cases h : x = y
  · subst h; simp
  · rw [decide_eq_false h]
    have : ¬ x.data = y.data := fun e => h (ByteArray.ext e)
    simpa using this
set_option maxHeartbeats 2000000 in
theorem same_c (w : World) (A B : Option Addr) (ca cb : Nat) (xs ys : List Pr) (hA : PsAt w A xs) (hB : PsAt w B ys) (hx : xs.length ≤ 1048576) (hy : ys.length ≤ 1048576) :
    Calls Try.prog 12 #[.slice A xs.length ca, .slice B ys.length cb] w fun e w' => e = .returned (.bool (decide (xs = ys))) ∧ Below w.heap.size w w' := by
  have HA := Lib.hid hA
  have HB := Lib.hid hB
  have HX := Lib.hid hx
  clear hA hB hx hy
  have heq := eqPr
  by_cases hl : xs.length = ys.length
  · have hne : ((xs.length : Int) != (ys.length : Int)) = false := by rw [hl]; simp
    generalize hr : decide (xs = ys) = r
    have HR := Lib.hid hr
    have HL := Lib.hid hl
    clear hr hl
    go_enter Try.func12, Try.ntmps12
    go_wp2_with fail
    go_loopg [5] xs.length (fun g iv wr => ∃ (i m : Nat), iv = .int .i64 i ∧ i ≤ xs.length ∧ g = xs.length - i ∧ wr = w.drewN m ∧ Hid (xs.take i = ys.take i))
    case atStart => exact ⟨0, 0, rfl, Nat.zero_le _, rfl, rfl, Lib.hid rfl⟩
    case round =>
      obtain ⟨i, m, rfl, hi, hg, rfl, HT⟩ := hrel
      by_cases h : i < xs.length
      · obtain ⟨x, hx⟩ : ∃ x, xs[i]? = some x := ⟨xs[i], List.getElem?_eq_getElem h⟩
        obtain ⟨y, hy⟩ : ∃ y, ys[i]? = some y := ⟨ys[i]'(by have := HL.out; omega), List.getElem?_eq_getElem _⟩
        obtain ⟨b1, o1, rfl, _, a1, a2⟩ := HA.out i x hx
        obtain ⟨b2, o2, rfl, _, c1, c2⟩ := HB.out i y hy
        have hly : i < ys.length := (List.getElem?_eq_some_iff.1 hy).1
        obtain ⟨x1, x2⟩ := x
        obtain ⟨y1, y2⟩ := y
        have HXX := Lib.hid hx
        have HYY := Lib.hid hy
        clear hx hy
        dsimp only at a1 a2 c1 c2
        by_cases he : x1 = y1 ∧ x2 = y2
        · have hq1 : (x1 == y1) = true := by rw [bb_eq]; exact decide_eq_true he.1
          have hq2 : (x2 == y2) = true := by rw [bb_eq]; exact decide_eq_true he.2
          have HT2 : Hid (xs.take (i + 1) = ys.take (i + 1)) := Lib.hid (by
            rw [List.take_succ_eq_append_getElem h, List.take_succ_eq_append_getElem hly, HT.out]
            congr 2
            have e1 := (List.getElem?_eq_some_iff.1 HXX.out).2
            have e2 := (List.getElem?_eq_some_iff.1 HYY.out).2
            rw [e1, e2, he.1, he.2])
          clear he
          go_upto_region 6 with (fail)
          go_quiet (fail)
          go_wp2
          go_roundg (xs.length - (i + 1))
          case measure => omega
          case rel => exact ⟨i + 1, _, congrArg (Value.int .i64) (lt_i64 hi HX.out).1, h, rfl, rfl, HT2⟩
        · have hf : r = false := by
            rw [← HR.out]
            refine decide_eq_false fun e => he ?_
            subst e
            have := HXX.out.symm.trans HYY.out
            cases this
            exact ⟨rfl, rfl⟩
          subst hf
          by_cases h1 : x1 = y1
          · have hq1 : (x1 == y1) = true := by rw [bb_eq]; exact decide_eq_true h1
            have hq2 : (x2 == y2) = false := by rw [bb_eq]; exact decide_eq_false (fun e => he ⟨h1, e⟩)
            clear he h1
            go_upto_region 6 with (fail)
            go_quiet (fail)
            go_wp2
            go_ret
            exact ⟨rfl, below_drewN (below_drewN (Below.refl _ w) _) _⟩
          · have hq1 : (x1 == y1) = false := by rw [bb_eq]; exact decide_eq_false h1
            clear he h1
            go_upto_region 6 with (fail)
            go_quiet (fail)
            go_wp2
            go_ret
            exact ⟨rfl, below_drewN (below_drewN (Below.refl _ w) _) _⟩
      · have ht : r = true := by
          rw [← HR.out]
          have := HT.out
          rw [List.take_of_length_le (by omega), List.take_of_length_le (by have := HL.out; omega)] at this
          exact decide_eq_true this
        subst ht
        go_wp2
        go_ret
        exact ⟨rfl, below_drewN (Below.refl _ w) _⟩
  · have hne : ((xs.length : Int) != (ys.length : Int)) = true := by simp; omega
    have hr : decide (xs = ys) = false := decide_eq_false (fun e => hl (by rw [e]))
    rw [hr]
    clear hl hr
    go_enter Try.func12, Try.ntmps12
    go_wp2
    go_ret
    exact ⟨rfl, Below.refl _ _⟩
theorem rpair_info : (Try.prog.info? 53).map (fun i => (i.zero, i.size, i.bytes)) = some (some (.agg #[.string ⟨#[]⟩, .string ⟨#[]⟩]), 2, 32) := by kernel_rfl
set_option maxHeartbeats 2000000 in
theorem refs_c (w : World) (A : Option Addr) (ca : Nat) (xs : List Pr) (hA : PsAt w A xs) (hx : xs.length ≤ 1048576) :
    Calls Try.prog 15 #[.slice A xs.length ca] w fun e w' => ∃ v, e = .returned v ∧ Recs w' w.heap.size 53 2 v (xs.map prc) ∧ Below w.heap.size w w' := by
  have HA := Lib.hid hA
  have HX := Lib.hid hx
  clear hA hx
  go_enter Try.func15, Try.ntmps15
  go_wp2
  go_loopg [3, 4] xs.length (fun g v iv wr => ∃ i : Nat, iv = .int .i64 i ∧ i ≤ xs.length ∧ g = xs.length - i ∧ Hid (Recs wr w.heap.size 53 2 v ((xs.take i).map prc)) ∧ Hid (Below w.heap.size w wr))
  case atStart => exact ⟨0, rfl, Nat.zero_le _, rfl, Lib.hid (by simpa using Recs.nil w w.heap.size 53 2), Lib.hid (Below.refl _ _)⟩
  case round =>
    obtain ⟨i, rfl, hi, hg, HR, HB⟩ := hrel
    by_cases h : i < xs.length
    · obtain ⟨x, hx⟩ : ∃ x, xs[i]? = some x := ⟨xs[i], List.getElem?_eq_getElem h⟩
      obtain ⟨b, off, rfl, hb, a1, a2⟩ := HA.out i x hx
      have d1 : wr.cell? ⟨b, off + i * 2, none⟩ = some (.string x.1) := (HB.out.cell (p := ⟨b, off + i * 2, none⟩) hb).trans a1
      have d2 : wr.cell? ⟨b, off + i * 2 + 1, none⟩ = some (.string x.2) := (HB.out.cell (p := ⟨b, off + i * 2 + 1, none⟩) hb).trans a2
      have HTK : Hid ((xs.take (i + 1)).map prc = (xs.take i).map prc ++ [prc x]) := Lib.hid (by
        rw [List.take_succ_eq_append_getElem h, List.map_append, (List.getElem?_eq_some_iff.1 hx).2]; rfl)
      have hlen : ((xs.take i).map prc).length = i := by rw [List.length_map, List.length_take]; omega
      have HOW : Hid (wr.ownsRow w.heap.size 53 2 _ i ((xs.take i).map prc).flatten) := Lib.hid (by have := HR.out.own; rw [hlen] at this; exact this)
      have HL1 : Hid (i + 1 ≤ maxLen) := Lib.hid (by unfold maxLen; have := HX.out; omega)
      have HL2 : Hid ((i + 1) * 32 ≤ 140737488355328) := Lib.hid (by have := HX.out; omega)
      have HL3 := Lib.hid HB.out.size
      have HLEN := Lib.hid hlen
      clear hx a1 a2 hb hlen
      obtain ⟨x1, x2⟩ := x
      dsimp only at d1 d2
      go_wp2_with (at_builtin; refine wpList_app rfl _ _ 27 rfl w.heap.size 53 _ 2 32 Try.underlying27 rpair_info rfl (by decide) _ i _ rfl HOW.out [.string x1, .string x2] _ 1 1 rfl rfl rfl HL1.out HL2.out HL3.out ?_; intro v' w9 hO hG hN)
      go_roundg (xs.length - (i + 1))
      case measure => omega
      case rel =>
        refine ⟨i + 1, congrArg (Value.int .i64) (lt_i64 hi HX.out).1, h, rfl, Lib.hid ?_, Lib.hid (below_row HOW.out hG.out HB.out (Nat.le_refl _) HB.out.size)⟩
        rw [HTK.out]
        exact HR.out.app (prc (x1, x2)) rfl (by rw [HLEN.out]; exact hO.out)
    · have hE : xs.take i = xs := List.take_of_length_le (by omega)
      rw [hE] at HR
      go_wp2
      go_ret
      exact ⟨_, rfl, HR.out, HB.out⟩
end Mg
end Go.Proofs.Ytgeeaddbapjikaa
