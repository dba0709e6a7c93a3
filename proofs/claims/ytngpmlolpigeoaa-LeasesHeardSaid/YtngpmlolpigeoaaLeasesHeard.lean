/- LeasesHeard: who is heard of in time loses nothing, who isn't loses all: the walk. (Printed by XLeasesHeard.py.) -/
import Derived.Test.YtngpmlolpigeoaaLeasesLast
namespace Go.Proofs.Ytngpmlolpigeoaa
open Go.RowKit Go.Maps
set_option linter.unusedVariables false
set_option linter.unusedSimpArgs false
theorem opens_paths13 (w : World) : Opens Try.prog w 22 RStrs (bulkL fun x => vbulk [.string x]) := opens_strs Try.underlying22 (by kernel_rfl) (by kernel_rfl) (by kernel_rfl) w
def RBools := RSl 1 1 (fun (_ : World) (cs : List Value) (x : Bool) => cs = [.bool x] ∧ True)
theorem opens_bool1 {P : Program} {t : TypeId} (hf : flat P 4 t = some [.bool]) (w : World) : Opens P w t (fun _ cs (x : Bool) => cs = [.bool x] ∧ True) (fun x => vbulk [.bool x]) :=
  opens_flat hf (fun x => [.bool x]) (fun _ => True) fun cs h => by
    obtain ⟨s, d, rfl, h2⟩ := h.bool_inv
    obtain rfl := h2.nil_inv
    exact ⟨s, rfl, trivial⟩
theorem opens_bools13 (w : World) : Opens Try.prog w 23 RBools (bulkL fun x => vbulk [.bool x]) :=
  opens_slice Try.underlying23 (by kernel_rfl) (by kernel_rfl) (by decide) (opens_bool1 (by kernel_rfl) w)
/-- behind the grants -/
structure HeardT (len : Int) (ps : List ByteArray) (T : Le.Tab) : Prop where
  len : T.len = len
  any : ∀ x, (T.g x).isSome = true ↔ x ∈ ps
  val : ∀ x p, T.g x = some p → (p.1 = 1 ∨ p.1 = 2) ∧ p.2 = 0
theorem HeardT.put {len : Int} {ps : List ByteArray} {T : Le.Tab} (h : HeardT len ps T) (p : ByteArray) (c : Int) (hc : c = 1 ∨ c = 2) : HeardT len (ps ++ [p]) (T.put p c 0) := by
  refine ⟨h.len, fun x => ?_, fun x q hq => ?_⟩
  · unfold Le.Tab.put
    by_cases e : x = p
    · simp [e]
    · simp only [e, if_false, List.mem_append, List.mem_singleton, or_false]
      exact h.any x
  · unfold Le.Tab.put at hq
    by_cases e : x = p
    · simp only [e, if_true, Option.some.injEq] at hq
      subst hq
      exact ⟨hc, rfl⟩
    · simp only [e, if_false] at hq
      exact h.val x q hq
/-- behind the renewal -/
structure HeardR (len : Int) (ps : List ByteArray) (T : Le.Tab) : Prop where
  len : T.len = len
  any : ∀ x, (T.g x).isSome = true ↔ x ∈ ps
  val : ∀ x p, T.g x = some p → (p.1 = 1 ∧ p.2 = 7) ∨ (p.1 = 2 ∧ p.2 = 0)
theorem HeardT.renew {len : Int} {ps : List ByteArray} {T : Le.Tab} (h : HeardT len ps T) : HeardR len ps (T.renew 1 7) := by
  refine ⟨h.len, fun x => ?_, fun x q hq => ?_⟩
  · unfold Le.Tab.renew
    by_cases e : Le.isMine T 1 x = true
    · simp only [e, if_true, Option.isSome_some, true_iff]
      exact (h.any x).1 (Le.isMine_some e)
    · simp only [e]
      exact h.any x
  · unfold Le.Tab.renew at hq
    by_cases e : Le.isMine T 1 x = true
    · simp only [e, if_true, Option.some.injEq] at hq
      subst hq
      exact .inl ⟨rfl, rfl⟩
    · simp only [e] at hq
      have hq : T.g x = some q := hq
      have h1 := h.val x q hq
      unfold Le.isMine at e
      rw [hq] at e
      have e : ¬ q.1 = 1 := by simpa using e
      exact .inr ⟨h1.1.resolve_left e, h1.2⟩
theorem HeardR.due {len : Int} {ps : List ByteArray} {T : Le.Tab} (h : HeardR len ps T) (h1 : 1 ≤ len) (x : ByteArray) : Le.isDue T len x = true ↔ ∃ t, T.g x = some (2, t) := by
  unfold Le.isDue
  cases e : T.g x with
  | none => simp
  | some p =>
    have := h.val x p e
    obtain ⟨a, b⟩ := p
    simp only [decide_eq_true_eq, Option.some.injEq, Prod.mk.injEq, h.len]
    constructor
    · intro h2
      rcases this with ⟨h3, h4⟩ | ⟨h3, h4⟩
      · simp only at h3 h4; omega
      · exact ⟨b, h3, rfl⟩
    · rintro ⟨_, rfl, rfl⟩
      rcases this with ⟨h3, h4⟩ | ⟨h3, h4⟩
      · simp only at h3; omega
      · simp only at h4; omega
theorem HeardR.due1 {len : Int} {ps : List ByteArray} {T : Le.Tab} (h : HeardR len ps T) (h1 : 1 ≤ len) (x : ByteArray) : Le.isDue T (len - 1) x = false := by
  unfold Le.isDue
  cases e : T.g x with
  | none => rfl
  | some p =>
    have := h.val x p e
    simp only [decide_eq_false_iff_not, h.len]
    omega
theorem Le.Due.length {T : Le.Tab} {n : Int} {ss : List (List UInt8)} (h : Le.Due T n ss) {w : World} {t m : Nat} {L : List ByteArray} (k : TabAt w t m L T) : ss.length ≤ L.length := by
  have hn : (ss.map (fun a => ByteArray.mk a.toArray)).Nodup := List.Pairwise.map _ (fun a b hab e => by
    have : toB ⟨a.toArray⟩ = toB ⟨b.toArray⟩ := by rw [e]
    rw [toB_mk, toB_mk] at this
    rw [this] at hab
    exact List.lt_irrefl _ hab) h.rises
  have := nodup_sub_length _ L hn fun x hx => by
    obtain ⟨a, ha, rfl⟩ := List.mem_map.1 hx
    exact k.cov _ (Le.isDue_some ((h.mem ⟨a.toArray⟩).1 (by rw [toB_mk]; exact ha)))
  rwa [List.length_map] at this
theorem ins_len (p : ByteArray) (L : List ByteArray) : (Le.ins p L).length ≤ L.length + 1 := by
  unfold Le.ins
  split
  · omega
  · simp
set_option maxRecDepth 20000 in
set_option maxHeartbeats 8000000 in
theorem leasesHeard_walk (W : World) (len : Int) (w0 : (Lit.int .i64 len).wf = true) (pa : Option Addr) (n pc : Nat) (ps : List ByteArray) (hP : RStrs W [.slice pa n pc] ps) (ba : Option Addr) (nb bc : Nat) (bs : List Bool) (hB : RBools W [.slice ba nb bc] bs) :
    Calls Try.prog 3 #[.int .i64 len, .slice pa n pc, .slice ba nb bc] W fun e w' => e = .returned (.bool true) ∧ Below W.heap.size W w' := by
  obtain ⟨hn, hnc, hcb, hcm, hel⟩ := rsl_get hP
  obtain ⟨hn2, hnc2, hcb2, hcm2, hel2⟩ := rsl_get hB
  have HEL := Lib.hid hel
  have HEB := Lib.hid hel2
  have HBN : Hid (n * 16 ≤ 140737488351232) := Lib.hid (by omega)
  have HBB : Hid (nb ≤ 140737488351232) := Lib.hid (by omega)
  have HNC : Hid (ps.length = n) := Lib.hid hn
  have HNB : Hid (bs.length = nb) := Lib.hid hn2
  have HLE : Hid (1 ≤ (if len < 1 ∨ 1073741824 < len then 5 else len) ∧ (if len < 1 ∨ 1073741824 < len then 5 else len) ≤ 1073741824) := Lib.hid (by split <;> omega)
  clear hP hB hel hcb hcm hn hnc hel2 hcb2 hcm2 hn2 hnc2 w0
  go_enter Try.func3, Try.ntmps3
  go_wp2_with fail
  refine (speaks_any W).mono ?_
  rintro _ w1 ⟨rfl, hb⟩
  have HB := Lib.hid hb
  clear hb
  go_upto_region 3 with (fail)
  go_cut [27] (fun v wc => w1 = wc ∧ v = .bool (decide (len < 1) || decide (1073741824 < len)))
  case first =>
    by_cases h1 : len < 1
    · have e1 : decide (len < 1) = true := decide_eq_true h1
      clear h1
      go_wp2
      go_meet
      exact ⟨rfl, by rw [e1]; rfl⟩
    · have e1 : decide (len < 1) = false := decide_eq_false h1
      by_cases h2 : 1073741824 < len
      · have e2 : decide (1073741824 < len) = true := decide_eq_true h2
        clear h1 h2
        go_wp2
        go_meet
        exact ⟨rfl, by rw [e1, e2]; rfl⟩
      · have e2 : decide (1073741824 < len) = false := decide_eq_false h2
        clear h1 h2
        go_wp2
        go_meet
        exact ⟨rfl, by rw [e1, e2]; rfl⟩
  obtain ⟨rfl, rfl⟩ := hcut
  generalize hbb : (decide (len < 1) || decide (1073741824 < len)) = bb
  have HLE2 : Hid (1 ≤ (if bb = true then 5 else len) ∧ (if bb = true then 5 else len) ≤ 1073741824) := Lib.hid (by
    rw [← hbb]
    have := HLE.out
    by_cases h1 : len < 1 <;> by_cases h2 : 1073741824 < len <;> simp [h1, h2] at this ⊢ <;> omega)
  clear hbb HLE
  go_upto_if 27 with (fail)
  go_cut [0] (fun v wc => w1 = wc ∧ v = .int .i64 (if bb = true then 5 else len))
  case first =>
    cases bb
    · go_wp2
      go_meet
      exact ⟨rfl, rfl⟩
    · go_wp2
      go_meet
      exact ⟨rfl, rfl⟩
  obtain ⟨rfl, rfl⟩ := hcut
  generalize (if bb = true then 5 else len) = le at HLE2 ⊢
  have hcl : clamp le 1 = le := by have := HLE2.out; unfold clamp; omega
  have hcl2 : clamp le 0 = le := by have := HLE2.out; unfold clamp; omega
  have hcl3 : clamp (le - 1) 0 = le - 1 := by have := HLE2.out; unfold clamp; omega
  have HCL := Lib.hid (And.intro hcl2 hcl3)
  go_wp2_with fail
  refine (new_c le w1).mono ?_
  intro e w2 h2
  obtain ⟨t, m, rfl, hm2⟩ := My.new HB.out h2
  rw [hcl] at hm2
  have H2 : Hid (My W w2 t m [] ⟨le, fun _ => none⟩) := Lib.hid hm2
  clear h2 hm2 hcl hcl2 hcl3
  go_wp2_with fail
  go_loopg [8, 9] n (fun g iv cv wr => ∃ (k : Nat) (T : Le.Tab) (L : List ByteArray), iv = .int .i64 (k : Int) ∧ k + g = n ∧ Hid (HeardT le (ps.take k) T) ∧ Hid (L.length ≤ k) ∧ Hid (My W wr t m L T))
  case atStart => exact ⟨0, _, [], rfl, by omega, Lib.hid ⟨rfl, fun x => by simp, fun x p e => by cases e⟩, Lib.hid (Nat.le_refl _), H2⟩
  case round =>
    obtain ⟨k, T, L, rfl, hk, HT, HL, MM⟩ := hrel
    have HK := Lib.hid hk
    clear H2 HB
    by_cases hlt : k < n
    · have t1 : decide ((k : Int) < (n : Int)) = true := decide_eq_true (by omega)
      have t1n : decide (k < n) = true := decide_eq_true hlt
      obtain ⟨x, hx⟩ : ∃ x, ps[k]? = some x := ⟨ps[k]'(by rw [HNC.out]; exact hlt), List.getElem?_eq_getElem _⟩
      obtain ⟨b, off, rfl, hbW, hxw, hcell⟩ := HEL.out k x hx
      have dW : W.cell? ⟨b, off + k, none⟩ = some (.string x) := by
        have := hcell 0 (.string x) rfl
        rwa [Nat.mul_one, Nat.add_zero] at this
      have d0 : World.cell? _ ⟨b, off + k, none⟩ = some (.string x) := (World.cell?_of_block (MM.out.below.block b hbW)).trans dW
      have ka : ((k : Int)).toNat = k := by omega
      have kp : (0 : Int) ≤ (k : Int) := by omega
      have kz : (k : Int) < (n : Int) := by omega
      have HXW : Hid (x.size ≤ maxLen) := Lib.hid (by unfold maxLen; omega)
      have HTK : Hid (ps.take (k + 1) = ps.take k ++ [x]) := Lib.hid (by rw [List.take_add_one, hx]; rfl)
      have HLM : Hid (L.length < maxLen) := Lib.hid (by have := HL.out; have := HBN.out; unfold maxLen; omega)
      clear hcell hxw hbW dW hx
      by_cases hkb : k < nb
      · obtain ⟨bv, hbv⟩ : ∃ x, bs[k]? = some x := ⟨bs[k]'(by rw [HNB.out]; exact hkb), List.getElem?_eq_getElem _⟩
        obtain ⟨b2, off2, rfl, hbW2, _, hcell2⟩ := HEB.out k bv hbv
        have dW2 : W.cell? ⟨b2, off2 + k, none⟩ = some (.bool bv) := by
          have := hcell2 0 (.bool bv) rfl
          rwa [Nat.mul_one, Nat.add_zero] at this
        have d2 : World.cell? _ ⟨b2, off2 + k, none⟩ = some (.bool bv) := (World.cell?_of_block (MM.out.below.block b2 hbW2)).trans dW2
        have t2 : decide ((k : Int) < (nb : Int)) = true := decide_eq_true (by omega)
        have t2n : decide (k < nb) = true := decide_eq_true hkb
        have kzb : (k : Int) < (nb : Int) := by omega
        clear hcell2 hbW2 dW2 hbv hkb
        cases bv
        · go_wp2_with fail
          clear d2 t2 t2n kzb
          refine (grant_c t m L T x HXW.out 2 0 _ MM.out.at_ HLM.out).mono ?_
          rintro _ w5 ⟨rfl, h5⟩
          rw [show clamp 0 0 = 0 from by decide] at h5
          have M5 := Lib.hid (MM.out.to h5)
          have kw : k + 1 < 35184372087808 := by have := HBN.out; have := HK.out; omega
          clear h5 d0
          go_wp2_with fail
          clear kw
          go_roundg (n - (k + 1))
          case measure => have := HK.out; omega
          case rel => exact ⟨k + 1, _, _, by first | rfl | go_num, by have := HK.out; omega, by rw [HTK.out]; exact Lib.hid (HT.out.put x 2 (by decide)), Lib.hid (Nat.le_trans (ins_len x L) (Nat.succ_le_succ HL.out)), M5⟩
        · go_wp2_with fail
          clear d2 t2 t2n kzb
          refine (grant_c t m L T x HXW.out 1 0 _ MM.out.at_ HLM.out).mono ?_
          rintro _ w5 ⟨rfl, h5⟩
          rw [show clamp 0 0 = 0 from by decide] at h5
          have M5 := Lib.hid (MM.out.to h5)
          have kw : k + 1 < 35184372087808 := by have := HBN.out; have := HK.out; omega
          clear h5 d0
          go_wp2_with fail
          clear kw
          go_roundg (n - (k + 1))
          case measure => have := HK.out; omega
          case rel => exact ⟨k + 1, _, _, by first | rfl | go_num, by have := HK.out; omega, by rw [HTK.out]; exact Lib.hid (HT.out.put x 1 (by decide)), Lib.hid (Nat.le_trans (ins_len x L) (Nat.succ_le_succ HL.out)), M5⟩
      · have t2 : decide ((k : Int) < (nb : Int)) = false := decide_eq_false (by omega)
        have t2n : decide (k < nb) = false := decide_eq_false hkb
        clear hkb
        go_wp2_with fail
        clear t2 t2n
        refine (grant_c t m L T x HXW.out 2 0 _ MM.out.at_ HLM.out).mono ?_
        rintro _ w5 ⟨rfl, h5⟩
        rw [show clamp 0 0 = 0 from by decide] at h5
        have M5 := Lib.hid (MM.out.to h5)
        have kw : k + 1 < 35184372087808 := by have := HBN.out; have := HK.out; omega
        clear h5 d0
        go_wp2_with fail
        clear kw
        go_roundg (n - (k + 1))
        case measure => have := HK.out; omega
        case rel => exact ⟨k + 1, _, _, by first | rfl | go_num, by have := HK.out; omega, by rw [HTK.out]; exact Lib.hid (HT.out.put x 2 (by decide)), Lib.hid (Nat.le_trans (ins_len x L) (Nat.succ_le_succ HL.out)), M5⟩
    · have t1 : decide ((k : Int) < (n : Int)) = false := decide_eq_false (by omega)
      have t1n : decide (k < n) = false := decide_eq_false hlt
      obtain rfl : k = n := by omega
      clear HK hk hlt
      have HT1 : Hid (HeardT le ps T) := Lib.hid (by have := HT.out; rwa [List.take_of_length_le (by rw [HNC.out]; exact Nat.le_refl _)] at this)
      have HLL : Hid (L.length < 8796093022208) := Lib.hid (by have := HL.out; have := HBN.out; omega)
      clear HT
      go_wp2_with fail
      refine (renew_c t m L T 1 7 _ MM.out.at_ HLL.out).mono ?_
      rintro _ w3 ⟨rfl, h3⟩
      rw [show clamp 7 0 = 7 from by decide] at h3
      have M3 := Lib.hid (MM.out.to h3)
      have HR := Lib.hid HT1.out.renew
      clear h3
      generalize T.renew 1 7 = T2 at M3 HR
      clear MM HT1
      go_wp2_with fail
      refine (due_c t m L T2 le w3 M3.out.at_ HLL.out).mono ?_
      rintro _ w4 ⟨ss, v, rfl, hd, ho, hf⟩
      rw [HCL.out.1] at hd
      have M4 := Lib.hid (M3.out.fr hf)
      have HD := Lib.hid hd
      obtain ⟨A, cs4, rfl⟩ := own_slice ho
      have HO := Lib.hid ho
      have HBS : Hid (W.heap.size ≤ w3.heap.size) := Lib.hid M3.out.below.size
      have HSL : Hid (ss.length < 8796093022208) := Lib.hid (Nat.lt_of_le_of_lt (hd.length M3.out.at_) HLL.out)
      clear hd ho hf M3
      generalize w3.heap.size = r4 at HO HBS
      clear t1 t1n
      have HR2 := Lib.hid (fun x => HR.out.due HLE2.out.1 x)
      go_wp2_with fail
      go_loopg [12, 13, 14] ss.length (fun g iv cv ov wr => ∃ k : Nat, iv = .int .i64 (k : Int) ∧ k + g = ss.length ∧ Hid (My W wr t m L T2) ∧ Hid (wr.ownsRow r4 9 1 (.slice A ss.length cs4) ss.length (texts ss)))
      case atStart => exact ⟨0, rfl, by omega, M4, HO⟩
      case round =>
        obtain ⟨i, rfl, hi, M5, HO5⟩ := hrel
        have HI := Lib.hid hi
        clear M4 HO
        by_cases hlt : i < ss.length
        · have t1 : decide ((i : Int) < (ss.length : Int)) = true := decide_eq_true (by omega)
          have t1n : decide (i < ss.length) = true := decide_eq_true hlt
          obtain ⟨gb, cp, he, hgb, hgl, hC⟩ := own_some HO5.out (by omega)
          cases he
          have hsx : ss[i]? = some ss[i] := List.getElem?_eq_getElem _
          obtain ⟨hd2, hx⟩ := (HR2.out ⟨ss[i].toArray⟩).1 ((HD.out.mem ⟨ss[i].toArray⟩).1 (by rw [toB_mk]; exact List.getElem_mem _))
          have c0 : World.cell? _ ⟨gb, i, none⟩ = some (.string ⟨ss[i].toArray⟩) := (hC.get (j := i) (by simp [texts, hsx])).1
          have hxs : (ByteArray.mk ss[i].toArray).size ≤ maxLen := M5.out.at_.ok _ (M5.out.at_.cov _ (by rw [hx]; rfl))
          have HH := Lib.hid (holder_c t m L T2 ⟨ss[i].toArray⟩ hxs _ M5.out.at_)
          rw [hx] at HH
          have HPV : Hid (∀ j, i = j + 1 → ∃ y : List UInt8, (∀ wq : World, Fr _ wq (fun _ => False) → wq.cell? ⟨gb, j, none⟩ = some (.string ⟨y.toArray⟩)) ∧ y < ss[i]) := Lib.hid (by
            rintro j rfl
            refine ⟨ss[j]'(by omega), fun wq hq => (hq.cell (p := ⟨gb, j, none⟩) hgl (fun e => e)).trans (hC.get (j := j) (by simp [texts, List.getElem?_eq_getElem (show j < ss.length by omega)])).1, ?_⟩
            exact List.pairwise_iff_getElem.1 HD.out.rises j (j + 1) (by omega) hlt (by omega))
          have HCX : Hid (∀ wq : World, Fr _ wq (fun _ => False) → wq.cell? ⟨gb, i, none⟩ = some (.string ⟨ss[i].toArray⟩)) := Lib.hid fun wq hq => (hq.cell (p := ⟨gb, i, none⟩) hgl (fun e => e)).trans c0
          generalize hsi : ss[i] = sx at c0 HH HPV HCX hxs hx
          have ka : ((i : Int)).toNat = i := by omega
          have kp : (0 : Int) ≤ (i : Int) := by omega
          have kz : (i : Int) < (ss.length : Int) := by omega
          clear hgb hgl hC hsx hx hxs hsi hlt
          go_wp2_with fail
          refine HH.out.mono ?_
          rintro _ w5 ⟨rfl, h5⟩
          have M6 := Lib.hid (M5.out.fr h5)
          have HO6 := Lib.hid (own_fr HO5.out h5 (fun _ _ e => e))
          have hpv := fun j e => HPV.out j e
          have d0 := HCX.out w5 h5
          have HPW : Hid (∀ j, i = j + 1 → ∃ y : List UInt8, w5.cell? ⟨gb, j, none⟩ = some (.string ⟨y.toArray⟩) ∧ y < sx) := Lib.hid fun j e => by
            obtain ⟨y, h1, h2⟩ := HPV.out j e
            exact ⟨y, h1 w5 h5, h2⟩
          clear hpv h5 c0 HCX HPV HH
          have d0n : ∀ d, (w5.drewN d).cell? ⟨gb, i, none⟩ = some (.string ⟨sx.toArray⟩) := fun d => d0
          clear d0
          by_cases h0 : i = 0
          · subst h0
            clear HPW
            go_upto_region 20 with (fail)
            go_quiet (fail)
            have hz := (Fr.refl w5 (fun _ => False)).drewN nq
            have M7 := Lib.hid (M6.out.fr hz)
            have HO7 := Lib.hid (own_drewN HO6.out nq)
            clear hz M6 HO6 d0n
            generalize w5.drewN nq = w6 at M7 HO7 ⊢
            go_wp2_with fail
            go_roundg (ss.length - 1)
            case measure => have := HI.out; omega
            case rel => exact ⟨1, by first | rfl | go_num, by have := HI.out; omega, M7, HO7⟩
          · obtain ⟨j, hj⟩ : ∃ j, i = j + 1 := ⟨i - 1, by omega⟩
            obtain ⟨y, hy, hyx⟩ := HPW.out j hj
            have dyn : ∀ d, (w5.drewN d).cell? ⟨gb, j, none⟩ = some (.string ⟨y.toArray⟩) := fun d => hy
            have b1 : Op.bytesLess sx y = false := by rw [bytesLess_eq]; exact decide_eq_false (fun h => List.lt_asymm hyx h)
            have b2 : (sx == y) = false := by
              refine beq_eq_false_iff_ne.2 fun e => ?_
              rw [e] at hyx
              exact List.lt_irrefl _ hyx
            have kb2 : IntKind.i64.wrap (j : Int) = (j : Int) := by rw [IntKind.wrap_i64]; have := HSL.out; have := HI.out; omega
            have kb5 : wrap64 (j : Int) = (j : Int) := by unfold wrap64; have := HSL.out; have := HI.out; omega
            have kb3 : IntKind.i64.wrap ((i : Int) - 1) = (j : Int) := by rw [IntKind.wrap_i64]; have := HSL.out; have := HI.out; omega
            have kb4 : wrap64 ((i : Int) - 1) = (j : Int) := by unfold wrap64; have := HSL.out; have := HI.out; omega
            have kb : ((j : Int)).toNat = j := by omega
            have kbp : (0 : Int) ≤ (j : Int) := by omega
            have kbz : (j : Int) < (ss.length : Int) := by have := HI.out; omega
            have kq : decide ((0 : Int) < (i : Int)) = true := decide_eq_true (by omega)
            have kqn : decide (0 < i) = true := decide_eq_true (by omega)
            clear hy HPW hyx h0 hj hi
            go_upto_region 20 with (fail)
            go_quiet (fail)
            have hz := (Fr.refl w5 (fun _ => False)).drewN nq
            have M7 := Lib.hid (M6.out.fr hz)
            have HO7 := Lib.hid (own_drewN HO6.out nq)
            have kw : i + 1 < 8796093022209 := by have := HSL.out; have := HI.out; omega
            clear hz M6 HO6 d0n dyn b1 b2 kb2 kb3 kb4 kb5 kb kbp kbz kq kqn
            generalize w5.drewN nq = w6 at M7 HO7 ⊢
            go_wp2_with fail
            clear kw
            go_roundg (ss.length - (i + 1))
            case measure => have := HI.out; omega
            case rel => exact ⟨i + 1, by first | rfl | go_num, by have := HI.out; omega, M7, HO7⟩
        · have t1 : decide ((i : Int) < (ss.length : Int)) = false := decide_eq_false (by omega)
          have t1n : decide (i < ss.length) = false := decide_eq_false hlt
          clear hlt hi HI
          have HD2 : Hid (∀ x, toB x ∈ ss ↔ ∃ t, T2.g x = some (2, t)) := Lib.hid fun x => (HD.out.mem x).trans (HR2.out x)
          go_wp2_with fail
          clear t1 t1n
          go_loopg [11, 15, 16, 17, 18, 19] k (fun g v11 v15 v16 v17 v18 v19 wr => ∃ q : Nat, v15 = .int .i64 (q : Int) ∧ v11 = .int .i64 (q : Int) ∧ q + g = k ∧ Hid (My W wr t m L T2) ∧ Hid (wr.ownsRow r4 9 1 (.slice A ss.length cs4) ss.length (texts ss)))
          case atStart => exact ⟨0, rfl, rfl, by omega, M5, HO5⟩
          case round =>
            obtain ⟨q, rfl, rfl, hq, M6, HO6⟩ := hrel
            have HQ := Lib.hid hq
            clear M5 HO5
            by_cases hlt : q < k
            · have t1 : decide ((q : Int) < (k : Int)) = true := decide_eq_true (by omega)
              have t1n : decide (q < k) = true := decide_eq_true hlt
              have HQL := Lib.hid hlt
              obtain ⟨x, hx⟩ : ∃ x, ps[q]? = some x := ⟨ps[q]'(by rw [HNC.out]; exact hlt), List.getElem?_eq_getElem _⟩
              obtain ⟨b, off, rfl, hbW, hxw, hcell⟩ := HEL.out q x hx
              have dW : W.cell? ⟨b, off + q, none⟩ = some (.string x) := by
                have := hcell 0 (.string x) rfl
                rwa [Nat.mul_one, Nat.add_zero] at this
              have DW := Lib.hid (And.intro dW hbW)
              have d0 : World.cell? _ ⟨b, off + q, none⟩ = some (.string x) := (World.cell?_of_block (M6.out.below.block b hbW)).trans dW
              have ka : ((q : Int)).toNat = q := by omega
              have kp : (0 : Int) ≤ (q : Int) := by omega
              have kz : (q : Int) < (k : Int) := by omega
              obtain ⟨p, hp⟩ := Option.isSome_iff_exists.1 ((HR.out.any x).2 (List.mem_of_getElem? hx))
              obtain ⟨cx, hxv⟩ := p
              have HH := Lib.hid (holder_c t m L T2 x (by unfold maxLen; omega) _ M6.out.at_)
              rw [hp] at HH
              have HCV := Lib.hid (HR.out.val x _ hp)
              have HIN : Hid (toB x ∈ ss ↔ cx = 2) := Lib.hid (by
                rw [HD2.out x, hp]
                constructor
                · rintro ⟨t, e⟩; cases e; rfl
                · intro e; exact ⟨hxv, by rw [e]⟩)
              clear hcell hxw hbW dW hx hp
              go_wp2_with fail
              refine HH.out.mono ?_
              rintro _ w5 ⟨rfl, h5⟩
              have M7 := Lib.hid (M6.out.fr h5)
              have HO7 := Lib.hid (own_fr HO6.out h5 (fun _ _ e => e))
              clear h5 d0 HH M6 HO6 t1 t1n ka kp kz
              go_wp2_with fail
              go_loopg [18, 19] ss.length (fun g v18 v19 wr => ∃ j : Nat, v19 = .int .i64 (j : Int) ∧ v18 = .bool ((ss.take j).any fun s => s == toB x) ∧ j + g = ss.length ∧ Hid (My W wr t m L T2) ∧ Hid (wr.ownsRow r4 9 1 (.slice A ss.length cs4) ss.length (texts ss)))
              case atStart => exact ⟨0, rfl, rfl, by omega, M7, HO7⟩
              case round =>
                obtain ⟨j, rfl, rfl, hj, M8, HO8⟩ := hrel
                have HJ := Lib.hid hj
                clear M7 HO7
                by_cases hjl : j < ss.length
                · have t1 : decide ((j : Int) < (ss.length : Int)) = true := decide_eq_true (by omega)
                  have t1n : decide (j < ss.length) = true := decide_eq_true hjl
                  obtain ⟨gb, cp, he, hgb, hgl, hC⟩ := own_some HO8.out (by omega)
                  cases he
                  have HJL := Lib.hid hjl
                  have hsx : ss[j]? = some ss[j] := List.getElem?_eq_getElem _
                  have c0 : World.cell? _ ⟨gb, j, none⟩ = some (.string ⟨ss[j].toArray⟩) := (hC.get (j := j) (by simp [texts, hsx])).1
                  have HAN : Hid (((ss.take (j + 1)).any fun s => s == toB x) = (((ss.take j).any fun s => s == toB x) || (ss[j] == toB x))) := Lib.hid (by
                    rw [List.take_add_one, hsx, List.any_append]; simp)
                  have d0 : World.cell? _ ⟨b, off + q, none⟩ = some (.string x) := (World.cell?_of_block (M8.out.below.block b DW.out.2)).trans DW.out.1
                  generalize ss[j] = sj at c0 HAN
                  have hbq : (sj == x.toList) = (sj == toB x) := by rw [Lib.toList_data]; rfl
                  generalize (sj == toB x) = bq at hbq HAN
                  generalize hfj : ((ss.take j).any fun s => s == toB x) = fj at HAN ⊢
                  have c0n : ∀ d, (World.drewN _ d).cell? ⟨gb, j, none⟩ = some (.string ⟨sj.toArray⟩) := fun d => c0
                  have d0n : ∀ d, (World.drewN _ d).cell? ⟨b, off + q, none⟩ = some (.string x) := fun d => d0
                  have ka : ((q : Int)).toNat = q := by omega
                  have kp : (0 : Int) ≤ (q : Int) := by omega
                  have kz : (q : Int) < (k : Int) := by omega
                  have ja : ((j : Int)).toNat = j := by omega
                  have jp : (0 : Int) ≤ (j : Int) := by omega
                  have jz : (j : Int) < (ss.length : Int) := by omega
                  clear hgb hgl hC hsx hfj c0 d0 hjl hj hlt hq
                  cases fj
                  · have HAN2 : Hid (((ss.take (j + 1)).any fun s => s == toB x) = bq) := Lib.hid (by rw [HAN.out]; rfl)
                    go_upto_region 32 with (fail)
                    go_quiet (fail)
                    have hz := Fr.drewN (Fr.refl _ (fun _ => False)) nq (w := wr)
                    have M9 := Lib.hid (M8.out.fr hz)
                    have HO9 := Lib.hid (own_drewN HO8.out nq)
                    have kw : j + 1 < 8796093022209 := by have := HSL.out; have := HJL.out; omega
                    clear hz M8 HO8 c0n d0n ka kp kz ja jp jz t1 t1n hbq
                    generalize wr.drewN nq = w6 at M9 HO9 ⊢
                    go_wp2_with fail
                    clear kw
                    go_roundg (ss.length - (j + 1))
                    case measure => have := HJ.out; have := HJL.out; omega
                    case rel => exact ⟨j + 1, by first | rfl | go_num, by rw [HAN2.out], by have := HJ.out; have := HJL.out; omega, M9, HO9⟩
                  · have HAN2 : Hid (((ss.take (j + 1)).any fun s => s == toB x) = true) := Lib.hid (by rw [HAN.out]; rfl)
                    go_upto_region 32 with (fail)
                    go_quiet (fail)
                    have hz := Fr.drewN (Fr.refl _ (fun _ => False)) nq (w := wr)
                    have M9 := Lib.hid (M8.out.fr hz)
                    have HO9 := Lib.hid (own_drewN HO8.out nq)
                    have kw : j + 1 < 8796093022209 := by have := HSL.out; have := HJL.out; omega
                    clear hz M8 HO8 c0n d0n ka kp kz ja jp jz t1 t1n hbq
                    generalize wr.drewN nq = w6 at M9 HO9 ⊢
                    go_wp2_with fail
                    clear kw
                    go_roundg (ss.length - (j + 1))
                    case measure => have := HJ.out; have := HJL.out; omega
                    case rel => exact ⟨j + 1, by first | rfl | go_num, by rw [HAN2.out], by have := HJ.out; have := HJL.out; omega, M9, HO9⟩
                · have t1 : decide ((j : Int) < (ss.length : Int)) = false := decide_eq_false (by omega)
                  have t1n : decide (j < ss.length) = false := decide_eq_false hjl
                  have hfull : ss.take j = ss := List.take_of_length_le (by omega)
                  have HANY : Hid (((ss.take j).any fun s => s == toB x) = decide (toB x ∈ ss)) := Lib.hid (by
                    rw [hfull]
                    by_cases h : toB x ∈ ss
                    · rw [decide_eq_true h]; exact List.any_eq_true.2 ⟨_, h, beq_self_eq_true _⟩
                    · rw [decide_eq_false h]; exact List.any_eq_false.2 fun s hs e => h ((beq_iff_eq.1 e) ▸ hs))
                  have kw : q + 1 < 8796093022209 := by have := HBN.out; have := HQL.out; omega
                  clear hfull hjl hj HJ
                  rcases HCV.out with ⟨h1, _⟩ | ⟨h1, _⟩
                  · obtain rfl : cx = 1 := h1
                    have hany : ((ss.take j).any fun s => s == toB x) = false := by rw [HANY.out]; exact decide_eq_false (fun h => absurd (HIN.out.1 h) (by decide))
                    rw [hany]
                    clear hany
                    go_wp2_with fail
                    clear kw
                    go_roundg (k - (q + 1))
                    case measure => have := HQ.out; have := HQL.out; omega
                    case rel => exact ⟨q + 1, by first | rfl | go_num, by first | rfl | go_num, by have := HQ.out; have := HQL.out; omega, M8, HO8⟩
                  · obtain rfl : cx = 2 := h1
                    have hany : ((ss.take j).any fun s => s == toB x) = true := by rw [HANY.out]; exact decide_eq_true (HIN.out.2 rfl)
                    rw [hany]
                    clear hany
                    go_wp2_with fail
                    clear kw
                    go_roundg (k - (q + 1))
                    case measure => have := HQ.out; have := HQL.out; omega
                    case rel => exact ⟨q + 1, by first | rfl | go_num, by first | rfl | go_num, by have := HQ.out; have := HQL.out; omega, M8, HO8⟩
            · have t1 : decide ((q : Int) < (k : Int)) = false := decide_eq_false (by omega)
              have t1n : decide (q < k) = false := decide_eq_false hlt
              obtain rfl : q = k := by omega
              have l1 : IntKind.i64.wrap (le - 1) = le - 1 := by rw [IntKind.wrap_i64]; have := HLE2.out; omega
              have l2 : wrap64 (le - 1) = le - 1 := by unfold wrap64; have := HLE2.out; omega
              clear hlt hq HQ
              go_wp2_with fail
              refine (due_c t m L T2 (le - 1) _ M6.out.at_ HLL.out).mono ?_
              intro e w8 h8
              rw [HCL.out.2] at h8
              obtain ⟨A8, c8, rfl, hf8⟩ := h8.noneDue (HR.out.due1 HLE2.out.1)
              have M9 := Lib.hid (M6.out.fr hf8)
              clear h8 hf8
              go_wp2
              go_ret
              exact ⟨rfl, M9.out.below⟩
end Go.Proofs.Ytngpmlolpigeoaa
