/- TopScheduled: workers that take the nearest ready task come to the end: the walk. -/
import Derived.Test.YtahpbcacfdkdjaaTopHold
import Derived.Test.YtahpbcacfdkdjaaArr
import Derived.Deep.CutBlock
namespace Go.Proofs.Ytahpbcacfdkdjaa
open Go.RowKit Go.Lib St Fl
set_option linter.unusedVariables false
set_option linter.unusedSimpArgs false
structure Cov9 (p : Prop) : Prop where
  out : p
def RPair (_ : World) (cs : List Value) (p : Int × Int) : Prop := cs = [.int .i64 p.1, .int .i64 p.2] ∧ True
theorem opens_pair (w : World) : Opens Try.prog w 34 RPair (fun p => vbulk [.int .i64 p.1, .int .i64 p.2]) :=
  opens_flat (n := 4) (ks := [.int .i64, .int .i64]) (by kernel_rfl) (fun p : Int × Int => [.int .i64 p.1, .int .i64 p.2]) (fun _ => True) fun cs h => by
    obtain ⟨a, d1, rfl, _, _, h1⟩ := h.i64_inv
    obtain ⟨b, d2, rfl, _, _, h2⟩ := h1.i64_inv
    obtain rfl := h2.nil_inv
    exact ⟨(a, b), rfl, trivial⟩
def RPairs := RSl 2 16 RPair
theorem opens_pairs (w : World) : Opens Try.prog w 22 RPairs (bulkL fun p : Int × Int => vbulk [.int .i64 p.1, .int .i64 p.2]) :=
  opens_slice Try.underlying22 (by kernel_rfl) (by kernel_rfl) (by decide) (opens_pair w)
theorem opens_intsT (w : World) : Opens Try.prog w 23 RInts (bulkL fun x => vbulk [.int .i64 x]) := opens_ints (e := 3) Try.underlying23 (by kernel_rfl) (by kernel_rfl) (by kernel_rfl) w
theorem bulk_intsT (l : List Int) : l.length ≤ bulkL (fun x => vbulk [.int .i64 x]) l := by
  unfold bulkL
  induction l with
  | nil => simp
  | cons x l ih =>
    simp [vbulk, vb] at ih ⊢
    omega
set_option maxRecDepth 20000 in
set_option maxHeartbeats 8000000 in
theorem topScheduled_walk (W : World) (sa : Option Addr) (n sc : Nat) (ps : List (Int × Int)) (hP : RPairs W [.slice sa n sc] ps) (hbp : bulkL (fun p : Int × Int => vbulk [.int .i64 p.1, .int .i64 p.2]) ps ≤ 1048576) (re : Int) (wre : (Lit.int .i64 re).wf = true) (sf : Option Addr) (f sg : Nat) (fs : List Int) (hF : RInts W [.slice sf f sg] fs) (hbk : bulkL (fun x => vbulk [.int .i64 x]) fs ≤ 1048576) :
    Calls Try.prog 3 #[.slice sa n sc, .int .i64 re, .slice sf f sg] W fun e w' => e = .returned (.bool true) ∧ Below W.heap.size W w' := by
  obtain ⟨hn, hnc, hcb, hcm, hel⟩ := rsl_get (en := fun p : Int × Int => [.int .i64 p.1, .int .i64 p.2]) hP
  have HPE := Lib.hid hel
  have HPN := Lib.hid hn
  have HNC := Lib.hid (And.intro hnc hcm)
  obtain ⟨hfn, hfc, hfb, hfm, hfe⟩ := rsl_get hF
  have HFE := Lib.hid hfe
  have HFN := Lib.hid hfn
  have hfl := bulk_intsT fs
  have HFB : Hid (f ≤ 1048576) := Lib.hid (by omega)
  clear hbp hP hF hn hnc hcb hcm hel hfn hfc hfb hfm hfe hfl hbk wre
  go_enter Try.func3, Try.ntmps3
  obtain ⟨R, hR, hR9⟩ : ∃ R : Nat, ((R : Int) = if re < 0 ∨ 9 < re then 2 else re) ∧ R ≤ 9 := by
    by_cases hc : re < 0 ∨ 9 < re
    · exact ⟨2, by rw [if_pos hc]; rfl, by omega⟩
    · exact ⟨re.toNat, by rw [if_neg hc]; omega, by omega⟩
  have HR := Lib.hid hR
  have HR9 := Lib.hid hR9
  obtain ⟨P, hPn⟩ : ∃ P : Nat, P = min n 20 := ⟨_, rfl⟩
  have HPP := Lib.hid hPn
  have HP20 : Hid (P ≤ 20 ∧ P ≤ n) := Lib.hid (by omega)
  clear hR hR9 hPn
  obtain ⟨big, hbig⟩ : ∃ big : Bool, big = (decide (re < 0) || decide (9 < re)) := ⟨_, rfl⟩
  have HBIG := Lib.hid hbig
  have HRB : Hid ((R : Int) = if big then 2 else re) := Lib.hid (by
    rw [HR.out, hbig]
    by_cases h0 : re < 0
    · rw [if_pos (.inl h0), decide_eq_true h0]; rfl
    · by_cases h1 : 9 < re
      · rw [if_pos (.inr h1), decide_eq_true h1, Bool.or_true]; rfl
      · rw [if_neg (by omega), decide_eq_false h0, decide_eq_false h1]; rfl)
  clear hbig
  go_upto_region 1 with (fail)
  go_cut [28] from 23 to 28 (fun v wc => W = wc ∧ v = .bool big)
  case first =>
    by_cases h0 : re < 0
    · have u0 : decide (re < 0) = true := decide_eq_true h0
      have e : Hid (big = true) := Lib.hid (by rw [HBIG.out, u0]; rfl)
      clear h0
      go_wp2
      go_meet
      exact ⟨rfl, by rw [e.out]⟩
    · have u0 : decide (re < 0) = false := decide_eq_false h0
      have e : Hid (big = decide (9 < re)) := Lib.hid (by rw [HBIG.out, u0]; rfl)
      clear h0
      go_wp2
      go_meet
      exact ⟨rfl, by rw [e.out]⟩
  case rest =>
  obtain ⟨rfl, rfl⟩ := hcut
  clear HBIG HR
  have HR := HRB
  go_upto_if 28 with (fail)
  go_cut [1] (fun v wc => W = wc ∧ v = .int .i64 (R : Int))
  case first =>
    cases big with
    | true =>
      have e : Hid ((R : Int) = 2) := Lib.hid HRB.out
      clear HRB HR
      go_wp2
      go_meet
      exact ⟨rfl, by rw [e.out]⟩
    | false =>
      have e : Hid ((R : Int) = re) := Lib.hid HRB.out
      clear HRB HR
      go_wp2
      go_meet
      exact ⟨rfl, by rw [e.out]⟩
  case rest =>
    obtain ⟨rfl, rfl⟩ := hcut
    clear HR HRB
    go_upto_region 3 with (fail)
    go_cut [0] (fun v wc => W = wc ∧ v = .slice sa P sc)
    case first =>
      by_cases h20 : n ≤ 20
      · have e : P = n := by have := HPP.out; omega
        have hz1 : (n : Int) ≤ (sc : Int) := by have := HNC.out; omega
        have hz2 : n ≤ sc := HNC.out.1
        have hz3 : (n : Int) ≤ 20 := by omega
        have E := Lib.hid e
        clear e h20
        go_wp2
        all_goals
          go_meet
          exact ⟨rfl, by rw [E.out]⟩
      · have e : P = 20 := by have := HPP.out; omega
        have hz1 : (20 : Int) ≤ (sc : Int) := by have := HNC.out; omega
        have hz2 : 20 ≤ sc := by have := HNC.out; omega
        have hz3 : ¬ (n : Int) ≤ 20 := by omega
        have E := Lib.hid e
        clear e h20
        go_wp2
        all_goals
          go_meet
          exact ⟨rfl, by rw [E.out]⟩
    case rest =>
      obtain ⟨rfl, rfl⟩ := hcut
      have hp50 : P ≤ 50 := by have := HP20.out; omega
      have hr50 : R ≤ 50 := by have := HR9.out; omega
      have HEN := Lib.hid (En.new P R hp50 hr50)
      have HFIN := Lib.hid (fin_new P R hp50 hr50)
      have HOPN := Lib.hid (opn_new P R hp50)
      have HBGN := Lib.hid (bgn_new P R hp50 hr50)
      clear hp50 hr50
      go_wp2_with fail
      refine (new_c P R 1 3 W).mono ?_
      intro e w2 h2
      obtain ⟨b, g, vs, rfl, hbd, hnv, hb1, hg1, hbe⟩ := h2
      have HBD := Lib.hid hbd
      have HLO : Hid (Lo W.heap.size b g vs) := Lib.hid ⟨hb1, hg1, fun v hv q hq => by rw [hnv v hv] at hq; cases hq⟩
      have HBE := Lib.hid hbe
      clear hbd hnv hb1 hg1 hbe
      generalize At.new (P : Int) (R : Int) 1 3 = S0 at HEN HFIN HOPN HBGN HBD
      have hsz : IntKind.i64.wrap ((P : Int) + (R : Int)) = (P : Int) + (R : Int) := by have := HP20.out; have := HR9.out; rw [IntKind.wrap_i64]; omega
      have hsz2 : wrap64 ((P : Int) + (R : Int)) = (P : Int) + (R : Int) := by have := HP20.out; have := HR9.out; unfold wrap64; omega
      go_upto_region 5 with (fail)
      go_cut [53] from 38 to 53 (fun v wc => Hid (Fr w2 wc (fun _ => False)) ∧ v = .bool false)
      case first =>
        by_cases h0 : P + R = 0
        · have u0 : decide ((0 : Int) < (P : Int) + (R : Int)) = false := decide_eq_false (by omega)
          have u0n : decide (0 < P + R) = false := decide_eq_false (by omega)
          clear h0
          go_wp2
          go_meet
          exact ⟨Lib.hid (Fr.refl _ _), rfl⟩
        · have u0 : decide ((0 : Int) < (P : Int) + (R : Int)) = true := decide_eq_true (by omega)
          have u0n : decide (0 < P + R) = true := decide_eq_true (by omega)
          have hfc := fin_c b g vs S0 HEN.out.ok.len HEN.out.ok.maps w2 HBD.out
          rw [HFIN.out] at hfc
          have HFC := Lib.hid hfc
          clear h0 hfc
          by_cases hr0 : R = 0
          · have u1 : decide ((0 : Int) < (R : Int)) = false := decide_eq_false (by omega)
            have u1n : decide (0 < R) = false := decide_eq_false (by omega)
            have HFC2 := HFC.out
            rw [decide_eq_true hr0] at HFC2
            replace HFC2 := Lib.hid HFC2
            clear HFC hr0
            go_wp2_with fail
            refine HFC2.out.mono ?_
            rintro _ w3 ⟨rfl, hf⟩
            have HF := Lib.hid hf
            clear hf
            go_wp2
            go_meet
            exact ⟨HF, rfl⟩
          · have u1 : decide ((0 : Int) < (R : Int)) = true := decide_eq_true (by omega)
            have u1n : decide (0 < R) = true := decide_eq_true (by omega)
            have HFC2 := HFC.out
            rw [decide_eq_false hr0] at HFC2
            replace HFC2 := Lib.hid HFC2
            clear HFC hr0
            go_wp2_with fail
            refine HFC2.out.mono ?_
            rintro _ w3 ⟨rfl, hf⟩
            have HF := Lib.hid hf
            clear hf
            go_wp2
            go_meet
            exact ⟨HF, rfl⟩
      case rest =>
        obtain ⟨hf, rfl⟩ := hcut
        rename World => w3
        have HBD3 := Lib.hid (HBD.out.frNone hf.out)
        have HB3 := Lib.hid (HBE.out.trans (frNone_below hf.out HBE.out.size))
        have HT : Hid (P + R ≤ 29) := Lib.hid (by have := HP20.out; have := HR9.out; omega)
        obtain ⟨T, hT⟩ : ∃ T, T = P + R := ⟨_, rfl⟩
        have HTE := Lib.hid hT
        have E1 : Hid ((P : Int) + (R : Int) = (T : Int)) := Lib.hid (by omega)
        have hmk := fun w => run_make1 (P := Try.prog) 23 3 (.int .i64 0) 8 Try.underlying23 (by kernel_rfl) rfl T (by have := HT.out; omega) (by have := HT.out; omega) w
        rw [← E1.out] at hmk
        clear hf HBD HBE HFIN hT
        have M0 := Lib.hid (Blk.make w3 T (.int .i64 0) 3)
        have M1 : Hid (Fr w3 (w3.alloc (.cells (rep T (.int .i64 0)) 3)) (fun _ => False)) := Lib.hid ((Fr.refl w3 _).alloc _)
        have M2 := Lib.hid (Off.new (w' := w3.alloc (.cells (rep T (.int .i64 0)) 3)) HBD3.out (by simp))
        go_upto_region 8 with (fail)
        generalize w3.alloc (.cells (rep T (.int .i64 0)) 3) = w4 at M0 M1 M2 ⊢
        have K0 : Hid (Tb W w4 b g vs S0 w3.heap.size (List.replicate T 0)) := Lib.hid ⟨HBD3.out.frNone M1.out, HLO.out, HB3.out.trans (frNone_below M1.out HB3.out.size), by
          have := M0.out
          rwa [show List.replicate T (Value.int .i64 0) = ints (List.replicate T 0) by unfold ints; rw [List.map_replicate]] at this, M2.out, HB3.out.size⟩
        have HBGN' : Hid (bgn S0 = List.replicate T 0) := Lib.hid (by rw [HBGN.out, HTE.out])
        rw [← HBGN'.out] at K0
        clear M0 M1 M2 HBD3 HB3 HLO HBGN HBGN' hmk
        generalize w3.heap.size = q at K0 ⊢
        obtain ⟨TT, hTT⟩ : ∃ TT : Nat, TT = 40 + 2 * f + 2 * T := ⟨_, rfl⟩
        have HTT := Lib.hid hTT
        have HTS : Hid (T ≤ 29 ∧ f ≤ 1048576 ∧ TT ≤ 3000000 ∧ T = P + R ∧ P ≤ 20 ∧ P ≤ n) := Lib.hid (by have := HT.out; have := HFB.out; have := HTE.out; have := HP20.out; omega)
        have e1 : wrap64 (2 * (f : Int)) = 2 * (f : Int) := by have := HFB.out; unfold wrap64; omega
        have e2 : IntKind.i64.wrap (2 * (f : Int)) = 2 * (f : Int) := by have := HFB.out; rw [IntKind.wrap_i64]; omega
        have e3 : wrap64 (40 + 2 * (f : Int)) = 40 + 2 * (f : Int) := by have := HFB.out; unfold wrap64; omega
        have e4 : IntKind.i64.wrap (40 + 2 * (f : Int)) = 40 + 2 * (f : Int) := by have := HFB.out; rw [IntKind.wrap_i64]; omega
        have e5 : wrap64 (2 * (T : Int)) = 2 * (T : Int) := by have := HTS.out; unfold wrap64; omega
        have e6 : IntKind.i64.wrap (2 * (T : Int)) = 2 * (T : Int) := by have := HTS.out; rw [IntKind.wrap_i64]; omega
        have e7 : wrap64 (40 + 2 * (f : Int) + 2 * (T : Int)) = (TT : Int) := by have := HTS.out; have := HTT.out; unfold wrap64; omega
        have e8 : IntKind.i64.wrap (40 + 2 * (f : Int) + 2 * (T : Int)) = (TT : Int) := by have := HTS.out; have := HTT.out; rw [IntKind.wrap_i64]; omega
        have e9 : 40 + 2 * (f : Int) + 2 * (T : Int) = (TT : Int) := by have := HTT.out; omega
        have e10 : wrap64 (TT : Int) = (TT : Int) := by have := HTS.out; unfold wrap64; omega
        have e11 : IntKind.i64.wrap (TT : Int) = (TT : Int) := by have := HTS.out; rw [IntKind.wrap_i64]; omega
        have E2 : Hid (wrap64 ((P : Int) + (R : Int)) = (T : Int) ∧ IntKind.i64.wrap ((P : Int) + (R : Int)) = (T : Int)) := Lib.hid ⟨by rw [hsz2, E1.out], by rw [hsz, E1.out]⟩
        have HEF := Lib.hid (And.intro e1 (And.intro e2 (And.intro e3 (And.intro e4 (And.intro e5 (And.intro e6 (And.intro e7 (And.intro e8 (And.intro e9 (And.intro e10 e11))))))))))
        clear hTT e1 e2 e3 e4 e5 e6 e7 e8 e9 e10 e11 hsz hsz2
        go_wp2_with fail
        go_loopg [9, 10] TT (fun gg mv nv wr => ∃ (t i wn mp : Nat) (vs : List Value) (S : At.Bd), mv = .int .i64 (mp : Int) ∧ nv = .int .i64 (t : Int) ∧ t + gg = TT ∧ i ≤ t ∧ (wn = T ∨ t ≤ wn + min t f) ∧ wn ≤ T ∧ mp ≤ t ∧ Hid ((mp : Int) + S.opn = P) ∧ Hid (En S i P R wn) ∧ Hid (Tb W wr b g vs S q (bgn S)))
        case atStart => exact ⟨0, 0, 0, 0, vs, S0, rfl, rfl, by omega, Nat.le_refl _, .inr (Nat.zero_le _), Nat.zero_le _, Nat.le_refl _, Lib.hid (by rw [HOPN.out]; simp), HEN, K0⟩
        case round =>
          obtain ⟨t, i, wn, mp, vs, S, rfl, rfl, hgg, hit, hwt, hwT, hmt, HM, EN, K⟩ := hrel
          have HK : Hid (t + gk = TT ∧ i ≤ t ∧ (wn = T ∨ t ≤ wn + min t f) ∧ wn ≤ T ∧ mp ≤ t) := Lib.hid ⟨hgg, hit, hwt, hwT, hmt⟩
          clear hgg hit hwt hwT hmt K0 HEN HOPN
          by_cases hlt : t < TT
          · have t1 : decide ((t : Int) < (TT : Int)) = true := decide_eq_true (by omega)
            have t1n : decide (t < TT) = true := decide_eq_true hlt
            have HLT := Lib.hid hlt
            obtain ⟨e1, e2, e3, e4, e5, e6, e7, e8, e9, e10, e11⟩ := HEF.out
            clear hlt
            have m1 : wrap64 ((t : Int).tmod 3) = (t : Int).tmod 3 := by have := HK.out; have := HTS.out; unfold wrap64; rw [Int.tmod_eq_emod_of_nonneg (by omega)]; omega
            have m2 : IntKind.i64.wrap ((t : Int).tmod 3) = (t : Int).tmod 3 := by have := HK.out; have := HTS.out; rw [IntKind.wrap_i64]; rw [Int.tmod_eq_emod_of_nonneg (by omega)]; omega
            go_wp2_with fail
            clear e1 e2 e3 e4 e5 e6 e7 e8 e9 e10 e11 m1 m2
            generalize (t : Int) % 3 = wk
            refine (ready_any b g vs S i EN.out.ok (by have := HK.out; have := HTS.out; omega) wk (t : Int) wr K.out.bd).mono ?_
            intro ee w6 h6
            obtain ⟨v6, rfl, ho, hbe⟩ := h6
            have K6 := Lib.hid (K.out.grow hbe (Nat.le_refl _))
            have HRM := Lib.hid (fun (x : Int) (h : x ∈ At.ready S wk (t : Int)) => ready_mem h)
            have HRN := Lib.hid (fun (h : At.ready S wk (t : Int) = []) => EN.out.none h)
            have hrl := ready_len S wk (t : Int)
            rw [EN.out.len] at hrl
            generalize At.ready S wk (t : Int) = lst at ho HRM HRN hrl
            obtain ⟨A6, c6, rfl⟩ := own_slice ho
            have HO := Lib.hid ho
            obtain ⟨ll, hll⟩ : ∃ ll, ll = lst.length := ⟨_, rfl⟩
            have HLL : Hid (lst.length = ll ∧ ll ≤ 29) := Lib.hid (by have := HTS.out; omega)
            rw [← hll] at HO ⊢
            clear ho hbe K hrl hll
            generalize wr.heap.size = B6 at HO
            have HIL : Hid (∀ j, j < ll → ∃ c : Nat, lst[j]? = some (c : Int) ∧ (∃ tk, S.tasks[c]? = some tk ∧ At.may S c tk = true) ∧ ∃ g6, A6 = some ⟨g6, 0, none⟩ ∧ g6 < w6.heap.size ∧ w6.cell? ⟨g6, j, none⟩ = some (.int .i64 (c : Int))) := Lib.hid fun j hj => by
              have hjl : j < lst.length := by rw [HLL.out.1]; exact hj
              obtain ⟨c, tk, hc, htk, hmay⟩ := HRM.out (lst[j]'hjl) (List.getElem_mem _)
              have hg : lst[j]? = some (c : Int) := by rw [List.getElem?_eq_getElem hjl, hc]
              obtain ⟨g6, cp6, hv6, hg6, hgl, hC⟩ := own_some HO.out (by omega)
              cases hv6
              exact ⟨c, hg, ⟨tk, htk, hmay⟩, g6, rfl, hgl, (hC.get (j := j) (by unfold ints; rw [List.getElem?_map, hg]; rfl)).1⟩
            clear HO
            go_wp2_with fail
            go_loopg [12, 14] ll (fun gg tv jv wr => ∃ (j : Nat) (us : List Value) (ts : List (Int × List Spot)), jv = .int .i64 (j : Int) ∧ j + gg = ll ∧ Hid (ts.map (·.1) = lst.take j ∧ ts.length = j) ∧ Hid (InAt wr w6.heap.size tv us ts) ∧ Hid (Below w6.heap.size w6 wr))
            case atStart => exact ⟨0, [], [], rfl, by omega, Lib.hid ⟨rfl, rfl⟩, Lib.hid (InAt.nil _ _), Lib.hid (Below.refl _ _)⟩
            case round =>
              obtain ⟨j, us, ts, rfl, hjj, HTJ, HIN, HB⟩ := hrel
              have HJ := Lib.hid hjj
              by_cases hjl : j < ll
              · have t2 : decide ((j : Int) < (ll : Int)) = true := decide_eq_true (by omega)
                have t2n : decide (j < ll) = true := decide_eq_true hjl
                obtain ⟨c, hc, hcT, g6, rfl, hg6, hcell⟩ := HIL.out j hjl
                have HJL := Lib.hid hjl
                have HC := Lib.hid hc
                have HCO : Hid (c < P ∨ S.opn = 0) := Lib.hid (by
                  obtain ⟨tk, _, hm⟩ := hcT
                  have := (may_iff.1 hm).2
                  rwa [EN.out.maps] at this)
                have ia : ((j : Int)).toNat = j := by omega
                have ip : (0 : Int) ≤ (j : Int) := by omega
                have iz : (j : Int) < (ll : Int) := by omega
                have k0 : wr.cell? ⟨g6, j, none⟩ = some (.int .i64 (c : Int)) := (HB.out.cell (p := ⟨g6, j, none⟩) hg6).trans hcell
                have KC : Hid (∀ X, Below wr.heap.size wr X → X.cell? ⟨g6, j, none⟩ = some (.int .i64 (c : Int))) := Lib.hid fun X h => (h.cell (p := ⟨g6, j, none⟩) (Nat.lt_of_lt_of_le hg6 HB.out.size)).trans k0
                have hgw : g6 < wr.heap.size := Nat.lt_of_lt_of_le hg6 HB.out.size
                have HGW := Lib.hid hgw
                clear hjl hjj hc hcT hcell hg6 hgw
                have hN0 : Hid (Blk (wr.alloc (.cells #[.int .i64 (c : Int), .slice none 0 0] 31)) wr.heap.size [.int .i64 (c : Int), .slice none 0 0] 31) := Lib.hid (Blk.new wr [.int .i64 (c : Int), .slice none 0 0] 31)
                have hN1 : Hid (Below wr.heap.size wr (wr.alloc (.cells #[.int .i64 (c : Int), .slice none 0 0] 31))) := Lib.hid ((Below.refl wr.heap.size wr).alloc (Nat.le_refl _) _)
                go_upto_region 19 with (fail)
                generalize wr.alloc (.cells #[.int .i64 (c : Int), .slice none 0 0] 31) = w5 at hN0 hN1 ⊢
                have k1 : w5.cell? ⟨g6, j, none⟩ = some (.int .i64 (c : Int)) := KC.out _ hN1.out
                have HJB : Hid (j ≤ 29) := Lib.hid (by have := HJL.out; have := HLL.out; omega)
                have HTJ2 : Hid (∀ h, (ts ++ [((c : Int), h)]).map (·.1) = lst.take (j + 1) ∧ (ts ++ [((c : Int), h)]).length = j + 1) := Lib.hid fun h => ⟨by rw [List.map_append, HTJ.out.1, List.take_add_one, HC.out]; rfl, by rw [List.length_append, HTJ.out.2]; rfl⟩
                clear k0
                obtain ⟨bb, hbb⟩ : ∃ bb, bb = decide (c < P) := ⟨_, rfl⟩
                have s1 : decide ((c : Int) < (P : Int)) = bb := by rw [hbb]; exact decide_eq_decide.2 (by omega)
                have s1n : decide (c < P) = bb := hbb.symm
                have HBB := Lib.hid hbb
                clear hbb
                go_upto_if 94 with (fail)
                clear s1 s1n
                go_cut [15] (fun v wc => v = .pointer (some ⟨wr.heap.size, 0, none⟩) ∧ ∃ (u : Value) (hs : List Spot), Hid (Below wr.heap.size wr wc) ∧ Hid (Blk wc wr.heap.size [.int .i64 (c : Int), u] 31) ∧ Hid (wc.ownsRow w6.heap.size 32 1 u hs.length (hs.map spotC) ∧ hs.length ≤ 1))
                case first =>
                  --keep
                  cases bb with
                  | true =>
                    as_aux_lemma =>
                      have hcP : c < P := of_decide_eq_true HBB.out.symm
                      clear HBB
                      obtain ⟨⟨px, py⟩, hp⟩ : ∃ p, ps[c]? = some p := ⟨ps[c]'(by have := HPN.out; have := HTS.out; omega), List.getElem?_eq_getElem _⟩
                      obtain ⟨b0, off0, rfl, hb0, _, hpc⟩ := HPE.out c _ hp
                      have hc0 := hpc 0 _ rfl
                      have hc1 := hpc 1 _ rfl
                      have hf1 := fi_eq
                      have ca : ((c : Int)).toNat = c := by omega
                      have cp : (0 : Int) ≤ (c : Int) := by omega
                      have cz : (c : Int) < (P : Int) := by omega
                      have HWX : Hid (∀ X, Below wr.heap.size w5 X → Below W.heap.size W X) := Lib.hid fun X h => K6.out.below.trans ((HB.out.trans ((hN1.out.mono HB.out.size).trans (h.mono HB.out.size))).mono K6.out.below.size)
                      have p0 : ∀ X, Below wr.heap.size w5 X → X.cell? ⟨b0, off0 + c * 2, none⟩ = some (.int .i64 px) := fun X h => ((HWX.out X h).cell (p := ⟨b0, off0 + c * 2, none⟩) hb0).trans hc0
                      have p1 : ∀ X, Below wr.heap.size w5 X → X.cell? ⟨b0, off0 + c * 2 + 1, none⟩ = some (.int .i64 py) := fun X h => ((HWX.out X h).cell (p := ⟨b0, off0 + c * 2 + 1, none⟩) hb0).trans hc1
                      have k2 : ∀ X, Below wr.heap.size w5 X → X.cell? ⟨g6, j, none⟩ = some (.int .i64 (c : Int)) := fun X h => (h.cell (p := ⟨g6, j, none⟩) HGW.out).trans k1
                      have S0' : Hid (Below wr.heap.size w5 w5.drew) := Lib.hid (below_drewN (Below.refl wr.heap.size w5) 1)
                      have h5s : wr.heap.size ≤ w5.heap.size := hN1.out.size
                      have H5S := Lib.hid h5s
                      have KA : Hid (∀ X o, Below wr.heap.size w5 X → Below wr.heap.size w5 (X.alloc o)) := Lib.hid fun X o h => h.alloc (Nat.le_trans H5S.out h.size) o
                      have y0 : ∀ o, (w5.alloc o).drew.cell? ⟨wr.heap.size, 1, none⟩ = some (.slice none 0 0) := fun o => (hN0.out.alloc o).cell 1
                      have y1 : ∀ o, (w5.alloc o).drew.frozen? ⟨wr.heap.size, 1, none⟩ = false := fun o => (hN0.out.alloc o).frozen 1
                      have y2 : ∀ o, (w5.alloc o).cell? ⟨wr.heap.size, 1, none⟩ = some (.slice none 0 0) := fun o => (hN0.out.alloc o).cell 1
                      have y3 : ∀ o, (w5.alloc o).frozen? ⟨wr.heap.size, 1, none⟩ = false := fun o => (hN0.out.alloc o).frozen 1
                      have KD : Hid (∀ o, Below wr.heap.size w5 (w5.alloc o).drew) := Lib.hid fun o => ((Below.refl wr.heap.size w5).alloc H5S.out o).drew
                      have KS : Hid (∀ X i v, Below wr.heap.size w5 X → Below wr.heap.size w5 (X.setCell ⟨wr.heap.size, i, none⟩ v)) := Lib.hid fun X i v h => h.setCell (Nat.le_refl _) v
                      have KF : Hid (∀ o i v, Below wr.heap.size w5 ((w5.alloc o).setCell ⟨wr.heap.size, i, none⟩ v).drew) := Lib.hid fun o i v => (((Below.refl wr.heap.size w5).alloc H5S.out o).setCell (Nat.le_refl _) v).drew
                      clear hp hpc hc0 hc1 hcP h5s k1 hb0
                      go_upto_region 20 with (fail)
                      go_region_held3 (fun X => Below wr.heap.size w5 X)
                        (with_reducible first | exact S0'.out | assumption | exact KD.out _ | exact KF.out _ _ _ | exact KA.out _ _ (by assumption) | exact KS.out _ _ _ (by assumption))
                        (fail)
                      all_goals
                        go_wp2_with fail
                        go_meet
                        refine ⟨rfl, .slice (some ⟨w5.heap.size, 0, none⟩) 1 1, [(fw px, fw py)], Lib.hid (hN1.out.trans (KF.out _ _ _)), Lib.hid ((hN0.out.alloc _).set 1 _), Lib.hid ⟨?_, Nat.le_refl _⟩⟩
                        exact own_of_blk (n := 1) ((Blk.new w5 [.complex .f64 (fw px) (fw py)] 32).other ⟨wr.heap.size, 1, none⟩ _ (by have := hN0.out.lt; exact Nat.ne_of_gt this)) w6.heap.size (Nat.le_trans HB.out.size H5S.out) rfl (by decide)
                  | false =>
                    as_aux_lemma =>
                      have hcP : ¬ c < P := of_decide_eq_false HBB.out.symm
                      clear HBB
                      have hmp : mp = P := by
                        rcases HCO.out with h | h
                        · exact absurd h hcP
                        · have := HM.out; omega
                      have s2 : decide ((mp : Int) < (P : Int)) = false := decide_eq_false (by omega)
                      have s2n : decide (mp < P) = false := decide_eq_false (by omega)
                      clear hcP hmp
                      go_wp2_with fail
                      go_meet
                      exact ⟨rfl, .slice none 0 0, [], hN1, hN0, Lib.hid ⟨World.ownsRow_nil _ _ _ _, Nat.zero_le _⟩⟩
                case rest =>
                as_aux_lemma =>
                  obtain ⟨rfl, u, hs, HW1, HW2, HW3⟩ := hcut
                  rename World => w8
                  obtain ⟨qu, cu, rfl⟩ := own_slice HW3.out.1
                  have z0 : ∀ jj, w8.cell? ⟨wr.heap.size, jj, none⟩ = [Value.int .i64 (c : Int), .slice qu hs.length cu][jj]? := fun jj => HW2.out.cell jj
                  have HIN2 := Lib.hid (HIN.out.below HW1.out (Nat.le_refl _))
                  have HRW := Lib.hid (show w8.ownsRow w6.heap.size 31 2 _ j (List.zipWith taskRow us ts).flatten from HTJ.out.2 ▸ HIN2.out.row)
                  have HB8 := Lib.hid (HB.out.trans (HW1.out.mono HB.out.size))
                  have kw : j + 1 < 32 := by have := HJB.out; omega
                  clear k1 hN0 hN1 HIN
                  go_wp2_with (at_builtin
                               refine Cov9.out ?_)
                  refine Cov9.mk ?_
                  refine wpList_appw rfl _ _ 27 rfl w6.heap.size 31 _ 2 32 Try.underlying27 ptask_info rfl (by decide) _ j _ rfl HRW.out [.int .i64 (c : Int), .slice qu hs.length cu] _ 1 1 rfl rfl rfl (by have := HJB.out; unfold maxLen; omega) (by have := HJB.out; omega) HB8.out.size ?_
                  intro v' w9 hO hG
                  have HB9 := Lib.hid (below_row HRW.out hG.out HB8.out (Nat.le_refl _) HB8.out.size)
                  have HIN3 := Lib.hid (HIN2.out.push (t := ((c : Int), hs)) HW3.out.1 (Nat.lt_of_le_of_lt HW3.out.2 (by decide)) (by rw [HTJ.out.2]; exact hO.out) hG.out)
                  go_wp2_with fail
                  clear kw
                  go_roundg (ll - (j + 1))
                  case measure => have := HJ.out; have := HJL.out; omega
                  case rel => exact ⟨j + 1, us ++ [.slice qu hs.length cu], ts ++ [((c : Int), hs)], by first | rfl | go_num, by have := HJ.out; have := HJL.out; omega, Lib.hid (HTJ2.out hs), HIN3, HB9⟩
              · have t2 : decide ((j : Int) < (ll : Int)) = false := decide_eq_false (by omega)
                have t2n : decide (j < ll) = false := decide_eq_false hjl
                obtain rfl : j = ll := by omega
                have htk : ts.map (·.1) = lst := by rw [HTJ.out.1]; exact List.take_of_length_le (by have := HLL.out; omega)
                have HTK := Lib.hid htk
                obtain ⟨pi, ci, hvi, hta⟩ := HIN.out.tasks (by have := HTJ.out; have := HLL.out; omega)
                have htl := HTJ.out.2
                rw [htl] at hvi hta
                have HTL := Lib.hid htl
                have HTA := Lib.hid hta
                have K9 := Lib.hid (K6.out.grow HB.out (Nat.le_refl _))
                subst hvi
                clear hta htk htl HIN HTJ HJ hjl hjj K6
                have hpk := fun w h => pick_c pi j ci ts (fw wk, 0) w h
                have hpl : (farsS (fw wk, 0) ts).length = j := by unfold farsS; rw [List.length_map]; exact HTL.out
                have hf1 := fi_eq
                by_cases h0 : j = 0
                · as_aux_lemma =>
                    have hne : pickP (farsS (fw wk, 0) ts) = -1 := by rw [List.eq_nil_of_length_eq_zero (hpl.trans h0)]; rfl
                    have HPK : Hid (∀ w, TasksAt w pi j ci ts → Calls Try.prog 7 #[.slice pi j ci, .complex .f64 (fw wk) 0] w fun e w' => e = .returned (.int .i64 (-1)) ∧ Below w.heap.size w w') := Lib.hid fun w h => by
                      have := hpk w h
                      rwa [hne] at this
                    have hw0 : wn = T := by
                      have h1 := HRN.out (List.eq_nil_of_length_eq_zero (by have := HLL.out.1; omega))
                      have h2 := won_all.2 h1
                      rw [EN.out.won, EN.out.len] at h2
                      have := HTS.out
                      omega
                    have HW0 := Lib.hid hw0
                    have n0 : ((j : Int) == 0) = true := by rw [h0]; rfl
                    have n0n : (j == 0) = true := by rw [h0]; rfl
                    have kw : t + 1 < 3000002 := by have := HLT.out; have := HTS.out; omega
                    clear hpk hpl hne hw0 h0
                    go_wp2_with fail
                    refine (HPK.out _ HTA.out).mono ?_
                    rintro _ w10 ⟨rfl, hb10⟩
                    have K10 := Lib.hid (K9.out.grow hb10 (Nat.le_refl _))
                    clear hb10 HPK
                    go_wp2_with fail
                    clear kw
                    go_roundg (TT - (t + 1))
                    case measure => have := HK.out; have := HLT.out; omega
                    case rel => exact ⟨t + 1, i, wn, mp, vs, S, rfl, by first | rfl | go_num, by have := HLT.out; omega, by have := HK.out; omega, .inl HW0.out, by have := HK.out; omega, by have := HK.out; omega, HM, EN, K10⟩
                · obtain ⟨kk, hkl, hke⟩ := pick_lt (ds := farsS (fw wk, 0) ts) (by omega)
                  rw [hpl] at hkl
                  have HPK : Hid (∀ w, TasksAt w pi j ci ts → Calls Try.prog 7 #[.slice pi j ci, .complex .f64 (fw wk) 0] w fun e w' => e = .returned (.int .i64 (kk : Int)) ∧ Below w.heap.size w w') := Lib.hid fun w h => by
                    have := hpk w h
                    rwa [hke] at this
                  obtain ⟨c, hc, ⟨tk, htk, hmay⟩, _⟩ := HIL.out kk hkl
                  obtain ⟨⟨tid, ths⟩, htt⟩ : ∃ y, ts[kk]? = some y := ⟨ts[kk]'(by rw [HTL.out]; exact hkl), List.getElem?_eq_getElem _⟩
                  have htid : tid = (c : Int) := by
                    have h1 : (ts.map (·.1))[kk]? = some tid := by rw [List.getElem?_map, htt]; rfl
                    rw [HTK.out, hc] at h1
                    exact (Option.some.inj h1).symm
                  subst htid
                  have n0 : ((j : Int) == 0) = false := beq_eq_false_iff_ne.2 (by omega)
                  have n0n : (j == 0) = false := beq_eq_false_iff_ne.2 h0
                  have nk : decide ((kk : Int) < 0) = false := decide_eq_false (by omega)
                  have ka : ((kk : Int)).toNat = kk := by omega
                  have kp : (0 : Int) ≤ (kk : Int) := by omega
                  have kz : (kk : Int) < (j : Int) := by omega
                  have HTT2 := Lib.hid htt
                  have HTASK := Lib.hid htk
                  have HMAY := Lib.hid hmay
                  clear hpk hpl hke hkl h0 htt htk hmay hc HIL HRM HRN HTK
                  go_wp2_with fail
                  refine (HPK.out _ HTA.out).mono ?_
                  rintro _ w10 ⟨rfl, hb10⟩
                  have K10 := Lib.hid (K9.out.grow hb10 (Nat.le_refl _))
                  obtain ⟨g12, q12, m12, k12, rfl, hg12, hc12, _, _⟩ := (HTA.out.below hb10 (Nat.le_refl _)).at' kk _ HTT2.out
                  dsimp only at hc12
                  clear hb10 HPK HTA HTT2 K9 hg12
                  have hcT : c < T := by
                    have h1 := (List.getElem?_eq_some_iff.1 HTASK.out).1
                    rw [EN.out.len] at h1
                    have := HTS.out
                    omega
                  have HCT := Lib.hid hcT
                  have htl : tk.tries.length ≤ i := (EN.out.ok.tk tk (List.mem_of_getElem? HTASK.out)).len
                  have hs1 : (At.start S (c : Int) wk (t : Int)).1 = (tk.tries.length : Int) + 1 := congrArg Prod.fst (start_is wk EN.out HTASK.out HMAY.out (t : Int))
                  have hF := EN.out.ended wk HTASK.out HMAY.out (t : Int) 2 (.inr rfl)
                  have hQ := EN.out.ended wk HTASK.out HMAY.out (t : Int) 1 (.inl rfl)
                  have hF2 := ended_more wk EN.out HTASK.out HMAY.out (t : Int) 2 (.inr rfl)
                  have hQ2 := ended_more wk EN.out HTASK.out HMAY.out (t : Int) 1 (.inl rfl)
                  have hb1 := start_bok EN.out.ok (c : Int) wk (t : Int)
                  have hst := start_c b g vs S (c : Int) wk (t : Int) w10 K10.out.bd i (EN.out.ok.use (by have := HK.out; have := HTS.out; omega)) (by have := HK.out; have := HTS.out; omega)
                  have hbg := bgn_at HTASK.out
                  rw [if_neg (by decide)] at hF
                  rw [if_neg (by rintro ⟨e, _⟩; cases e)] at hF2
                  rw [if_pos rfl] at hQ
                  have hqo : (if (1 : Int) = 1 ∧ c < S.maps then S.opn - 1 else S.opn) = if c < P then S.opn - 1 else S.opn := by
                    rw [EN.out.maps]
                    simp
                  rw [hqo] at hQ2
                  rw [hs1] at hst
                  generalize (At.start S (c : Int) wk (t : Int)).2 = S1 at hF hQ hF2 hQ2 hb1 hst
                  obtain ⟨nn, hnn⟩ : ∃ nn : Nat, nn = tk.tries.length + 1 := ⟨_, rfl⟩
                  have hnc : (tk.tries.length : Int) + 1 = (nn : Int) := by omega
                  rw [hnc] at hF hQ hF2 hQ2 hst
                  obtain ⟨mm, hmm⟩ : ∃ mm : Nat, mm = tk.tries.length := ⟨_, rfl⟩
                  rw [← hmm] at hbg hnn
                  have hmn : mm + 1 = nn := hnn.symm
                  have HMN : Hid (mm + 1 = nn ∧ nn ≤ 3000001) := Lib.hid ⟨hmn, by have := HK.out; have := HTS.out; omega⟩
                  have HF := Lib.hid hF
                  have HQ := Lib.hid hQ
                  have HF2 := Lib.hid hF2
                  have HQ2 := Lib.hid hQ2
                  have HB1 := Lib.hid hb1
                  have HST := Lib.hid hst
                  have HBG := Lib.hid hbg
                  have HIB : Hid (i ≤ t ∧ t ≤ 3000000) := Lib.hid (by have := HK.out; have := HTS.out; omega)
                  clear hF hQ hF2 hQ2 hb1 hst hs1 htl hnn hnc hmm hmn hbg hqo hcT
                  go_wp2_with fail
                  refine HST.out.mono ?_
                  rintro _ w11 ⟨rfl, h11⟩
                  obtain ⟨vs11, K11⟩ := K10.out.step h11
                  have K11 := Lib.hid K11
                  clear h11 HST hc12 K10 ka kp kz nk n0 n0n
                  have ca : ((c : Int)).toNat = c := by omega
                  have cp : (0 : Int) ≤ (c : Int) := by omega
                  have cz : (c : Int) < (T : Int) := by have := HCT.out; omega
                  have d0 : w11.cell? ⟨q, c, none⟩ = some (.int .i64 (mm : Int)) := by
                    rw [K11.out.bg.cell c]
                    unfold ints
                    rw [List.getElem?_map, HBG.out]
                    rfl
                  have d1 : w11.frozen? ⟨q, c, none⟩ = false := K11.out.bg.frozen c
                  have g1 : wrap64 ((mm : Int) + 1) = (nn : Int) := by have := HMN.out; unfold wrap64; omega
                  have g2 : IntKind.i64.wrap ((mm : Int) + 1) = (nn : Int) := by have := HMN.out; rw [IntKind.wrap_i64]; omega
                  have g3 : (mm : Int) + 1 = (nn : Int) := by have := HMN.out; omega
                  have g4 : wrap64 (nn : Int) = (nn : Int) := by have := HMN.out; unfold wrap64; omega
                  have g5 : IntKind.i64.wrap (nn : Int) = (nn : Int) := by have := HMN.out; rw [IntKind.wrap_i64]; omega
                  go_upto_region 31 with (fail)
                  have K12 := Lib.hid (K11.out.put c (nn : Int))
                  generalize w11.setCell ⟨q, c, none⟩ (.int .i64 (nn : Int)) = w12 at K12 ⊢
                  have d2 : w12.cell? ⟨q, c, none⟩ = some (.int .i64 (nn : Int)) := by
                    rw [K12.out.bg.cell c]
                    unfold ints
                    rw [List.getElem?_map, List.getElem?_set_self (List.getElem?_eq_some_iff.1 HBG.out).1]
                    rfl
                  clear d0 d1 g1 g2 g3 g4 g5 K11
                  have b0 : ((nn : Int) != (nn : Int)) = false := by simp
                  go_upto_region 33 with (fail)
                  clear d2 b0
                  go_cut [170] (fun v wc => w12 = wc ∧ ∃ fl : Bool, v = .bool fl ∧ (fl = true → t < f))
                  case first =>
                    by_cases htf : t < f
                    · have s1 : decide ((t : Int) < (f : Int)) = true := decide_eq_true (by omega)
                      have s1n : decide (t < f) = true := decide_eq_true htf
                      have HTF := Lib.hid htf
                      obtain ⟨fv, hfv⟩ : ∃ fv, fs[t]? = some fv := ⟨fs[t]'(by have := HFN.out; omega), List.getElem?_eq_getElem _⟩
                      obtain ⟨bf, off, rfl, hbW, _, hcell⟩ := HFE.out t fv hfv
                      have dW : W.cell? ⟨bf, off + t, none⟩ = some (.int .i64 fv) := by
                        have := hcell 0 (.int .i64 fv) rfl
                        rwa [Nat.mul_one, Nat.add_zero] at this
                      have d7 : w12.cell? ⟨bf, off + t, none⟩ = some (.int .i64 fv) := (World.cell?_of_block (K12.out.below.block bf hbW)).trans dW
                      have ta : ((t : Int)).toNat = t := by omega
                      have tp : (0 : Int) ≤ (t : Int) := by omega
                      have tz : (t : Int) < (f : Int) := by omega
                      clear hfv hbW hcell dW htf
                      go_wp2_with fail
                      go_meet
                      exact ⟨rfl, _, rfl, fun _ => HTF.out⟩
                    · have s1 : decide ((t : Int) < (f : Int)) = false := decide_eq_false (by omega)
                      have s1n : decide (t < f) = false := decide_eq_false htf
                      clear htf
                      go_wp2_with fail
                      go_meet
                      exact ⟨rfl, _, rfl, fun e => by cases e⟩
                  case rest =>
                  obtain ⟨rfl, fl, rfl, hfl⟩ := hcut
                  have HFL := Lib.hid hfl
                  have kw : t + 1 < 3000002 := by have := HIB.out; omega
                  clear hfl
                  cases fl with
                  | true =>
                    as_aux_lemma =>
                      have hrp := report_c b g vs11 S1 (c : Int) (nn : Int) 2 w12 K12.out.bd (i + 1) (HB1.out.use (by have := HIB.out; omega)) (by have := HIB.out; omega)
                      rw [HF.out.1] at hrp
                      have HRP := Lib.hid hrp
                      have HTF : Hid (t < f) := Lib.hid (HFL.out rfl)
                      clear hrp
                      go_wp2_with fail
                      refine HRP.out.mono ?_
                      rintro _ w13 ⟨rfl, h13⟩
                      obtain ⟨vs13, K13⟩ := K12.out.step h13
                      rw [← HF2.out.1] at K13
                      have K13 := Lib.hid K13
                      clear h13 HRP
                      go_wp2_with fail
                      clear kw
                      go_roundg (TT - (t + 1))
                      case measure => have := HK.out; have := HLT.out; omega
                      case rel => exact ⟨t + 1, i + 1, wn, mp, vs13, _, rfl, by first | rfl | go_num, by have := HLT.out; omega, by have := HK.out; omega, by have := HK.out; have := HTF.out; omega, by have := HK.out; omega, by have := HK.out; omega, Lib.hid (by rw [HF2.out.2]; exact HM.out), Lib.hid HF.out.2, K13⟩
                  | false =>
                    as_aux_lemma =>
                      have hrp := report_c b g vs11 S1 (c : Int) (nn : Int) 1 w12 K12.out.bd (i + 1) (HB1.out.use (by have := HIB.out; omega)) (by have := HIB.out; omega)
                      rw [HQ.out.1] at hrp
                      have HRP := Lib.hid hrp
                      have HWN : Hid (wn + 1 ≤ T) := Lib.hid (by
                        have h1 := wonN_le (At.report S1 (c : Int) (nn : Int) 1).2
                        rw [HQ.out.2.won, HQ.out.2.len] at h1
                        have := HTS.out
                        omega)
                      have mw : mp + 1 < 3000002 := by have := HK.out; have := HIB.out; omega
                      clear hrp
                      by_cases hcP : c < P
                      · have s1 : decide ((c : Int) < (P : Int)) = true := decide_eq_true (by omega)
                        have s1n : decide (c < P) = true := decide_eq_true hcP
                        have HM2 : Hid (((mp + 1 : Nat) : Int) + (At.report S1 (c : Int) (nn : Int) 1).2.opn = P) := Lib.hid (by rw [HQ2.out.2, if_pos hcP]; have := HM.out; omega)
                        clear hcP
                        go_wp2_with fail
                        refine HRP.out.mono ?_
                        rintro _ w13 ⟨rfl, h13⟩
                        obtain ⟨vs13, K13⟩ := K12.out.step h13
                        rw [← HQ2.out.1] at K13
                        have K13 := Lib.hid K13
                        clear h13 HRP
                        go_wp2_with fail
                        clear kw mw
                        go_roundg (TT - (t + 1))
                        case measure => have := HK.out; have := HLT.out; omega
                        case rel => exact ⟨t + 1, i + 1, wn + 1, mp + 1, vs13, _, by first | rfl | go_num, by first | rfl | go_num, by have := HLT.out; omega, by have := HK.out; omega, by have := HK.out; have := HWN.out; omega, HWN.out, by have := HK.out; omega, HM2, Lib.hid HQ.out.2, K13⟩
                      · have s1 : decide ((c : Int) < (P : Int)) = false := decide_eq_false (by omega)
                        have s1n : decide (c < P) = false := decide_eq_false hcP
                        have HM2 : Hid ((mp : Int) + (At.report S1 (c : Int) (nn : Int) 1).2.opn = P) := Lib.hid (by rw [HQ2.out.2, if_neg hcP]; have := HM.out; omega)
                        clear hcP
                        go_wp2_with fail
                        refine HRP.out.mono ?_
                        rintro _ w13 ⟨rfl, h13⟩
                        obtain ⟨vs13, K13⟩ := K12.out.step h13
                        rw [← HQ2.out.1] at K13
                        have K13 := Lib.hid K13
                        clear h13 HRP
                        go_wp2_with fail
                        clear kw mw
                        go_roundg (TT - (t + 1))
                        case measure => have := HK.out; have := HLT.out; omega
                        case rel => exact ⟨t + 1, i + 1, wn + 1, mp, vs13, _, by first | rfl | go_num, by first | rfl | go_num, by have := HLT.out; omega, by have := HK.out; omega, by have := HK.out; have := HWN.out; omega, HWN.out, by have := HK.out; omega, HM2, Lib.hid HQ.out.2, K13⟩
          · as_aux_lemma =>
              have t1 : decide ((t : Int) < (TT : Int)) = false := decide_eq_false (by omega)
              have t1n : decide (t < TT) = false := decide_eq_false hlt
              have hwn : wn = T := by have := HK.out; have := HTT.out; omega
              have HALL : Hid (∀ k ∈ S.tasks, k.winner ≠ 0) := Lib.hid (won_all.1 (by rw [EN.out.won, EN.out.len]; have := HTS.out; omega))
              have HO0 := Lib.hid (opn_done EN.out HALL.out)
              have HMP : Hid (mp = P) := Lib.hid (by have := HM.out; have := HO0.out; omega)
              have HSL : Hid (S.tasks.length = T) := Lib.hid (by rw [EN.out.len]; have := HTS.out; omega)
              have HIB : Hid (i ≤ 3000000) := Lib.hid (by have := HK.out; have := HTS.out; omega)
              obtain ⟨e1, e2, e3, e4, e5, e6, e7, e8, e9, e10, e11⟩ := HEF.out
              clear hlt hwn HPE HFE HEF HK HM HO0
              go_wp2_with fail
              clear e1 e2 e3 e4 e5 e6 e7 e8 e9 e10 e11
              go_loopg [19] T (fun gg iv wx => ∃ ii : Nat, iv = .int .i64 (ii : Int) ∧ ii + gg = T ∧ wr = wx)
              case atStart => exact ⟨0, rfl, by omega, rfl⟩
              case round =>
                obtain ⟨ii, rfl, hii, rfl⟩ := hrel
                have HII := Lib.hid hii
                by_cases hil : ii < T
                · have t2 : decide ((ii : Int) < (T : Int)) = true := decide_eq_true (by omega)
                  have t2n : decide (ii < T) = true := decide_eq_true hil
                  obtain ⟨tk, htk⟩ : ∃ tk, S.tasks[ii]? = some tk := ⟨S.tasks[ii]'(by rw [HSL.out]; exact hil), List.getElem?_eq_getElem _⟩
                  obtain ⟨nd, hwin⟩ := winner_at EN.out.ok htk
                  have hwo := winner_c b g vs S (EN.out.ok.use (by have := HIB.out; omega)).wf EN.out.ok.win (ii : Int) wr K.out.bd
                  rw [hwin, decide_eq_true (HALL.out tk (List.mem_of_getElem? htk))] at hwo
                  dsimp only at hwo
                  have HWO := Lib.hid hwo
                  have hw1 := EN.out.ok.win tk (List.mem_of_getElem? htk)
                  have hw2 := HALL.out tk (List.mem_of_getElem? htk)
                  have d0 : wr.cell? ⟨q, ii, none⟩ = some (.int .i64 (tk.tries.length : Int)) := by
                    rw [K.out.bg.cell ii]
                    unfold ints
                    rw [List.getElem?_map, bgn_at htk]
                    rfl
                  generalize tk.winner = wv at HWO hw1 hw2
                  generalize tk.tries.length = tl at d0 hw1
                  have u1 : decide (wv < 1) = false := decide_eq_false (by omega)
                  have u2 : decide ((tl : Int) < wv) = false := decide_eq_false (by omega)
                  have ia : ((ii : Int)).toNat = ii := by omega
                  have ip : (0 : Int) ≤ (ii : Int) := by omega
                  have iz : (ii : Int) < (T : Int) := by omega
                  have kw : ii + 1 < 32 := by have := HTS.out; omega
                  have HIL2 := Lib.hid hil
                  clear hw1 hw2 hwo hwin htk hil hii
                  go_wp2_with fail
                  refine HWO.out.mono ?_
                  rintro _ _ ⟨rfl, rfl⟩
                  go_wp2_with fail
                  clear kw
                  go_roundg (T - (ii + 1))
                  case measure => have := HII.out; have := HIL2.out; omega
                  case rel => exact ⟨ii + 1, by first | rfl | go_num, by have := HIL2.out; omega, rfl⟩
                · have t2 : decide ((ii : Int) < (T : Int)) = false := decide_eq_false (by omega)
                  have t2n : decide (ii < T) = false := decide_eq_false hil
                  clear hil hii
                  have hfi := fin_c b g vs S EN.out.ok.len EN.out.ok.maps wr K.out.bd
                  rw [fin_done HALL.out] at hfi
                  have HFI := Lib.hid hfi
                  have b1 : ((mp : Int) == (P : Int)) = true := by rw [HMP.out]; exact beq_self_eq_true _
                  have b1n : (mp == P) = true := by rw [HMP.out]; exact beq_self_eq_true _
                  clear hfi
                  go_wp2_with fail
                  refine HFI.out.mono ?_
                  rintro _ w7 ⟨rfl, hf7⟩
                  have K7 := Lib.hid (K.out.fr hf7)
                  have hde := dead_c b g vs S w7 K7.out.bd
                  rw [EN.out.dead] at hde
                  have HDE := Lib.hid hde
                  clear hf7 hde
                  go_wp2_with fail
                  refine HDE.out.mono ?_
                  rintro _ _ ⟨rfl, rfl⟩
                  go_wp2_with fail
                  go_ret
                  exact ⟨rfl, K7.out.below⟩
end Go.Proofs.Ytahpbcacfdkdjaa
