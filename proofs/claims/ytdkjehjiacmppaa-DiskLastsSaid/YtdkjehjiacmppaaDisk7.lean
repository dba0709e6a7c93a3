/- disk: Crash and Sync. (Printed by XDisk7.py.) -/
import Derived.Test.YtdkjehjiacmppaaDisk6
namespace Go.Proofs.Ytdkjehjiacmppaa
open Go.RowKit Go.Maps
set_option linter.unusedVariables false
set_option linter.unusedSimpArgs false
def doAll (l : List Chg) (F : Files) : Files := l.foldl (fun F c => c.do F) F
theorem doAll_snoc (l : List Chg) (c : Chg) (F : Files) : doAll (l ++ [c]) F = c.do (doAll l F) := by unfold doAll; rw [List.foldl_append]; rfl
def kept (S : DkSt) (keep : Int) : Nat := (min (max keep 0) S.chg.length).toNat
def cutB (d : ByteArray) (tear : Int) : List UInt8 := d.data.toList.take (min tear d.size).toNat
def crashLast (S : DkSt) (keep tear : Int) : Files :=
  match S.chg[kept S keep]? with
  | some (.app x d) => if 0 < tear then (doAll (S.chg.take (kept S keep)) S.last).put x ((doAll (S.chg.take (kept S keep)) S.last).at x ++ cutB d tear) else doAll (S.chg.take (kept S keep)) S.last
  | _ => doAll (S.chg.take (kept S keep)) S.last
noncomputable def DkSt.crashed (S : DkSt) (F : Files) : DkSt := { S with last := F, held := F, used := F.total, chg := [] }
noncomputable def DkSt.crash (S : DkSt) (keep tear : Int) : DkSt := S.crashed (crashLast S keep tear)
def DkCrash (w : World) (B b ml mh : Nat) (cv : Value) (Ll : List ByteArray) (n : Nat) (S : DkSt) (e : Ending) (w' : World) : Prop :=
  e = .returned (.tuple #[]) ∧ ∃ mh' cv' Ll', Ll'.length ≤ Ll.length + n + 1 ∧ DkAt w' B b ml mh' cv' Ll' Ll' S ∧ DkR w b ml mh cv w' mh' cv'
theorem DkAt.clear {w : World} {B b ml mh : Nat} {cv : Value} {Ll Lh : List ByteArray} {S : DkSt} (h : DkAt w B b ml mh cv Ll Lh S) :
    DkAt (w.setCell ⟨b, 4, none⟩ (.slice none 0 0)) B b ml mh (.slice none 0 0) Ll Lh { S with chg := [] } ∧ DkR w b ml mh cv (w.setCell ⟨b, 4, none⟩ (.slice none 0 0)) mh (.slice none 0 0) := by
  have hf : Fr w (w.setCell ⟨b, 4, none⟩ (.slice none 0 0)) (fun j => j = b) := by
    refine Fr.setCell (Fr.refl w (fun j => j = b)) ⟨b, 4, none⟩ _ ?_
    intro _; rfl
  have hN : ∀ q, q < w.heap.size → DkN b ml mh (.slice none 0 0) q → DkN b ml mh cv q := by
    rintro q _ (e | e | e | e)
    · exact .inl e
    · exact .inr (.inl e)
    · exact .inr (.inr (.inl e))
    · cases e
  exact ⟨⟨h.blk.set 4 _, h.ne, h.lo, World.ownsRow_nil _ _ _ _, (fun q e => by cases e), h.last.move hf h.ne.1 (fun q _ e => .inl e) hN, h.held.move hf h.ne.2.1 (fun q _ e => .inl e) hN, (fun c hc => by cases hc)⟩,
    hf.mono (fun _ _ e => .inl e), .inl rfl, (fun q e => by cases e)⟩
theorem DkAt.relast {w w' : World} {B b ml mh : Nat} {cv : Value} {Ll Lh Ll' : List ByteArray} {S : DkSt} (h : DkAt w B b ml mh cv Ll Lh S) {F : Files} (hf : Fr w w' (fun j => j = ml)) (hM : MapF w' (DkN b ml mh cv) ml Ll' F) : DkAt w' B b ml mh cv Ll' Lh { S with last := F } :=
  ⟨h.blk.fr hf (fun e => h.ne.1 (Eq.symm e)), h.ne, h.lo, own_fr h.row hf (fun q e e2 => (h.apart q e).2.1 e2), h.apart, hM, h.held.fr hf (fun e => h.ne.2.2 (Eq.symm e)) (fun q e => .inr (.inl e)), h.ok⟩
theorem Chg.names_len (c : Chg) (L : List ByteArray) : (c.names L).length ≤ L.length + 1 := by
  cases c with
  | app x d => exact (insN_len x L).2
  | ren x y => exact (insN_len y L).2
  | del x => exact Nat.le_succ _
theorem cut_lo (d : ByteArray) (tear : Int) (h5 : tear ≤ (d.size : Int)) : (d.extract 0 tear.toNat).data.toList = cutB d tear ∧ (d.extract 0 tear.toNat).size ≤ d.size := by
  unfold cutB
  rw [Int.min_eq_left h5]
  refine ⟨by simp, ?_⟩
  simp only [ByteArray.size_extract]
  omega
theorem cut_hi (d : ByteArray) (tear : Int) (h5 : ¬ tear ≤ (d.size : Int)) : d.data.toList = cutB d tear := by
  unfold cutB
  rw [Int.min_eq_right (by omega)]
  have hds : d.size = d.data.toList.length := by rw [Array.length_toList]; rfl
  rw [show ((d.size : Int)).toNat = d.data.toList.length by omega]
  exact List.take_length.symm
theorem ta_app (x d : ByteArray) (w : World) : (Instr.typeAssert (.iface 62 (.agg #[.string x, .string d])) 64 62 true).run Try.prog w = .ok (.tuple #[.agg #[.string x, .string d], .bool true]) w := by kernel_rfl
theorem ta_ren (x y : ByteArray) (w : World) : (Instr.typeAssert (.iface 71 (.agg #[.string x, .string y])) 64 62 true).run Try.prog w = .ok (.tuple #[.agg #[.string ⟨#[]⟩, .string ⟨#[]⟩], .bool false]) w := by kernel_rfl
theorem ta_del (x : ByteArray) (w : World) : (Instr.typeAssert (.iface 69 (.agg #[.string x])) 64 62 true).run Try.prog w = .ok (.tuple #[.agg #[.string ⟨#[]⟩, .string ⟨#[]⟩], .bool false]) w := by kernel_rfl
set_option maxRecDepth 20000 in
set_option maxHeartbeats 8000000 in
theorem crash_c (B b ml mh : Nat) (cv : Value) (Ll Lh : List ByteArray) (S : DkSt) (keep tear : Int) (w : World) (h : DkAt w B b ml mh cv Ll Lh S) (hl : Ll.length + S.chg.length + 1 < maxLen) (hn : S.chg.length < 8796093022000)
    (hfit : ∀ (i : Nat) (c : Chg), S.chg[i]? = some c → c.Fits (doAll (S.chg.take i) S.last)) (hsm : (crashLast S keep tear).Small) :
    Calls Try.prog 13 #[.pointer (some ⟨b, 0, none⟩), .int .i64 keep, .int .i64 tear] w (DkCrash w B b ml mh cv Ll S.chg.length (S.crash keep tear)) := by
  have hmf : ∀ (fn : Fn) (first cap : Array Value) (w : World), (Instr.makeFunc fn first cap).run Try.prog w = .ok (.func fn first cap) w := fun _ _ _ _ => rfl
  have hk : kept S keep ≤ S.chg.length := by unfold kept; omega
  have hk0 : (kept S keep : Int) = min (max keep 0) S.chg.length := by unfold kept; omega
  unfold DkSt.crash crashLast
  unfold crashLast at hsm
  generalize kept S keep = k at hk hk0 hsm ⊢
  generalize hFF : (match S.chg[k]? with
    | some (.app x d) => if 0 < tear then (doAll (S.chg.take k) S.last).put x ((doAll (S.chg.take k) S.last).at x ++ cutB d tear) else doAll (S.chg.take k) S.last
    | _ => doAll (S.chg.take k) S.last) = FF at hsm ⊢
  have HFF := Lib.hid hFF
  clear hFF
  obtain ⟨n, hnn⟩ : ∃ n, n = S.chg.length := ⟨_, rfl⟩
  rw [← hnn] at hk hk0 hn hl ⊢
  obtain ⟨A, cc, rfl⟩ := own_slice h.row
  rw [← hnn] at h
  have z4 : w.cell? ⟨b, 4, none⟩ = some (.slice A n cc) := h.blk.cell 4
  have hrw : w.ownsRow B 64 1 (.slice A n cc) n (chgs S.chg) := by have := h.row; rwa [← hnn] at this
  have hAn : (A = none → n = 0) ∧ n ≤ cc ∧ (A = none → cc = 0) := by
    rcases hrw.2 with ⟨e, e0⟩ | ⟨g, cp, cur, e, hb, hg, h1, _⟩
    · cases e; exact ⟨(fun _ => e0), by omega, (fun _ => rfl)⟩
    · cases e; exact ⟨(fun e => by cases e), h1, (fun e => by cases e)⟩
  have H := Lib.hid h
  have HW := Lib.hid hrw
  have HL := Lib.hid hl
  have HN := Lib.hid hn
  have HFIT := Lib.hid hfit
  have HSM := Lib.hid hsm
  have HK := Lib.hid hk
  have HK0 := Lib.hid hk0
  have HNN := Lib.hid hnn
  have HAN := Lib.hid hAn
  clear h hrw hl hn hfit hsm hk hk0 hnn hAn
  go_enter Try.func13, Try.ntmps13
  go_upto_region 1 with (fail)
  go_cut [1] (fun v wc => w = wc ∧ v = .int .i64 (k : Int))
  case first =>
    have hk0 := HK0.out
    rcases Int.lt_or_le keep 0 with h1 | h1
    · have t1 : ¬ 0 ≤ keep := by omega
      have hk1 : (k : Int) = 0 := by omega
      have t2 : (0 : Int) ≤ (n : Int) := by omega
      have EQ := Lib.hid hk1
      clear h1 hk0 hk1
      go_wp2
      go_meet
      exact ⟨rfl, by rw [EQ.out]⟩
    · rcases Int.lt_or_le (n : Int) keep with h2 | h2
      · have t2 : ¬ keep ≤ (n : Int) := by omega
        have hk1 : (k : Int) = (n : Int) := by omega
        have EQ := Lib.hid hk1
        clear h2 hk0 hk1
        go_wp2
        go_meet
        exact ⟨rfl, by rw [EQ.out]⟩
      · have hk1 : (k : Int) = keep := by omega
        have EQ := Lib.hid hk1
        clear hk0 hk1
        go_wp2
        go_meet
        exact ⟨rfl, by rw [EQ.out]⟩
  obtain ⟨rfl, rfl⟩ := hcut
  have hkn := HK.out
  have k0 : (0 : Int) ≤ (k : Int) := by omega
  have k1 : (k : Int) ≤ (n : Int) := by omega
  have k2 : ((k : Int)).toNat = k := by omega
  have k3 : (k : Int) ≤ (cc : Int) := by have := HAN.out.2.1; omega
  go_upto_region 2 with (fail)
  go_cut [25, 26, 27] (fun v25 v26 v27 wc => w = wc ∧ (∃ c2, v25 = .slice A k c2) ∧ v26 = .int .i64 (k : Int) ∧ v27 = .int .i64 0)
  case first =>
    cases A with
    | none =>
      obtain rfl := HAN.out.1 rfl
      obtain rfl := HAN.out.2.2 rfl
      obtain rfl : k = 0 := by omega
      clear k0 k1 k2 k3 hkn
      go_wp2
      go_meet
      exact ⟨rfl, ⟨_, rfl⟩, rfl, rfl⟩
    | some ad =>
      go_wp2
      go_meet
      exact ⟨rfl, ⟨_, rfl⟩, rfl, rfl⟩
  obtain ⟨rfl, ⟨c2, rfl⟩, rfl, rfl⟩ := hcut
  clear k0 k1 k2 k3 z4
  have HK2 := Lib.hid hkn
  clear hkn
  go_wp2_with fail
  go_loopg [7, 27] k (fun g v7 v27 wr => ∃ (i : Nat) (L1 : List ByteArray), v27 = .int .i64 (i : Int) ∧ i + g = k ∧ Hid (L1.length ≤ Ll.length + i) ∧ Hid (DkAt wr B b ml mh (.slice A n cc) L1 Lh { S with last := doAll (S.chg.take i) S.last }) ∧ Hid (Fr w wr (DkN b ml mh (.slice A n cc))))
  case atStart => exact ⟨0, Ll, rfl, by omega, Lib.hid (by omega), Lib.hid H.out, Lib.hid (Fr.refl _ _)⟩
  case round =>
    obtain ⟨i, L1, rfl, hi, HL1, H1, HF1⟩ := hrel
    have HI := Lib.hid hi
    by_cases hlt : i < k
    · have t1 : decide ((i : Int) < (k : Int)) = true := decide_eq_true (by omega)
      have t1n : decide (i < k) = true := decide_eq_true hlt
      have hin : i < n := Nat.lt_of_lt_of_le hlt HK2.out
      have HLT := Lib.hid hlt
      have hrow : wr.ownsRow B 64 1 (.slice A n cc) n (chgs S.chg) := by have := H1.out.row; rwa [← HNN.out] at this
      obtain ⟨gq, cp, he, _, hgl, hC⟩ := own_some hrow (by omega)
      cases he
      obtain ⟨c, hc⟩ : ∃ c, S.chg[i]? = some c := ⟨S.chg[i]'(by rw [← HNN.out]; exact hin), List.getElem?_eq_getElem _⟩
      have c0 : wr.cell? ⟨gq, i, none⟩ = some (.iface c.ty c.val) := (hC.get (j := i) (by simp [chgs, hc]; rfl)).1
      have hok := H1.out.ok c (List.mem_of_getElem? hc)
      have hmeth := meth_do c
      have hent := enter_do c
      have hnil := nil_do c
      have h0 := H1.out.frNone ((Fr.refl wr (fun _ => False)).drewN 1)
      have hdo := do_c (DkN b ml mh (.slice (some ⟨gq, 0, none⟩) n cc)) ml L1 (doAll (S.chg.take i) S.last) c hok wr.drew h0.last h0.old (.inr (.inl rfl)) (by have := HL1.out; have := HL.out; omega) (HFIT.out i c hc)
      have HDO := Lib.hid hdo
      have HD0 := Lib.hid h0
      have HNM := Lib.hid (Chg.names_len c L1)
      have HDA : Hid (doAll (S.chg.take (i + 1)) S.last = c.do (doAll (S.chg.take i) S.last)) := Lib.hid (by rw [List.take_add_one, hc]; exact doAll_snoc _ c _)
      have c3 : wr.drew.cell? ⟨b, 2, none⟩ = some (.map (some ml)) := H1.out.blk.cell 2
      have ka : ((i : Int)).toNat = i := by omega
      have kp : (0 : Int) ≤ (i : Int) := by omega
      have kz : (i : Int) < (k : Int) := by omega
      clear hrow hC hc hok h0 hdo hgl hin hlt hi
      go_upto_region 5 with (fail)
      clear c0 ka kp kz
      go_region_held3 (fun w' => w'.cell? ⟨b, 2, none⟩ = some (.map (some ml)))
        (first | exact c3 | exact c4)
        (first | ((with_reducible refine HDO.out.mono ?_); rintro _ w5 ⟨rfl, h5, hf5⟩; have H5 := Lib.hid h5; have HF5 := Lib.hid hf5; have c4 : w5.cell? ⟨b, 2, none⟩ = some (.map (some ml)) := (hf5.cell (p := ⟨b, 2, none⟩) HD0.out.blk.lt (fun e => HD0.out.ne.1 (Eq.symm e))).trans (HD0.out.blk.cell 2); clear h5 hf5))
      clear c3 c4 hmeth hent hnil
      have HN5 : Hid (DkAt w5 B b ml mh (.slice (some ⟨gq, 0, none⟩) n cc) (c.names L1) Lh { S with last := doAll (S.chg.take (i + 1)) S.last }) := Lib.hid (by rw [HDA.out]; exact HD0.out.relast HF5.out H5.out)
      have HF6 : Hid (Fr w w5 (DkN b ml mh (.slice (some ⟨gq, 0, none⟩) n cc))) := Lib.hid ((HF1.out.trans ((Fr.refl wr (fun _ => False)).drewN 1) fun _ _ e => e.elim).trans HF5.out fun _ _ e => .inr (.inl e))
      have kw : i + 1 < 8796093022001 := by have := HN.out; have := HK2.out; have := HLT.out; omega
      clear HDO HD0 H5 HF5
      go_wp2_with fail
      clear kw
      go_roundg (k - (i + 1))
      case measure => have := HI.out; have := HLT.out; omega
      case rel => exact ⟨i + 1, _, by first | rfl | go_num, by have := HI.out; have := HLT.out; omega, Lib.hid (by have := HNM.out; have := HL1.out; omega), HN5, HF6⟩
    · have t1 : decide ((i : Int) < (k : Int)) = false := decide_eq_false (by omega)
      have t1n : decide (i < k) = false := decide_eq_false hlt
      obtain rfl : i = k := by omega
      clear hlt hi HI
      have hLN : L1.length + 1 < maxLen := by have := HL1.out; have := HL.out; have := HK2.out; omega
      have HLN := Lib.hid hLN
      clear hLN
      by_cases hin : i < n
      · have t2 : decide ((i : Int) < (n : Int)) = true := decide_eq_true (by omega)
        have t2n : decide (i < n) = true := decide_eq_true hin
        have hrow : wr.ownsRow B 64 1 (.slice A n cc) n (chgs S.chg) := by have := H1.out.row; rwa [← HNN.out] at this
        obtain ⟨gq, cp, he, _, hgl, hC⟩ := own_some hrow (by omega)
        cases he
        obtain ⟨c, hc⟩ : ∃ c, S.chg[i]? = some c := ⟨S.chg[i]'(by rw [← HNN.out]; exact hin), List.getElem?_eq_getElem _⟩
        have c0 : wr.cell? ⟨gq, i, none⟩ = some (.iface c.ty c.val) := (hC.get (j := i) (by simp [chgs, hc]; rfl)).1
        have hok := H1.out.ok c (List.mem_of_getElem? hc)
        have z4 : wr.cell? ⟨b, 4, none⟩ = some (.slice (some ⟨gq, 0, none⟩) n cc) := H1.out.blk.cell 4
        have hff := HFF.out
        rw [hc] at hff
        have hft := HFIT.out i c hc
        have ka : ((i : Int)).toNat = i := by omega
        have kp : (0 : Int) ≤ (i : Int) := by omega
        have kz : (i : Int) < (n : Int) := by omega
        clear hrow hC hc hgl hin
        by_cases ht : 0 < tear
        · have t3 : decide (0 < tear) = true := decide_eq_true ht
          cases c with
          | app x d =>
            have hff2 : (doAll (S.chg.take i) S.last).put x ((doAll (S.chg.take i) S.last).at x ++ cutB d tear) = FF := by rw [← hff]; simp [ht]
            have c1 : wr.cell? ⟨gq, i, none⟩ = some (.iface 62 (.agg #[.string x, .string d])) := c0
            have hta := ta_app x d
            have htr := ht
            clear hff ht c0
            go_upto_region 10 with (fail)
            have hb1 := Blk.new wr [.string x, .string d] 62
            have d1 : (wr.alloc (.cells ([.string x, .string d] : List Value).toArray 62)).cell? ⟨wr.heap.size, 1, none⟩ = some (.string d) := hb1.cell 1
            have g1 : (wr.alloc (.cells ([.string x, .string d] : List Value).toArray 62)).frozen? ⟨wr.heap.size, 1, none⟩ = false := hb1.frozen 1
            have hds : d.size = d.data.toList.length := by rw [Array.length_toList]; rfl
            change Code.wp _ _ _ _ (wr.alloc (.cells ([.string x, .string d] : List Value).toArray 62))
            clear hb1 c1 hta ka kp kz z4
            go_cut [] (fun wc => ∃ d' : ByteArray, d'.data.toList = cutB d tear ∧ d'.size ≤ d.size ∧ wc = wr.alloc (.cells #[.string x, .string d'] 62))
            case first =>
              by_cases h5 : tear ≤ (d.size : Int)
              · have i1 : 0 ≤ tear := by omega
                clear hds hft hff2 htr hok
                have EQ := Lib.hid (cut_lo d tear h5)
                go_wp2
                go_meet
                exact ⟨_, EQ.out.1, EQ.out.2, rfl⟩
              · have EQ := Lib.hid (cut_hi d tear h5)
                clear hds hft hff2 htr hok
                go_wp2
                go_meet
                exact ⟨d, EQ.out, Nat.le_refl _, rfl⟩
            obtain ⟨d', hd1, hd2, rfl⟩ := hcut
            clear d1 g1 hds
            have hb1 : Blk (wr.alloc (.cells #[.string x, .string d'] 62)) wr.heap.size [.string x, .string d'] 62 := Blk.new wr [.string x, .string d'] 62
            have hfa : Fr wr (wr.alloc (.cells #[.string x, .string d'] 62)) (fun _ => False) := (Fr.refl wr (fun _ => False)).alloc _
            have HB1 := Lib.hid hb1
            have h0 := (H1.out.frNone hfa).frNone ((Fr.refl _ (fun _ => False)).drewN 1)
            have HFA := Lib.hid (HF1.out.trans hfa fun _ _ e => e.elim)
            have HNB : Hid (¬ DkN b ml mh (.slice (some ⟨gq, 0, none⟩) n cc) wr.heap.size) := Lib.hid fun e => Nat.lt_irrefl _ (H1.out.old _ e)
            clear hb1 hfa
            generalize wr.alloc (.cells #[.string x, .string d'] 62) = w8 at HB1 h0 HFA ⊢
            generalize wr.heap.size = gb at HB1 HNB ⊢
            have hdo := doApp_c (DkN b ml mh (.slice (some ⟨gq, 0, none⟩) n cc)) ml L1 (doAll (S.chg.take i) S.last) x d' hok w8.drew h0.last h0.old (.inr (.inl rfl)) (by have := HLN.out; omega) (by have : ((doAll (S.chg.take i) S.last).at x).length + d.size ≤ 140737488355328 := hft; omega)
            rw [hd1, hff2] at hdo
            have HDO := Lib.hid hdo
            have HD0 := Lib.hid h0
            have c3 : w8.drew.cell? ⟨b, 2, none⟩ = some (.map (some ml)) := h0.blk.cell 2
            have c4 : w8.drew.cell? ⟨gb, 0, none⟩ = some (.string x) := HB1.out.cell 0
            have c5 : w8.drew.cell? ⟨gb, 1, none⟩ = some (.string d') := HB1.out.cell 1
            have HIL := Lib.hid (insN_len x L1).2
            clear hdo h0 hd1 hd2 hff2 htr hft hok
            go_upto_region 11 with (fail)
            go_region_held3 (fun w' => w'.cell? ⟨b, 2, none⟩ = some (.map (some ml)) ∧ w'.cell? ⟨gb, 0, none⟩ = some (.string x) ∧ w'.cell? ⟨gb, 1, none⟩ = some (.string d'))
              (first | exact ⟨c3, c4, c5⟩ | exact ⟨c6, c7, c8⟩)
              (first | ((with_reducible refine HDO.out.mono ?_); rintro _ w5 ⟨rfl, h5, hf5⟩; have H5 := Lib.hid h5; have HF5 := Lib.hid hf5; have c6 : w5.cell? ⟨b, 2, none⟩ = some (.map (some ml)) := (hf5.cell (p := ⟨b, 2, none⟩) HD0.out.blk.lt (fun e => HD0.out.ne.1 (Eq.symm e))).trans (HD0.out.blk.cell 2); have c7 : w5.cell? ⟨gb, 0, none⟩ = some (.string x) := (((Blk.drewN HB1.out 1).fr hf5 (fun e => HNB.out (.inr (.inl e)))).cell 0); have c8 : w5.cell? ⟨gb, 1, none⟩ = some (.string d') := (((Blk.drewN HB1.out 1).fr hf5 (fun e => HNB.out (.inr (.inl e)))).cell 1); clear h5 hf5))
            clear c3 c4 c5 c6 c7 c8
            have HX : Hid (DkAt w5 B b ml mh (.slice (some ⟨gq, 0, none⟩) n cc) (insN x L1) Lh { S with last := FF }) := Lib.hid (HD0.out.relast HF5.out H5.out)
            have HFX : Hid (Fr w w5 (DkN b ml mh (.slice (some ⟨gq, 0, none⟩) n cc))) := Lib.hid ((HFA.out.trans ((Fr.refl w8 (fun _ => False)).drewN 1) fun _ _ e => e.elim).trans HF5.out fun _ _ e => .inr (.inl e))
            have HLX : Hid ((insN x L1).length ≤ Ll.length + n + 1) := Lib.hid (by have := HIL.out; have := HL1.out; have := HK2.out; omega)
            clear HDO HD0 H5 HF5 HB1
            have z4 : w5.cell? ⟨b, 4, none⟩ = some (.slice (some ⟨gq, 0, none⟩) n cc) := HX.out.blk.cell 4
            have f4 : w5.frozen? ⟨b, 4, none⟩ = false := HX.out.blk.frozen 4
            obtain ⟨hc1, hc2⟩ := HX.out.clear
            have HAG := Lib.hid (again_c B b ml mh _ (insN x L1) Lh _ _ hc1 rfl HSM.out)
            have HFIN : Hid (∀ wz mh', DkAt wz B b ml mh' (.slice none 0 0) (insN x L1) (insN x L1) (S.crashed FF) → DkR (w5.setCell ⟨b, 4, none⟩ (.slice none 0 0)) b ml mh (.slice none 0 0) wz mh' (.slice none 0 0) → DkCrash w B b ml mh (.slice (some ⟨gq, 0, none⟩) n cc) Ll n (S.crashed FF) (.returned (.tuple #[])) wz) := Lib.hid fun wz mh' h1 h2 => ⟨rfl, mh', _, (insN x L1), HLX.out, h1, (DkR.of HFX.out).trans (hc2.trans h2)⟩
            clear hc1 hc2
            go_wp2_with fail
            refine HAG.out.mono ?_
            rintro _ wz ⟨rfl, mh', hz, hr⟩
            have HP := Lib.hid (HFIN.out wz mh' hz hr)
            clear hz hr HFIN HAG
            go_wp2_with fail
            go_end0
            rw [← HNN.out]; exact HP.out
          | ren x y =>
            have hff2 : doAll (S.chg.take i) S.last = FF := hff
            have HEQ := Lib.hid hff2
            have c1 : wr.cell? ⟨gq, i, none⟩ = some (.iface 71 (.agg #[.string x, .string y])) := c0
            have hta := ta_ren x y
            clear hff ht hff2 hft hok c0
            go_upto_region 12 with (fail)
            have hfz : Fr wr (wr.alloc (.cells #[.string ⟨#[]⟩, .string ⟨#[]⟩] 62)) (fun _ => False) := (Fr.refl wr (fun _ => False)).alloc _
            have HX : Hid (DkAt (wr.alloc (.cells #[.string ⟨#[]⟩, .string ⟨#[]⟩] 62)) B b ml mh (.slice (some ⟨gq, 0, none⟩) n cc) L1 Lh { S with last := FF }) := Lib.hid (by rw [← HEQ.out]; exact H1.out.frNone hfz)
            have HFX : Hid (Fr w (wr.alloc (.cells #[.string ⟨#[]⟩, .string ⟨#[]⟩] 62)) (DkN b ml mh (.slice (some ⟨gq, 0, none⟩) n cc))) := Lib.hid (HF1.out.trans hfz fun _ _ e => e.elim)
            have HLX : Hid (L1.length ≤ Ll.length + n + 1) := Lib.hid (by have := HL1.out; have := HK2.out; omega)
            clear hfz c1 hta ka kp kz z4
            generalize wr.alloc (.cells #[.string ⟨#[]⟩, .string ⟨#[]⟩] 62) = w5 at HX HFX ⊢
            have z4 : w5.cell? ⟨b, 4, none⟩ = some (.slice (some ⟨gq, 0, none⟩) n cc) := HX.out.blk.cell 4
            have f4 : w5.frozen? ⟨b, 4, none⟩ = false := HX.out.blk.frozen 4
            obtain ⟨hc1, hc2⟩ := HX.out.clear
            have HAG := Lib.hid (again_c B b ml mh _ L1 Lh _ _ hc1 rfl HSM.out)
            have HFIN : Hid (∀ wz mh', DkAt wz B b ml mh' (.slice none 0 0) L1 L1 (S.crashed FF) → DkR (w5.setCell ⟨b, 4, none⟩ (.slice none 0 0)) b ml mh (.slice none 0 0) wz mh' (.slice none 0 0) → DkCrash w B b ml mh (.slice (some ⟨gq, 0, none⟩) n cc) Ll n (S.crashed FF) (.returned (.tuple #[])) wz) := Lib.hid fun wz mh' h1 h2 => ⟨rfl, mh', _, L1, HLX.out, h1, (DkR.of HFX.out).trans (hc2.trans h2)⟩
            clear hc1 hc2
            go_wp2_with fail
            refine HAG.out.mono ?_
            rintro _ wz ⟨rfl, mh', hz, hr⟩
            have HP := Lib.hid (HFIN.out wz mh' hz hr)
            clear hz hr HFIN HAG
            go_wp2_with fail
            go_end0
            rw [← HNN.out]; exact HP.out
          | del x =>
            have hff2 : doAll (S.chg.take i) S.last = FF := hff
            have c1 : wr.cell? ⟨gq, i, none⟩ = some (.iface 69 (.agg #[.string x])) := c0
            have hta := ta_del x
            have HEQ := Lib.hid hff2
            clear hff ht hff2 hft hok c0
            go_upto_region 12 with (fail)
            have hfz : Fr wr (wr.alloc (.cells #[.string ⟨#[]⟩, .string ⟨#[]⟩] 62)) (fun _ => False) := (Fr.refl wr (fun _ => False)).alloc _
            have HX : Hid (DkAt (wr.alloc (.cells #[.string ⟨#[]⟩, .string ⟨#[]⟩] 62)) B b ml mh (.slice (some ⟨gq, 0, none⟩) n cc) L1 Lh { S with last := FF }) := Lib.hid (by rw [← HEQ.out]; exact H1.out.frNone hfz)
            have HFX : Hid (Fr w (wr.alloc (.cells #[.string ⟨#[]⟩, .string ⟨#[]⟩] 62)) (DkN b ml mh (.slice (some ⟨gq, 0, none⟩) n cc))) := Lib.hid (HF1.out.trans hfz fun _ _ e => e.elim)
            have HLX : Hid (L1.length ≤ Ll.length + n + 1) := Lib.hid (by have := HL1.out; have := HK2.out; omega)
            clear hfz c1 hta ka kp kz z4
            generalize wr.alloc (.cells #[.string ⟨#[]⟩, .string ⟨#[]⟩] 62) = w5 at HX HFX ⊢
            have z4 : w5.cell? ⟨b, 4, none⟩ = some (.slice (some ⟨gq, 0, none⟩) n cc) := HX.out.blk.cell 4
            have f4 : w5.frozen? ⟨b, 4, none⟩ = false := HX.out.blk.frozen 4
            obtain ⟨hc1, hc2⟩ := HX.out.clear
            have HAG := Lib.hid (again_c B b ml mh _ L1 Lh _ _ hc1 rfl HSM.out)
            have HFIN : Hid (∀ wz mh', DkAt wz B b ml mh' (.slice none 0 0) L1 L1 (S.crashed FF) → DkR (w5.setCell ⟨b, 4, none⟩ (.slice none 0 0)) b ml mh (.slice none 0 0) wz mh' (.slice none 0 0) → DkCrash w B b ml mh (.slice (some ⟨gq, 0, none⟩) n cc) Ll n (S.crashed FF) (.returned (.tuple #[])) wz) := Lib.hid fun wz mh' h1 h2 => ⟨rfl, mh', _, L1, HLX.out, h1, (DkR.of HFX.out).trans (hc2.trans h2)⟩
            clear hc1 hc2
            go_wp2_with fail
            refine HAG.out.mono ?_
            rintro _ wz ⟨rfl, mh', hz, hr⟩
            have HP := Lib.hid (HFIN.out wz mh' hz hr)
            clear hz hr HFIN HAG
            go_wp2_with fail
            go_end0
            rw [← HNN.out]; exact HP.out
        · have t3 : decide (0 < tear) = false := decide_eq_false ht
          have hff2 : doAll (S.chg.take i) S.last = FF := by
            rw [← hff]
            cases c with
            | app x d => simp [ht]
            | ren x y => rfl
            | del x => rfl
          have HEQ := Lib.hid hff2
          clear hff ht hff2 hft hok c0 ka kp kz
          go_upto_region 12 with (fail)
          clear z4
          have HX : Hid (DkAt wr B b ml mh (.slice (some ⟨gq, 0, none⟩) n cc) L1 Lh { S with last := FF }) := Lib.hid (by rw [← HEQ.out]; exact H1.out)
          have HFX := HF1
          have HLX : Hid (L1.length ≤ Ll.length + n + 1) := Lib.hid (by have := HL1.out; have := HK2.out; omega)
          have z4 : wr.cell? ⟨b, 4, none⟩ = some (.slice (some ⟨gq, 0, none⟩) n cc) := HX.out.blk.cell 4
          have f4 : wr.frozen? ⟨b, 4, none⟩ = false := HX.out.blk.frozen 4
          obtain ⟨hc1, hc2⟩ := HX.out.clear
          have HAG := Lib.hid (again_c B b ml mh _ L1 Lh _ _ hc1 rfl HSM.out)
          have HFIN : Hid (∀ wz mh', DkAt wz B b ml mh' (.slice none 0 0) L1 L1 (S.crashed FF) → DkR (wr.setCell ⟨b, 4, none⟩ (.slice none 0 0)) b ml mh (.slice none 0 0) wz mh' (.slice none 0 0) → DkCrash w B b ml mh (.slice (some ⟨gq, 0, none⟩) n cc) Ll n (S.crashed FF) (.returned (.tuple #[])) wz) := Lib.hid fun wz mh' h1 h2 => ⟨rfl, mh', _, L1, HLX.out, h1, (DkR.of HFX.out).trans (hc2.trans h2)⟩
          clear hc1 hc2
          go_wp2_with fail
          refine HAG.out.mono ?_
          rintro _ wz ⟨rfl, mh', hz, hr⟩
          have HP := Lib.hid (HFIN.out wz mh' hz hr)
          clear hz hr HFIN HAG
          go_wp2_with fail
          go_end0
          rw [← HNN.out]; exact HP.out
      · have t2 : decide ((i : Int) < (n : Int)) = false := decide_eq_false (by omega)
        have t2n : decide (i < n) = false := decide_eq_false hin
        have hnone : S.chg[i]? = none := List.getElem?_eq_none (by rw [← HNN.out]; omega)
        have hff := HFF.out
        rw [hnone] at hff
        have HEQ : Hid (doAll (S.chg.take i) S.last = FF) := Lib.hid hff
        have z4 : wr.cell? ⟨b, 4, none⟩ = some (.slice A n cc) := H1.out.blk.cell 4
        clear hff hnone hin
        go_upto_region 12 with (fail)
        clear z4
        have HX : Hid (DkAt wr B b ml mh (.slice A n cc) L1 Lh { S with last := FF }) := Lib.hid (by rw [← HEQ.out]; exact H1.out)
        have HFX := HF1
        have HLX : Hid (L1.length ≤ Ll.length + n + 1) := Lib.hid (by have := HL1.out; have := HK2.out; omega)
        have z4 : wr.cell? ⟨b, 4, none⟩ = some (.slice A n cc) := HX.out.blk.cell 4
        have f4 : wr.frozen? ⟨b, 4, none⟩ = false := HX.out.blk.frozen 4
        obtain ⟨hc1, hc2⟩ := HX.out.clear
        have HAG := Lib.hid (again_c B b ml mh _ L1 Lh _ _ hc1 rfl HSM.out)
        have HFIN : Hid (∀ wz mh', DkAt wz B b ml mh' (.slice none 0 0) L1 L1 (S.crashed FF) → DkR (wr.setCell ⟨b, 4, none⟩ (.slice none 0 0)) b ml mh (.slice none 0 0) wz mh' (.slice none 0 0) → DkCrash w B b ml mh (.slice A n cc) Ll n (S.crashed FF) (.returned (.tuple #[])) wz) := Lib.hid fun wz mh' h1 h2 => ⟨rfl, mh', _, L1, HLX.out, h1, (DkR.of HFX.out).trans (hc2.trans h2)⟩
        clear hc1 hc2
        go_wp2_with fail
        refine HAG.out.mono ?_
        rintro _ wz ⟨rfl, mh', hz, hr⟩
        have HP := Lib.hid (HFIN.out wz mh' hz hr)
        clear hz hr HFIN HAG
        go_wp2_with fail
        go_end0
        rw [← HNN.out]; exact HP.out
end Go.Proofs.Ytdkjehjiacmppaa
