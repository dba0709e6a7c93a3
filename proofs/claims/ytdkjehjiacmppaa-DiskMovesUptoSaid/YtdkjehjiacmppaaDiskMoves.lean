/- DiskMoves: a file that is renamed keeps its bytes: the walk. -/
import Derived.Test.YtdkjehjiacmppaaDiskFull
import Derived.Test.YtdkjehjiacmppaaArr
namespace Go.Proofs.Ytdkjehjiacmppaa
open Go.RowKit Go.Maps
set_option linter.unusedVariables false
set_option linter.unusedSimpArgs false
def RNames (_ : World) (cs : List Value) (p : ByteArray × ByteArray) : Prop := cs = [.string p.1, .string p.2] ∧ (p.1.size ≤ 140737488351232 ∧ p.2.size ≤ 140737488351232)
theorem opens_names (w : World) : Opens Try.prog w 36 RNames (fun p => vbulk [.string p.1, .string p.2]) :=
  opens_flat (n := 4) (ks := [.str, .str]) (by kernel_rfl) (fun p : ByteArray × ByteArray => [.string p.1, .string p.2]) (fun p => p.1.size ≤ 140737488351232 ∧ p.2.size ≤ 140737488351232) fun cs h => by
    obtain ⟨a, d1, rfl, ha, h1⟩ := h.str_inv
    obtain ⟨b, d2, rfl, hb, h2⟩ := h1.str_inv
    obtain rfl := h2.nil_inv
    exact ⟨(a, b), rfl, ha, hb⟩
def sK : ByteArray := ⟨#[107, 101, 101, 112]⟩
def mCap : Int := 1099511627776
noncomputable def mS0 : DkSt := ⟨mCap, 0, noFiles, noFiles, []⟩
noncomputable def mS1 (a : ByteArray) : DkSt := ⟨mCap, a.size, noFiles, oneF sK a.data.toList, [.app sK a]⟩
theorem moves01 (a : ByteArray) (h : a.size ≤ 1048576) : mS0.append sK a = (mS1 a, 0) := by
  rw [append_ok (by decide) (by show ¬ mCap - 0 < (a.size : Int); unfold mCap; omega)]
  unfold DkSt.make mS0 mS1 Chg.do
  simp only [noFiles_put, noFiles_at, List.nil_append, Int.zero_add]
theorem str_ne {x : ByteArray} {l : List UInt8} (h : ¬ x = ⟨l.toArray⟩) : (x.toList == l) = false := by
  refine beq_eq_false_iff_ne.2 fun e => h ?_
  apply ByteArray.ext
  apply Array.toList_inj.1
  rw [← Lib.toList_data, e]
/-- what the second append leaves -/
structure Mv (a b from_ : ByteArray) (S : DkSt) (ec : Int) : Prop where
  code : (ec == 0) = validB from_
  ok : S.Ok
  chg : S.chg.length ≤ 2
  keep : (S.held sK).isSome = true
  keepAt : from_ ≠ sK → S.held.at sK = a.data.toList
  here : (S.held from_).isSome = validB from_
  data : from_ ≠ sK → validB from_ = true → S.held.at from_ = b.data.toList
theorem moves12 (a b x : ByteArray) (ha : a.size ≤ 1048576) (hb : b.size ≤ 1048576) : Mv a b x ((mS1 a).append x b).1 ((mS1 a).append x b).2 := by
  by_cases hv : validB x = true
  · have hvne : validB x ≠ false := by rw [hv]; decide
    rw [append_ok hv (by show ¬ mCap - (a.size : Int) < (b.size : Int); unfold mCap; omega)]
    have hheld : (DkSt.make { mS1 a with used := (mS1 a).used + b.size } (.app x b)).held = (oneF sK a.data.toList).put x ((oneF sK a.data.toList).at x ++ b.data.toList) := rfl
    refine ⟨by rw [hv]; rfl, ⟨?_, ?_, ?_⟩, ?_, ?_, ?_, ?_, ?_⟩
    · show (0 : Int) ≤ (a.size : Int) + b.size; omega
    · show (a.size : Int) + b.size ≤ mCap; unfold mCap; omega
    · show mCap ≤ _; unfold mCap; decide
    · show ([Chg.app sK a] ++ [Chg.app x b]).length ≤ 2; exact Nat.le_refl 2
    · rw [hheld]
      unfold Files.put oneF
      by_cases e : sK = x <;> simp [e]
    · intro hne
      rw [hheld]
      unfold Files.put Files.at oneF
      simp [Ne.symm hne]
    · rw [hheld, hv]
      unfold Files.put; simp
    · intro hne _
      rw [hheld]
      unfold Files.put Files.at oneF
      simp [hne]
  · have hv : validB x = false := by simpa using hv
    have hS : (mS1 a).append x b = (mS1 a, 2) := by unfold DkSt.append; rw [hv, if_pos rfl]
    rw [hS]
    have hxk : x ≠ sK := by rintro rfl; exact absurd hv (by decide)
    refine ⟨by rw [hv]; rfl, ⟨?_, ?_, ?_⟩, ?_, ?_, ?_, ?_, ?_⟩
    · show (0 : Int) ≤ (a.size : Int); omega
    · show (a.size : Int) ≤ mCap; unfold mCap; omega
    · show mCap ≤ _; unfold mCap; decide
    · show ([Chg.app sK a]).length ≤ 2; exact Nat.le_succ 1
    · show ((oneF sK a.data.toList) sK).isSome = true; rw [oneF_some]; rfl
    · intro _; exact oneF_at _ _
    · rw [hv]; show ((oneF sK a.data.toList) x).isSome = false; unfold oneF; rw [if_neg hxk]; rfl
    · intro _ h; rw [hv] at h; cases h
/-- the renaming that goes -/
structure Mr (S S3 : DkSt) (x y : ByteArray) : Prop where
  used : S3.used = S.used
  gone : (S3.held x).isSome = false
  there : (S3.held y).isSome = true
  same : S3.held.at y = S.held.at x
  from_ : (S.held x).isSome = true
  to_ : (S.held y).isSome = false
  other : ∀ z, z ≠ x → z ≠ y → S3.held z = S.held z
theorem rename_cases (S : DkSt) (x y : ByteArray) : ((S.rename x y).1 = S ∧ ((S.rename x y).2 == 0) = false) ∨ ((S.rename x y).2 = 0 ∧ Mr S (S.rename x y).1 x y) := by
  unfold DkSt.rename
  by_cases h1 : validB y = false
  · rw [if_pos h1]; exact .inl ⟨rfl, rfl⟩
  · rw [if_neg h1]
    by_cases h2 : (S.held x).isSome = false
    · rw [if_pos h2]; exact .inl ⟨rfl, rfl⟩
    · rw [if_neg h2]
      by_cases h3 : (S.held y).isSome = true
      · rw [if_pos h3]; exact .inl ⟨rfl, rfl⟩
      · rw [if_neg h3]
        have hx : (S.held x).isSome = true := by
          cases h : (S.held x).isSome
          · exact absurd h h2
          · rfl
        have hy : (S.held y).isSome = false := by
          cases h : (S.held y).isSome
          · rfl
          · exact absurd h h3
        have hne : y ≠ x := by rintro rfl; rw [hx] at hy; cases hy
        refine .inr ⟨rfl, ?_⟩
        have hheld : (S.make (.ren x y)).held = (S.held.put y (S.held.at x)).del x := rfl
        refine ⟨rfl, ?_, ?_, ?_, hx, hy, fun z h4 h5 => ?_⟩
        · rw [hheld]; unfold Files.del; simp
        · rw [hheld]; unfold Files.del Files.put; simp [hne]
        · rw [hheld]; unfold Files.del Files.put; simp [Files.at, hne]
        · rw [hheld]; unfold Files.del Files.put; simp [h4, h5]
set_option maxRecDepth 20000 in
set_option maxHeartbeats 8000000 in
theorem diskMoves_walk (W : World) (a : ByteArray) (ha : a.size ≤ 1048576) (b : ByteArray) (hb : b.size ≤ 1048576) (ca : Array Value) (p : ByteArray × ByteArray) (hp : RNames W ca.toList p) (hbk : vbulk [.string p.1, .string p.2] ≤ 1048576) :
    Calls Try.prog 5 #[.string a, .string b, .agg ca] W fun e w' => e = .returned (.bool true) ∧ Below W.heap.size W w' := by
  obtain ⟨x, y⟩ := p
  obtain ⟨he, hx, hy⟩ := hp
  dsimp only at he hx hy hbk
  obtain rfl : ca = #[.string x, .string y] := by apply Array.toList_inj.1; exact he
  have HA := Lib.hid ha
  have HB := Lib.hid hb
  have HX : Hid (x.size ≤ maxLen) := Lib.hid (by unfold maxLen; omega)
  have HY : Hid (y.size ≤ maxLen) := Lib.hid (by unfold maxLen; omega)
  have hb1 := Blk.new W [.string x, .string y] 36
  have c0 : ∀ d, ((W.alloc (.cells ([.string x, .string y] : List Value).toArray 36)).drewN d).cell? ⟨W.heap.size, 0, none⟩ = some (.string x) := fun d => hb1.cell 0
  have c1 : ∀ d, ((W.alloc (.cells ([.string x, .string y] : List Value).toArray 36)).drewN d).cell? ⟨W.heap.size, 1, none⟩ = some (.string y) := fun d => hb1.cell 1
  have HBW : Hid (∀ d, Below W.heap.size W ((W.alloc (.cells ([.string x, .string y] : List Value).toArray 36)).drewN d)) := Lib.hid fun d => below_drewN ((Below.refl _ W).alloc (Nat.le_refl _) _) d
  clear ha hb hx hy he hbk hb1
  go_enter Try.func5, Try.ntmps5
  go_upto_region 1 with (fail)
  go_quiet (fail)
  have HB0 := Lib.hid (HBW.out nq)
  clear c0 c1 HBW
  generalize (W.alloc (.cells ([.string x, .string y] : List Value).toArray 36)).drewN nq = w0 at HB0 ⊢
  go_wp2_with fail
  refine (speaks_any w0).mono ?_
  rintro _ w1 ⟨rfl, hb1⟩
  have HB1 := Lib.hid (below_then HB0.out HB0.out.size hb1)
  clear hb1
  go_wp2_with fail
  refine (new_c 1099511627776 w1).mono ?_
  intro e w2 h2
  obtain ⟨B, b0, ml, mh, rfl, hm2⟩ := My.new HB1.out h2
  have M2 : Hid (My W w2 B b0 ml mh (.slice none 0 0) [] [] mS0) := Lib.hid hm2
  clear h2 hm2 HB1 HB0
  have hc1 := append_c B b0 ml mh _ [] [] mS0 sK a w2 M2.out.at_ ⟨by decide, by decide, by decide⟩ (by have := HA.out; omega) (by decide) (by have := HA.out; show (noFiles.at sK).length + a.size ≤ _; rw [noFiles_at]; simp only [List.length_nil]; omega) (by show 0 < _; decide)
  rw [moves01 a HA.out] at hc1
  have HC1 := Lib.hid hc1
  clear hc1
  go_wp2_with fail
  refine HC1.out.mono ?_
  intro e w3 h3
  obtain ⟨rfl, cv3, Lh3, hL3, h4, h5⟩ := h3
  have M3 : Hid (My W w3 B b0 ml mh cv3 [] Lh3 (mS1 a)) := Lib.hid (M2.out.step h4 h5)
  have HL3 : Hid (Lh3.length ≤ 1) := Lib.hid hL3
  clear h4 h5 hL3 HC1 M2
  have hfit : ((mS1 a).held.at x).length + b.size ≤ 140737488355328 := by
    have h1 := HA.out
    have h2 := HB.out
    show ((oneF sK a.data.toList).at x).length + b.size ≤ _
    unfold Files.at oneF
    by_cases e : x = sK
    · rw [if_pos e]; simp only [Option.getD_some, bsize]; omega
    · rw [if_neg e]; simp only [Option.getD_none, List.length_nil]; omega
  have hc2 := append_c B b0 ml mh cv3 [] Lh3 (mS1 a) x b w3 M3.out.at_ ⟨by show (0 : Int) ≤ (a.size : Int); omega, by have := HA.out; show (a.size : Int) ≤ mCap; unfold mCap; omega, by show mCap ≤ _; decide⟩ (by have := HB.out; omega) (by have := HL3.out; unfold maxLen; omega) hfit (by show 1 < _; decide)
  have hMv := moves12 a b x HA.out HB.out
  obtain ⟨S2, hS2⟩ : ∃ S2, S2 = ((mS1 a).append x b).1 := ⟨_, rfl⟩
  obtain ⟨ec, hec⟩ : ∃ ec, ec = ((mS1 a).append x b).2 := ⟨_, rfl⟩
  rw [← hS2, ← hec] at hMv
  have HMV := Lib.hid hMv
  have HC2 := Lib.hid hc2
  have HS2 := Lib.hid hS2
  have HEC := Lib.hid hec
  clear hc2 hMv hfit hS2 hec
  go_wp2_with fail
  refine HC2.out.mono ?_
  intro e w4 h4
  obtain ⟨rfl, cv4, Lh4, hL4, h5, h6⟩ := h4
  rw [← HS2.out] at h5
  rw [← HEC.out]
  have M4 : Hid (My W w4 B b0 ml mh cv4 [] Lh4 S2) := Lib.hid (M3.out.step h5 h6)
  have HL4 : Hid (Lh4.length ≤ 2) := Lib.hid (by have := HL3.out; omega)
  clear h5 h6 hL4 HC2 M3
  have HUS := Lib.hid (used_c B b0 ml mh cv4 [] Lh4 S2 w4 M4.out.at_)
  have HRN := Lib.hid (rename_c B b0 ml mh cv4 [] Lh4 S2 x y HX.out HY.out w4 M4.out.at_ (by have := HL4.out; unfold maxLen; omega) (by have := HMV.out.chg; omega))
  have HCS := Lib.hid (rename_cases S2 x y)
  generalize hr : S2.rename x y = r at HRN HCS
  obtain ⟨S3, fc⟩ := r
  clear hr
  go_wp2_with fail
  refine HUS.out.mono ?_
  rintro _ _ ⟨rfl, rfl⟩
  go_wp2_with fail
  refine HRN.out.mono ?_
  intro e w5 h5
  obtain ⟨rfl, cv5, Lh5, hL5, h6, h7⟩ := h5
  have M5 : Hid (My W w5 B b0 ml mh cv5 [] Lh5 S3) := Lib.hid (M4.out.step h6 h7)
  clear h6 h7 hL5 HRN HUS M4
  have HRY := Lib.hid (read_c B b0 ml mh cv5 [] Lh5 S3 y HY.out w5 M5.out.at_)
  have HRX := Lib.hid (read_c B b0 ml mh cv5 [] Lh5 S3 x HX.out w5 M5.out.at_)
  have HRK := Lib.hid (read_c B b0 ml mh cv5 [] Lh5 S3 sK (by decide) w5 M5.out.at_)
  have HU3 := Lib.hid (used_c B b0 ml mh cv5 [] Lh5 S3 w5 M5.out.at_)
  dsimp only
  rcases HCS.out with ⟨hs, hfc⟩ | ⟨hfc, hm⟩
  · obtain rfl : S3 = S2 := hs
    have hfc : (fc == 0) = false := hfc
    have hfc2 : (fc != 0) = true := by simp [bne, hfc]
    rw [HMV.out.keep, if_pos rfl] at HRK
    generalize (if (S3.held y).isSome = true then (0 : Int) else 41) = gc at HRY
    by_cases hk : x = ⟨#[107, 101, 101, 112]⟩
    · have he : (ec == 0) = true := by rw [HMV.out.code, hk]; decide
      clear HMV HS2 HEC HCS HRX HU3
      subst hk
      generalize (⟨(S3.held.at sK).toArray⟩ : ByteArray) = ks at HRK
      generalize (⟨(S3.held.at y).toArray⟩ : ByteArray) = ys at HRY
      go_wp2_with fail
      refine HRY.out.mono ?_
      rintro _ _ ⟨rfl, rfl⟩
      go_wp2_with fail
      refine HRK.out.mono ?_
      rintro _ _ ⟨rfl, rfl⟩
      go_wp2
      go_ret
      exact ⟨rfl, M5.out.below⟩
    · have hk1 : (x.toList == [107, 101, 101, 112]) = false := str_ne hk
      have hk2 : (x.toList != [107, 101, 101, 112]) = true := by simp [bne, hk1]
      rw [HMV.out.keepAt hk, Array.toArray_toList] at HRK
      have hco := HMV.out.code
      cases hv : validB x with
      | true =>
        rw [hv] at hco
        have hsz : 1 ≤ x.size ∧ x.size ≤ 64 := of_decide_eq_true hv
        have s1 : decide ((1 : Int) ≤ (x.size : Int)) = true := decide_eq_true (by omega)
        have s1n : decide (1 ≤ x.size) = true := decide_eq_true hsz.1
        have s2 : decide ((x.size : Int) ≤ 64) = true := decide_eq_true (by omega)
        have s2n : decide (x.size ≤ 64) = true := decide_eq_true hsz.2
        clear HMV HS2 HEC HCS HRX HU3 hk hv hsz
        generalize (⟨(S3.held.at y).toArray⟩ : ByteArray) = ys at HRY
        go_wp2_with fail
        refine HRY.out.mono ?_
        rintro _ _ ⟨rfl, rfl⟩
        go_wp2_with fail
        refine HRK.out.mono ?_
        rintro _ _ ⟨rfl, rfl⟩
        go_wp2
        go_ret
        exact ⟨rfl, M5.out.below⟩
      | false =>
        rw [hv] at hco
        have hsz : ¬ (1 ≤ x.size ∧ x.size ≤ 64) := of_decide_eq_false hv
        by_cases h0 : x.size = 0
        · obtain rfl : x = ByteArray.empty := empty_of (by omega)
          clear HMV HS2 HEC HCS HRX HU3 hk hv hsz h0 hk1 hk2
          generalize (⟨(S3.held.at y).toArray⟩ : ByteArray) = ys at HRY
          go_wp2_with fail
          refine HRY.out.mono ?_
          rintro _ _ ⟨rfl, rfl⟩
          go_wp2_with fail
          refine HRK.out.mono ?_
          rintro _ _ ⟨rfl, rfl⟩
          go_wp2
          go_ret
          exact ⟨rfl, M5.out.below⟩
        · have s1 : decide ((1 : Int) ≤ (x.size : Int)) = true := decide_eq_true (by omega)
          have s1n : decide (1 ≤ x.size) = true := decide_eq_true (by omega)
          have s2 : decide ((x.size : Int) ≤ 64) = false := decide_eq_false (by omega)
          have s2n : decide (x.size ≤ 64) = false := decide_eq_false (by omega)
          clear HMV HS2 HEC HCS HRX HU3 hk hv hsz h0
          generalize (⟨(S3.held.at y).toArray⟩ : ByteArray) = ys at HRY
          go_wp2_with fail
          refine HRY.out.mono ?_
          rintro _ _ ⟨rfl, rfl⟩
          go_wp2_with fail
          refine HRK.out.mono ?_
          rintro _ _ ⟨rfl, rfl⟩
          go_wp2
          go_ret
          exact ⟨rfl, M5.out.below⟩
  · obtain rfl : fc = 0 := hfc
    have HM := Lib.hid hm
    have hv : validB x = true := by rw [← HMV.out.here]; exact HM.out.from_
    have hco := HMV.out.code
    rw [hv] at hco
    rw [HM.out.there, if_pos rfl] at HRY
    rw [HM.out.gone, if_neg (by decide)] at HRX
    rw [HM.out.used] at HU3
    have huu : (S2.used != S2.used) = false := by simp
    by_cases hk : x = ⟨#[107, 101, 101, 112]⟩
    · clear HMV HS2 HEC HCS HM hv
      subst hk
      generalize (⟨(S3.held.at sK).toArray⟩ : ByteArray) = ks at HRK
      generalize (⟨(S3.held.at y).toArray⟩ : ByteArray) = ys at HRY
      generalize (⟨(S3.held.at _).toArray⟩ : ByteArray) = xs at HRX
      generalize (if (S3.held sK).isSome = true then (0 : Int) else 41) = kc at HRK
      go_wp2_with fail
      refine HRY.out.mono ?_
      rintro _ _ ⟨rfl, rfl⟩
      go_wp2_with fail
      refine HRX.out.mono ?_
      rintro _ _ ⟨rfl, rfl⟩
      go_wp2_with fail
      refine HU3.out.mono ?_
      rintro _ _ ⟨rfl, rfl⟩
      go_wp2_with fail
      refine HRK.out.mono ?_
      rintro _ _ ⟨rfl, rfl⟩
      go_wp2
      go_ret
      exact ⟨rfl, M5.out.below⟩
    · have hk1 : (x.toList == [107, 101, 101, 112]) = false := str_ne hk
      have hk2 : (x.toList != [107, 101, 101, 112]) = true := by simp [bne, hk1]
      have hky : sK ≠ y := fun e => by
        have h1 := HM.out.to_
        rw [← e, HMV.out.keep] at h1
        cases h1
      have hheld : S3.held sK = S2.held sK := HM.out.other sK (fun e => hk e.symm) hky
      have hat : S3.held.at sK = S2.held.at sK := by unfold Files.at; rw [hheld]
      rw [hheld, HMV.out.keep, if_pos rfl, hat, HMV.out.keepAt hk, Array.toArray_toList] at HRK
      rw [HM.out.same, HMV.out.data hk hv, Array.toArray_toList] at HRY
      have hsz : 1 ≤ x.size ∧ x.size ≤ 64 := of_decide_eq_true hv
      have s1 : decide ((1 : Int) ≤ (x.size : Int)) = true := decide_eq_true (by omega)
      have s1n : decide (1 ≤ x.size) = true := decide_eq_true hsz.1
      have s2 : decide ((x.size : Int) ≤ 64) = true := decide_eq_true (by omega)
      have s2n : decide (x.size ≤ 64) = true := decide_eq_true hsz.2
      clear HMV HS2 HEC HCS HM hv hk hky hheld hat hsz
      generalize (⟨(S3.held.at x).toArray⟩ : ByteArray) = xs at HRX
      go_wp2_with fail
      refine HRY.out.mono ?_
      rintro _ _ ⟨rfl, rfl⟩
      go_wp2_with fail
      refine HRX.out.mono ?_
      rintro _ _ ⟨rfl, rfl⟩
      go_wp2_with fail
      refine HU3.out.mono ?_
      rintro _ _ ⟨rfl, rfl⟩
      go_wp2_with fail
      refine HRK.out.mono ?_
      rintro _ _ ⟨rfl, rfl⟩
      go_wp2
      go_ret
      exact ⟨rfl, M5.out.below⟩
end Go.Proofs.Ytdkjehjiacmppaa
