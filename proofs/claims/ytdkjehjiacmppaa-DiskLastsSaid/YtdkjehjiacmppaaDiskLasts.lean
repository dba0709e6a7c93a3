/- DiskLasts: what was synced outlasts every crash: the walk. -/
import Derived.Test.YtdkjehjiacmppaaDiskFull
import Derived.Test.YtdkjehjiacmppaaMake
import Derived.Test.YtdkjehjiacmppaaArr
namespace Go.Proofs.Ytdkjehjiacmppaa
open Go.RowKit Go.Maps
set_option linter.unusedVariables false
set_option linter.unusedSimpArgs false
def RPair (_ : World) (cs : List Value) (p : Int × Int) : Prop := cs = [.int .i64 p.1, .int .i64 p.2] ∧ True
theorem opens_pair (w : World) : Opens Try.prog w 23 RPair (fun p => vbulk [.int .i64 p.1, .int .i64 p.2]) :=
  opens_flat (n := 4) (ks := [.int .i64, .int .i64]) (by kernel_rfl) (fun p : Int × Int => [.int .i64 p.1, .int .i64 p.2]) (fun _ => True) fun cs h => by
    obtain ⟨a, d1, rfl, _, _, h1⟩ := h.i64_inv
    obtain ⟨b, d2, rfl, _, _, h2⟩ := h1.i64_inv
    obtain rfl := h2.nil_inv
    exact ⟨(a, b), rfl, trivial⟩
theorem opens_more (w : World) : Opens Try.prog w 22 RStrs (bulkL fun x => vbulk [.string x]) := opens_strs Try.underlying22 (by kernel_rfl) (by kernel_rfl) (by kernel_rfl) w
def sF : ByteArray := ⟨#[102]⟩
def lCap : Int := 1099511627776
def allB (l : List ByteArray) : List UInt8 := l.flatMap fun x => x.data.toList
theorem allB_snoc (l : List ByteArray) (x : ByteArray) : allB (l ++ [x]) = allB l ++ x.data.toList := by simp [allB]
noncomputable def lS0 : DkSt := ⟨lCap, 0, noFiles, noFiles, []⟩
noncomputable def lS1 (s : ByteArray) : DkSt := ⟨lCap, s.size, noFiles, oneF sF s.data.toList, [.app sF s]⟩
/-- synced, and these appended behind -/
noncomputable def lS (s : ByteArray) (ms : List ByteArray) : DkSt := ⟨lCap, (s.size : Int) + (allB ms).length, oneF sF s.data.toList, oneF sF (s.data.toList ++ allB ms), ms.map (Chg.app sF)⟩
/-- behind a crash -/
noncomputable def lS2 (s : ByteArray) (p : List UInt8) : DkSt := ⟨lCap, (s.size : Int) + p.length, oneF sF (s.data.toList ++ p), oneF sF (s.data.toList ++ p), []⟩
theorem lasts01 (s : ByteArray) (h : (s.size : Int) ≤ lCap) : lS0.append sF s = (lS1 s, 0) := by
  rw [append_ok (by decide) (by show ¬ lCap - 0 < (s.size : Int); omega)]
  unfold DkSt.make lS0 lS1 Chg.do
  simp only [noFiles_put, noFiles_at, List.nil_append, Int.zero_add]
theorem lasts1_last (s : ByteArray) : crashLast (lS1 s) (lS1 s).chg.length 0 = oneF sF s.data.toList := by
  show (noFiles.put sF (noFiles.at sF ++ s.data.toList)) = _
  rw [noFiles_put, noFiles_at]
  rfl
theorem lasts12 (s : ByteArray) : (lS1 s).sync = lS s [] := by
  unfold DkSt.sync DkSt.crash DkSt.crashed
  rw [lasts1_last, oneF_total, bsize]
  unfold lS lS1
  simp [allB]
theorem lastsNext (s : ByteArray) (ms : List ByteArray) (x : ByteArray) (h : ¬ lCap - ((s.size : Int) + (allB ms).length) < x.size) : (lS s ms).append sF x = (lS s (ms ++ [x]), 0) := by
  rw [append_ok (by decide) h]
  unfold DkSt.make lS Chg.do
  simp only [oneF_put, oneF_at, allB_snoc, List.map_append, List.map_cons, List.map_nil, List.length_append, bsize, List.append_assoc]
  congr 2
  omega
theorem lastsDo (s : ByteArray) (ms : List ByteArray) (p : List UInt8) : doAll (ms.map (Chg.app sF)) (oneF sF p) = oneF sF (p ++ allB ms) := by
  induction ms generalizing p with
  | nil => simp [doAll, allB]
  | cons x ms ih =>
    show doAll (ms.map (Chg.app sF)) ((oneF sF p).put sF ((oneF sF p).at sF ++ x.data.toList)) = _
    rw [oneF_put, oneF_at, ih]
    simp [allB]
theorem allB_pre (ms : List ByteArray) (k : Nat) : (allB (ms.take k)) <+: allB ms := by
  refine ⟨allB (ms.drop k), ?_⟩
  unfold allB
  rw [← List.flatMap_append, List.take_append_drop]
theorem allB_pre2 (ms : List ByteArray) (k : Nat) (x : ByteArray) (hx : ms[k]? = some x) (m : Nat) : (allB (ms.take k) ++ x.data.toList.take m) <+: allB ms := by
  have h1 := allB_pre ms (k + 1)
  rw [List.take_add_one, hx] at h1
  refine List.IsPrefix.trans ?_ h1
  show _ <+: allB (ms.take k ++ [x])
  rw [allB_snoc]
  exact (List.prefix_append_right_inj _).2 (List.take_prefix _ _)
/-- of what was appended a beginning is left -/
theorem lastsCrash (s : ByteArray) (ms : List ByteArray) (a b : Int) : ∃ p, p <+: allB ms ∧ crashLast (lS s ms) a b = oneF sF (s.data.toList ++ p) := by
  unfold crashLast
  generalize kept (lS s ms) a = k
  have hdo : doAll ((lS s ms).chg.take k) (lS s ms).last = oneF sF (s.data.toList ++ allB (ms.take k)) := by
    show doAll ((ms.map (Chg.app sF)).take k) (oneF sF s.data.toList) = _
    rw [← List.map_take, lastsDo s]
  rw [hdo]
  have hc : (lS s ms).chg[k]? = (ms[k]?).map (Chg.app sF) := List.getElem?_map
  rw [hc]
  cases hk : ms[k]? with
  | none => exact ⟨_, allB_pre ms k, rfl⟩
  | some x =>
    show ∃ p, p <+: allB ms ∧ (if 0 < b then _ else _) = _
    by_cases hb : 0 < b
    · refine ⟨allB (ms.take k) ++ cutB x b, allB_pre2 ms k x hk _, ?_⟩
      rw [if_pos hb, oneF_put, oneF_at, List.append_assoc]
    · exact ⟨_, allB_pre ms k, by rw [if_neg hb]⟩
theorem lastsCrash2 (s : ByteArray) (ms : List ByteArray) (a b : Int) (p : List UInt8) (h : crashLast (lS s ms) a b = oneF sF (s.data.toList ++ p)) : (lS s ms).crash a b = lS2 s p := by
  unfold DkSt.crash DkSt.crashed
  rw [h, oneF_total, List.length_append, bsize]
  unfold lS lS2
  simp
theorem lasts2_last (s : ByteArray) (p : List UInt8) : crashLast (lS2 s p) 0 5 = oneF sF (s.data.toList ++ p) := rfl
theorem lasts23 (s : ByteArray) (p : List UInt8) : (lS2 s p).crash 0 5 = lS2 s p := by
  unfold DkSt.crash DkSt.crashed
  rw [lasts2_last, oneF_total, List.length_append, bsize]
  unfold lS2
  simp
theorem ext_list (d : ByteArray) (a b : Nat) : (d.extract a b).data.toList = (d.data.toList.drop a).take (b - a) := by
  simp [Array.toList_extract, List.extract_eq_take_drop]
theorem cut_front (sv s : ByteArray) (pre : List UInt8) (h : sv.data.toList = s.data.toList ++ pre) : sv.extract 0 s.size = s := by
  apply ByteArray.ext
  apply Array.toList_inj.1
  rw [ext_list, h, ← bsize s, List.drop_zero, Nat.sub_zero]
  exact List.take_left
theorem cut_back (sv s : ByteArray) (pre : List UInt8) (h : sv.data.toList = s.data.toList ++ pre) : (sv.extract s.size sv.size).data.toList = pre := by
  rw [ext_list, ← bsize sv, h, ← bsize s, List.drop_left, List.length_append, Nat.add_sub_cancel_left]
  exact List.take_length
theorem cut_pre (al rest : ByteArray) (h : rest.data.toList <+: al.data.toList) : al.extract 0 rest.size = rest := by
  apply ByteArray.ext
  apply Array.toList_inj.1
  rw [ext_list, ← bsize rest, List.drop_zero, Nat.sub_zero]
  exact (List.prefix_iff_eq_take.1 h).symm
theorem lS_fit (s : ByteArray) (ms : List ByteArray) (x : ByteArray) (h : (s.size : Int) + (allB ms).length ≤ lCap) (hx : x.size ≤ 140737488351232 - lCap.toNat) : ((lS s ms).held.at sF).length + x.size ≤ 140737488355328 := by
  show ((oneF sF (s.data.toList ++ allB ms)).at sF).length + x.size ≤ _
  rw [oneF_at, List.length_append, bsize]
  unfold lCap at *
  omega
set_option maxRecDepth 20000 in
set_option maxHeartbeats 8000000 in
theorem diskLasts_walk (W : World) (s : ByteArray) (hs : s.size ≤ 140737488351232) (ma : Option Addr) (n mc : Nat) (ms : List ByteArray) (hm : RStrs W [.slice ma n mc] ms) (ca : Array Value) (p : Int × Int) (hp : RPair W ca.toList p) :
    Calls Try.prog 3 #[.string s, .slice ma n mc, .agg ca] W fun e w' => e = .returned (.bool true) ∧ Below W.heap.size W w' := by
  obtain ⟨x, y⟩ := p
  obtain ⟨he, _⟩ := hp
  dsimp only at he
  obtain rfl : ca = #[.int .i64 x, .int .i64 y] := by apply Array.toList_inj.1; exact he
  obtain ⟨hn, hnc, hcb, hcm, hel⟩ := rsl_get hm
  have HEL := Lib.hid hel
  have HBN : Hid (n * 16 ≤ 140737488351232) := Lib.hid (by omega)
  have HNC : Hid (ms.length = n) := Lib.hid hn
  have HS := Lib.hid hs
  have hb1 := Blk.new W [.int .i64 x, .int .i64 y] 23
  have HBX := Lib.hid hb1
  have HLX : Hid (Below W.heap.size W (W.alloc (.cells ([.int .i64 x, .int .i64 y] : List Value).toArray 23))) := Lib.hid ((Below.refl _ W).alloc (Nat.le_refl _) _)
  have HSX : Hid ((W.alloc (.cells ([.int .i64 x, .int .i64 y] : List Value).toArray 23)).heap.size = W.heap.size + 1) := Lib.hid (by simp)
  clear hm hn hnc hcb hcm hel hs he hb1
  go_enter Try.func3, Try.ntmps3
  go_upto_region 1 with (fail)
  have HEL2 : Hid (∀ (j : Nat) (z : ByteArray), ms[j]? = some z → ∃ b off, ma = some ⟨b, off, none⟩ ∧ b < (W.alloc (.cells ([.int .i64 x, .int .i64 y] : List Value).toArray 23)).heap.size ∧ z.size ≤ 140737488351232 ∧ (W.alloc (.cells ([.int .i64 x, .int .i64 y] : List Value).toArray 23)).cell? ⟨b, off + j, none⟩ = some (.string z)) := Lib.hid fun j z hz => by
    obtain ⟨b, off, h1, h2, h3, h4⟩ := HEL.out j z hz
    have := h4 0 (.string z) rfl
    rw [Nat.mul_one, Nat.add_zero] at this
    exact ⟨b, off, h1, by rw [HSX.out]; omega, h3, (World.cell?_of_block (HLX.out.block b h2)).trans this⟩
  change Code.wp _ _ _ _ (W.alloc (.cells ([.int .i64 x, .int .i64 y] : List Value).toArray 23))
  clear HEL
  generalize hW1 : W.alloc (.cells ([.int .i64 x, .int .i64 y] : List Value).toArray 23) = W1 at HBX HLX HSX HEL2 ⊢
  clear hW1
  have HBLT : Hid (W.heap.size < W1.heap.size) := Lib.hid (by have := HSX.out; omega)
  have HEND : Hid (∀ wq, Below W1.heap.size W1 wq → Below W.heap.size W wq) := Lib.hid fun wq h => below_then HLX.out HLX.out.size h
  clear HLX HSX
  generalize W.heap.size = bx at HBX HBLT ⊢
  go_wp2_with fail
  refine (speaks_any W1).mono ?_
  rintro _ w1 ⟨rfl, hb⟩
  have HB := Lib.hid hb
  clear hb
  go_wp2_with fail
  refine (new_c 1099511627776 w1).mono ?_
  intro e w2 h2
  obtain ⟨B, b0, ml, mh, rfl, hm2⟩ := My.new HB.out h2
  have M2 : Hid (My W1 w2 B b0 ml mh (.slice none 0 0) [] [] lS0) := Lib.hid hm2
  clear h2 hm2 HB
  have hc1 := append_c B b0 ml mh _ [] [] lS0 sF s w2 M2.out.at_ ⟨by decide, by decide, by decide⟩ (by have := HS.out; omega) (by decide) (by have := HS.out; show (noFiles.at sF).length + s.size ≤ _; rw [noFiles_at]; simp only [List.length_nil]; omega) (by show 0 < _; decide)
  by_cases hsz : (s.size : Int) ≤ lCap
  · rw [lasts01 s hsz] at hc1
    have HC1 := Lib.hid hc1
    have HSZ : Hid (s.size ≤ 1099511627776) := Lib.hid (by unfold lCap at hsz; omega)
    clear hc1 hsz
    go_wp2_with fail
    refine HC1.out.mono ?_
    intro e w3 h3
    obtain ⟨rfl, cv3, Lh3, hL3, h4, h5⟩ := h3
    have M3 : Hid (My W1 w3 B b0 ml mh cv3 [] Lh3 (lS1 s)) := Lib.hid (M2.out.step h4 h5)
    clear h4 h5 hL3 HC1 M2
    have hsy := sync_c B b0 ml mh cv3 [] Lh3 (lS1 s) w3 M3.out.at_ (by show 0 + 1 + 1 < _; decide) (by show 1 < _; decide) (fun i c hc => by
      cases i with
      | zero => cases hc; have := HS.out; show (noFiles.at sF).length + s.size ≤ _; rw [noFiles_at]; simp only [List.length_nil]; omega
      | succ i => cases hc) (by rw [lasts1_last]; exact oneF_small _ _ (by rw [bsize]; have := HSZ.out; omega))
    rw [lasts12] at hsy
    have HSY := Lib.hid hsy
    clear hsy
    go_wp2_with fail
    refine HSY.out.mono ?_
    intro e w4 h4
    obtain ⟨rfl, mh4, cv4, Ll4, hL4, h5, h6⟩ := h4
    have M4 : Hid (My W1 w4 B b0 ml mh4 cv4 Ll4 Ll4 (lS s [])) := Lib.hid (M3.out.step h5 h6)
    have HL4 : Hid (Ll4.length ≤ 2) := Lib.hid hL4
    clear h5 h6 hL4 HSY M3
    go_wp2_with fail
    go_loopg [8, 9] n (fun g v8 v9 wr => ∃ (k : Nat) (al : ByteArray) (cv : Value) (Lh : List ByteArray), v9 = .int .i64 (k : Int) ∧ v8 = .string al ∧ k + g = n ∧ Hid (al.data.toList = allB (ms.take k)) ∧ Hid ((s.size : Int) + (allB (ms.take k)).length ≤ lCap) ∧ Hid (Lh.length ≤ 2 + k) ∧ Hid (My W1 wr B b0 ml mh4 cv Ll4 Lh (lS s (ms.take k))))
    case atStart => exact ⟨0, ⟨#[]⟩, cv4, Ll4, rfl, rfl, by omega, Lib.hid (by simp [allB]), Lib.hid (by have := HSZ.out; simp [allB, lCap]; omega), Lib.hid HL4.out, by simpa using M4⟩
    case round =>
      obtain ⟨k, al, cv, Lh, rfl, rfl, hk, HAL, HTL, HLH, MM⟩ := hrel
      have HK := Lib.hid hk
      clear M4
      by_cases hlt : k < n
      · have t1 : decide ((k : Int) < (n : Int)) = true := decide_eq_true (by omega)
        have t1n : decide (k < n) = true := decide_eq_true hlt
        have HLT := Lib.hid hlt
        obtain ⟨z, hz⟩ : ∃ z, ms[k]? = some z := ⟨ms[k]'(by rw [HNC.out]; exact hlt), List.getElem?_eq_getElem _⟩
        obtain ⟨b, off, rfl, hbW, hzw, hcell⟩ := HEL2.out k z hz
        have HCE := Lib.hid (And.intro hbW hcell)
        have d0 : World.cell? _ ⟨b, off + k, none⟩ = some (.string z) := (World.cell?_of_block (MM.out.below.block b hbW)).trans hcell
        have ka : ((k : Int)).toNat = k := by omega
        have kp : (0 : Int) ≤ (k : Int) := by omega
        have kz : (k : Int) < (n : Int) := by omega
        have HTK : Hid (ms.take (k + 1) = ms.take k ++ [z]) := Lib.hid (by rw [List.take_add_one, hz]; rfl)
        have htl := HTL.out
        have hcc := append_c2 B b0 ml mh4 cv Ll4 Lh (lS s (ms.take k)) sF z _ MM.out.at_ ⟨by show (0 : Int) ≤ (s.size : Int) + _; omega, htl, by show lCap ≤ _; decide⟩ (by omega) (by have := HLH.out; have := HBN.out; unfold maxLen; omega) (fun hnf => by
          have hnf : ¬ lCap - ((s.size : Int) + (allB (ms.take k)).length) < (z.size : Int) := hnf
          show ((oneF sF (s.data.toList ++ allB (ms.take k))).at sF).length + z.size ≤ _
          rw [oneF_at, List.length_append, bsize]
          unfold lCap at *
          omega) (by show ((ms.take k).map (Chg.app sF)).length < _; rw [List.length_map, List.length_take]; have := HBN.out; omega)
        clear hcell hbW hz htl
        by_cases hfu : lCap - ((s.size : Int) + (allB (ms.take k)).length) < (z.size : Int)
        · rw [append_full (by decide) hfu] at hcc
          have HCC := Lib.hid hcc
          clear hcc hfu
          go_wp2_with fail
          refine HCC.out.mono ?_
          intro e w5 h5
          obtain ⟨rfl, cv5, Lh5, hL5, h6, h7⟩ := h5
          have M5 := Lib.hid (MM.out.step h6 h7)
          clear h6 h7 hL5 HCC
          go_wp2
          go_ret
          exact ⟨rfl, HEND.out _ M5.out.below⟩
        · rw [lastsNext s (ms.take k) z hfu] at hcc
          have HCC := Lib.hid hcc
          have HTL2 : Hid ((s.size : Int) + (allB (ms.take (k + 1))).length ≤ lCap) := Lib.hid (by rw [HTK.out, allB_snoc, List.length_append, bsize]; omega)
          have HAL2 : Hid ((al ++ z).data.toList = allB (ms.take (k + 1))) := Lib.hid (by rw [HTK.out, allB_snoc, ← HAL.out]; simp)
          clear hcc hfu
          go_wp2_with fail
          refine HCC.out.mono ?_
          intro e w5 h5
          obtain ⟨rfl, cv5, Lh5, hL5, h6, h7⟩ := h5
          have M5 : Hid (My W1 w5 B b0 ml mh4 cv5 Ll4 Lh5 (lS s (ms.take k ++ [z]))) := Lib.hid (MM.out.step h6 h7)
          have HL5 := Lib.hid hL5
          have d5 : w5.cell? ⟨b, off + k, none⟩ = some (.string z) := (World.cell?_of_block (M5.out.below.block b HCE.out.1)).trans HCE.out.2
          have kw : k + 1 < 35184372087808 := by have := HBN.out; have := HLT.out; omega
          have kcc : al.size + z.size ≤ 9223372036854775807 := by
            have h1 : al.size = (allB (ms.take k)).length := by rw [← HAL.out, bsize]
            have h2 := HTL.out
            unfold lCap at h2
            omega
          clear h6 h7 hL5 HCC d0
          go_wp2_with fail
          clear kw d5 kcc
          go_roundg (n - (k + 1))
          case measure => have := HK.out; have := HLT.out; omega
          case rel => exact ⟨k + 1, al ++ z, cv5, Lh5, by first | rfl | go_num, rfl, by have := HK.out; have := HLT.out; omega, HAL2, HTL2, Lib.hid (by have := HL5.out; have := HLH.out; omega), by rw [HTK.out]; exact M5⟩
      · have t1 : decide ((k : Int) < (n : Int)) = false := decide_eq_false (by omega)
        have t1n : decide (k < n) = false := decide_eq_false hlt
        obtain rfl : k = n := by omega
        have hmk : ms.take k = ms := List.take_of_length_le (by rw [HNC.out]; exact Nat.le_refl _)
        rw [hmk] at HAL HTL MM
        obtain ⟨pre, hpre, hcl⟩ := lastsCrash s ms x y
        have hpl := hpre.length_le
        have htl := HTL.out
        have hsm : ((s.data.toList ++ pre).length : Int) ≤ 4611686018427387904 := by rw [List.length_append, bsize]; unfold lCap at htl; omega
        have hcr := crash_c B b0 ml mh4 cv Ll4 Lh (lS s ms) x y _ MM.out.at_ (by have := HL4.out; have := HBN.out; show Ll4.length + (ms.map (Chg.app sF)).length + 1 < _; rw [List.length_map, HNC.out]; unfold maxLen; omega) (by show (ms.map (Chg.app sF)).length < _; rw [List.length_map, HNC.out]; have := HBN.out; omega) (fun i c hc => by
          have hc : (ms.map (Chg.app sF))[i]? = some c := hc
          rw [List.getElem?_map] at hc
          obtain ⟨z, hz, rfl⟩ := Option.map_eq_some_iff.1 hc
          show ((doAll ((ms.map (Chg.app sF)).take i) (oneF sF s.data.toList)).at sF).length + z.size ≤ _
          rw [← List.map_take, lastsDo s, oneF_at, List.length_append, bsize]
          have h1 := (allB_pre ms (i + 1)).length_le
          rw [List.take_add_one, hz] at h1
          have h2 : (allB (ms.take i ++ [z])).length ≤ (allB ms).length := h1
          rw [allB_snoc, List.length_append, bsize] at h2
          unfold lCap at htl
          omega) (by rw [hcl]; exact oneF_small _ _ hsm)
        rw [lastsCrash2 s ms x y pre hcl] at hcr
        have HCR := Lib.hid hcr
        have HPR := Lib.hid hpre
        have HSM := Lib.hid hsm
        have HCL : Hid ((ms.map (Chg.app sF)).length ≤ k) := Lib.hid (by rw [List.length_map, HNC.out]; exact Nat.le_refl _)
        clear hcr hcl hpre hsm hpl htl hmk hlt HK hk
        have c0 : World.cell? _ ⟨bx, 0, none⟩ = some (.int .i64 x) := (World.cell?_of_block (MM.out.below.block bx HBLT.out)).trans (HBX.out.cell 0)
        have c1 : World.cell? _ ⟨bx, 1, none⟩ = some (.int .i64 y) := (World.cell?_of_block (MM.out.below.block bx HBLT.out)).trans (HBX.out.cell 1)
        go_wp2_with fail
        refine HCR.out.mono ?_
        intro e w5 h5
        obtain ⟨rfl, mh5, cv5, Ll5, hL5, h6, h7⟩ := h5
        have M5 : Hid (My W1 w5 B b0 ml mh5 cv5 Ll5 Ll5 (lS2 s pre)) := Lib.hid (MM.out.step h6 h7)
        have HL5 : Hid (Ll5.length + 2 < maxLen) := Lib.hid (by
          have := HL4.out
          have := HBN.out
          have := HCL.out
          have h8 : Ll5.length ≤ Ll4.length + (ms.map (Chg.app sF)).length + 1 := hL5
          unfold maxLen; omega)
        clear h6 h7 hL5 HCR MM c0 c1
        have hrd := read_c B b0 ml mh5 cv5 Ll5 Ll5 (lS2 s pre) sF (by decide) w5 M5.out.at_
        rw [show (lS2 s pre).held.at sF = s.data.toList ++ pre from oneF_at _ _, show ((lS2 s pre).held sF).isSome = true from by show (oneF sF (s.data.toList ++ pre) sF).isSome = true; rw [oneF_some]; rfl, if_pos rfl] at hrd
        have hpe := pending_c B b0 ml mh5 cv5 Ll5 Ll5 (lS2 s pre) w5 M5.out.at_
        rw [show (((lS2 s pre).chg.length : Nat) : Int) = 0 from rfl] at hpe
        have hcr2 := crash_c B b0 ml mh5 cv5 Ll5 Ll5 (lS2 s pre) 0 5 w5 M5.out.at_ (by have := HL5.out; show Ll5.length + 0 + 1 < _; omega) (by show 0 < _; decide) (fun i c hc => by cases hc) (by rw [lasts2_last]; exact oneF_small _ _ HSM.out)
        rw [lasts23] at hcr2
        have HRD := Lib.hid hrd
        have HPE := Lib.hid hpe
        have HCR2 := Lib.hid hcr2
        clear hrd hpe hcr2
        obtain ⟨sv, hsv⟩ : ∃ sv : ByteArray, sv = ⟨(s.data.toList ++ pre).toArray⟩ := ⟨_, rfl⟩
        rw [← hsv] at HRD
        have hsvl : sv.data.toList = s.data.toList ++ pre := by rw [hsv]
        have hsvs : sv.size = s.size + pre.length := by rw [← bsize sv, hsvl, List.length_append, bsize]
        have e1 : sv.extract 0 s.size = s := cut_front sv s pre hsvl
        obtain ⟨rest, hrest⟩ : ∃ rest, rest = sv.extract s.size sv.size := ⟨_, rfl⟩
        have hrl : rest.data.toList = pre := by rw [hrest]; exact cut_back sv s pre hsvl
        have hrs : rest.size = pre.length := by rw [← bsize, hrl]
        have hpl := HPR.out.length_le
        have hals : al.size = (allB ms).length := by rw [← bsize, HAL.out]
        have e3 : al.extract 0 rest.size = rest := cut_pre al rest (by rw [hrl, HAL.out]; exact HPR.out)
        have HE := Lib.hid (And.intro e1 (And.intro hrest.symm e3))
        have HSZS := Lib.hid (And.intro hsvs (And.intro hrs (And.intro hpl hals)))
        have HRS : Hid ((lS2 s pre).used = (sv.size : Int)) := Lib.hid (by rw [hsvs]; show (s.size : Int) + pre.length = _; omega)
        have HSV := Lib.hid hsv
        clear hsv hsvl hsvs hrest hrl hrs hpl hals e1 e3
        go_wp2_with fail
        refine HRD.out.mono ?_
        rintro _ _ ⟨rfl, rfl⟩
        have q1 : decide ((sv.size : Int) < (s.size : Int)) = false := decide_eq_false (by have := HSZS.out; omega)
        have q1n : decide (sv.size < s.size) = false := decide_eq_false (by have := HSZS.out; omega)
        have q2 : (s.size : Int) ≤ (sv.size : Int) := by have := HSZS.out; omega
        have q3 : (0 : Int) ≤ (s.size : Int) := by omega
        have q4 : ((s.size : Int)).toNat = s.size := by omega
        have e1 := HE.out.1
        have e2 := HE.out.2.1
        go_wp2_with fail
        refine HPE.out.mono ?_
        rintro _ _ ⟨rfl, rfl⟩
        go_wp2_with fail
        refine HCR2.out.mono ?_
        intro e w6 h6
        obtain ⟨rfl, mh6, cv6, Ll6, hL6, h7, h8⟩ := h6
        have M6 : Hid (My W1 w6 B b0 ml mh6 cv6 Ll6 Ll6 (lS2 s pre)) := Lib.hid (M5.out.step h7 h8)
        clear h7 h8 hL6 HCR2 M5
        have hrd := read_c B b0 ml mh6 cv6 Ll6 Ll6 (lS2 s pre) sF (by decide) w6 M6.out.at_
        rw [show (lS2 s pre).held.at sF = s.data.toList ++ pre from oneF_at _ _, show ((lS2 s pre).held sF).isSome = true from by show (oneF sF (s.data.toList ++ pre) sF).isSome = true; rw [oneF_some]; rfl, if_pos rfl] at hrd
        have hus := used_c B b0 ml mh6 cv6 Ll6 Ll6 (lS2 s pre) w6 M6.out.at_
        rw [HRS.out] at hus
        rw [← HSV.out] at hrd
        have HRD2 := Lib.hid hrd
        have HUS := Lib.hid hus
        have q5 : (rest.size : Int) ≤ (al.size : Int) := by have := HSZS.out; omega
        have q6 : (0 : Int) ≤ (rest.size : Int) := by omega
        have q7 : ((rest.size : Int)).toNat = rest.size := by omega
        have q8 : decide ((rest.size : Int) ≤ (al.size : Int)) = true := decide_eq_true q5
        have q8n : decide (rest.size ≤ al.size) = true := decide_eq_true (by omega)
        have e3 := HE.out.2.2
        clear hrd hus
        go_wp2_with fail
        refine HRD2.out.mono ?_
        rintro _ _ ⟨rfl, rfl⟩
        go_wp2_with fail
        refine HUS.out.mono ?_
        rintro _ _ ⟨rfl, rfl⟩
        go_wp2
        go_ret
        exact ⟨rfl, HEND.out _ M6.out.below⟩
  · rw [show lS0.append sF s = (lS0, 40) from append_full (by decide) (by show lCap - 0 < (s.size : Int); omega)] at hc1
    have HC1 := Lib.hid hc1
    have q1 : decide ((1073741824 : Int) < (s.size : Int)) = true := decide_eq_true (by unfold lCap at hsz; omega)
    have q1n : decide (1073741824 < s.size) = true := decide_eq_true (by unfold lCap at hsz; omega)
    clear hc1 hsz
    go_wp2_with fail
    refine HC1.out.mono ?_
    intro e w3 h3
    obtain ⟨rfl, cv3, Lh3, hL3, h4, h5⟩ := h3
    have M3 := Lib.hid (M2.out.step h4 h5)
    clear h4 h5 hL3 HC1 M2
    go_wp2
    go_ret
    exact ⟨rfl, HEND.out _ M3.out.below⟩
end Go.Proofs.Ytdkjehjiacmppaa
