/- SplitsAll: the records of all splits are all lines, each once, in order, whatever the splits' size. -/
import Derived.Test.YtmjmfjgigkiajaaSplitsRecords
import Derived.Test.YtmjmfjgigkiajaaPAll
import Derived.Test.YtmjmfjgigkiajaaSplEven
import Derived.Test.YtmjmfjgigkiajaaMake
namespace Go.Proofs.Ytmjmfjgigkiajaa
open Go.RowKit
set_option linter.unusedVariables false
set_option linter.unusedSimpArgs false
theorem opens_lines (w : World) : Opens Try.prog w 32 RStrs (bulkL fun x => vbulk [.string x]) := opens_strs (e := 9) Try.underlying32 (by kernel_rfl) (by kernel_rfl) (by kernel_rfl) w
theorem bulk_strs (xs : List ByteArray) : bulkL (fun x : ByteArray => vbulk [.string x]) xs = ((xs.map (·.data.toList)).map fun l => l.length + 1).sum + 1 := by
  unfold bulkL
  congr 1
  induction xs with
  | nil => rfl
  | cons x xs ih =>
    rw [List.map_cons, List.sum_cons, ih, List.map_cons, List.map_cons, List.sum_cons]
    congr 1
theorem mem_sum : ∀ {T : List (List UInt8)} {l : List UInt8}, l ∈ T → l.length + 1 ≤ (T.map fun l => l.length + 1).sum
  | x :: T, l, h => by
    rw [List.map_cons, List.sum_cons]
    rcases List.mem_cons.1 h with rfl | h
    · omega
    · have := mem_sum h; omega
theorem take_sum : ∀ (T : List (List UInt8)) (i : Nat), ((T.take i).map fun l => l.length + 1).sum ≤ (T.map fun l => l.length + 1).sum
  | [], i => by simp
  | x :: T, 0 => by simp
  | x :: T, i + 1 => by
    have := take_sum T i
    simp only [List.take_succ_cons, List.map_cons, List.sum_cons]
    omega
theorem str_of {s : ByteArray} {l : List UInt8} (h : s.data.toList = l) : (⟨l.toArray⟩ : ByteArray) = s := by
  subst h
  apply ByteArray.ext
  simp
/-- all that is wanted of Plan, in one word -/
theorem plan_pack (size : Nat) (want : Int) (h0 : 1 ≤ size) (h40 : size ≤ 1099511627776) (hw1 : -9223372036854775808 ≤ want) (hw2 : want ≤ 9223372036854775807) :
    ∃ (wd m : Nat) (scs : List Value), 0 < m ∧ m ≤ 256 ∧ (∀ k, k < m → k * wd ≤ Spl.to size wd k ∧ Spl.to size wd k ≤ size ∧ (k + 1 < m → Spl.to size wd k = (k + 1) * wd) ∧ (k + 1 = m → Spl.to size wd k = size)) ∧
      (∀ k, k < m → scs[k * 2]? = some (.int .i64 ((k * wd : Nat) : Int)) ∧ scs[k * 2 + 1]? = some (.int .i64 ((Spl.to size wd k : Nat) : Int))) ∧
      ∀ w, Calls Try.prog 8 #[.int .i64 size, .int .i64 want] w (RetRow w.heap.size 28 2 m scs w) := by
  refine ⟨Spl.wide size want, Spl.count size (Spl.wide size want), splitCells size (Spl.wide size want) (Spl.count size (Spl.wide size want)), Spl.count_pos _ _, Spl.count_le want h0, fun k hk => ?_, fun k hk => ?_, fun w => plan_any size want h0 h40 hw1 hw2 w⟩
  · have h := spl_facts h0 (Spl.wide_pos size want) (Eq.refl (Spl.count size (Spl.wide size want))) k hk
    exact ⟨by have := h.1; omega, h.2.1, h.2.2.2.2.1, h.2.2.2.2.2.1⟩
  · rw [Nat.mul_comm]; exact splitCells_get size _ _ k hk
set_option maxRecDepth 20000 in
set_option maxHeartbeats 4000000 in
theorem splitsAll_walk (W : World) (A : Option Addr) (n c : Nat) (ls : List ByteArray) (hx : RStrs W [.slice A n c] ls) (hbk : bulkL (fun x : ByteArray => vbulk [.string x]) ls ≤ 1048576) (want : Int) (wf : (Lit.int .i64 want).wf = true) (op : Bool) :
    Calls Try.prog 6 #[.slice A n c, .int .i64 want, .bool op] W fun e w' => e = .returned (.bool true) ∧ Below W.heap.size W w' := by
  obtain ⟨hw1, hw2⟩ := i64_of_wf wf
  obtain ⟨hln, hcb, hwf, hV⟩ := vw_rsl1 hx
  have HWF := Lib.hid hwf
  clear hwf
  rw [bulk_strs] at hbk
  have hT : (ls.map (·.data.toList)).length = n := by rw [List.length_map]; exact hln
  obtain ⟨T, hTd⟩ : ∃ T, T = ls.map (·.data.toList) := ⟨_, rfl⟩
  rw [← hTd] at hT hbk
  have HTL := Lib.hid hT
  have hn : n ≤ 1048576 := by
    have := (Ln.joined_len n op T 0)
    omega
  have HTD : Hid (∀ (i : Nat) (x : ByteArray), ls[i]? = some x → T[i]? = some x.data.toList) := Lib.hid (fun i x h => by rw [hTd, List.getElem?_map, h]; rfl)
  have HBK := Lib.hid hbk
  have HV := Lib.hid hV
  have HLN := Lib.hid hln
  have HW1 := Lib.hid hw1
  have HW2 := Lib.hid hw2
  clear hx hbk hV hT hTd hln hw1 hw2 wf hcb
  go_enter Try.func6, Try.ntmps6
  go_wp2_with fail
  refine (splSpeaks_any W).mono ?_
  rintro e w0 ⟨rfl, hB0⟩
  have B0 := Lib.hid hB0
  have V0 := Lib.hid (HV.out.below hB0 (Nat.le_refl _))
  clear hB0
  go_wp2
  go_loopg [7, 8] n (fun g v7 v8 wr => ∃ (i : Nat) (d : ByteArray), v7 = .string d ∧ v8 = .int .i64 i ∧ i ≤ n ∧ n ≤ g + i ∧ w0 = wr ∧ Hid (d.data.toList = Ln.joined n op 0 (T.take i)) ∧ Hid (∀ l ∈ T.take i, ∀ b ∈ l, b ≠ 10))
  case atStart => exact ⟨0, _, rfl, rfl, Nat.zero_le _, by omega, rfl, Lib.hid rfl, Lib.hid (fun l h => by simp at h)⟩
  case round =>
    obtain ⟨i, d, rfl, rfl, hi, hg, rfl, HD, HN⟩ := hrel
    have ia : ((i : Int)).toNat = i := by omega
    have pa : (0 : Int) ≤ (i : Int) := by omega
    by_cases hlt : i < n
    · have hltz : (i : Int) < (n : Int) := by omega
      obtain ⟨x, hx⟩ : ∃ x, ls[i]? = some x := ⟨ls[i]'(by rw [HLN.out]; exact hlt), List.getElem?_eq_getElem _⟩
      have hTx := HTD.out i x hx
      have hxs : x.size ≤ 1048576 := by
        have h1 := mem_sum (List.mem_of_getElem? hTx)
        have h2 := HBK.out
        have h3 : x.data.toList.length = x.size := by simp
        omega
      have hds : d.size ≤ 1048576 := by
        have h1 := (Ln.joined_len n op (T.take i) 0).1
        have h2 := take_sum T i
        have h3 := HBK.out
        have h4 : d.data.toList.length = d.size := by simp
        rw [HD.out] at h4
        omega
      have gx : (ls.map Value.string)[i]? = some (.string x) := by rw [List.getElem?_map, hx]; rfl
      obtain ⟨b, o, rfl, _, kx⟩ := V0.out.at1 gx
      have HTX := Lib.hid hTx
      have HXL : Hid (x.data.toList.length = x.size) := Lib.hid (by simp)
      clear hx hTx gx
      go_wp2
      go_loopg [9] x.size (fun g9 v9 wr => ∃ k : Nat, v9 = .int .i64 k ∧ k ≤ x.size ∧ x.size ≤ g9 + k ∧ w0 = wr ∧ Hid (∀ j, j < k → x.data.toList[j]? ≠ some 10))
      case atStart => exact ⟨0, rfl, Nat.zero_le _, by omega, rfl, Lib.hid (fun j h => by omega)⟩
      case round =>
        obtain ⟨k, rfl, hk, hg9, rfl, HJ⟩ := hrel
        have ka : ((k : Int)).toNat = k := by omega
        have kb : (0 : Int) ≤ (k : Int) := by omega
        by_cases hkl : k < x.size
        · have hkz : (k : Int) < (x.size : Int) := by omega
          have hget : x.data.toList[k]? = some x[k] := Lib.data_getElem? x k hkl
          by_cases hnl : x[k] = 10
          · have hb1 : ((x[k].toNat : Int) == 10) = true := by rw [hnl]; rfl
            clear hnl hget
            go_wp2
            go_ret
            exact ⟨rfl, B0.out⟩
          · have hb1 : ((x[k].toNat : Int) == 10) = false := by
              have : x[k].toNat ≠ 10 := fun h => hnl (UInt8.toNat_inj.1 (by simpa using h))
              simp; omega
            have HG := Lib.hid hget
            have HNL := Lib.hid hnl
            clear hget hnl
            go_wp2
            go_roundg (x.size - (k + 1))
            case measure => omega
            case rel => exact ⟨k + 1, by first | rfl | go_num, by omega, by omega, rfl, Lib.hid (fun j hj => by
                rcases Nat.lt_or_ge j k with h | h
                · exact HJ.out j h
                · obtain rfl : j = k := by omega
                  rw [HG.out]
                  exact fun e => HNL.out (Option.some.inj e))⟩
        · have hkz : ¬ (k : Int) < (x.size : Int) := by omega
          have HXN : Hid (∀ b ∈ x.data.toList, b ≠ 10) := Lib.hid (fun b hb e => by
            obtain ⟨j, hj⟩ := List.mem_iff_getElem?.1 hb
            have hjl := (List.getElem?_eq_some_iff.1 hj).1
            have := HXL.out
            exact HJ.out j (by omega) (by rw [hj, e]))
          have HSN : Hid (T.take (i + 1) = T.take i ++ [x.data.toList]) := Lib.hid (by rw [List.take_add_one, HTX.out]; rfl)
          have HALL : Hid (∀ l ∈ T.take (i + 1), ∀ b ∈ l, b ≠ 10) := Lib.hid (by
            rw [HSN.out]
            intro l hl
            rcases List.mem_append.1 hl with h | h
            · exact HN.out l h
            · rw [List.mem_singleton.1 h]; exact HXN.out)
          have HJN : Hid (Ln.joined n op 0 (T.take (i + 1)) = Ln.joined n op 0 (T.take i) ++ Ln.piece n op i x.data.toList) := Lib.hid (by
            rw [HSN.out, Ln.joined_snoc, Nat.zero_add, show (T.take i).length = i by rw [List.length_take, HTL.out]; omega])
          have HAPP : Hid (∀ r : ByteArray, (d ++ x ++ r).data.toList = d.data.toList ++ x.data.toList ++ r.data.toList) := Lib.hid (fun r => by simp)
          have HAPP2 : Hid ((d ++ x).data.toList = d.data.toList ++ x.data.toList) := Lib.hid (by simp)
          have hnw : IntKind.i64.wrap ((n : Int) - 1) = (n : Int) - 1 := IntWalk.i64_in _ (by omega)
          by_cases h1 : i + 1 < n
          · have d1 : decide ((i : Int) < (n : Int) - 1) = true := by simp; omega
            have h1z : (i : Int) < (n : Int) - 1 := by omega
            have HP : Hid (Ln.piece n op i x.data.toList = x.data.toList ++ [10]) := Lib.hid (by unfold Ln.piece; rw [if_pos (Or.inl h1)])
            go_wp2
            go_roundg (n - (i + 1))
            case measure => omega
            case rel => exact ⟨i + 1, _, rfl, by first | rfl | go_num, by omega, by omega, rfl, Lib.hid (by rw [HJN.out, HP.out, HAPP.out, HD.out, List.append_assoc]), HALL⟩
          · have d1 : decide ((i : Int) < (n : Int) - 1) = false := by simp; omega
            have h1z : ¬ (i : Int) < (n : Int) - 1 := by omega
            cases op
            · have HP : Hid (Ln.piece n false i x.data.toList = x.data.toList ++ [10]) := Lib.hid (by unfold Ln.piece; rw [if_pos (Or.inr (Or.inl rfl))])
              go_wp2
              go_roundg (n - (i + 1))
              case measure => omega
              case rel => exact ⟨i + 1, _, rfl, by first | rfl | go_num, by omega, by omega, rfl, Lib.hid (by rw [HJN.out, HP.out, HAPP.out, HD.out, List.append_assoc]), HALL⟩
            · by_cases hxe : x.data.toList = []
              · have HP : Hid (Ln.piece n true i x.data.toList = x.data.toList ++ [10]) := Lib.hid (by unfold Ln.piece; rw [if_pos (Or.inr (Or.inr hxe))])
                have hne : x.toList.isEmpty = true := by rw [ByteArray.toList_eq, hxe]; rfl
                have hne2 : x.toList = [] := by rw [ByteArray.toList_eq, hxe]
                clear hxe
                go_wp2
                go_roundg (n - (i + 1))
                case measure => omega
                case rel => exact ⟨i + 1, _, rfl, by first | rfl | go_num, by omega, by omega, rfl, Lib.hid (by rw [HJN.out, HP.out, HAPP.out, HD.out, List.append_assoc]), HALL⟩
              · have HP : Hid (Ln.piece n true i x.data.toList = x.data.toList) := Lib.hid (by unfold Ln.piece; rw [if_neg (by rintro (h | h | h); exact h1 h; cases h; exact hxe h), List.append_nil])
                have hne : x.toList.isEmpty = false := by
                  rw [ByteArray.toList_eq]
                  cases h : x.data.toList with
                  | nil => exact absurd h hxe
                  | cons y l => rfl
                have hne2 : x.toList ≠ [] := fun h => by rw [h] at hne; cases hne
                clear hxe
                go_wp2
                go_roundg (n - (i + 1))
                case measure => omega
                case rel => exact ⟨i + 1, _, rfl, by first | rfl | go_num, by omega, by omega, rfl, Lib.hid (by rw [HJN.out, HP.out, HAPP2.out, HD.out]), HALL⟩
    · have hltz : ¬ (i : Int) < (n : Int) := by omega
      have HD2 : Hid (d.data.toList = Ln.joined n op 0 T) := Lib.hid (by rw [HD.out, List.take_of_length_le (by rw [HTL.out]; omega)])
      have HN2 : Hid (∀ l ∈ T, ∀ b ∈ l, b ≠ 10) := Lib.hid (by have h := HN.out; rw [List.take_of_length_le (by rw [HTL.out]; omega)] at h; exact h)
      have hds : d.size ≤ 1048576 := by
        have h1 := (Ln.joined_len n op T 0).1
        have h3 := HBK.out
        have h4 : d.data.toList.length = d.size := by simp
        rw [HD2.out] at h4
        omega
      have hnd : n ≤ d.size := by
        have h1 := (Ln.joined_len n op T 0).2
        have h4 : d.data.toList.length = d.size := by simp
        rw [HD2.out] at h4
        have := HTL.out
        omega
      have HLT : Hid ((Ln.lines 0 d.data.toList).map (·.2) = T) := Lib.hid (by rw [HD2.out]; exact Ln.joined_lines n op T 0 0 (by rw [HTL.out]; omega) HN2.out)
      have HSRT : Hid ((Ln.lines 0 d.data.toList).Pairwise fun p q => p.1 < q.1) := Lib.hid (Ln.lines_lt _ 0 _ (Nat.le_refl _))
      have HLIM : Hid (∀ p ∈ Ln.lines 0 d.data.toList, p.1 < d.size) := Lib.hid (by
        intro p hp
        have h := Ln.lines_in _ 0 _ (Nat.le_refl _) p hp
        have h4 : d.data.toList.length = d.size := by simp
        omega)
      have HLL : Hid ((Ln.lines 0 d.data.toList).length = n) := Lib.hid (by
        have h := congrArg List.length HLT.out
        rw [List.length_map, HTL.out] at h; exact h)
      have HR := fun lo hi w => Lib.hid (records_c lo hi d hds w)
      generalize Ln.lines 0 d.data.toList = L at HLT HSRT HLIM HLL HR
      have HR := Lib.hid HR
      clear hi hg HD HN
      by_cases hd0 : d.size = 0
      · obtain rfl : n = 0 := by omega
        have HD0 := Lib.hid hd0
        clear hd0 hnd hltz hds
        go_wp2_with fail
        refine (plan_none (d.size : Int) want (by have := HD0.out; omega) w0).mono ?_
        rintro e w' ⟨rfl, rfl⟩
        go_wp2
        go_loopg [10, 12] 0 (fun g v10 v12 wr => v10 = .int .i64 0 ∧ v12 = .int .i64 0 ∧ w0 = wr)
        case atStart => exact ⟨rfl, rfl, rfl⟩
        case round =>
          obtain ⟨rfl, rfl, rfl⟩ := hrel
          go_wp2
          go_ret
          exact ⟨rfl, B0.out⟩
      · obtain ⟨wd, m, scs, hm0, hm256, hF, hG, hP⟩ := plan_pack d.size want (by omega) (by omega) HW1.out HW2.out
        have HF := Lib.hid hF
        have HG := Lib.hid hG
        have HP := Lib.hid (hP w0)
        clear hF hG hP
        go_wp2_with fail
        refine HP.out.mono ?_
        rintro e w1 ⟨v1, rfl, hO1, hB1⟩
        obtain ⟨p1, c1, rfl, hV1⟩ := Vw.of_own hO1
        have S1 := Lib.hid hV1
        have V1 := Lib.hid (V0.out.below hB1 (Nat.le_refl _))
        have B1 := Lib.hid (below_then B0.out B0.out.size hB1)
        clear hO1 hB1 hV1 HP
        go_wp2
        go_loopg [10, 12] m (fun g v10 v12 wr => ∃ i nn : Nat, v10 = .int .i64 nn ∧ v12 = .int .i64 i ∧ i ≤ m ∧ m ≤ g + i ∧ nn ≤ n ∧ Hid (Below w1.heap.size w1 wr) ∧ Hid (nn = (Ln.under (if i < m then i * wd else d.size) L).length))
        case atStart => exact ⟨0, 0, rfl, rfl, Nat.zero_le _, by omega, Nat.zero_le _, Lib.hid (Below.refl _ _), Lib.hid (by rw [if_pos (by omega), Nat.zero_mul, Ln.under_zero]; rfl)⟩
        case round =>
          obtain ⟨i, nn, rfl, rfl, hi2, hg2, hnn, HBW, HNN⟩ := hrel
          have ia : ((i : Int)).toNat = i := by omega
          have pa : (0 : Int) ≤ (i : Int) := by omega
          by_cases him : i < m
          · have himz : (i : Int) < (m : Int) := by omega
            obtain ⟨f1, f2, f3, f4⟩ := HF.out i him
            obtain ⟨g1, g2⟩ := HG.out i him
            obtain ⟨b1, o1, rfl, hb1, k1, k2⟩ := S1.out.at2 g1 g2
            have HNN2 : Hid (nn = (Ln.under (i * wd) L).length) := Lib.hid (by have h := HNN.out; rw [if_pos him] at h; exact h)
            have HNX : Hid ((if i + 1 < m then (i + 1) * wd else d.size) = Spl.to d.size wd i) := Lib.hid (by
              by_cases h : i + 1 < m
              · rw [if_pos h]; exact (f3 h).symm
              · rw [if_neg h]; exact (f4 (by omega)).symm)
            have hfrom : i * wd ≤ 1048576 := by omega
            generalize Spl.to d.size wd i = tt at f1 f2 g2 k2 HNX
            generalize i * wd = fr at f1 g1 k1 HNN2 hfrom
            have q1 : wr.cell? ⟨b1, o1 + i * 2, none⟩ = some (.int .i64 (fr : Int)) := (HBW.out.cell (p := ⟨b1, o1 + i * 2, none⟩) hb1).trans k1
            have q2 : wr.cell? ⟨b1, o1 + i * 2 + 1, none⟩ = some (.int .i64 (tt : Int)) := (HBW.out.cell (p := ⟨b1, o1 + i * 2 + 1, none⟩) hb1).trans k2
            have Q1 := Lib.hid q1
            have Q2 := Lib.hid q2
            have HB1 := Lib.hid hb1
            have HUL := Lib.hid (Ln.under_len f1 HSRT.out)
            have HPA := Lib.hid (fun j p h => Ln.part_at f1 HSRT.out (j := j) (p := p) h)
            have HCL : Hid ((Ln.cut fr tt L).length ≤ 1048576) := Lib.hid (by
              have := Ln.cut_len fr tt L
              have := HLL.out
              omega)
            have HR2 := Lib.hid (HR.out (fr : Int) (tt : Int) wr).out
            have hft : tt ≤ 1048576 := by omega
            clear f1 f2 f3 f4 g1 g2 k1 k2 hb1 HNN hi2
            generalize hC : Ln.cut fr tt L = C at HUL HPA HCL HR2
            have HC := Lib.hid hC
            clear hC
            obtain ⟨cl, hcl⟩ : ∃ cl, cl = C.length := ⟨_, rfl⟩
            rw [← hcl] at HUL HCL HR2
            have hcl2 := HCL.out
            have HCLE := Lib.hid hcl
            have hsum : nn + cl ≤ n := by
              have h1 := HUL.out
              have h2 := HNN2.out
              have h3 : (Ln.under tt L).length ≤ L.length := List.length_filter_le _ _
              have h4 := HLL.out
              omega
            clear hcl
            go_wp2_with fail
            refine HR2.out.mono ?_
            rintro e w2 ⟨v2, rfl, hO2, hB2⟩
            obtain ⟨p2, c2, rfl, hV2⟩ := Vw.of_own hO2
            have R2 := Lib.hid hV2
            have BW2 := Lib.hid (below_then HBW.out HBW.out.size hB2)
            clear q1 q2 hO2 hB2 hV2 HR2
            have q1 : w2.cell? ⟨b1, o1 + i * 2, none⟩ = some (.int .i64 (fr : Int)) := (BW2.out.cell (p := ⟨b1, o1 + i * 2, none⟩) HB1.out).trans ((HBW.out.cell (p := ⟨b1, o1 + i * 2, none⟩) HB1.out).symm.trans Q1.out)
            have q2 : w2.cell? ⟨b1, o1 + i * 2 + 1, none⟩ = some (.int .i64 (tt : Int)) := (BW2.out.cell (p := ⟨b1, o1 + i * 2 + 1, none⟩) HB1.out).trans ((HBW.out.cell (p := ⟨b1, o1 + i * 2 + 1, none⟩) HB1.out).symm.trans Q2.out)
            have dq1 : ∀ j, (w2.drewN j).cell? ⟨b1, o1 + i * 2, none⟩ = some (.int .i64 (fr : Int)) := fun _ => q1
            have dq2 : ∀ j, (w2.drewN j).cell? ⟨b1, o1 + i * 2 + 1, none⟩ = some (.int .i64 (tt : Int)) := fun _ => q2
            have DQ1 := Lib.hid dq1
            have DQ2 := Lib.hid dq2
            have VV := Lib.hid (V1.out.below (w' := w2) (N := w1.heap.size) BW2.out (Nat.le_refl _))
            clear q1 q2 dq1 dq2 Q1 Q2
            go_wp2
            go_loopg [10, 14] cl (fun g4 v10 v14 wr4 => ∃ j kk : Nat, v10 = .int .i64 ((nn + j : Nat) : Int) ∧ v14 = .int .i64 j ∧ j ≤ cl ∧ cl ≤ g4 + j ∧ wr4 = w2.drewN kk)
            case atStart => exact ⟨0, 0, by rw [Nat.add_zero], rfl, Nat.zero_le _, by omega, rfl⟩
            case round =>
              obtain ⟨j, kk, rfl, rfl, hj, hg4, rfl⟩ := hrel
              have ja : ((j : Int)).toNat = j := by omega
              have jb : (0 : Int) ≤ (j : Int) := by omega
              by_cases hjl : j < cl
              · have hjz : (j : Int) < (cl : Int) := by omega
                obtain ⟨p, hp⟩ : ∃ p, C[j]? = some p := ⟨C[j]'(by have := HCLE.out; omega), List.getElem?_eq_getElem _⟩
                obtain ⟨hL, hlo, hhi⟩ := HPA.out j p hp
                rw [← HNN2.out] at hL
                obtain ⟨x, hx⟩ : ∃ x, ls[nn + j]? = some x := ⟨ls[nn + j]'(by rw [HLN.out]; omega), List.getElem?_eq_getElem _⟩
                have hTx := HTD.out _ x hx
                have hpx : p.2 = x.data.toList := by
                  have h := HLT.out
                  have h2 : (L.map (·.2))[nn + j]? = some p.2 := by rw [List.getElem?_map, hL]; rfl
                  rw [h, hTx] at h2
                  exact (Option.some.inj h2).symm
                obtain ⟨r1, r2⟩ := recCells_get _ _ _ hp
                rw [str_of hpx.symm] at r2
                obtain ⟨b2, o2, rfl, _, k1, k2⟩ := R2.out.at2 r1 r2
                have gx : (ls.map Value.string)[nn + j]? = some (.string x) := by rw [List.getElem?_map, hx]; rfl
                obtain ⟨b3, o3, rfl, _, k3⟩ := VV.out.at1 gx
                have e1 : ∀ t, (w2.drewN t).cell? ⟨b2, o2 + j * 2, none⟩ = some (.int .i64 (p.1 : Int)) := fun _ => k1
                have e2 : ∀ t, (w2.drewN t).cell? ⟨b2, o2 + j * 2 + 1, none⟩ = some (.string x) := fun _ => k2
                have e3 : ∀ t, (w2.drewN t).cell? ⟨b3, o3 + (nn + j), none⟩ = some (.string x) := fun _ => k3
                have dq1 := DQ1.out
                have dq2 := DQ2.out
                have na : ((nn : Int) + (j : Int)).toNat = nn + j := by omega
                have nb : (0 : Int) ≤ (nn : Int) + (j : Int) := by omega
                have nc : (nn : Int) + (j : Int) < (n : Int) := by omega
                have t1 : decide ((n : Int) ≤ (nn : Int) + (j : Int)) = false := by simp; omega
                have t2 : decide (p.1 < fr) = false := by simp; omega
                have t3 : decide (tt ≤ p.1) = false := by simp; omega
                clear hp hL hlo hhi hx hTx hpx r1 r2 k1 k2 k3 gx
                go_wp2
                go_quiet (fail)
                go_wp2
                go_roundg (cl - (j + 1))
                case measure => omega
                case rel => exact ⟨j + 1, _, by first | rfl | go_num | (apply val_int; omega), by first | rfl | go_num, by omega, by omega, rfl⟩
              · have hjz : ¬ (j : Int) < (cl : Int) := by omega
                have hje : j = cl := by omega
                have HJE := Lib.hid hje
                clear hje
                go_wp2
                go_roundg (m - (i + 1))
                case measure => omega
                case rel => exact ⟨i + 1, nn + cl, val_int (by have := HJE.out; omega), by first | rfl | go_num, by omega, by omega, by omega, Lib.hid (below_drewN BW2.out _), Lib.hid (by rw [HNX.out, HUL.out, ← HNN2.out])⟩
          · have himz : ¬ (i : Int) < (m : Int) := by omega
            have hnn2 : nn = n := by
              have h := HNN.out
              rw [if_neg him, Ln.under_all HLIM.out, HLL.out] at h
              exact h
            subst hnn2
            go_wp2
            go_ret
            exact ⟨rfl, below_then B1.out B1.out.size HBW.out⟩
end Go.Proofs.Ytmjmfjgigkiajaa
