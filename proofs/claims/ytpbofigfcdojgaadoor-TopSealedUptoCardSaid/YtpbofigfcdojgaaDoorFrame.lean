/- wire.four, wire.Frame, wire.Next. (Under way.) -/
import Derived.Test.YtpbofigfcdojgaaDoorCrc
import Derived.Test.YtpbofigfcdojgaaDoorPFrame
import Derived.Lib.QuietBelow
import Derived.Lib.IndexBytes
namespace Go.Proofs.YtpbofigfcdojgaaDoor
open Go.RowKit Go.Sort
set_option linter.unusedVariables false
set_option linter.unusedSimpArgs false
theorem conv_cells4 {P : Program} {w : World} {B : Nat} {l : List UInt8} (h : ∀ j u, (bytes l)[j]? = some u → w.cell? ⟨B, j, none⟩ = some u) (src dst e : TypeId) (cap : Nat) (hs : P.underlying src = some (.slice e)) (he : P.underlying e = some (.int .u8)) (hd : P.underlying dst = some .string) (n : Nat) (hn : n = l.length) :
    (convert src dst (.slice (some ⟨B, 0, none⟩) n cap)).run P w = .ok (.string ⟨l.toArray⟩) w := by
  subst hn
  refine run_convert_bytes_back w src dst e ⟨B, 0, none⟩ cap l hs he hd fun j hj => ?_
  have e1 : (⟨B, 0, none⟩ : Addr).add j = ⟨B, j, none⟩ := by unfold Addr.add; split <;> simp_all
  rw [e1]
  exact h j _ (bytes_get (List.getElem?_eq_getElem hj))
theorem le4_bytes (n : Nat) (hn : n < 4294967296) : bytes (Fr4.le4 n) = [.int .u8 ((n : Int) % 256), .int .u8 ((n : Int) / 256 % 256), .int .u8 ((n : Int) / 65536 % 256), .int .u8 ((n : Int) / 16777216)] := by
  unfold Fr4.le4 bytes
  simp only [List.map_cons, List.map_nil, UInt8.toNat_ofNat']
  have e : n / 16777216 % 2 ^ 8 = n / 16777216 := Nat.mod_eq_of_lt (by omega)
  rw [e]
  rfl
theorem four_any (n : Nat) (hn : n < 4294967296) (w : World) : Calls Tryd.prog 6 #[.int .u32 (n : Int)] w fun e w' => e = .returned (.string (Fr4.four n)) ∧ Below w.heap.size w w' := by
  have HB := Lib.hid ((Below.refl w.heap.size w).alloc (Nat.le_refl _) (.cells (bytes (Fr4.le4 n)).toArray 5))
  have hcv : ∀ c, (convert 28 9 (.slice (some ⟨w.heap.size, 0, none⟩) 4 c)).run Tryd.prog (w.alloc (.cells (bytes (Fr4.le4 n)).toArray 5)) = .ok (.string (Fr4.four n)) (w.alloc (.cells (bytes (Fr4.le4 n)).toArray 5)) := fun c =>
    conv_cells4 (l := Fr4.le4 n) (fun j u hu => by rw [(Blk.new w (bytes (Fr4.le4 n)) 5).cell j]; exact hu) _ _ 5 _ Tryd.underlying28 Tryd.underlying5 Tryd.underlying9 4 rfl
  rw [le4_bytes n hn] at hcv HB
  generalize Fr4.four n = f at hcv ⊢
  go_enter Tryd.func6, Tryd.ntmps6
  go_wp2
  go_ret
  exact ⟨rfl, HB.out⟩
theorem ext_lt0 (s : ByteArray) : Crc.ext 0 s.data.toList < 4294967296 := Crc.ext_lt (by decide) _
theorem sumb_any (s : ByteArray) (w : World) (hs : s.size ≤ maxLen) (ht : Tab w) : Calls Tryd.prog 7 #[.string s] w fun e w' => e = .returned (.int .u32 ((Crc.ext 0 s.data.toList : Nat) : Int)) ∧ Below w.heap.size w w' :=
  (sum_any s w hs ht).mono fun e w' ⟨h1, h2⟩ => ⟨h1, h2 ▸ Below.refl _ _⟩
set_option maxHeartbeats 1000000 in
theorem frame_any (b : ByteArray) (hb : b.size ≤ 140737488351232) (w : World) (ht : Tab w) : Calls Tryd.prog 4 #[.string b] w fun e w' => e = .returned (.string (Fr4.frame b)) ∧ Below w.heap.size w w' := by
  have HT := Lib.hid ht
  clear ht
  by_cases h : b.size ≤ 1048576
  · have hg : decide ((1048576 : Int) < (b.size : Int)) = false := by simp; omega
    have HF : Hid (Fr4.frame b = Fr4.four b.size ++ Fr4.sum (Fr4.four b.size) ++ b ++ Fr4.sum b) := Lib.hid (by unfold Fr4.frame; rw [if_pos h])
    have hm : (b.size : Int) % 4294967296 = (b.size : Int) := by omega
    have s1 : ∀ n, (Fr4.four n).size = 4 := fun n => rfl
    have s2 : ∀ x, (Fr4.sum x).size = 4 := fun n => rfl
    have HH := Lib.hid h
    go_enter Tryd.func4, Tryd.ntmps4
    go_wp2_with fail
    refine (four_any b.size (by omega) w).mono ?_
    rintro e w1 ⟨rfl, hb1⟩
    have B1 := Lib.hid hb1
    have T1 := Lib.hid (HT.out.below hb1)
    clear hb1
    go_wp2_with fail
    refine (sum_any _ w1 (by rw [s1]; decide) T1.out).mono ?_
    rintro e w' ⟨rfl, rfl⟩
    go_wp2_with fail
    refine (four_any _ (ext_lt0 _) w1).mono ?_
    rintro e w2 ⟨rfl, hb2⟩
    have B2 := Lib.hid (below_then B1.out B1.out.size hb2)
    have T2 := Lib.hid (T1.out.below hb2)
    clear hb2
    rw [show Fr4.four (Crc.ext 0 (Fr4.four b.size).data.toList) = Fr4.sum (Fr4.four b.size) from rfl]
    go_wp2_with fail
    refine (sum_any b w2 (by unfold maxLen; omega) T2.out).mono ?_
    rintro e w' ⟨rfl, rfl⟩
    go_wp2_with fail
    refine (four_any _ (ext_lt0 _) w2).mono ?_
    rintro e w3 ⟨rfl, hb3⟩
    have B3 := Lib.hid (below_then B2.out B2.out.size hb3)
    clear hb3
    rw [show Fr4.four (Crc.ext 0 b.data.toList) = Fr4.sum b from rfl]
    go_wp2
    go_ret
    exact ⟨ret_str HF.out.symm, B3.out⟩
  · have hg : decide ((1048576 : Int) < (b.size : Int)) = true := by simp; omega
    have HF : Hid (Fr4.frame b = ⟨#[]⟩) := Lib.hid (by unfold Fr4.frame; rw [if_neg h])
    clear h
    go_enter Tryd.func4, Tryd.ntmps4
    go_wp2
    go_ret
    exact ⟨ret_str HF.out.symm, Below.refl _ _⟩
theorem four_reg (n : Nat) (hn : n < 4294967296) (w : World) (p : Nat) (os : Array Obj) :
    Calls Tryd.prog 6 #[.int .u32 (n : Int)] (grow (redrawn w p) os) fun e w'' => e = .returned (.string (Fr4.four n)) ∧ ∃ q : Regrown, w'' = grow (redrawn w q.d) q.os :=
  Calls.regrown_of (four_any n hn _)
theorem sum_reg (s : ByteArray) (w : World) (hs : s.size ≤ maxLen) (ht : Tab w) (p : Nat) (os : Array Obj) :
    Calls Tryd.prog 7 #[.string s] (grow (redrawn w p) os) fun e w'' => e = .returned (.int .u32 ((Crc.ext 0 s.data.toList : Nat) : Int)) ∧ ∃ q : Regrown, w'' = grow (redrawn w q.d) q.os :=
  Calls.regrown_of (sumb_any s _ hs (ht.below (below_regrown w p os)))
theorem str_ne {a b : ByteArray} (h : a ≠ b) : (a.toList == b.toList) = false ∧ (b.toList == a.toList) = false := by
  rw [ByteArray.toList_eq, ByteArray.toList_eq]
  have h2 : a.data.toList ≠ b.data.toList := fun e => h (by cases a; cases b; simp at e; rw [e])
  exact ⟨beq_eq_false_iff_ne.2 h2, beq_eq_false_iff_ne.2 (fun e => h2 e.symm)⟩
theorem str_eqb {a b : ByteArray} (h : a = b) : (a.toList == b.toList) = true ∧ (b.toList == a.toList) = true := by
  subst h; exact ⟨beq_self_eq_true _, beq_self_eq_true _⟩
theorem ret_next2 {nx : ByteArray × Nat × Nat} {b : ByteArray} {d : Nat} (h : nx = (b, d, 0)) : (Ending.returned (.tuple #[.string b, .int .i64 (d : Int), .int .i64 0])) = Ending.returned (.tuple #[.string nx.1, .int .i64 (nx.2.1 : Int), .int .i64 (nx.2.2 : Int)]) := by rw [h]; rfl
theorem ret_next {nx : ByteArray × Nat × Nat} {e : Nat} (h : nx = (⟨#[]⟩, 0, e)) : (Ending.returned (.tuple #[.string ⟨#[]⟩, .int .i64 0, .int .i64 (e : Int)])) = Ending.returned (.tuple #[.string nx.1, .int .i64 (nx.2.1 : Int), .int .i64 (nx.2.2 : Int)]) := by rw [h]; rfl
theorem i64_or (a b : Nat) (ha : a < 9223372036854775808) (hb : b < 9223372036854775808) : bits .or .i64 (a : Int) (b : Int) = ((a ||| b : Nat) : Int) := by
  have hx : a ||| b < 2 ^ 63 := Nat.or_lt_two_pow (by omega) (by omega)
  show IntKind.i64.wrap ((BitVec.ofInt 64 (a : Int) ||| BitVec.ofInt 64 (b : Int)).toNat : Int) = _
  rw [BitVec.toNat_or, BitVec.ofInt_natCast, BitVec.ofInt_natCast, BitVec.toNat_ofNat, BitVec.toNat_ofNat, Nat.mod_eq_of_lt (by omega), Nat.mod_eq_of_lt (by omega), IntKind.wrap_i64]
  omega
theorem or_up (a b k : Nat) (ha : a < 2 ^ k) : a ||| b * 2 ^ k = a + b * 2 ^ k := by
  rw [Nat.mul_comm, Nat.or_comm, ← Nat.two_pow_add_eq_or_of_lt ha, Nat.add_comm]
theorem val4_i (a b c d : Nat) (ha : a < 2 ^ 8) (hb : b < 2 ^ 8) (hc : c < 2 ^ 8) (hd : d < 2 ^ 8) :
    bits .or .i64 (bits .or .i64 (bits .or .i64 (a : Int) ((b : Int) * 256)) ((c : Int) * 65536)) ((d : Int) * 16777216) = ((a + b * 256 + c * 65536 + d * 16777216 : Nat) : Int) := by
  have e1 : ((b : Int) * 256) = ((b * 256 : Nat) : Int) := by omega
  have e2 : ((c : Int) * 65536) = ((c * 65536 : Nat) : Int) := by omega
  have e3 : ((d : Int) * 16777216) = ((d * 16777216 : Nat) : Int) := by omega
  rw [e1, e2, e3, i64_or _ _ (by omega) (by omega), or_up a b 8 ha, i64_or _ _ (by omega) (by omega), or_up _ c 16 (by omega), i64_or _ _ (by omega) (by omega), or_up _ d 24 (by omega)]
theorem w64 (n : Nat) (h : n < 4294967296) : wrap64 (n : Int) = (n : Int) := by unfold wrap64; omega
theorem wrap_small (x : Int) (h0 : 0 ≤ x) (h : x < 281474976710656) : IntKind.i64.wrap x = x := by rw [IntKind.wrap_i64]; omega
theorem wrap64_small (x : Int) (h0 : 0 ≤ x) (h : x < 281474976710656) : wrap64 x = x := by unfold wrap64; omega
theorem wrap_e8 (m e : Nat) (he : e = 8 + m) (h : m ≤ 1048576) : IntKind.i64.wrap ((8 : Int) + (m : Int)) = (e : Int) := by
  rw [wrap_small _ (by omega) (by omega)]; omega
theorem wrap_e12 (m e : Nat) (he : e = 12 + m) (h : m ≤ 1048576) : IntKind.i64.wrap ((12 : Int) + (m : Int)) = (e : Int) := by
  rw [wrap_small _ (by omega) (by omega)]; omega
theorem wrap64_e8 (m e : Nat) (he : e = 8 + m) (h : m ≤ 1048576) : wrap64 ((8 : Int) + (m : Int)) = (e : Int) := by
  rw [wrap64_small _ (by omega) (by omega)]; omega
theorem wrap64_e12 (m e : Nat) (he : e = 12 + m) (h : m ≤ 1048576) : wrap64 ((12 : Int) + (m : Int)) = (e : Int) := by
  rw [wrap64_small _ (by omega) (by omega)]; omega
theorem piece_max (r : ByteArray) (a b : Nat) (h : r.size ≤ 140737488351232) : (r.extract a b).size ≤ maxLen := by
  rw [ByteArray.size_extract]; unfold maxLen; omega
theorem piece_list (r : ByteArray) (a b : Nat) : (r.extract a b).data.toList = List.take (b - a) (List.drop a r.data.toList) := by simp
theorem next_u1 (k n : Nat) (h : k ≤ n) (hn : n ≤ 140737488351232) : wrap64 ((k : Int) + 12) = (k : Int) + 12 := wrap64_small _ (by omega) (by omega)
theorem next_u2 (k n m r : Nat) (h : k ≤ n) (hn : n ≤ 140737488351232) (hm : m ≤ 1048576) : wrap64 ((k : Int) + 12 + (m : Int)) = (k : Int) + 12 + (m : Int) := wrap64_small _ (by omega) (by omega)
theorem next_v1 (k n c : Nat) (h : k ≤ n) (hn : n ≤ 140737488351232) (hc : c = k + 12) : wrap64 ((k : Int) + 12) = (c : Int) ∧ IntKind.i64.wrap ((k : Int) + 12) = (c : Int) := by
  rw [wrap64_small _ (by omega) (by omega), wrap_small _ (by omega) (by omega)]; omega
theorem next_v2 (k n c m d : Nat) (h : k ≤ n) (hn : n ≤ 140737488351232) (hc : c = k + 12) (hm : m ≤ 1048576) (hd : d = c + m) : wrap64 ((c : Int) + (m : Int)) = (d : Int) ∧ IntKind.i64.wrap ((c : Int) + (m : Int)) = (d : Int) := by
  rw [wrap64_small _ (by omega) (by omega), wrap_small _ (by omega) (by omega)]; omega
theorem u8lt (b : UInt8) : b.toNat < 256 := b.toNat_lt
theorem bt_get (r : ByteArray) (i : Nat) (h : i < r.size) : Fr4.bt r i = r[i].toNat := by
  unfold Fr4.bt
  rw [List.getD_eq_getElem?_getD, Lib.data_getElem? r i h]; rfl
theorem val4_w (r : ByteArray) (h0 : 0 < r.size) (h1 : 1 < r.size) (h2 : 2 < r.size) (h3 : 3 < r.size) :
    bits .or .i64 (bits .or .i64 (bits .or .i64 (wrap64 (r[0].toNat : Int)) (wrap64 (wrap64 (r[1].toNat : Int) * 256))) (wrap64 (wrap64 (r[2].toNat : Int) * 65536))) (wrap64 (wrap64 (r[3].toNat : Int) * 16777216)) = (Fr4.val4 r : Int) := by
  unfold Fr4.val4
  rw [bt_get r 0 h0, bt_get r 1 h1, bt_get r 2 h2, bt_get r 3 h3, ← val4_i _ _ _ _ (u8lt _) (u8lt _) (u8lt _) (u8lt _)]
  have b0 := u8lt r[0]; have b1 := u8lt r[1]; have b2 := u8lt r[2]; have b3 := u8lt r[3]
  rw [w64 _ (by omega), w64 _ (by omega), w64 _ (by omega), w64 _ (by omega)]
  have e1 : ∀ a : Nat, a < 256 → wrap64 ((a : Int) * 256) = (a : Int) * 256 := fun a h => by unfold wrap64; omega
  have e2 : ∀ a : Nat, a < 256 → wrap64 ((a : Int) * 65536) = (a : Int) * 65536 := fun a h => by unfold wrap64; omega
  have e3 : ∀ a : Nat, a < 256 → wrap64 ((a : Int) * 16777216) = (a : Int) * 16777216 := fun a h => by unfold wrap64; omega
  rw [e1 _ b1, e2 _ b2, e3 _ b3]
def nextV (r : ByteArray × Nat × Nat) : Value := .tuple #[.string r.1, .int .i64 (r.2.1 : Int), .int .i64 (r.2.2 : Int)]
set_option maxRecDepth 20000 in
set_option maxHeartbeats 2000000 in
theorem next_any (s : ByteArray) (hs : s.size ≤ 140737488351232) (k : Nat) (hk : k ≤ s.size) (w : World) (ht : Tab w) : Calls Tryd.prog 8 #[.string s, .int .i64 (k : Int)] w fun e w' => e = .returned (nextV (Fr4.next s k)) ∧ Below w.heap.size w w' := by
  have HT := Lib.hid ht
  have HK := Lib.hid hk
  have g1 : decide (s.size < k) = false := by simp; omega
  have g2 : decide ((s.size : Int) < (k : Int)) = false := by simp; omega
  have hkz : (k : Int) ≤ (s.size : Int) := by omega
  have ka : ((k : Int)).toNat = k := by omega
  have kb : (0 : Int) ≤ (k : Int) := by omega
  clear ht
  have HN : Hid (Fr4.next s k = if (Fr4.head (s.extract k s.size)).2 = 0 then ((s.extract k s.size).extract 8 (8 + (Fr4.head (s.extract k s.size)).1), k + 12 + (Fr4.head (s.extract k s.size)).1, 0) else (⟨#[]⟩, 0, (Fr4.head (s.extract k s.size)).2)) := Lib.hid rfl
  generalize Fr4.next s k = nx at HN ⊢
  go_enter Tryd.func8, Tryd.ntmps8
  go_upto_region 4 with (fail)
  have hrs : (s.extract k s.size).size = s.size - k := by simp
  generalize s.extract k s.size = r at hrs HN ⊢
  have hrl : r.size ≤ 140737488351232 := by omega
  have HRS := Lib.hid hrs
  have HERR : Hid (∀ e, Fr4.head r = (0, e) → e ≠ 0 → nx = (⟨#[]⟩, 0, e)) := Lib.hid (fun e h h0 => by rw [HN.out, h]; dsimp only; rw [if_neg h0])
  clear hrs g1 g2
  have HDR : Hid (r.data.toList.length = r.size) := Lib.hid (by simp)
  by_cases h0 : r.size = 0
  · have hx := (show r.data.toList = [] from List.eq_nil_of_length_eq_zero (by rw [HDR.out]; exact h0))
    have e1 : r.toList.isEmpty = true := by rw [ByteArray.toList_eq, hx]; rfl
    have e2 : r.toList = [] := by rw [ByteArray.toList_eq, hx]
    have HS := Lib.hid (HERR.out 3 (by unfold Fr4.head; rw [if_pos h0]) (by decide))
    clear h0 hx
    go_wp2
    go_ret3
    exact ⟨ret_next HS.out, Below.refl _ _⟩
  · have hx : r.data.toList ≠ [] := fun e => h0 (by rw [← HDR.out, e]; rfl)
    have e1 : r.toList.isEmpty = false := by
      rw [ByteArray.toList_eq]
      cases h : r.data.toList with
      | nil => exact absurd h hx
      | cons y l => rfl
    have e2 : r.toList ≠ [] := by rw [ByteArray.toList_eq]; exact hx
    by_cases h8 : r.size < 8
    · have t1 : decide ((r.size : Int) < 8) = true := by simp; omega
      have HS := Lib.hid (HERR.out 23 (by unfold Fr4.head; rw [if_neg h0, if_pos h8]) (by decide))
      clear h0 hx h8
      go_wp2
      go_ret3
      exact ⟨ret_next HS.out, Below.refl _ _⟩
    · have t1 : decide ((r.size : Int) < 8) = false := by simp; omega
      have N1 := fun p os => Lib.hid (sum_reg (r.extract 0 4) w (piece_max r _ _ hrl) HT.out p os)
      have N2 := fun p os => Lib.hid (four_reg _ (ext_lt0 (r.extract 0 4)) w p os)
      rw [show Fr4.four (Crc.ext 0 (r.extract 0 4).data.toList) = Fr4.sum (r.extract 0 4) from rfl, show (r.extract 0 4).data.toList = List.take 4 r.data.toList by simp] at N2
      by_cases hc : Fr4.sum (r.extract 0 4) = r.extract 4 8
      · obtain ⟨n1, n2⟩ := str_eqb hc
        have HC := Lib.hid hc
        have q8 : 8 ≤ r.size := by omega
        have q4 : 4 ≤ r.size := by omega
        have q8i : (8 : Int) ≤ (r.size : Int) := by omega
        have q4i : (4 : Int) ≤ (r.size : Int) := by omega
        have H0 := Lib.hid h0
        have H8 := Lib.hid h8
        clear h0 hx hc h8
        generalize Fr4.sum (r.extract 0 4) = sm at N2 n1 n2
        go_wp2
        refine wp_region_quiet_below (by kernel_rfl) (by kernel_rfl) ?_
        repeat (quiet_step (first | with_reducible exact (N1 _ _).out | with_reducible exact (N2 _ _).out))
        refine wpQuiet_nil ?_
        intro _ hw'
        obtain ⟨⟨dq, osq⟩, hw''⟩ := hw'
        subst hw''
        have HB2 := Lib.hid (below_regrown w dq osq)
        generalize grow (redrawn w dq) osq = w5 at HB2 ⊢
        clear N1 N2 n1 n2
        have z0 : 0 < r.size := by omega
        have z1 : 1 < r.size := by omega
        have z2 : 2 < r.size := by omega
        have z3 : 3 < r.size := by omega
        have y0 : (0 : Int) < (r.size : Int) := by omega
        have y1 : (1 : Int) < (r.size : Int) := by omega
        have y2 : (2 : Int) < (r.size : Int) := by omega
        have y3 : (3 : Int) < (r.size : Int) := by omega
        go_upto_region 10 with (fail)
        go_quiet (fail)
        rw [val4_w r z0 z1 z2 z3]
        have HB3 := Lib.hid (below_drewN HB2.out nq)
        generalize w5.drewN nq = w6 at HB3 ⊢
        clear HB2
        have HD : ∀ x : Nat, Hid (Fr4.head r = (if 1048576 < Fr4.val4 r then (0, 24) else if r.size < Fr4.val4 r + 12 then (0, 23) else if Fr4.sum (r.extract 8 (8 + Fr4.val4 r)) ≠ r.extract (8 + Fr4.val4 r) (12 + Fr4.val4 r) then (0, 24) else (Fr4.val4 r, 0))) := fun x => Lib.hid (by unfold Fr4.head; rw [if_neg H0.out, if_neg H8.out, if_neg (not_not_intro HC.out)])
        generalize Fr4.val4 r = m at HD ⊢
        clear HC H0 H8 q4 q4i t1 e1 e2
        by_cases hm : 1048576 < m
        · have t1 : decide ((1048576 : Int) < (m : Int)) = true := by simp; omega
          have HS := Lib.hid (HERR.out 24 (by rw [(HD 0).out, if_pos hm]) (by decide))
          clear hm
          go_wp2
          go_ret3
          exact ⟨ret_next HS.out, HB3.out⟩
        · have t1 : decide ((1048576 : Int) < (m : Int)) = false := by simp; omega
          have hm2 : m ≤ 1048576 := by omega
          have hw : wrap64 ((m : Int) + 12) = (m : Int) + 12 := wrap64_small _ (by omega) (by omega)
          by_cases hl : r.size < m + 12
          · have t2 : decide ((r.size : Int) < (m : Int) + 12) = true := by simp; omega
            have HS := Lib.hid (HERR.out 23 (by rw [(HD 0).out, if_neg hm, if_pos hl]) (by decide))
            clear hm hm2 hl
            go_wp2
            go_ret3
            exact ⟨ret_next HS.out, HB3.out⟩
          · have t2 : decide ((r.size : Int) < (m : Int) + 12) = false := by simp; omega
            obtain ⟨e8, E8⟩ : ∃ e8, e8 = 8 + m := ⟨_, rfl⟩
            obtain ⟨e12, E12⟩ : ∃ e12, e12 = 12 + m := ⟨_, rfl⟩
            have t3 : (e8 : Int) ≤ (r.size : Int) := by omega
            have t4 : (e12 : Int) ≤ (r.size : Int) := by omega
            have t7 : e8 ≤ r.size := by omega
            have t8 : e12 ≤ r.size := by omega
            have ta : (8 : Int) ≤ (e8 : Int) := by omega
            have td : 8 ≤ e8 := by omega
            have tb : (e8 : Int) ≤ (e12 : Int) := by omega
            have te : e8 ≤ e12 := by omega
            have v8 : IntKind.i64.wrap ((8 : Int) + (m : Int)) = (e8 : Int) := wrap_e8 m e8 E8 hm2
            have v12 : IntKind.i64.wrap ((12 : Int) + (m : Int)) = (e12 : Int) := wrap_e12 m e12 E12 hm2
            have x8 : wrap64 ((8 : Int) + (m : Int)) = (e8 : Int) := wrap64_e8 m e8 E8 hm2
            have x12 : wrap64 ((12 : Int) + (m : Int)) = (e12 : Int) := wrap64_e12 m e12 E12 hm2
            have HE := Lib.hid E8
            have E8E := Lib.hid E12
            rw [← E8, ← E12] at HD
            clear E8 E12
            have N1 := fun p os => Lib.hid (sum_reg (r.extract 8 e8) w6 (piece_max r _ _ hrl) (HT.out.below HB3.out) p os)
            have N2 := fun p os => Lib.hid (four_reg _ (ext_lt0 (r.extract 8 e8)) w6 p os)
            rw [show Fr4.four (Crc.ext 0 (r.extract 8 e8).data.toList) = Fr4.sum (r.extract 8 e8) from rfl, piece_list r 8 e8] at N2
            by_cases hc : Fr4.sum (r.extract 8 e8) = r.extract e8 e12
            · obtain ⟨n1, n2⟩ := str_eqb hc
              have hh : Fr4.head r = (m, 0) := by rw [(HD 0).out, if_neg hm, if_neg hl, if_neg (not_not_intro hc)]
              have HS : Hid (nx = (r.extract 8 e8, k + 12 + m, 0)) := Lib.hid (by rw [HN.out, hh, HE.out]; rfl)
              clear hh
              obtain ⟨c, Ec⟩ : ∃ c, c = k + 12 := ⟨_, rfl⟩
              obtain ⟨d, Ed⟩ : ∃ d, d = c + m := ⟨_, rfl⟩
              obtain ⟨u1, u2⟩ := next_v1 k _ c HK.out hs Ec
              obtain ⟨u3, u4⟩ := next_v2 k _ c m d HK.out hs Ec hm2 Ed
              rw [← Ec, ← Ed] at HS
              clear hm hm2 hl hc Ec Ed
              generalize Fr4.sum (r.extract 8 e8) = sm2 at N2 n1 n2
              go_wp2
              refine wp_region_quiet_below (by kernel_rfl) (by kernel_rfl) ?_
              repeat (quiet_step (first | with_reducible exact (N1 _ _).out | with_reducible exact (N2 _ _).out))
              refine wpQuiet_nil ?_
              intro _ hw'
              obtain ⟨⟨dq2, osq2⟩, hw''⟩ := hw'
              subst hw''
              have HB4 := Lib.hid (below_then HB3.out HB3.out.size (below_regrown w6 dq2 osq2))
              generalize grow (redrawn w6 dq2) osq2 = w7 at HB4 ⊢
              clear N1 N2 n1 n2
              go_wp2
              go_ret3
              exact ⟨ret_next2 HS.out, HB4.out⟩
            · obtain ⟨n1, n2⟩ := str_ne hc
              have HS := Lib.hid (HERR.out 24 (by rw [(HD 0).out, if_neg hm, if_neg hl, if_pos hc]) (by decide))
              clear hm hm2 hl hc
              generalize Fr4.sum (r.extract 8 e8) = sm2 at N2 n1 n2
              go_wp2
              refine wp_region_quiet_below (by kernel_rfl) (by kernel_rfl) ?_
              repeat (quiet_step (first | with_reducible exact (N1 _ _).out | with_reducible exact (N2 _ _).out))
              refine wpQuiet_nil ?_
              intro _ hw'
              obtain ⟨⟨dq2, osq2⟩, hw''⟩ := hw'
              subst hw''
              have HB4 := Lib.hid (below_then HB3.out HB3.out.size (below_regrown w6 dq2 osq2))
              generalize grow (redrawn w6 dq2) osq2 = w7 at HB4 ⊢
              clear N1 N2 n1 n2
              go_wp2
              go_ret3
              exact ⟨ret_next HS.out, HB4.out⟩
      · obtain ⟨n1, n2⟩ := str_ne hc
        have HS := Lib.hid (HERR.out 24 (by unfold Fr4.head; rw [if_neg h0, if_neg h8, if_pos hc]) (by decide))
        have HC := Lib.hid hc
        have q8 : 8 ≤ r.size := by omega
        have q4 : 4 ≤ r.size := by omega
        have q8i : (8 : Int) ≤ (r.size : Int) := by omega
        have q4i : (4 : Int) ≤ (r.size : Int) := by omega
        clear h0 hx hc h8
        generalize Fr4.sum (r.extract 0 4) = sm at N2 n1 n2
        go_wp2
        refine wp_region_quiet_below (by kernel_rfl) (by kernel_rfl) ?_
        quiet_step (first | with_reducible exact (N1 _ _).out | with_reducible exact (N2 _ _).out)
        quiet_step (first | with_reducible exact (N1 _ _).out | with_reducible exact (N2 _ _).out)
        quiet_step (first | with_reducible exact (N1 _ _).out | with_reducible exact (N2 _ _).out)
        quiet_step (first | with_reducible exact (N1 _ _).out | with_reducible exact (N2 _ _).out)
        quiet_step (first | with_reducible exact (N1 _ _).out | with_reducible exact (N2 _ _).out)
        quiet_step (first | with_reducible exact (N1 _ _).out | with_reducible exact (N2 _ _).out)
        quiet_step (first | with_reducible exact (N1 _ _).out | with_reducible exact (N2 _ _).out)
        quiet_step (first | with_reducible exact (N1 _ _).out | with_reducible exact (N2 _ _).out)
        refine wpQuiet_nil ?_
        intro _ hw'
        obtain ⟨⟨dq, osq⟩, hw''⟩ := hw'
        subst hw''
        have HB2 := Lib.hid (below_regrown w dq osq)
        generalize grow (redrawn w dq) osq = w5 at HB2 ⊢
        go_wp2
        go_ret3
        exact ⟨ret_next HS.out, HB2.out⟩
end Go.Proofs.YtpbofigfcdojgaaDoor
