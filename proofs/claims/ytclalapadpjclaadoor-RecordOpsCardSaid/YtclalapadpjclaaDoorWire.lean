/- The contracts of Pack. -/
import Derived.Test.YtclalapadpjclaaDoorKit
import Derived.Test.YtclalapadpjclaaDoorPWire
namespace Go.Proofs.YtclalapadpjclaaDoor
open Go.RowKit
set_option linter.unusedVariables false
set_option linter.unusedSimpArgs false
theorem u8_info : (Tryd.prog.info? 5).map (fun i => (i.zero, i.size, i.bytes)) = some (some (.int .u8 0), 1, 1) := by kernel_rfl
/-- A pack at block b: its slice's value, its bytes. -/
structure PackAt (w : World) (b : Nat) (v : Value) (l : List UInt8) : Prop where
  blk : Blk w b [v] 60
  own : w.ownsRow 0 5 1 v l.length (bytes l)
  ne : ∀ k, v.ownBlock = some k → k ≠ b
theorem PackAt.cell {w : World} {b : Nat} {v : Value} {l : List UInt8} (h : PackAt w b v l) : w.cell? ⟨b, 0, none⟩ = some v := h.blk.cell 0
theorem PackAt.after {w : World} {b : Nat} {v : Value} {l : List UInt8} (h : PackAt w b v l) (w' : World) (hG : w.grownBy w' v.ownBlock) : w'.cell? ⟨b, 0, none⟩ = some v ∧ w'.frozen? ⟨b, 0, none⟩ = false := by
  have := h.blk.fr (Fr.of_grown (S := fun k => v.ownBlock = some k) hG fun k e => e) (fun e => h.ne b e rfl)
  exact ⟨this.cell 0, this.frozen 0⟩
/-- What a call on the pack at b may change, and where its row lies behind it. -/
def PackS (b : Nat) (v : Value) : Nat → Prop := fun k => k = b ∨ v.ownBlock = some k
structure PackR (w : World) (b : Nat) (v : Value) (w' : World) (v' : Value) : Prop where
  lies : v'.ownBlock = v.ownBlock ∨ ∃ g, v'.ownBlock = some g ∧ w.heap.size ≤ g
  fr : Fr w w' (PackS b v)
theorem PackR.refl (w : World) (b : Nat) (v : Value) : PackR w b v w v := ⟨.inl rfl, Fr.refl _ _⟩
theorem PackR.trans {a c d : World} {b : Nat} {v v' v'' : Value} (h : PackR a b v c v') (k : PackR c b v' d v'') : PackR a b v d v'' := by
  refine ⟨?_, h.fr.trans k.fr ?_⟩
  · rcases k.lies with e | ⟨g, e, hg⟩
    · rw [e]; exact h.lies
    · exact .inr ⟨g, e, Nat.le_trans h.fr.size hg⟩
  · intro x hx hs
    rcases hs with rfl | e
    · exact .inl rfl
    · rcases h.lies with e' | ⟨g, e', hg⟩
      · exact .inr (e' ▸ e)
      · rw [e'] at e; have := Option.some.inj e; omega
def PackTo (w : World) (b : Nat) (v : Value) (l : List UInt8) (w' : World) : Prop := ∃ v', PackAt w' b v' l ∧ PackR w b v w' v'
theorem PackAt.push {w w' : World} {b : Nat} {v v' : Value} {l l' : List UInt8} (h : PackAt w b v l) (hO : w'.ownsRow 0 5 1 v' l'.length (bytes l')) (hG : w.grownBy w' v.ownBlock)
    (hN : v'.ownBlock = v.ownBlock ∨ ∃ g, v'.ownBlock = some g ∧ w.heap.size ≤ g) : PackAt (w'.setCell ⟨b, 0, none⟩ v') b v' l' ∧ PackR w b v (w'.setCell ⟨b, 0, none⟩ v') v' := by
  have hne : ∀ k, v'.ownBlock = some k → k ≠ b := by
    intro k hk
    rcases hN with e | ⟨g, e, hg⟩
    · exact h.ne k (e ▸ hk)
    · rw [e] at hk; have := Option.some.inj hk; have := h.blk.lt; omega
  have hf : Fr w w' (fun k => v.ownBlock = some k) := Fr.of_grown hG fun k e => e
  refine ⟨⟨?_, ?_, hne⟩, hN, ?_⟩
  · exact (h.blk.fr hf (fun e => h.ne b e rfl)).set 0 v'
  · exact own_fr hO ((Fr.refl w' (fun k => k = b)).setCell _ _ (fun _ => rfl)) fun k hk e => hne k hk e
  · exact (hf.mono fun x _ e => .inr e).setCell _ _ fun _ => .inl rfl
theorem byte_low (u : Nat) : ((u : Int) % 256) = ((UInt8.ofNat u).toNat : Int) := by rw [UInt8.toNat_ofNat']; simp
theorem byte_or (u : Nat) : bits .or .u8 ((u : Int) % 256) 128 = ((UInt8.ofNat (u % 128 + 128)).toNat : Int) := by
  have e : ((u : Int) % 256) = ((u % 256 : Nat) : Int) := by omega
  rw [e, show (128 : Int) = ((128 : Nat) : Int) from rfl, u8_or_nat _ _ (by omega) (by decide), UInt8.toNat_ofNat']
  congr 1
  have h1 : u % 256 ||| 128 = u % 128 + 128 := by
    have : u % 256 < 256 := Nat.mod_lt _ (by decide)
    have h2 : ∀ n, n < 256 → n ||| 128 = n % 128 + 128 := by decide +kernel
    rw [h2 _ this]; omega
  rw [h1]; omega
theorem own_one {w : World} {base : Nat} {e : TypeId} {size n : Nat} {v : Value} {xs : List Value} (h : w.ownsRow base e size v n xs) : v.oneCell' = true := by
  obtain ⟨A, c, rfl⟩ := own_slice h; rfl
set_option maxRecDepth 20000 in
set_option maxHeartbeats 1000000 in
theorem number_any (b : Nat) (v0 : Value) (l0 : List UInt8) (u0 : Nat) (hu : u0 < 18446744073709551616) (w : World) (hP : PackAt w b v0 l0) (hl : (l0 ++ Wire.uv u0).length ≤ 140737488355328) :
    Calls Tryd.prog 34 #[.pointer (some ⟨b, 0, none⟩), .int .u64 u0] w fun e w' => e = .returned (.tuple #[]) ∧ PackTo w b v0 (l0 ++ Wire.uv u0) w' := by
  have HL := Lib.hid hl
  have HP0 := Lib.hid hP
  clear hl hP
  go_enter Tryd.func34, Tryd.ntmps34
  go_wp2
  go_loopg [1] u0 (fun g uval wr => ∃ (u : Nat) (v : Value) (l : List UInt8), uval = .int .u64 u ∧ u ≤ g ∧ u < 18446744073709551616 ∧ Hid (l ++ Wire.uv u = l0 ++ Wire.uv u0) ∧ Hid (PackAt wr b v l) ∧ Hid (PackR w b v0 wr v))
  case atStart => exact ⟨u0, v0, l0, rfl, Nat.le_refl _, hu, Lib.hid rfl, HP0, Lib.hid (PackR.refl _ _ _)⟩
  case round =>
    obtain ⟨u, v, l, rfl, hug, hul, HE, HP, HR⟩ := hrel
    have c0 := HP.out.cell
    have f0 := HP.out.blk.frozen 0
    have HA := Lib.hid HP.out.after
    have hlen : (l ++ Wire.uv u).length ≤ 140737488355328 := by rw [HE.out]; exact HL.out
    rw [List.length_append] at hlen
    have hup := Wire.uv_pos u
    have hle : l.length + 1 ≤ 140737488355328 := by omega
    clear hlen hup
    have HUL := Lib.hid hul
    by_cases h : u < 128
    · clear hul
      have HX := Lib.hid (by rw [Wire.uv_lt h] : Wire.uv u = [UInt8.ofNat u])
      go_wp2_with (at_builtin; refine wpList_app rfl _ _ 58 rfl 0 5 _ 1 1 Tryd.underlying58 u8_info rfl (by decide) v l.length _ rfl HP.out.own _ _ 1 1 rfl rfl rfl (by unfold maxLen; omega) (by omega) (Nat.zero_le _) ?_; intro v' w' hO hG hN; obtain ⟨c1, f1⟩ := HA.out w' hG.out; obtain ⟨A, cc, rfl⟩ := own_slice hO.out)
      go_end0
      have e : bytes l ++ [Value.int .u8 (u : Int)] = bytes (l ++ [UInt8.ofNat u]) := by
        rw [← bytes_app, show bytes [UInt8.ofNat u] = [Value.int .u8 ((UInt8.ofNat u).toNat : Int)] from rfl, UInt8.toNat_ofNat', Nat.mod_eq_of_lt (show u < 2 ^ 8 by omega)]
      obtain ⟨p1, p2⟩ := HP.out.push (l' := l ++ [UInt8.ofNat u]) (by rw [← e, List.length_append]; exact hO.out) hG.out hN.out
      refine ⟨rfl, _, ?_, HR.out.trans p2⟩
      rw [← HE.out, HX.out]; exact p1
    · have hge : ¬ ((u : Int) < 128) := by omega
      clear hul
      go_wp2_with (at_builtin; refine wpList_app rfl _ _ 58 rfl 0 5 _ 1 1 Tryd.underlying58 u8_info rfl (by decide) v l.length _ rfl HP.out.own _ _ 1 1 rfl rfl rfl (by unfold maxLen; omega) (by omega) (Nat.zero_le _) ?_; intro v' w' hO hG hN; obtain ⟨c1, f1⟩ := HA.out w' hG.out; obtain ⟨A, cc, rfl⟩ := own_slice hO.out)
      go_roundg (u / 128)
      case measure => omega
      case rel =>
        have e : bytes l ++ [Value.int .u8 (bits BinOp.or IntKind.u8 ((u : Int) % 256) 128)] = bytes (l ++ [UInt8.ofNat (u % 128 + 128)]) := by
          rw [byte_or, ← bytes_app]; rfl
        obtain ⟨p1, p2⟩ := HP.out.push (l' := l ++ [UInt8.ofNat (u % 128 + 128)]) (by rw [← e, List.length_append]; exact hO.out) hG.out hN.out
        refine ⟨u / 128, _, l ++ [UInt8.ofNat (u % 128 + 128)], val_int (by omega), Nat.le_refl _, by have := HUL.out; omega, Lib.hid (by rw [← HE.out, Wire.uv_ge h]; simp), Lib.hid p1, Lib.hid (HR.out.trans p2)⟩
theorem xor_ones (a : Nat) (h : a < 18446744073709551616) : a ^^^ 18446744073709551615 = 18446744073709551615 - a := by
  have h1 := BitVec.toNat_not (x := BitVec.ofNat 64 a)
  have h2 : ~~~ (BitVec.ofNat 64 a) = BitVec.ofNat 64 a ^^^ BitVec.allOnes 64 := by rw [BitVec.xor_allOnes]
  rw [h2, BitVec.toNat_xor, BitVec.toNat_ofNat, BitVec.toNat_allOnes, Nat.mod_eq_of_lt h] at h1
  have e : (2 : Nat) ^ 64 - 1 = 18446744073709551615 := by decide
  rw [e] at h1
  omega
theorem zz_i {n : Int} (h1 : -9223372036854775808 ≤ n) (h2 : n ≤ 9223372036854775807) :
    bits BinOp.xor IntKind.u64 (IntKind.u64.wrap (IntKind.u64.wrap n * 2)) (IntKind.u64.wrap (n / 9223372036854775808)) = ((Wire.zz n : Nat) : Int) := by
  have hz := Wire.zz_lt h1 h2
  simp only [IntKind.wrap_u64]
  unfold Wire.zz at hz ⊢
  by_cases h : 0 ≤ n
  · rw [if_pos h] at hz ⊢
    have e1 : n % 18446744073709551616 * 2 % 18446744073709551616 = ((2 * n).toNat : Int) := by omega
    have e2 : n / 9223372036854775808 % 18446744073709551616 = ((0 : Nat) : Int) := by omega
    rw [e1, e2, bits_xor_u64_nat _ _ hz (by decide), Nat.xor_zero]
  · rw [if_neg h] at hz ⊢
    have e1 : n % 18446744073709551616 * 2 % 18446744073709551616 = ((2 * n + 18446744073709551616).toNat : Int) := by omega
    have e2 : n / 9223372036854775808 % 18446744073709551616 = ((18446744073709551615 : Nat) : Int) := by omega
    rw [e1, e2, bits_xor_u64_nat _ _ (by omega) (by decide), xor_ones _ (by omega)]
    omega
set_option maxRecDepth 20000 in
set_option maxHeartbeats 1000000 in
theorem pint_any (b : Nat) (v0 : Value) (l0 : List UInt8) (n : Int) (h1 : -9223372036854775808 ≤ n) (h2 : n ≤ 9223372036854775807) (w : World) (hP : PackAt w b v0 l0) (hl : (l0 ++ Wire.enc n).length ≤ 140737488355328) :
    Calls Tryd.prog 19 #[.pointer (some ⟨b, 0, none⟩), .int .i64 n] w fun e w' => e = .returned (.tuple #[]) ∧ PackTo w b v0 (l0 ++ Wire.enc n) w' := by
  have HL := Lib.hid hl
  have HP0 := Lib.hid hP
  have HZ := Lib.hid (zz_i h1 h2)
  have HZL := Lib.hid (Wire.zz_lt h1 h2)
  clear hl hP h1 h2
  go_enter Tryd.func19, Tryd.ntmps19
  go_wp2_with fail
  rw [HZ.out]
  refine (number_any b v0 l0 _ HZL.out w HP0.out HL.out).mono ?_
  rintro e w' ⟨rfl, h⟩
  have HT := Lib.hid h
  clear h
  go_wp2_with fail
  go_end0
  exact ⟨rfl, HT.out⟩
set_option maxHeartbeats 1000000 in
theorem pint_nil (n : Int) (w : World) : Calls Tryd.prog 19 #[.pointer none, .int .i64 n] w fun e w' => e = .returned (.tuple #[]) ∧ w = w' := by
  go_enter Tryd.func19, Tryd.ntmps19
  go_wp2_with fail
  go_end0
  exact ⟨rfl, rfl⟩
set_option maxHeartbeats 1000000 in
theorem pbytes_any (b : Nat) (v : Value) (l : List UInt8) (w : World) (hP : PackAt w b v l) :
    Calls Tryd.prog 21 #[.pointer (some ⟨b, 0, none⟩)] w fun e w' => e = .returned (.string ⟨l.toArray⟩) ∧ w = w' := by
  have c0 := hP.cell
  have hc : (convert 58 9 v).run Tryd.prog w = .ok (.string ⟨l.toArray⟩) w := by
    by_cases hn : 0 < l.length
    · obtain ⟨g, cap, rfl, _, _, hC⟩ := own_some hP.own hn
      exact conv_bytes hC _ _ 5 _ Tryd.underlying58 Tryd.underlying5 Tryd.underlying9 _ rfl
    · obtain rfl : l = [] := List.eq_nil_of_length_eq_zero (by omega)
      rcases hP.own.2 with ⟨rfl, _⟩ | ⟨g, cap, cur, rfl, _, hh, _⟩
      · exact run_convert_bytes_nil w 58 5 Tryd.underlying58 Tryd.underlying5 0 0 9 Tryd.underlying9
      · exact conv_bytes (l := []) (fun j hj => by simp [bytes] at hj) _ _ 5 _ Tryd.underlying58 Tryd.underlying5 Tryd.underlying9 _ rfl
  clear hP
  go_enter Tryd.func21, Tryd.ntmps21
  go_wp2_with fail
  go_ret
  exact ⟨rfl, rfl⟩
set_option maxHeartbeats 1000000 in
theorem pbytes_nil (w : World) : Calls Tryd.prog 21 #[.pointer none] w fun e w' => e = .returned (.string ⟨#[]⟩) ∧ w = w' := by
  go_enter Tryd.func21, Tryd.ntmps21
  go_wp2_with fail
  go_ret
  exact ⟨rfl, rfl⟩
set_option maxRecDepth 20000 in
set_option maxHeartbeats 1000000 in
theorem ptext_any (b : Nat) (v0 : Value) (l0 : List UInt8) (s : ByteArray) (w : World) (hP : PackAt w b v0 l0) (hl : (l0 ++ (Wire.enc s.size ++ s.data.toList)).length ≤ 140737488355328) :
    Calls Tryd.prog 20 #[.pointer (some ⟨b, 0, none⟩), .string s] w fun e w' => e = .returned (.tuple #[]) ∧ PackTo w b v0 (l0 ++ (Wire.enc s.size ++ s.data.toList)) w' := by
  have hs : s.data.toList.length = s.size := by simp
  have hl1 : (l0 ++ Wire.enc s.size).length ≤ 140737488355328 := by rw [← List.append_assoc, List.length_append] at hl; omega
  have hl2 : (l0 ++ Wire.enc s.size).length + s.size ≤ 140737488355328 := by rw [← List.append_assoc, List.length_append, hs] at hl; exact hl
  have HL1 := Lib.hid hl1
  have hs2 : s.size ≤ 140737488355328 := by omega
  have HP0 := Lib.hid hP
  clear hl hP hl1 hs
  go_enter Tryd.func20, Tryd.ntmps20
  go_wp2_with fail
  refine (pint_any b v0 l0 s.size (by omega) (by omega) w HP0.out HL1.out).mono ?_
  rintro e w1 ⟨rfl, v1, hP1, hR1⟩
  have HP := Lib.hid hP1
  have HR := Lib.hid hR1
  have c0 := hP1.cell
  have f0 := hP1.blk.frozen 0
  have HA := Lib.hid hP1.after
  clear hP1 hR1
  generalize hll : l0 ++ Wire.enc s.size = l1 at hl2 HP
  have HLL := Lib.hid hll
  clear hll
  go_wp2_with (at_builtin; refine wpList_apps rfl _ _ 58 9 rfl 0 5 Tryd.underlying58 Tryd.underlying9 u8_info v1 l1.length _ rfl HP.out.own s rfl (by unfold maxLen; omega) hl2 (Nat.zero_le _) ?_; intro v' w' hO hG hN; obtain ⟨c1, f1⟩ := HA.out w' hG.out; obtain ⟨A, cc, rfl⟩ := own_slice hO.out)
  go_end0
  obtain ⟨p1, p2⟩ := HP.out.push (l' := l1 ++ s.data.toList) (by rw [← bytes_app, List.length_append]; simpa using hO.out) hG.out hN.out
  refine ⟨rfl, _, ?_, HR.out.trans p2⟩
  rw [← List.append_assoc, HLL.out]; exact p1
set_option maxHeartbeats 1000000 in
theorem ptext_nil (s : ByteArray) (w : World) : Calls Tryd.prog 20 #[.pointer none, .string s] w fun e w' => e = .returned (.tuple #[]) ∧ w = w' := by
  go_enter Tryd.func20, Tryd.ntmps20
  go_wp2_with fail
  refine (pint_nil _ _).mono ?_
  rintro e w1 ⟨rfl, rfl⟩
  go_wp2_with fail
  go_end0
  exact ⟨rfl, rfl⟩
theorem PackAt.new (w : World) : PackAt (w.alloc (.cells #[.slice none 0 0] 60)) w.heap.size (.slice none 0 0) [] :=
  ⟨Blk.new w [.slice none 0 0] 60, World.ownsRow_nil _ _ _ _, fun k h => by cases h⟩
theorem PackAt.fr {w w' : World} {b : Nat} {v : Value} {l : List UInt8} {S : Nat → Prop} (h : PackAt w b v l) (hf : Fr w w' S) (hb : ¬ S b) (hv : ∀ k, v.ownBlock = some k → ¬ S k) : PackAt w' b v l :=
  ⟨h.blk.fr hf hb, own_fr h.own hf hv, h.ne⟩
theorem PackAt.alloc {w : World} {b : Nat} {v : Value} {l : List UInt8} (h : PackAt w b v l) (o : Obj) : PackAt (w.alloc o) b v l :=
  h.fr ((Fr.refl w (fun _ => False)).alloc o) (fun e => e) (fun _ _ e => e)
theorem PackR.below {w w' : World} {b : Nat} {v v' : Value} (h : PackR w b v w' v') {B : Nat} (hb : B ≤ b) (hv : ∀ k, v.ownBlock = some k → B ≤ k) (hs : B ≤ w.heap.size) : Below B w w' :=
  h.fr.below (fun k _ e => by rcases e with rfl | e; exact hb; exact hv k e) hs
theorem PackR.alloc {w w' : World} {b : Nat} {v v' : Value} (h : PackR w b v w' v') (o : Obj) : PackR w b v (w'.alloc o) v' := ⟨h.lies, h.fr.alloc o⟩
theorem PackR.setCell {w w' : World} {b : Nat} {v v' : Value} (h : PackR w b v w' v') (a : Addr) (u : Value) (ha : w.heap.size ≤ a.block) : PackR w b v (w'.setCell a u) v' := ⟨h.lies, h.fr.setCell a u fun e => by omega⟩
theorem PackR.below2 {w w1 w2 : World} {b : Nat} {v v1 : Value} (h : PackR w b v w1 v1) (hb : Below w1.heap.size w1 w2) : PackR w b v w2 v1 :=
  ⟨h.lies, h.fr.trans (Fr.of_below (S := fun k => w1.heap.size ≤ k) hb fun k e _ => e) fun x hx e => by have := h.fr.size; omega⟩
end Go.Proofs.YtclalapadpjclaaDoor
