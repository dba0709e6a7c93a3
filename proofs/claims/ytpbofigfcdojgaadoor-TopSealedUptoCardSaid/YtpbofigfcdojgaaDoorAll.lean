/- wire.All. (Under way.) -/
import Derived.Test.YtpbofigfcdojgaaDoorFrame
import Derived.Test.YtpbofigfcdojgaaDoorGoto
import Derived.Deep.DeepAppendWide
namespace Go.Proofs.YtpbofigfcdojgaaDoor
open Go.RowKit Go.Sort
set_option linter.unusedVariables false
set_option linter.unusedSimpArgs false
section
variable {P : Program} {ops : Array Oper} {rest : List Oper} {o : Oper} {a : Act} {w : World} {Q : Exit → Act → World → Prop}
/-- append of elements that the statement has just laid down, with growslice's own bound -/
theorem wpList_appw (hgd : o.guard = none) (s x : Operand) (t : TypeId) (ho : o.op = .call { callee := .builtin .append, args := #[s, x], argTypes := #[t, t] })
    (base : Nat) (e : TypeId) (z : Value) (size bytes : Nat) (ht : P.underlying t = some (.slice e)) (hinfo : (P.info? e).map (fun i => (i.zero, i.size, i.bytes)) = some (some z, size, bytes)) (hzs : z.cells.size = size) (hsz : 0 < size)
    (v : Value) (n : Nat) (xs : List Value) (hs : a.eval s = v) (hown : w.ownsRow base e size v n xs) (news : List Value) (e' : TypeId) (m c : Nat) (hx : a.eval x = .slice (some ⟨w.heap.size, 0, none⟩) m c) (hl : news.length = m * size) (h1 : news.all (·.oneCell') = true)
    (h63 : n + m ≤ maxLen) (hbytes : ((n + m) + (n + m) / 4 + 192) * bytes ≤ 281474976710656) (hbase : base ≤ w.heap.size)
    (h : ∀ v' w', Hid (w'.ownsRow base e size v' (n + m) (xs ++ news)) → Hid (w.grownBy w' v.ownBlock) → wpList P ops Q rest (a.put o.dst v') w') : wpList P ops Q (o :: rest) a (w.alloc (.cells news.toArray e')) := by
  obtain ⟨i, hi, hz, hsize, hby⟩ := info_parts hinfo
  obtain ⟨v', w', hr, h2, h3, _⟩ := run_append_own_wide (P := P) (w.alloc (.cells news.toArray e')) base t o.type e i z size bytes ht hi hz hsize hby hzs hsz v n xs (hown.alloc _) ⟨w.heap.size, 0, none⟩ m c news hl (cell_news w news e') (fun u hu => List.all_eq_true.1 h1 u hu) h63 hbytes (by simp; omega)
  refine wpList_plain hgd fun K hK => ?_
  unfold Oper.wp execOp
  simp only [ho, resolve, invoke, builtin, Sem.run_bind, Sem.run_pure, Result.andThen_ok, List.map_toArray, List.map_cons, List.map_nil, hs, hx, hr]
  exact hK _ _ (h v' w' h2 (grown_alloc h3))
end
theorem str_info : (Tryd.prog.info? 9).map (fun i => (i.zero, i.size, i.bytes)) = some (some (.string ⟨#[]⟩), 1, 16) := rfl
def strs (l : List ByteArray) : List Value := l.map Value.string
theorem strs_snoc (l : List ByteArray) (b : ByteArray) : strs l ++ [.string b] = strs (l ++ [b]) := by simp [strs]
theorem strs_len (l : List ByteArray) : (strs l).length = l.length := by simp [strs]
def atOf : Value → Nat
  | .int _ x => x.toNat
  | _ => 0
def allFr (s : ByteArray) (v : Value) (at_ : Nat) (u : Nat → Value) : Act := { tmps := #[.string s, u 1, u 2, u 3, u 4, v, .int .i64 (at_ : Int), u 7, u 8, u 9, u 10, u 11, u 12, u 13, u 14, u 15, u 16, u 17, u 18, u 19, u 20, u 21, u 22, u 23, u 24, u 25, u 26, u 27, u 28], defers := [] }
def AllJ (w : World) (s : ByteArray) : Nat → Act → World → Prop
  | 0, a, w' => ∃ (v : Value) (at_ : Nat) (acc : List ByteArray), a = allFr s v at_ (fun k => a.tmps.getD k undef) ∧ at_ ≤ s.size ∧ 12 * acc.length ≤ at_ ∧ Hid (w'.ownsRow w.heap.size 9 1 v acc.length (strs acc)) ∧ Hid (Below w.heap.size w w') ∧
      Hid (acc ++ (Fr4.all s at_).1 = (Fr4.all s 0).1 ∧ (Fr4.all s at_).2 = (Fr4.all s 0).2)
  | _, _, _ => False
theorem all_fin {w w1 : World} {v : Value} {acc : List ByteArray} {A : List ByteArray × Nat × Nat} {k e : Nat} (h : acc ++ [] = A.1 ∧ (k, e) = A.2) (hO : w1.ownsRow w.heap.size 9 1 v acc.length (strs acc)) (hB : Below w.heap.size w w1) :
    ∃ v', Ending.returned (.tuple #[v, .int .i64 (k : Int), .int .i64 (e : Int)]) = Ending.returned (.tuple #[v', .int .i64 (A.2.1 : Int), .int .i64 (A.2.2 : Int)]) ∧ w1.ownsRow w.heap.size 9 1 v' A.1.length (strs A.1) ∧ Below w.heap.size w w1 := by
  obtain ⟨l, a, b⟩ := A
  rw [List.append_nil] at h
  obtain ⟨h1, h2⟩ := h
  dsimp only at h1 h2
  cases h2
  subst h1
  exact ⟨v, rfl, hO, hB⟩
theorem ofnat_ne {a b : Nat} (h : a ≠ b) : ((a : Int) == (b : Int)) = false := by simp; omega
set_option maxRecDepth 20000 in
set_option maxHeartbeats 2000000 in
theorem all_any (s : ByteArray) (hs : s.size ≤ 140737488351232) (w : World) (ht : Tab w) : Calls Tryd.prog 5 #[.string s] w fun e w' => ∃ v, e = .returned (.tuple #[v, .int .i64 ((Fr4.all s 0).2.1 : Int), .int .i64 ((Fr4.all s 0).2.2 : Int)]) ∧
    w'.ownsRow w.heap.size 9 1 v (Fr4.all s 0).1.length (strs (Fr4.all s 0).1) ∧ Below w.heap.size w w' := by
  have HT := Lib.hid ht
  have HSZ := Lib.hid hs
  clear ht
  go_enter Tryd.func5, Tryd.ntmps5
  go_wp2
  refine wp_scope_jumpH (AllJ w s) (fun _ a _ => s.size + 1 - atOf (a.tmps.getD 6 undef)) ?pass ?first
  case first =>
    intro hp
    have HP := Lib.hid hp
    clear hp
    go_wp2
    go_step3
    simp only [Exit.then]
    rename_i K1 hK1
    refine hK1 _ _ ?_
    refine HP.out 0 _ _ _ ?_ rfl
    exact ⟨.slice none 0 0, 0, [], by rfl, Nat.zero_le _, Nat.zero_le _, Lib.hid (World.ownsRow_nil _ _ _ _), Lib.hid (Below.refl _ _), Lib.hid ⟨rfl, rfl⟩⟩
  case pass =>
    rintro l a w' hJ
    match l, hJ with
    | 0, hJ =>
      obtain ⟨v, k, acc, ha, hk, hacc, HO, HB, HA⟩ := hJ
      generalize (fun k => a.tmps.getD k undef) = u at ha
      subst ha
      unfold allFr
      refine ⟨_, rfl, ?_⟩
      have HK := Lib.hid hk
      have HACC := Lib.hid hacc
      have HC := Lib.hid (next_any s hs k hk w' (HT.out.below HB.out))
      obtain ⟨⟨b, m, e⟩, hn⟩ : ∃ r, Fr4.next s k = r := ⟨_, rfl⟩
      rw [hn] at HC
      have HM : Hid (e = 0 → k + 12 ≤ m ∧ m ≤ s.size) := Lib.hid (fun h => by have := Fr4.next_ok12 hk (by rw [hn]; exact h); rw [hn] at this; exact this)
      have HX : Hid (e = 0 → Fr4.all s k = (b :: (Fr4.all s m).1, (Fr4.all s m).2)) := Lib.hid (fun h => by have := Fr4.all_more hk (by rw [hn]; exact h); rw [hn] at this; exact this)
      have HE : Hid (e ≠ 0 → Fr4.all s k = ([], k, if e = 3 then 0 else e)) := Lib.hid (fun h => by have := Fr4.all_end (s := s) (a := k) (by rw [hn]; exact h); rw [hn] at this; exact this)
      clear hn hs hk hacc
      go_wp2_with fail
      refine HC.out.mono ?_
      rintro ex w1 ⟨rfl, hb1⟩
      have HB1 := Lib.hid (below_then HB.out HB.out.size hb1)
      have HO1 := Lib.hid (own_below HO.out hb1 (Nat.le_refl _))
      clear hb1 HC HB HO
      unfold nextV
      by_cases he : e = 0
      · subst he
        obtain ⟨hm1, hm2⟩ := HM.out rfl
        have HX2 := Lib.hid (HX.out rfl)
        clear HX HM HE
        have HM2 := Lib.hid hm1
        have HM3 := Lib.hid hm2
        clear hm1 hm2
        go_wp2_with (at_builtin; refine wpList_appw rfl _ _ 22 rfl w.heap.size 9 _ 1 16 Tryd.underlying22 str_info rfl (by decide) _ acc.length _ rfl HO1.out [.string b] 9 1 1 rfl rfl rfl (by have := HACC.out; have := HK.out; have := HSZ.out; unfold maxLen; omega) (by have := HACC.out; have := HK.out; have := HSZ.out; omega) HB1.out.size ?_; intro v' w2 hO hG)
        go_step3
        simp only [Exit.then, jumpG_goto]
        refine ⟨⟨v', m, acc ++ [b], by rfl, HM3.out, by rw [List.length_append]; have := HACC.out; have := HM2.out; simp; omega, ?_, ?_, ?_⟩, ?_⟩
        · rw [← strs_snoc, List.length_append]; exact hO
        · exact Lib.hid (below_row HO1.out hG.out HB1.out (Nat.le_refl _) HB1.out.size)
        · have h := HA.out
          rw [HX2.out] at h
          exact Lib.hid ⟨by rw [List.append_assoc]; exact h.1, h.2⟩
        · simp [atOf]; have := HM2.out; have := HM3.out; omega
      · have t1 : ((e : Int) == 0) = false := by simp; omega
        have t2 : (e == 0) = false := by simp; omega
        have hx := HE.out he
        have h := HA.out
        rw [hx] at h
        by_cases h3 : e = 3
        · rw [if_pos h3] at h
          subst h3
          have HD := Lib.hid h
          clear h hx t1 t2 he HE
          go_wp2
          simp only [Exit.then, jumpG_ret]
          go_ret3
          exact all_fin HD.out HO1.out HB1.out
        · have t3 : ((e : Int) == 3) = false := by simp; omega
          have t4 : (e == 3) = false := by simp; omega
          rw [if_neg h3] at h
          have HD := Lib.hid h
          clear h hx he HE h3
          go_wp2
          simp only [Exit.then, jumpG_ret]
          go_ret3
          exact all_fin HD.out HO1.out HB1.out
end Go.Proofs.YtpbofigfcdojgaaDoor
