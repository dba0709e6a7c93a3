/- disk: Append, Rename, Delete. -/
import Derived.Test.YtdkjehjiacmppaaDisk4
namespace Go.Proofs.Ytdkjehjiacmppaa
open Go.RowKit Go.Maps
set_option linter.unusedVariables false
set_option linter.unusedSimpArgs false
def DkDone (w : World) (B b ml mh : Nat) (cv : Value) (Ll Lh : List ByteArray) (r : DkSt × Int) (e : Ending) (w' : World) : Prop :=
  e = .returned (.int .i64 r.2) ∧ ∃ cv' Lh', Lh'.length ≤ Lh.length + 1 ∧ DkAt w' B b ml mh cv' Ll Lh' r.1 ∧ DkR w b ml mh cv w' mh cv'
structure DkSt.Ok (S : DkSt) : Prop where
  u0 : 0 ≤ S.used
  u1 : S.used ≤ S.cap
  c1 : S.cap ≤ 9223372036854775807
def DkSt.append (S : DkSt) (x d : ByteArray) : DkSt × Int :=
  if validB x = false then (S, 2) else if S.cap - S.used < d.size then (S, 40) else (DkSt.make { S with used := S.used + d.size } (.app x d), 0)
def DkSt.rename (S : DkSt) (x y : ByteArray) : DkSt × Int :=
  if validB y = false then (S, 2) else if (S.held x).isSome = false then (S, 41) else if (S.held y).isSome = true then (S, 42) else (S.make (.ren x y), 0)
def DkSt.delete (S : DkSt) (x : ByteArray) : DkSt × Int :=
  if (S.held x).isSome = false then (S, 41) else (DkSt.make { S with used := S.used - (S.held.at x).length } (.del x), 0)
theorem validB_size {x : ByteArray} (h : validB x = true) : x.size ≤ maxLen := by have := of_decide_eq_true h; unfold maxLen; omega
theorem DkAt.setUsed {w : World} {B b ml mh : Nat} {cv : Value} {Ll Lh : List ByteArray} {S : DkSt} (h : DkAt w B b ml mh cv Ll Lh S) (u : Int) :
    DkAt (w.setCell ⟨b, 1, none⟩ (.int .i64 u)) B b ml mh cv Ll Lh { S with used := u } ∧ Fr w (w.setCell ⟨b, 1, none⟩ (.int .i64 u)) (DkN b ml mh cv) := by
  have hf : Fr w (w.setCell ⟨b, 1, none⟩ (.int .i64 u)) (fun j => j = b) := (Fr.refl w _).setCell _ _ fun _ => rfl
  exact ⟨⟨h.blk.set 1 _, h.ne, h.lo, own_fr h.row hf (fun q e e2 => (h.apart q e).1 e2), h.apart, h.last.fr hf h.ne.1 (fun q e => .inl e), h.held.fr hf h.ne.2.1 (fun q e => .inl e), h.ok⟩, hf.mono fun _ _ e => .inl e⟩
theorem DkDone.same {w w' : World} {B b ml mh : Nat} {cv : Value} {Ll Lh : List ByteArray} {S : DkSt} {n : Int} (h : DkAt w B b ml mh cv Ll Lh S) (hf : Fr w w' (fun _ => False)) : DkDone w B b ml mh cv Ll Lh (S, n) (.returned (.int .i64 n)) w' :=
  ⟨rfl, cv, Lh, Nat.le_succ _, h.frNone hf, DkR.of_fr hf⟩
theorem DkDone.made {w w1 w' : World} {B b ml mh : Nat} {cv : Value} {Ll Lh Lh' : List ByteArray} {S : DkSt} {e : Ending} (hf : Fr w w1 (DkN b ml mh cv)) (h : DkRet w1 B b ml mh cv Ll Lh' S 0 e w') (hL : Lh'.length ≤ Lh.length + 1) : DkDone w B b ml mh cv Ll Lh (S, 0) e w' := by
  obtain ⟨he, cv', h1, h2⟩ := h
  exact ⟨he, cv', Lh', hL, h1, (DkR.of hf).trans h2⟩
set_option maxRecDepth 20000 in
set_option maxHeartbeats 4000000 in
theorem append_c2 (B b ml mh : Nat) (cv : Value) (Ll Lh : List ByteArray) (S : DkSt) (x d : ByteArray) (w : World) (h : DkAt w B b ml mh cv Ll Lh S) (hS : S.Ok) (hd : d.size ≤ 140737488355328) (hl : Lh.length < maxLen) (hb : ¬ S.cap - S.used < d.size → (S.held.at x).length + d.size ≤ 140737488355328) (hn : S.chg.length < 8796093022000) :
    Calls Try.prog 11 #[.pointer (some ⟨b, 0, none⟩), .string x, .string d] w (DkDone w B b ml mh cv Ll Lh (S.append x d)) := by
  have HV := Lib.hid (valid_c x w)
  unfold DkSt.append
  cases hv : validB x with
  | false =>
    rw [if_pos rfl]
    rw [hv] at HV
    have HP := Lib.hid (DkDone.same (n := 2) h (Fr.refl w _))
    clear h hS hd hl hb hn hv
    go_enter Try.func11, Try.ntmps11
    go_wp2_with fail
    refine HV.out.mono ?_
    rintro _ _ ⟨rfl, rfl⟩
    go_wp2
    go_ret
    exact HP.out
  | true =>
    rw [if_neg (by decide)]
    rw [hv] at HV
    have z : ∀ n j, (w.drewN n).cell? ⟨b, j, none⟩ = [Value.int .i64 S.cap, .int .i64 S.used, .map (some ml), .map (some mh), cv][j]? := fun n j => h.blk.cell j
    have w1 : wrap64 (S.cap - S.used) = S.cap - S.used := by have := hS.u0; have := hS.u1; have := hS.c1; unfold wrap64; omega
    have w2 : IntKind.i64.wrap (S.cap - S.used) = S.cap - S.used := by have := hS.u0; have := hS.u1; have := hS.c1; rw [IntKind.wrap_i64]; omega
    by_cases hf : S.cap - S.used < d.size
    · rw [if_pos hf]
      have t1 : decide (S.cap - S.used < (d.size : Int)) = true := decide_eq_true hf
      have HP : Hid (∀ n, DkDone w B b ml mh cv Ll Lh (S, 40) (.returned (.int .i64 40)) (w.drewN n)) := Lib.hid fun n => DkDone.same h ((Fr.refl w _).drewN n)
      clear h hS hd hl hb hn hv hf
      go_enter Try.func11, Try.ntmps11
      go_wp2_with fail
      refine HV.out.mono ?_
      rintro _ _ ⟨rfl, rfl⟩
      go_upto_region 3 with (fail)
      go_quiet (fail)
      go_wp2
      go_ret
      exact HP.out _
    · rw [if_neg hf]
      have t1 : decide (S.cap - S.used < (d.size : Int)) = false := decide_eq_false hf
      have H : Hid (∀ n, DkAt (w.drewN n) B b ml mh cv Ll Lh S) := Lib.hid fun n => h.frNone ((Fr.refl w _).drewN n)
      have HM : Hid (∀ w1, DkAt w1 B b ml mh cv Ll Lh { S with used := S.used + d.size } → Calls Try.prog 26 #[.pointer (some ⟨b, 0, none⟩), .iface 62 (.agg #[.string x, .string d])] w1 (DkRet w1 B b ml mh cv Ll (insN x Lh) (DkSt.make { S with used := S.used + d.size } (.app x d)) 0)) :=
        Lib.hid fun w1 h1 => make_c B b ml mh cv Ll Lh _ (.app x d) (validB_size hv) w1 h1 hl (hb hf) hn
      have w3 : wrap64 (S.used + (d.size : Int)) = S.used + (d.size : Int) := by have := hS.u0; have := hS.u1; have := hS.c1; unfold wrap64; omega
      have w4 : IntKind.i64.wrap (S.used + (d.size : Int)) = S.used + (d.size : Int) := by have := hS.u0; have := hS.u1; have := hS.c1; rw [IntKind.wrap_i64]; omega
      clear h hS hd hl hb hn hv hf
      go_enter Try.func11, Try.ntmps11
      go_wp2_with fail
      refine HV.out.mono ?_
      rintro _ _ ⟨rfl, rfl⟩
      go_upto_region 3 with (fail)
      go_quiet (fail)
      have HF : Hid (Fr w (w.drewN nq) (DkN b ml mh cv)) := Lib.hid ((Fr.refl w _).drewN nq)
      have H1 := Lib.hid (H.out nq)
      clear z H
      generalize w.drewN nq = w5 at HF H1 ⊢
      have c1 : w5.cell? ⟨b, 1, none⟩ = some (.int .i64 S.used) := H1.out.blk.cell 1
      have f1 : w5.frozen? ⟨b, 1, none⟩ = false := H1.out.blk.frozen 1
      obtain ⟨h2, hf2⟩ := H1.out.setUsed (S.used + d.size)
      have HM2 := Lib.hid (HM.out _ h2)
      have HF2 := Lib.hid (HF.out.trans hf2 fun _ _ e => e)
      have HIL := Lib.hid (insN_len x Lh).2
      clear h2 hf2 HM
      go_wp2_with fail
      refine HM2.out.mono ?_
      rintro e w6 h6
      obtain ⟨rfl, h7⟩ := h6
      have HP := Lib.hid (DkDone.made HF2.out ⟨rfl, h7⟩ HIL.out)
      clear h7
      go_wp2
      go_ret
      exact HP.out
theorem append_c (B b ml mh : Nat) (cv : Value) (Ll Lh : List ByteArray) (S : DkSt) (x d : ByteArray) (w : World) (h : DkAt w B b ml mh cv Ll Lh S) (hS : S.Ok) (hd : d.size ≤ 140737488355328) (hl : Lh.length < maxLen) (hb : (S.held.at x).length + d.size ≤ 140737488355328) (hn : S.chg.length < 8796093022000) :
    Calls Try.prog 11 #[.pointer (some ⟨b, 0, none⟩), .string x, .string d] w (DkDone w B b ml mh cv Ll Lh (S.append x d)) := append_c2 B b ml mh cv Ll Lh S x d w h hS hd hl (fun _ => hb) hn
set_option maxRecDepth 20000 in
set_option maxHeartbeats 4000000 in
theorem rename_c (B b ml mh : Nat) (cv : Value) (Ll Lh : List ByteArray) (S : DkSt) (x y : ByteArray) (hx : x.size ≤ maxLen) (hy : y.size ≤ maxLen) (w : World) (h : DkAt w B b ml mh cv Ll Lh S) (hl : Lh.length < maxLen) (hn : S.chg.length < 8796093022000) :
    Calls Try.prog 18 #[.pointer (some ⟨b, 0, none⟩), .string x, .string y] w (DkDone w B b ml mh cv Ll Lh (S.rename x y)) := by
  have HV := Lib.hid (valid_c y w)
  have HX := Lib.hid (has_c B b ml mh cv Ll Lh S x hx w h)
  have HY := Lib.hid (has_c B b ml mh cv Ll Lh S y hy w h)
  have HM : Hid (Calls Try.prog 26 #[.pointer (some ⟨b, 0, none⟩), .iface 71 (.agg #[.string x, .string y])] w (DkRet w B b ml mh cv Ll (insN y Lh) (S.make (.ren x y)) 0)) :=
    Lib.hid (make_c B b ml mh cv Ll Lh _ (.ren x y) ⟨hx, hy⟩ w h hl trivial hn)
  have HP : Hid (∀ n, DkDone w B b ml mh cv Ll Lh (S, n) (.returned (.int .i64 n)) w) := Lib.hid fun n => DkDone.same h (Fr.refl w _)
  unfold DkSt.rename
  clear h hl hn hx hy
  cases hv : validB y with
  | false =>
    rw [if_pos rfl]
    rw [hv] at HV
    go_enter Try.func18, Try.ntmps18
    go_wp2_with fail
    refine HV.out.mono ?_
    rintro _ _ ⟨rfl, rfl⟩
    go_wp2
    go_ret
    exact HP.out _
  | true =>
    rw [if_neg (by decide)]
    rw [hv] at HV
    cases hx : (S.held x).isSome with
    | false =>
      rw [if_pos rfl]
      rw [hx] at HX
      go_enter Try.func18, Try.ntmps18
      go_wp2_with fail
      refine HV.out.mono ?_
      rintro _ _ ⟨rfl, rfl⟩
      go_wp2_with fail
      refine HX.out.mono ?_
      rintro _ _ ⟨rfl, rfl⟩
      go_wp2
      go_ret
      exact HP.out _
    | true =>
      rw [if_neg (by decide)]
      rw [hx] at HX
      cases hy : (S.held y).isSome with
      | true =>
        rw [if_pos rfl]
        rw [hy] at HY
        go_enter Try.func18, Try.ntmps18
        go_wp2_with fail
        refine HV.out.mono ?_
        rintro _ _ ⟨rfl, rfl⟩
        go_wp2_with fail
        refine HX.out.mono ?_
        rintro _ _ ⟨rfl, rfl⟩
        go_wp2_with fail
        refine HY.out.mono ?_
        rintro _ _ ⟨rfl, rfl⟩
        go_wp2
        go_ret
        exact HP.out _
      | false =>
        rw [if_neg (by decide)]
        rw [hy] at HY
        have HIL := Lib.hid (insN_len y Lh).2
        go_enter Try.func18, Try.ntmps18
        go_wp2_with fail
        refine HV.out.mono ?_
        rintro _ _ ⟨rfl, rfl⟩
        go_wp2_with fail
        refine HX.out.mono ?_
        rintro _ _ ⟨rfl, rfl⟩
        go_wp2_with fail
        refine HY.out.mono ?_
        rintro _ _ ⟨rfl, rfl⟩
        go_wp2_with fail
        refine HM.out.mono ?_
        rintro e w6 h6
        obtain ⟨rfl, h7⟩ := h6
        have HP2 := Lib.hid (DkDone.made (Fr.refl w _) ⟨rfl, h7⟩ HIL.out)
        clear h7
        go_wp2
        go_ret
        exact HP2.out
set_option maxRecDepth 20000 in
set_option maxHeartbeats 4000000 in
theorem delete_c (B b ml mh : Nat) (cv : Value) (Ll Lh : List ByteArray) (S : DkSt) (x : ByteArray) (hx : x.size ≤ maxLen) (w : World) (h : DkAt w B b ml mh cv Ll Lh S) (hu : 0 ≤ S.used - (S.held.at x).length ∧ S.used ≤ 9223372036854775807) (hl : Lh.length < maxLen) (hn : S.chg.length < 8796093022000) :
    Calls Try.prog 17 #[.pointer (some ⟨b, 0, none⟩), .string x] w (DkDone w B b ml mh cv Ll Lh (S.delete x)) := by
  have HX := Lib.hid (has_c B b ml mh cv Ll Lh S x hx w h)
  have HP : Hid (∀ n, DkDone w B b ml mh cv Ll Lh (S, n) (.returned (.int .i64 n)) w) := Lib.hid fun n => DkDone.same h (Fr.refl w _)
  unfold DkSt.delete
  cases hxs : (S.held x).isSome with
  | false =>
    rw [if_pos rfl]
    rw [hxs] at HX
    clear h hu hl hn hx hxs
    go_enter Try.func17, Try.ntmps17
    go_wp2_with fail
    refine HX.out.mono ?_
    rintro _ _ ⟨rfl, rfl⟩
    go_wp2
    go_ret
    exact HP.out _
  | true =>
    rw [if_neg (by decide)]
    rw [hxs] at HX
    have h0 := h.frNone ((Fr.refl w (fun _ => False)).drewN 1)
    obtain ⟨p, c, hlk, hfv⟩ := h0.held.look x hx
    have hlk2 : (Instr.lookup 55 (.map (some mh)) (.string x) false).run Try.prog w.drew = .ok (.slice p (S.held.at x).length c) w.drew := hlk
    have c1 : w.drew.cell? ⟨b, 1, none⟩ = some (.int .i64 S.used) := h.blk.cell 1
    have c3 : w.drew.cell? ⟨b, 3, none⟩ = some (.map (some mh)) := h.blk.cell 3
    have f1 : w.drew.frozen? ⟨b, 1, none⟩ = false := h.blk.frozen 1
    generalize hnl : (S.held.at x).length = nl at hlk2 hu ⊢
    have w3 : wrap64 (S.used - (nl : Int)) = S.used - (nl : Int) := by unfold wrap64; omega
    have w4 : IntKind.i64.wrap (S.used - (nl : Int)) = S.used - (nl : Int) := by rw [IntKind.wrap_i64]; omega
    have HM : Hid (∀ w1, DkAt w1 B b ml mh cv Ll Lh { S with used := S.used - nl } → Calls Try.prog 26 #[.pointer (some ⟨b, 0, none⟩), .iface 69 (.agg #[.string x])] w1 (DkRet w1 B b ml mh cv Ll Lh (DkSt.make { S with used := S.used - nl } (.del x)) 0)) :=
      Lib.hid fun w1 h1 => make_c B b ml mh cv Ll Lh _ (.del x) hx w1 h1 hl trivial hn
    obtain ⟨h2, hf2⟩ := h.setUsed (S.used - nl)
    have H2 : Hid (DkAt (w.setCell ⟨b, 1, none⟩ (.int .i64 (S.used - nl))).drew B b ml mh cv Ll Lh { S with used := S.used - nl }) := Lib.hid (h2.frNone ((Fr.refl _ (fun _ => False)).drewN 1))
    have HF2 : Hid (Fr w (w.setCell ⟨b, 1, none⟩ (.int .i64 (S.used - nl))).drew (DkN b ml mh cv)) := Lib.hid (hf2.drewN 1)
    clear h h0 hu hl hn hx hxs hlk hfv h2 hf2 hnl
    go_enter Try.func17, Try.ntmps17
    go_wp2_with fail
    refine HX.out.mono ?_
    rintro _ _ ⟨rfl, rfl⟩
    go_upto_region 5 with (fail)
    go_region
    have HM2 := Lib.hid (HM.out _ H2.out)
    clear c1 c3 f1 hlk2 HM
    generalize (w.setCell ⟨b, 1, none⟩ (.int .i64 (S.used - nl))).drew = w5 at H2 HF2 HM2 ⊢
    go_wp2_with fail
    refine HM2.out.mono ?_
    rintro e w6 h6
    obtain ⟨rfl, h7⟩ := h6
    have HP2 := Lib.hid (DkDone.made HF2.out ⟨rfl, h7⟩ (Nat.le_succ _))
    clear h7
    go_wp2
    go_ret
    exact HP2.out
end Go.Proofs.Ytdkjehjiacmppaa
