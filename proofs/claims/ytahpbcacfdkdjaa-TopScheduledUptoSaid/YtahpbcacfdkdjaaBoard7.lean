/- attempts: Start. (Under way.) -/
import Derived.Test.YtahpbcacfdkdjaaBoard6
import Derived.Deep.RegionLaw
namespace At
def start (S : Bd) (t node now : Int) : Int × Bd := if 0 ≤ t then (match S.tasks[t.toNat]? with
  | some k => if S.dead = false ∧ may S t.toNat k = true then ((k.tries.length : Int) + 1, { S with tasks := S.tasks.set t.toNat { k with tries := k.tries ++ [⟨node, clamp now 0 1099511627776, 0⟩] } }) else (0, S)
  | none => (0, S)) else (0, S)
end At
namespace Go.Proofs.Ytahpbcacfdkdjaa
open Go.RowKit
set_option linter.unusedVariables false
set_option linter.unusedSimpArgs false
theorem att_info : (Try.prog.info? 49).map (fun i => (i.zero, i.size, i.bytes)) = some (some (.agg #[.int .i64 0, .int .i64 0, .int .i64 0]), 3, 24) := by kernel_rfl
set_option maxHeartbeats 1000000 in
theorem start_nil (t node now : Int) (w : World) : Calls Try.prog 8 #[.pointer none, .int .i64 t, .int .i64 node, .int .i64 now] w fun e w' => e = .returned (.int .i64 0) ∧ w = w' := by
  go_enter Try.func8, Try.ntmps8
  go_wp2_with fail
  refine (has_nil t w).mono ?_
  rintro _ _ ⟨rfl, rfl⟩
  go_wp2
  go_ret
  exact ⟨rfl, rfl⟩
set_option maxRecDepth 20000 in
set_option maxHeartbeats 4000000 in
theorem start_ok (b g : Nat) (vs : List Value) (S : At.Bd) (hS : S.Wf) (i : Nat) (k : At.Task) (hk : S.tasks[i]? = some k) (hd : S.dead = false) (hm : At.may S i k = true) (hln : k.tries.length ≤ 5000000000000) (node now : Int) (w : World) (h : BoardAt w b g vs S) :
    Calls Try.prog 8 #[.pointer (some ⟨b, 0, none⟩), .int .i64 (i : Int), .int .i64 node, .int .i64 now] w fun e w' => ∃ vs', e = .returned (.int .i64 ((k.tries.length : Int) + 1)) ∧
      BoardAt w' b g vs' { S with tasks := S.tasks.set i { k with tries := k.tries ++ [⟨node, At.clamp now 0 1099511627776, 0⟩] } } ∧ BdR w b g vs w' vs' := by
  have z : ∀ j, w.cell? ⟨b, j, none⟩ = [Value.int .i64 (S.maps : Int), .int .i64 S.limit, .int .i64 S.patience, .slice (some ⟨g, 0, none⟩) S.tasks.length S.tasks.length, .int .i64 S.opn, .bool false][j]? := fun j => hd ▸ h.blk.cell j
  have hi := (List.getElem?_eq_some_iff.1 hk).1
  have HH := Lib.hid (has_c b g vs S (i : Int) w h)
  have HM := Lib.hid (may_c b g vs S i k hk w h hS.len)
  rw [hm] at HM
  rw [show (decide (0 ≤ (i : Int)) && decide ((i : Int) < (S.tasks.length : Int))) = true by rw [decide_eq_true (by omega), decide_eq_true (by omega)]; rfl] at HH
  have HA := Lib.hid h
  obtain ⟨v, hv, c0, c1, c2⟩ := h.task hk
  have ho := h.own i v k hv hk
  obtain ⟨A, c, rfl⟩ := own_slice ho
  have HO := Lib.hid ho
  have HV := Lib.hid hv
  have HK := Lib.hid hk
  have ia : ((i : Int)).toNat = i := by omega
  have ip : (0 : Int) ≤ (i : Int) := by omega
  have iz : (i : Int) < (S.tasks.length : Int) := by omega
  have hc := fun w => Lib.hid (clamp_c now 0 1099511627776 w)
  have HLN := Lib.hid hln
  generalize S.tasks.length = n at *
  clear h hi hd hm hS hk hv ho hln c1 c2
  go_enter Try.func8, Try.ntmps8
  go_wp2_with fail
  refine HH.out.mono ?_
  rintro _ _ ⟨rfl, rfl⟩
  go_wp2_with fail
  refine HM.out.mono ?_
  rintro _ _ ⟨rfl, rfl⟩
  have HK1 : Hid (∀ w', w.grownBy w' (Value.slice A k.tries.length c).ownBlock → w'.cell? ⟨g, i * 3, none⟩ = some (.slice A k.tries.length c) ∧ w'.frozen? ⟨g, i * 3, none⟩ = false) := Lib.hid fun w' hG => by
    have hf : Fr w w' (fun q => (Value.slice A k.tries.length c).ownBlock = some q) := Fr.of_grown hG fun q e => e
    have hb := HA.out.tsk.fr hf (fun e => (HA.out.off i _ g HV.out e).2 rfl)
    have hb0 := HA.out.tsk
    exact ⟨by rw [hb.cell, ← hb0.cell]; exact c0, hb.frozen _⟩
  have d0 : ∀ o, (w.alloc o).cell? ⟨g, i * 3, none⟩ = some (.slice A k.tries.length c) := fun o => Lib.cell?_alloc_some _ c0
  go_upto_region 4 with (fail)
  clear z
  go_region_law ((first
    | (go_simp; go_at_call 12; refine (hc _).out.mono ?_; rintro _ _ ⟨rfl, rfl⟩)
    | (refine step_app_d (by rfl) (.tmp 36) (.tmp 41) 44 (by rfl) 0 49 _ 3 24 Try.underlying44 att_info rfl (by decide) (.slice A k.tries.length c) k.tries.length _ (by rfl) HO.out [.int .i64 node, .int .i64 (At.clamp now 0 1099511627776), .int .i64 0] 49 1 1 (by rfl) (by rfl) (by rfl) (by have := HLN.out; unfold maxLen; omega) (by have := HLN.out; omega) (Nat.zero_le _) ?_; intro v' w' hO hG hN; obtain ⟨k1, k2⟩ := HK1.out w' hG.out; obtain ⟨A', c', rfl⟩ := own_slice hO.out)))
  all_goals
    obtain ⟨p1, p2⟩ := HA.out.addTry (a := ⟨node, At.clamp now 0 1099511627776, 0⟩) HK.out HV.out hO.out hG.out hN.out
    have z : (w'.setCell ⟨g, i * 3, none⟩ (.slice A' (k.tries.length + 1) c')).cell? ⟨g, i * 3, none⟩ = some (.slice A' (k.tries.length + 1) c') := by
      obtain ⟨v2, hv2, c0', _, _⟩ := p1.task (i := i) (t := { k with tries := k.tries ++ [⟨node, At.clamp now 0 1099511627776, 0⟩] }) (by rw [List.getElem?_set_self (List.getElem?_eq_some_iff.1 HK.out).1])
      rw [c0']
      rw [List.getElem?_set_self (List.getElem?_eq_some_iff.1 HV.out).1] at hv2
      exact hv2.symm
    have P1 := Lib.hid p1
    have P2 := Lib.hid p2
    clear p1 p2 hO hG hN
    generalize w'.setCell ⟨g, i * 3, none⟩ (.slice A' (k.tries.length + 1) c') = w9 at z P1 P2 ⊢
    go_wp2
    refine bodyPost_ret (results_tmp (by rfl) _ _ _) (by rfl) ⟨_, ?_, P1.out, P2.out⟩
    first | rfl | (congr 1)
end Go.Proofs.Ytahpbcacfdkdjaa
