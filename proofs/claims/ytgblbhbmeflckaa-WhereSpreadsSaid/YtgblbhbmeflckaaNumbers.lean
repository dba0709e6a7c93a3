/- mahoutlaw03.numbers: the complex numbers of a list of points. (Under way.) -/
import Derived.Test.YtgblbhbmeflckaaWhere2
import Derived.Test.YtgblbhbmeflckaaRecs
namespace Go.Proofs.Ytgblbhbmeflckaa
open Go.RowKit Go.Lib Fl
set_option linter.unusedVariables false
set_option linter.unusedSimpArgs false
theorem c128_info : (Try.prog.info? 26).map (fun i => (i.zero, i.size, i.bytes)) = some (some (.complex .f64 0 0), 1, 16) := by kernel_rfl
def RPts := RSl 3 24 (fun (_ : World) (cs : List Value) (x : Pt) => cs = x.cells ∧ x.Wf)
noncomputable def Pt.c (p : Pt) : Value := .complex .f64 (word p.raw p.x) (word p.raw p.y)
set_option maxHeartbeats 2000000 in
set_option maxRecDepth 20000 in
theorem numbers_c (ps : List Pt) (a : Option Addr) (n c : Nat) (w : World) (h : RPts w [.slice a n c] ps) : Calls Try.prog 18 #[.slice a n c] w fun e w' => ∃ v, e = .returned v ∧ Below w.heap.size w w' ∧ w'.ownsRow w.heap.size 26 1 v ps.length (ps.map Pt.c) := by
  obtain ⟨hn, hnc, hcb, hcm, hget⟩ := rsl_get h
  have HN := Lib.hid hn
  have HG := Lib.hid hget
  have hnb : n * 24 ≤ 140737488351232 := by omega
  clear h hn hget hnc hcb
  go_enter Try.func18, Try.ntmps18
  go_wp2
  go_loopg [3, 4] n (fun g v3 v4 wr => ∃ (i : Nat) (v : Value), v3 = v ∧ v4 = .int .i64 i ∧ i ≤ n ∧ n ≤ g + i ∧ Hid (Below w.heap.size w wr) ∧ Hid (wr.ownsRow w.heap.size 26 1 v i ((ps.take i).map Pt.c)))
  case atStart => exact ⟨0, _, rfl, rfl, Nat.zero_le _, by omega, Lib.hid (Below.refl _ _), Lib.hid (World.ownsRow_nil _ _ _ _)⟩
  case round =>
    obtain ⟨i, v, rfl, rfl, hi, hg, HBW, HO⟩ := hrel
    by_cases hlt : i < n
    · have hltz : (i : Int) < (n : Int) := by omega
      obtain ⟨p, hp⟩ : ∃ p, ps[i]? = some p := ⟨ps[i]'(by rw [HN.out]; exact hlt), List.getElem?_eq_getElem _⟩
      obtain ⟨b, off, rfl, hb, hwf, hcell⟩ := HG.out i p hp
      have k0 : wr.cell? ⟨b, off + i * 3, none⟩ = some (.int .i64 p.x) := (HBW.out.cell (p := ⟨b, off + i * 3, none⟩) hb).trans (hcell 0 _ rfl)
      have k1 : wr.cell? ⟨b, off + i * 3 + 1, none⟩ = some (.int .i64 p.y) := (HBW.out.cell (p := ⟨b, off + i * 3 + 1, none⟩) hb).trans (hcell 1 _ rfl)
      have k2 : wr.cell? ⟨b, off + i * 3 + 2, none⟩ = some (.bool p.raw) := (HBW.out.cell (p := ⟨b, off + i * 3 + 2, none⟩) hb).trans (hcell 2 _ rfl)
      have ia : ((i : Int)).toNat = i := by omega
      have pa : (0 : Int) ≤ (i : Int) := by omega
      have HPI := Lib.hid hp
      have HWF := Lib.hid hwf
      clear hcell hp hwf hb HG
      go_wp2_with (first
        | (go_at_call 12
           refine (number_any p.x p.y p.raw _).mono ?_
           rintro _ w2 ⟨rfl, hb2⟩
           have HB2 := Lib.hid hb2
           have HO2 := Lib.hid (own_below HO.out hb2 (Nat.le_refl _))
           have HBX := Lib.hid (below_then HBW.out HBW.out.size hb2)
           clear hb2 k0 k1 k2)
        | (at_builtin
           refine wpList_app rfl _ _ 38 rfl w.heap.size 26 _ 1 16 Try.underlying38 c128_info rfl (by decide) _ i _ rfl HO2.out _ _ 1 1 rfl rfl rfl (by unfold maxLen; omega) (by omega) (by exact HBX.out.size) ?_
           intro v' w' hO hG hN
           obtain ⟨A, cc, rfl⟩ := own_slice hO.out))
      go_roundg (n - (i + 1))
      case measure => omega
      case rel =>
        have hob := own_base HO2.out
        have hbb := below_grown HBX.out HBX.out.size hG.out hob
        refine ⟨i + 1, _, rfl, by first | rfl | go_num, by omega, by omega, Lib.hid hbb, Lib.hid ?_⟩
        have e : ps.take (i + 1) = ps.take i ++ [p] := by rw [List.take_add_one, HPI.out]; rfl
        rw [e, List.map_append]
        exact hO.out
    · have hltz : ¬ (i : Int) < (n : Int) := by omega
      have he : i = n := by omega
      have HE := Lib.hid he
      clear he
      go_wp2
      refine bodyPost_ret (results_tmp (by rfl) _ _ _) (by rfl) ⟨_, by rfl, HBW.out, ?_⟩
      have h := HO.out
      rw [HE.out, ← HN.out, List.take_length] at h
      exact h
end Go.Proofs.Ytgblbhbmeflckaa
