/- same: two slices of letters. -/
import Derived.Test.YtimaifehjgolmaaNetRef5
namespace Go.Proofs.Ytimaifehjgolmaa
open Go.RowKit Go.Maps
set_option linter.unusedVariables false
set_option linter.unusedSimpArgs false
set_option maxHeartbeats 2000000 in
set_option maxRecDepth 20000 in
theorem same_any (L : List Letter) (A : Option Addr) (c : Nat) (B : Option Addr) (d : Nat) (b1 b2 : Nat) (w : World) (hl : L.length ≤ 65536) (h1 : Recs w b1 32 4 (.slice A L.length c) (L.map Letter.cells)) (h2 : Recs w b2 48 4 (.slice B L.length d) (L.map Letter.cells)) :
    Calls Try.prog 23 #[.slice A L.length c, .slice B L.length d] w fun e w' => e = .returned (.bool true) ∧ ∃ n, w' = w.drewN n := by
  have H1 := Lib.hid h1
  have H2 := Lib.hid h2
  clear h1 h2
  have hnn : ((L.length : Int) != L.length) = false := by simp
  have hbi : ∀ x : Int, (x != x) = false := fun x => by simp
  go_enter Try.func23, Try.ntmps23
  go_wp2_with fail
  clear hnn
  go_loopg [5] L.length (fun m iv wr => ∃ i n : Nat, iv = .int .i64 i ∧ i ≤ L.length ∧ m = L.length - i ∧ wr = w.drewN n)
  case atStart => exact ⟨0, 0, rfl, Nat.zero_le _, rfl, rfl⟩
  case round =>
    obtain ⟨i, n, rfl, hi, hm, rfl⟩ := hrel
    subst hm
    by_cases hlt : i < L.length
    · obtain ⟨l, hL⟩ : ∃ l, L[i]? = some l := ⟨L[i], List.getElem?_eq_getElem hlt⟩
      obtain ⟨g, cap, hv, _, _, hc1, _⟩ := H1.out.some (by rw [List.length_map]; omega)
      obtain ⟨g2, cap2, hv2, _, _, hc2, _⟩ := H2.out.some (by rw [List.length_map]; omega)
      rw [List.length_map] at hv hv2
      cases hv
      cases hv2
      have hce : ∀ j u, l.cells[j]? = some u → w.cell? ⟨g, i * 4 + j, none⟩ = some u := fun j u hu => hc1 i l.cells j u (by simp [hL]) hu
      have hcf : ∀ j u, l.cells[j]? = some u → w.cell? ⟨g2, i * 4 + j, none⟩ = some u := fun j u hu => hc2 i l.cells j u (by simp [hL]) hu
      have e0 : w.cell? ⟨g, i * 4, none⟩ = some (.int .i64 l.num) := hce 0 _ rfl
      have e1 : w.cell? ⟨g, i * 4 + 1, none⟩ = some (.int .i64 l.src) := hce 1 _ rfl
      have e2 : w.cell? ⟨g, i * 4 + 2, none⟩ = some (.int .i64 l.dst) := hce 2 _ rfl
      have e3 : w.cell? ⟨g, i * 4 + 3, none⟩ = some (.string l.txt) := hce 3 _ rfl
      have f0 : w.cell? ⟨g2, i * 4, none⟩ = some (.int .i64 l.num) := hcf 0 _ rfl
      have f1 : w.cell? ⟨g2, i * 4 + 1, none⟩ = some (.int .i64 l.src) := hcf 1 _ rfl
      have f2 : w.cell? ⟨g2, i * 4 + 2, none⟩ = some (.int .i64 l.dst) := hcf 2 _ rfl
      have f3 : w.cell? ⟨g2, i * 4 + 3, none⟩ = some (.string l.txt) := hcf 3 _ rfl
      have hi0 : (0 : Int) ≤ i := by omega
      have hi1 : (i : Int) < L.length := by omega
      clear hce hcf hc1 hc2 hL H1 H2
      go_upto_region 6 with (fail)
      go_quiet (fail)
      clear e0 e1 e2 e3 f0 f1 f2 f3
      go_wp2_with fail
      go_roundg (L.length - (i + 1))
      case measure => omega
      case rel => exact ⟨i + 1, _, val_int (by omega), by omega, rfl, by first | rfl | (simp only [World.drewN_drewN])⟩
    · go_wp2_with fail
      go_ret
      exact ⟨rfl, n, rfl⟩
end Go.Proofs.Ytimaifehjgolmaa
