/- The nearest first: what Near sorts by. -/
import Derived.Test.YtahpbcacfdkdjaaSort5
namespace Go.Proofs.Ytahpbcacfdkdjaa
open Go.RowKit Go.Lib St
set_option linter.unusedVariables false
set_option linter.unusedSimpArgs false
def cmpZ (x y : Int) : Int := if x < y then -1 else if x > y then 1 else 0
theorem ltf_cmpZ (f : Int → Int) (x y : Int) : ltf (fun a b => cmpZ (f a) (f b)) x y = decide (f x < f y) := by
  unfold ltf cmpZ
  by_cases h : f x < f y
  · simp [h]
  · by_cases h2 : f x > f y
    · simp [h, h2]
    · simp [h, h2]
theorem swo_cmpZ (f : Int → Int) : Swo (ltf (fun a b => cmpZ (f a) (f b))) where
  asym := fun {x y} h => by rw [ltf_cmpZ] at *; have := of_decide_eq_true h; exact decide_eq_false (by omega)
  trans := fun {x y z} h1 h2 => by rw [ltf_cmpZ] at *; have := of_decide_eq_false h1; have := of_decide_eq_false h2; exact decide_eq_false (by omega)
theorem nan_c (x : Int) (w : World) : Calls Try.prog 25 #[.int .u64 x] w fun e w' => e = .returned (.bool false) ∧ w = w' := by
  go_enter Try.func25, Try.ntmps25
  go_wp2
  first | exact bodyPost_ret (results_tmp (by rfl) _ _ _) (by rfl) ⟨by rfl, by rfl⟩ | exact ⟨rfl, _, results_tmp (by rfl) _ _ _, rfl, rfl⟩
theorem cmp_c (x y : Int) (w : World) : Calls Try.prog 21 #[.int .u64 x, .int .u64 y] w fun e w' => e = .returned (.int .i64 (cmpZ x y)) ∧ w = w' := by
  generalize hr : cmpZ x y = r
  have HR := Lib.hid hr
  clear hr
  go_enter Try.func21, Try.ntmps21
  by_cases h1 : x < y
  · obtain rfl : -1 = r := by rw [← HR.out]; unfold cmpZ; rw [if_pos h1]
    go_wp2_with (go_at_call 25; refine (nan_c _ _).mono ?_; rintro _ _ ⟨rfl, rfl⟩)
    all_goals first | exact bodyPost_ret (results_tmp (by rfl) _ _ _) (by rfl) ⟨by rfl, by rfl⟩
  · by_cases h2 : x > y
    · obtain rfl : 1 = r := by rw [← HR.out]; unfold cmpZ; rw [if_neg h1, if_pos h2]
      go_wp2_with (go_at_call 25; refine (nan_c _ _).mono ?_; rintro _ _ ⟨rfl, rfl⟩)
      all_goals first | exact bodyPost_ret (results_tmp (by rfl) _ _ _) (by rfl) ⟨by rfl, by rfl⟩
    · obtain rfl : 0 = r := by rw [← HR.out]; unfold cmpZ; rw [if_neg h1, if_neg h2]
      go_wp2_with (go_at_call 25; refine (nan_c _ _).mono ?_; rintro _ _ ⟨rfl, rfl⟩)
      all_goals first | exact bodyPost_ret (results_tmp (by rfl) _ _ _) (by rfl) ⟨by rfl, by rfl⟩
set_option maxHeartbeats 1000000 in
theorem nearf_c (f : Int → Int) (a b n cap fc fb : Nat) (w : World) (ha : a < n) (hb : b < n) (h0 : w.cell? ⟨fc, 0, none⟩ = some (.slice (some ⟨fb, 0, none⟩) n cap)) (h1 : ∀ i, i < n → w.cell? ⟨fb, i, none⟩ = some (.int .u64 (f i))) (hsz : n < 4611686018427387904) :
    Calls Try.prog 20 #[.int .i64 a, .int .i64 b, .pointer (some ⟨fc, 0, none⟩)] w fun e w' => e = .returned (.int .i64 (cmpZ (f a) (f b))) ∧ ∃ q, w' = w.drewN q := by
  have c1 := h1 a ha
  have c2 := h1 b hb
  have ia : ((a : Int)).toNat = a := by omega
  have ib : ((b : Int)).toNat = b := by omega
  have pa : (0 : Int) ≤ (a : Int) := by omega
  have pb : (0 : Int) ≤ (b : Int) := by omega
  have ba : (a : Int) < (n : Int) := by omega
  have bb : (b : Int) < (n : Int) := by omega
  clear h1
  generalize f a = x at c1 ⊢
  generalize f b = y at c2 ⊢
  go_enter Try.func20, Try.ntmps20
  go_wp2_with fail
  go_quiet (first | (go_at_call 21; refine quiet_of (cmp_c _ _ _)))
  go_wp2
  all_goals first | exact ⟨rfl, _, results_tmp (by rfl) _ _ _, rfl, _, rfl⟩ | exact bodyPost_ret (results_tmp (by rfl) _ _ _) (by rfl) ⟨by rfl, _, by rfl⟩
theorem near_cmp (f : Int → Int) (n cap fc fb blk : Nat) (w0 : World) (hfc : fc < w0.heap.size) (hfb : fb < w0.heap.size) (hc : fc ≠ blk) (hb : fb ≠ blk) (h0 : w0.cell? ⟨fc, 0, none⟩ = some (.slice (some ⟨fb, 0, none⟩) n cap)) (h1 : ∀ i : Nat, i < n → w0.cell? ⟨fb, i, none⟩ = some (.int .u64 (f i))) (hsz : n < 4611686018427387904) :
    CmpIs w0 blk 20 #[.pointer (some ⟨fc, 0, none⟩)] (fun x => 0 ≤ x ∧ x < n) (fun a b => cmpZ (f a) (f b)) := by
  intro w xs x y hS hx hy
  obtain ⟨a, rfl⟩ : ∃ a : Nat, x = a := ⟨x.toNat, by omega⟩
  obtain ⟨b, rfl⟩ : ∃ b : Nat, y = b := ⟨y.toNat, by omega⟩
  exact nearf_c f a b n cap fc fb w (by omega) (by omega) ((hS.fr.cell (p := ⟨fc, 0, none⟩) hfc hc).trans h0) (fun i hi => (hS.fr.cell (p := ⟨fb, i, none⟩) hfb hb).trans (h1 i hi)) hsz
end Go.Proofs.Ytahpbcacfdkdjaa
