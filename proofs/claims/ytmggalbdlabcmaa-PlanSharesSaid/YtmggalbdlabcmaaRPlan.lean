/- plan: the reference's Far, Pick. (Under way.) -/
import Derived.Test.YtmggalbdlabcmaaShare
namespace Go.Proofs.Ytmggalbdlabcmaa
open Go.RowKit Go.Lib St Fl Go.Sort
set_option linter.unusedVariables false
set_option linter.unusedSimpArgs false
set_option maxRecDepth 20000 in
set_option maxHeartbeats 4000000 in
theorem rfar_c (p : Option Addr) (n c : Nat) (hs : List Spot) (z : Spot) (w : World) (h : HoldAt w p n c hs) :
    Calls Try.prog 11 #[.slice p n c, .complex .f64 z.1 z.2] w fun e w' => e = .returned (.int .i64 (farS z hs)) ∧ w = w' := by
  obtain ⟨zr, zi⟩ := z
  have H := Lib.hid h
  have HL := Lib.hid h.len
  have HN := Lib.hid h.lt
  have HF : Hid (farS (zr, zi) hs = bestF (hs.map (dS (zr, zi)))) := Lib.hid rfl
  clear h
  go_enter Try.func11, Try.ntmps11
  go_wp2_with fail
  go_loopg [5, 6] n (fun g v5 v6 wr => ∃ i : Nat, v6 = .int .i64 (i : Int) ∧ i + g = n ∧ v5 = .int .i64 (bestF ((hs.take i).map (dS (zr, zi)))) ∧ w = wr)
  case atStart => exact ⟨0, rfl, by omega, rfl, rfl⟩
  case round =>
    obtain ⟨i, rfl, hi, rfl, rfl⟩ := hrel
    have HI := Lib.hid hi
    by_cases hlt : i < n
    · have t1 : decide ((i : Int) < (n : Int)) = true := decide_eq_true (by omega)
      have t1n : decide (i < n) = true := decide_eq_true hlt
      have HLT := Lib.hid hlt
      obtain ⟨⟨hr, hm⟩, hx⟩ : ∃ x, hs[i]? = some x := ⟨hs[i]'(by rw [HL.out]; exact hlt), List.getElem?_eq_getElem _⟩
      obtain ⟨g, rfl, _, hc⟩ := H.out.at' (by omega)
      have k0 := hc i _ hx
      dsimp only at k0
      have hsn := bestF_snoc ((hs.take i).map (dS (zr, zi))) (dS (zr, zi) (hr, hm))
      rw [show (hs.take i).map (dS (zr, zi)) ++ [dS (zr, zi) (hr, hm)] = (hs.take (i + 1)).map (dS (zr, zi)) by rw [List.take_add_one, hx, List.map_append]; rfl] at hsn
      have HD : ∀ w, Hid (Calls Try.prog 16 #[.complex .f64 zr zi, .complex .f64 hr hm] w fun e w' => e = .returned (.int .i64 (dS (zr, zi) (hr, hm))) ∧ w = w') := fun w => Lib.hid (rdist_any zr zi hr hm w)
      generalize dS (zr, zi) (hr, hm) = d at hsn HD
      generalize bestF ((hs.take i).map (dS (zr, zi))) = b at hsn ⊢
      have ia : ((i : Int)).toNat = i := by omega
      have ip : (0 : Int) ≤ (i : Int) := by omega
      have iz : (i : Int) < (n : Int) := by omega
      have kw : i + 1 < 8796093022209000 := by have := HN.out; omega
      have HKW := Lib.hid kw
      clear hc hx hlt hi kw
      by_cases h0 : 0 ≤ d
      · have u0 : decide (0 ≤ d) = true := decide_eq_true h0
        by_cases h1 : b < 0
        · have u1 : decide (b < 0) = true := decide_eq_true h1
          rw [if_pos ⟨h0, .inl h1⟩] at hsn
          have HSN := Lib.hid hsn
          have kw := HKW.out
          clear h0 h1 hsn
          go_wp2_with fail
          refine (HD _).out.mono ?_
          rintro _ _ ⟨rfl, rfl⟩
          go_wp2_with fail
          clear kw
          go_roundg (n - (i + 1))
          case measure => have := HI.out; have := HLT.out; omega
          case rel => exact ⟨i + 1, by first | rfl | go_num, by have := HI.out; have := HLT.out; omega, by rw [HSN.out], rfl⟩
        · have u1 : decide (b < 0) = false := decide_eq_false h1
          by_cases h2 : d < b
          · have u2 : decide (d < b) = true := decide_eq_true h2
            rw [if_pos ⟨h0, .inr h2⟩] at hsn
            have HSN := Lib.hid hsn
            have kw := HKW.out
            clear h0 h1 h2 hsn
            go_wp2_with fail
            refine (HD _).out.mono ?_
            rintro _ _ ⟨rfl, rfl⟩
            go_wp2_with fail
            clear kw
            go_roundg (n - (i + 1))
            case measure => have := HI.out; have := HLT.out; omega
            case rel => exact ⟨i + 1, by first | rfl | go_num, by have := HI.out; have := HLT.out; omega, by rw [HSN.out], rfl⟩
          · have u2 : decide (d < b) = false := decide_eq_false h2
            rw [if_neg (by omega)] at hsn
            have HSN := Lib.hid hsn
            have kw := HKW.out
            clear h0 h1 h2 hsn
            go_wp2_with fail
            refine (HD _).out.mono ?_
            rintro _ _ ⟨rfl, rfl⟩
            go_wp2_with fail
            clear kw
            go_roundg (n - (i + 1))
            case measure => have := HI.out; have := HLT.out; omega
            case rel => exact ⟨i + 1, by first | rfl | go_num, by have := HI.out; have := HLT.out; omega, by rw [HSN.out], rfl⟩
      · have u0 : decide (0 ≤ d) = false := decide_eq_false h0
        rw [if_neg (by omega)] at hsn
        have HSN := Lib.hid hsn
        have kw := HKW.out
        clear h0 hsn
        go_wp2_with fail
        refine (HD _).out.mono ?_
        rintro _ _ ⟨rfl, rfl⟩
        go_wp2_with fail
        clear kw
        go_roundg (n - (i + 1))
        case measure => have := HI.out; have := HLT.out; omega
        case rel => exact ⟨i + 1, by first | rfl | go_num, by have := HI.out; have := HLT.out; omega, by rw [HSN.out], rfl⟩
    · have t1 : decide ((i : Int) < (n : Int)) = false := decide_eq_false (by omega)
      have t1n : decide (i < n) = false := decide_eq_false hlt
      rw [List.take_of_length_le (by have := HL.out; omega)]
      clear hlt hi
      go_wp2_with fail
      go_ret
      exact ⟨ret_int HF.out.symm, rfl⟩
/-- a slice of lists of places -/
structure DocAt (w : World) (p : Option Addr) (n c : Nat) (hss : List (List Spot)) : Prop where
  len : hss.length = n
  lt : n < 8796093022208
  at' : ∀ i hs, hss[i]? = some hs → ∃ g q m k, p = some ⟨g, 0, none⟩ ∧ g < w.heap.size ∧ w.cell? ⟨g, i, none⟩ = some (.slice q m k) ∧ HoldAt w q m k hs
theorem DocAt.below {w w' : World} {p : Option Addr} {n c N : Nat} {hss : List (List Spot)} (h : DocAt w p n c hss) (hb : Below N w w') (hN : w.heap.size ≤ N) : DocAt w' p n c hss :=
  ⟨h.len, h.lt, fun i t ht => by
    obtain ⟨g, q, m, k, e, hl, h1, h3⟩ := h.at' i t ht
    exact ⟨g, q, m, k, e, Nat.lt_of_lt_of_le hl hb.size, (hb.cell (p := ⟨g, i, none⟩) (Nat.lt_of_lt_of_le hl hN)).trans h1, h3.below hb hN⟩⟩
/-- what is not taken of the first i -/
def freeL (tk : Nat → Bool) (i : Nat) : List Nat := (List.range i).filter fun k => !tk k
theorem freeL_succ (tk : Nat → Bool) (i : Nat) : freeL tk (i + 1) = freeL tk i ++ if tk i then [] else [i] := by
  unfold freeL
  rw [List.range_succ, List.filter_append]
  congr 1
  cases h : tk i <;> simp [h]
noncomputable def chooseF (z : Spot) (f : Nat → List Spot) (l : List Nat) : Option (Nat × Int) := choose (l.map fun i => (i, farS z (f i)))
theorem chooseF_snoc (z : Spot) (f : Nat → List Spot) (l : List Nat) (i : Nat) : chooseF z f (l ++ [i]) = chStep (chooseF z f l) (i, farS z (f i)) := by
  unfold chooseF
  rw [List.map_append, List.map_cons, List.map_nil, choose_snoc]
def numOf (s : Option (Nat × Int)) : Int := s.elim (-1) fun y => (y.1 : Int)
def leastOf (s : Option (Nat × Int)) : Int := s.elim (-1) Prod.snd
set_option maxRecDepth 20000 in
set_option maxHeartbeats 4000000 in
theorem rpick_c (p : Option Addr) (n c : Nat) (hss : List (List Spot)) (gt tn tc : Nat) (tk : Nat → Bool) (z : Spot) (w : World) (h : DocAt w p n c hss) (hf : Nat → List Spot) (hhf : ∀ i hs, hss[i]? = some hs → hf i = hs) (htn : tn = n) (htk : ∀ i, i < n → w.cell? ⟨gt, i, none⟩ = some (.bool (tk i))) :
    Calls Try.prog 12 #[.slice p n c, .slice (some ⟨gt, 0, none⟩) tn tc, .complex .f64 z.1 z.2] w fun e w' => e = .returned (.int .i64 (numOf (chooseF z hf (freeL tk n)))) ∧ w = w' := by
  subst htn
  obtain ⟨zr, zi⟩ := z
  have H := Lib.hid h
  have HL := Lib.hid h.len
  have HN := Lib.hid h.lt
  have HTK := Lib.hid htk
  have HHF := Lib.hid hhf
  clear h htk hhf
  go_enter Try.func12, Try.ntmps12
  go_wp2_with fail
  go_loopg [7, 8, 9] tn (fun g v5 v6 v7 wr => ∃ i : Nat, v7 = .int .i64 (i : Int) ∧ i + g = tn ∧ v5 = .int .i64 (numOf (chooseF (zr, zi) hf (freeL tk i))) ∧ v6 = .int .i64 (leastOf (chooseF (zr, zi) hf (freeL tk i))) ∧ w = wr)
  case atStart => exact ⟨0, rfl, by omega, rfl, rfl, rfl⟩
  case round =>
    obtain ⟨i, rfl, hi, rfl, rfl, rfl⟩ := hrel
    have HI := Lib.hid hi
    by_cases hlt : i < tn
    · have t1 : decide ((i : Int) < (tn : Int)) = true := decide_eq_true (by omega)
      have t1n : decide (i < tn) = true := decide_eq_true hlt
      have HLT := Lib.hid hlt
      have j0 := HTK.out i hlt
      have hfs := freeL_succ tk i
      have ia : ((i : Int)).toNat = i := by omega
      have ip : (0 : Int) ≤ (i : Int) := by omega
      have iz : (i : Int) < (tn : Int) := by omega
      have kw : i + 1 < 8796093022209 := by have := HN.out; omega
      have HKW := Lib.hid kw
      obtain ⟨hs, hx⟩ : ∃ x, hss[i]? = some x := ⟨hss[i]'(by rw [HL.out]; exact hlt), List.getElem?_eq_getElem _⟩
      obtain ⟨g, q, m, k, rfl, _, hc, hh⟩ := H.out.at' i hs hx
      have HRF := Lib.hid (rfar_c q m k hs (zr, zi) w hh)
      have hcs := chooseF_snoc (zr, zi) hf (freeL tk i) i
      rw [HHF.out i hs hx] at hcs
      dsimp only at HRF
      generalize farS (zr, zi) hs = d at HRF hcs
      clear hx hh hlt hi kw
      cases htk : tk i with
      | true =>
        rw [htk] at j0 hfs
        have HFS : Hid (freeL tk (i + 1) = freeL tk i) := Lib.hid (by rw [hfs]; simp)
        have kw := HKW.out
        clear htk hfs hcs
        go_wp2_with fail
        clear kw
        go_roundg (tn - (i + 1))
        case measure => have := HI.out; have := HLT.out; omega
        case rel => exact ⟨i + 1, by first | rfl | go_num, by have := HI.out; have := HLT.out; omega, by rw [HFS.out], by rw [HFS.out], rfl⟩
      | false =>
        rw [htk] at j0 hfs
        have HFS : Hid (freeL tk (i + 1) = freeL tk i ++ [i]) := Lib.hid (by rw [hfs]; simp)
        have HCS := Lib.hid hcs
        clear htk hfs hcs
        generalize chooseF (zr, zi) hf (freeL tk i) = s at HCS ⊢
        cases s with
        | none =>
          have HCX : Hid (chooseF (zr, zi) hf (freeL tk i ++ [i]) = some (i, d)) := Lib.hid HCS.out
          have kw := HKW.out
          clear HCS
          simp only [numOf, leastOf, Option.elim_none]
          go_wp2_with fail
          refine HRF.out.mono ?_
          rintro _ _ ⟨rfl, rfl⟩
          go_wp2_with fail
          clear kw
          go_roundg (tn - (i + 1))
          case measure => have := HI.out; have := HLT.out; omega
          case rel => exact ⟨i + 1, by first | rfl | go_num, by have := HI.out; have := HLT.out; omega, by rw [HFS.out, HCX.out]; rfl, by rw [HFS.out, HCX.out]; rfl, rfl⟩
        | some y =>
          obtain ⟨bi, bd⟩ := y
          have HCX : Hid (chooseF (zr, zi) hf (freeL tk i ++ [i]) = if 0 ≤ d ∧ (bd < 0 ∨ d < bd) then some (i, d) else some (bi, bd)) := Lib.hid HCS.out
          clear HCS
          simp only [numOf, leastOf, Option.elim_some]
          have b0 : decide ((bi : Int) < 0) = false := decide_eq_false (by omega)
          by_cases h0 : 0 ≤ d
          · have u0 : decide (0 ≤ d) = true := decide_eq_true h0
            by_cases h1 : bd < 0
            · have u1 : decide (bd < 0) = true := decide_eq_true h1
              have HC2 : Hid (chooseF (zr, zi) hf (freeL tk i ++ [i]) = some (i, d)) := Lib.hid (by rw [HCX.out, if_pos ⟨h0, .inl h1⟩])
              have kw := HKW.out
              clear h0 h1 HCX
              go_wp2_with fail
              refine HRF.out.mono ?_
              rintro _ _ ⟨rfl, rfl⟩
              go_wp2_with fail
              clear kw
              go_roundg (tn - (i + 1))
              case measure => have := HI.out; have := HLT.out; omega
              case rel => exact ⟨i + 1, by first | rfl | go_num, by have := HI.out; have := HLT.out; omega, by rw [HFS.out, HC2.out]; rfl, by rw [HFS.out, HC2.out]; rfl, rfl⟩
            · have u1 : decide (bd < 0) = false := decide_eq_false h1
              by_cases h2 : d < bd
              · have u2 : decide (d < bd) = true := decide_eq_true h2
                have HC2 : Hid (chooseF (zr, zi) hf (freeL tk i ++ [i]) = some (i, d)) := Lib.hid (by rw [HCX.out, if_pos ⟨h0, .inr h2⟩])
                have kw := HKW.out
                clear h0 h1 h2 HCX
                go_wp2_with fail
                refine HRF.out.mono ?_
                rintro _ _ ⟨rfl, rfl⟩
                go_wp2_with fail
                clear kw
                go_roundg (tn - (i + 1))
                case measure => have := HI.out; have := HLT.out; omega
                case rel => exact ⟨i + 1, by first | rfl | go_num, by have := HI.out; have := HLT.out; omega, by rw [HFS.out, HC2.out]; rfl, by rw [HFS.out, HC2.out]; rfl, rfl⟩
              · have u2 : decide (d < bd) = false := decide_eq_false h2
                have HC2 : Hid (chooseF (zr, zi) hf (freeL tk i ++ [i]) = some (bi, bd)) := Lib.hid (by rw [HCX.out, if_neg (by omega)])
                have kw := HKW.out
                clear h0 h1 h2 HCX
                go_wp2_with fail
                refine HRF.out.mono ?_
                rintro _ _ ⟨rfl, rfl⟩
                go_wp2_with fail
                clear kw
                go_roundg (tn - (i + 1))
                case measure => have := HI.out; have := HLT.out; omega
                case rel => exact ⟨i + 1, by first | rfl | go_num, by have := HI.out; have := HLT.out; omega, by rw [HFS.out, HC2.out]; rfl, by rw [HFS.out, HC2.out]; rfl, rfl⟩
          · have u0 : decide (0 ≤ d) = false := decide_eq_false h0
            have HC2 : Hid (chooseF (zr, zi) hf (freeL tk i ++ [i]) = some (bi, bd)) := Lib.hid (by rw [HCX.out, if_neg (by omega)])
            have kw := HKW.out
            clear h0 HCX
            go_wp2_with fail
            refine HRF.out.mono ?_
            rintro _ _ ⟨rfl, rfl⟩
            go_wp2_with fail
            clear kw
            go_roundg (tn - (i + 1))
            case measure => have := HI.out; have := HLT.out; omega
            case rel => exact ⟨i + 1, by first | rfl | go_num, by have := HI.out; have := HLT.out; omega, by rw [HFS.out, HC2.out]; rfl, by rw [HFS.out, HC2.out]; rfl, rfl⟩
    · have t1 : decide ((i : Int) < (tn : Int)) = false := decide_eq_false (by omega)
      have t1n : decide (i < tn) = false := decide_eq_false hlt
      obtain rfl : tn = i := by omega
      clear hlt hi
      go_wp2_with fail
      go_ret
      exact ⟨rfl, rfl⟩
end Go.Proofs.Ytmggalbdlabcmaa
