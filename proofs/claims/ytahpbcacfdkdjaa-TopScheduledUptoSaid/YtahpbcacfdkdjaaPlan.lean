/- plan: Far, Pick. (Under way.) -/
import Derived.Test.YtahpbcacfdkdjaaPlanP
import Derived.Test.YtahpbcacfdkdjaaRecs
namespace Go.Proofs.Ytahpbcacfdkdjaa
open Go.RowKit Go.Lib St Fl
set_option linter.unusedVariables false
set_option linter.unusedSimpArgs false
/-- v is a slice of these places -/
structure HoldAt (w : World) (p : Option Addr) (n c : Nat) (hs : List Spot) : Prop where
  len : hs.length = n
  lt : n < 35184372088832
  at' : 0 < n → ∃ g, p = some ⟨g, 0, none⟩ ∧ g < w.heap.size ∧ ∀ i h, hs[i]? = some h → w.cell? ⟨g, i, none⟩ = some (.complex .f64 h.1 h.2)
theorem HoldAt.below {w w' : World} {p : Option Addr} {n c N : Nat} {hs : List Spot} (h : HoldAt w p n c hs) (hb : Below N w w') (hN : w.heap.size ≤ N) : HoldAt w' p n c hs :=
  ⟨h.len, h.lt, fun h0 => by
    obtain ⟨g, e, hl, hc⟩ := h.at' h0
    exact ⟨g, e, Nat.lt_of_lt_of_le hl hb.size, fun i x hx => (hb.cell (p := ⟨g, i, none⟩) (Nat.lt_of_lt_of_le hl hN)).trans (hc i x hx)⟩⟩
set_option maxRecDepth 20000 in
set_option maxHeartbeats 4000000 in
theorem far_c (id : Int) (p : Option Addr) (n c : Nat) (hs : List Spot) (z : Spot) (w : World) (h : HoldAt w p n c hs) :
    Calls Try.prog 15 #[.agg #[.int .i64 id, .slice p n c], .complex .f64 z.1 z.2] w fun e w' => e = .returned (.int .i64 (farS z hs)) ∧ Below w.heap.size w w' := by
  obtain ⟨zr, zi⟩ := z
  have H := Lib.hid h
  have HL := Lib.hid h.len
  clear h
  have hB0 := Lib.hid (Blk.new w [.int .i64 id, .slice p n c] 31)
  have hb0 := Lib.hid ((Below.refl w.heap.size w).alloc (Nat.le_refl _) (.cells #[.int .i64 id, .slice p n c] 31))
  go_enter Try.func15, Try.ntmps15
  go_upto_region 1 with (fail)
  change Code.wp _ _ _ _ (w.alloc (.cells #[.int .i64 id, .slice p n c] 31))
  change Hid (Blk (w.alloc (.cells #[.int .i64 id, .slice p n c] 31)) w.heap.size [.int .i64 id, .slice p n c] 31) at hB0
  generalize w.alloc (.cells #[.int .i64 id, .slice p n c] 31) = w1 at hB0 hb0 ⊢
  have z1 : w1.cell? ⟨w.heap.size, 1, none⟩ = some (.slice p n c) := hB0.out.cell 1
  have H1 := Lib.hid (H.out.below hb0.out (Nat.le_refl _))
  obtain ⟨g, hg⟩ : ∃ g, (0 < n → p = some ⟨g, 0, none⟩ ∧ g < w1.heap.size ∧ ∀ i h, hs[i]? = some h → w1.cell? ⟨g, i, none⟩ = some (.complex .f64 h.1 h.2)) := by
    by_cases h0 : 0 < n
    · obtain ⟨g, h1⟩ := H1.out.at' h0
      exact ⟨g, fun _ => h1⟩
    · exact ⟨0, fun e => absurd e h0⟩
  have HG := Lib.hid hg
  have hnc := near_c zr zi p g n c (reH hs) (imH hs) w1 (fun h0 => (hg h0).1) (fun h0 => (hg h0).2.1) (fun i hi => by
    obtain ⟨_, _, h3⟩ := hg (by omega)
    obtain ⟨hh0, hh⟩ : ∃ h, hs[i]? = some h := ⟨hs[i]'(by have := HL.out; omega), List.getElem?_eq_getElem _⟩
    rw [h3 i _ hh, reH_at hh, imH_at hh]) H1.out.lt
  have HNC := Lib.hid hnc
  clear hg hnc
  go_wp2_with fail
  refine HNC.out.mono ?_
  rintro _ w2 ⟨B, rfl, hb, hB1, hB2, hcell, hfz⟩
  have HB2 := Lib.hid (below_then hb0.out hb0.out.size hb)
  by_cases h0 : 0 < n
  · have n0 : ((n : Int) == 0) = false := beq_eq_false_iff_ne.2 (by omega)
    have n0n : (n == 0) = false := beq_eq_false_iff_ne.2 (by omega)
    obtain ⟨rfl, hgl, hgc⟩ := HG.out h0
    have hnl := nearL_len zr zi (reH hs) (imH hs) n
    obtain ⟨x, hx⟩ : ∃ x, (nearL zr zi (reH hs) (imH hs) n)[0]? = some x := ⟨_, List.getElem?_eq_getElem (by rw [hnl]; exact h0)⟩
    have hx2 := hx
    rw [← HL.out] at hx2
    obtain ⟨k, hk, rfl, hhk, hd⟩ := far_near (z := (zr, zi)) hx2
    have hkn := (List.getElem?_eq_some_iff.1 hhk).1
    rw [HL.out] at hkn
    have HD := Lib.hid hd
    have k0 : ∀ d, (w2.drewN d).cell? ⟨B, 0, none⟩ = some (.int .i64 (k : Int)) := fun d => hcell 0 _ hx
    have k1 : ∀ d, (w2.drewN d).cell? ⟨w.heap.size, 1, none⟩ = some (.slice (some ⟨g, 0, none⟩) n c) := fun d => (hB0.out.below hb hB0.out.lt).cell 1
    have k2 : ∀ d, (w2.drewN d).cell? ⟨g, k, none⟩ = some (.complex .f64 hk.1 hk.2) := fun d => (hb.cell (p := ⟨g, k, none⟩) hgl).trans (hgc k hk hhk)
    have ka : ((k : Int)).toNat = k := by omega
    have kp : (0 : Int) ≤ (k : Int) := by omega
    have kz : (k : Int) < (n : Int) := by omega
    have nz : (0 : Int) < (n : Int) := by omega
    have HDI : ∀ w, Hid (Calls Try.prog 18 #[.complex .f64 zr zi, .complex .f64 hk.1 hk.2] w fun e w' => e = .returned (.int .i64 (farS (zr, zi) hs)) ∧ w = w') := fun w => Lib.hid (by
      have := dist_any zr zi hk.1 hk.2 w
      rw [show distI (pl zr) (pl zi) (pl hk.1) (pl hk.2) = farS (zr, zi) hs from HD.out] at this
      exact this)
    clear h0 hnl hx hx2 hhk hkn hd hcell hfz hB1 hB2 hb hgl hgc z1
    go_upto_region 4 with (fail)
    go_quiet ((go_at_call 18; exact quiet_of (HDI _).out))
    go_wp2
    go_ret
    exact ⟨rfl, below_drewN HB2.out _⟩
  · have n0 : ((n : Int) == 0) = true := by rw [show n = 0 by omega]; rfl
    have n0n : (n == 0) = true := by rw [show n = 0 by omega]; rfl
    have hnil : hs = [] := List.eq_nil_of_length_eq_zero (by have := HL.out; omega)
    have HF : Hid (farS (zr, zi) hs = -1) := Lib.hid (by rw [hnil]; rfl)
    clear h0 hnil hcell hfz hB1 hB2 hb
    go_wp2_with fail
    go_ret
    exact ⟨ret_int HF.out.symm, HB2.out⟩
/-- v is a slice of these tasks: their numbers, and where their data is -/
structure TasksAt (w : World) (p : Option Addr) (n c : Nat) (ts : List (Int × List Spot)) : Prop where
  len : ts.length = n
  lt : n < 8796093022208
  at' : ∀ i t, ts[i]? = some t → ∃ g q m k, p = some ⟨g, 0, none⟩ ∧ g < w.heap.size ∧ w.cell? ⟨g, i * 2, none⟩ = some (.int .i64 t.1) ∧ w.cell? ⟨g, i * 2 + 1, none⟩ = some (.slice q m k) ∧ HoldAt w q m k t.2
theorem TasksAt.below {w w' : World} {p : Option Addr} {n c N : Nat} {ts : List (Int × List Spot)} (h : TasksAt w p n c ts) (hb : Below N w w') (hN : w.heap.size ≤ N) : TasksAt w' p n c ts :=
  ⟨h.len, h.lt, fun i t ht => by
    obtain ⟨g, q, m, k, e, hl, h1, h2, h3⟩ := h.at' i t ht
    exact ⟨g, q, m, k, e, Nat.lt_of_lt_of_le hl hb.size, (hb.cell (p := ⟨g, i * 2, none⟩) (Nat.lt_of_lt_of_le hl hN)).trans h1, (hb.cell (p := ⟨g, i * 2 + 1, none⟩) (Nat.lt_of_lt_of_le hl hN)).trans h2, h3.below hb hN⟩⟩
/-- how far the tasks are -/
noncomputable def farsS (z : Spot) (ts : List (Int × List Spot)) : List Int := ts.map fun t => farS z t.2
/-- Pick's two numbers behind the first i tasks -/
noncomputable def pk (ds : List Int) : Int × Int := match choose (enum ds) with
  | some y => ((y.1 : Int), y.2)
  | none => (0, -1)
theorem pk_snoc {ds : List Int} {d : Int} (hd : -1 ≤ d) : pk (ds ++ [d]) = if 0 ≤ d ∧ ((pk ds).2 < 0 ∨ d < (pk ds).2) then ((ds.length : Int), d) else pk ds := by
  unfold pk
  rw [enum_snoc, choose_snoc]
  rcases choose_is (enum ds) with ⟨h1, h2⟩ | ⟨y, h1, h2⟩
  · rw [h1]
    have h0 : ds.length = 0 := by have := congrArg List.length h2; simpa [enum] using this
    unfold chStep
    dsimp only
    rw [h0]
    split
    · rfl
    · have : d = -1 := by omega
      rw [this]; rfl
  · rw [h1]
    unfold chStep
    dsimp only
    by_cases hc : 0 ≤ d ∧ (y.2 < 0 ∨ d < y.2)
    · rw [if_pos hc, if_pos hc]
    · rw [if_neg hc, if_neg hc]
theorem pk_bd (ds : List Int) (h : ∀ d ∈ ds, -1 ≤ d ∧ d ≤ 8000000) : 0 ≤ (pk ds).1 ∧ (pk ds).1 ≤ ds.length ∧ -1 ≤ (pk ds).2 ∧ (pk ds).2 ≤ 8000000 := by
  unfold pk
  rcases choose_is (enum ds) with ⟨h1, h2⟩ | ⟨y, h1, h2⟩
  · rw [h1]
    dsimp only
    omega
  · rw [h1]
    dsimp only
    obtain ⟨q, hq⟩ := List.mem_iff_getElem?.1 h2.mem
    unfold enum at hq
    rw [List.getElem?_mapIdx] at hq
    obtain ⟨d, hd, rfl⟩ := Option.map_eq_some_iff.1 hq
    have := h d (List.mem_of_getElem? hd)
    have := (List.getElem?_eq_some_iff.1 hd).1
    dsimp only
    omega
theorem farS_hi (z : Spot) (hs : List Spot) : farS z hs ≤ 8000000 := by
  rcases Int.lt_or_le (farS z hs) 0 with h | h
  · omega
  · have := (bestF_is (hs.map (dS z))).mem h
    obtain ⟨x, _, hx⟩ := List.mem_map.1 this
    have := distI_hi z.1 z.2 x.1 x.2
    show bestF (hs.map (dS z)) ≤ _
    rw [← hx]
    exact this
set_option maxRecDepth 20000 in
set_option maxHeartbeats 4000000 in
theorem pick_c (p : Option Addr) (n c : Nat) (ts : List (Int × List Spot)) (z : Spot) (w : World) (h : TasksAt w p n c ts) :
    Calls Try.prog 7 #[.slice p n c, .complex .f64 z.1 z.2] w fun e w' => e = .returned (.int .i64 (pickP (farsS z ts))) ∧ Below w.heap.size w w' := by
  have H := Lib.hid h
  have HL := Lib.hid h.len
  have HN := Lib.hid h.lt
  clear h
  go_enter Try.func7, Try.ntmps7
  go_wp2_with fail
  go_loopg [5, 6, 12] n (fun g bv lv iv wr => ∃ i : Nat, iv = .int .i64 (i : Int) ∧ i + g = n ∧ bv = .int .i64 (pk (farsS z (ts.take i))).1 ∧ lv = .int .i64 (pk (farsS z (ts.take i))).2 ∧ Hid (Below w.heap.size w wr))
  case atStart => exact ⟨0, rfl, by omega, rfl, rfl, Lib.hid (Below.refl _ _)⟩
  case round =>
    obtain ⟨i, rfl, hi, rfl, rfl, HB⟩ := hrel
    have HI := Lib.hid hi
    have hds : ∀ d ∈ farsS z (ts.take i), -1 ≤ d ∧ d ≤ 8000000 := fun d hd => by
      obtain ⟨t, _, rfl⟩ := List.mem_map.1 hd
      exact ⟨farS_lo _ _, farS_hi _ _⟩
    obtain ⟨b1, b2, b3, b4⟩ := pk_bd _ hds
    by_cases hlt : i < n
    · have t1 : decide ((i : Int) < (n : Int)) = true := decide_eq_true (by omega)
      have t1n : decide (i < n) = true := decide_eq_true hlt
      have HLT := Lib.hid hlt
      obtain ⟨⟨id, hs⟩, hx⟩ : ∃ t, ts[i]? = some t := ⟨ts[i]'(by rw [HL.out]; exact hlt), List.getElem?_eq_getElem _⟩
      obtain ⟨g, q, m, k, rfl, hgl, hc0, hc1, hh⟩ := (H.out.below HB.out (Nat.le_refl _)).at' i _ hx
      dsimp only at hc0 hc1 hh
      have hsn := pk_snoc (ds := farsS z (ts.take i)) (farS_lo z hs)
      have hlen : (farsS z (ts.take i)).length = i := by unfold farsS; rw [List.length_map, List.length_take]; have := HL.out; omega
      rw [hlen] at hsn b2
      have htk : farsS z (ts.take i) ++ [farS z hs] = farsS z (ts.take (i + 1)) := by unfold farsS; rw [List.take_add_one, hx, List.map_append]; rfl
      rw [htk] at hsn
      have hf1 := farS_lo z hs
      have hf2 := farS_hi z hs
      have HH := Lib.hid hh
      have ia : ((i : Int)).toNat = i := by omega
      have ip : (0 : Int) ≤ (i : Int) := by omega
      have iz : (i : Int) < (n : Int) := by omega
      have kw : i + 1 < 8796093022209 := by have := HN.out; omega
      have HKW := Lib.hid kw
      clear hx hh hlt hi hlen htk kw hds
      have hN0 : Hid (Blk (wr.alloc (.cells #[.int .i64 id, .slice q m k] 31)) wr.heap.size [.int .i64 id, .slice q m k] 31) := Lib.hid (Blk.new wr [.int .i64 id, .slice q m k] 31)
      have hN1 : Hid (Below wr.heap.size wr (wr.alloc (.cells #[.int .i64 id, .slice q m k] 31))) := Lib.hid ((Below.refl wr.heap.size wr).alloc (Nat.le_refl _) _)
      go_upto_region 5 with (fail)
      generalize wr.alloc (.cells #[.int .i64 id, .slice q m k] 31) = w5 at hN0 hN1 ⊢
      have z0 : ∀ j, w5.cell? ⟨wr.heap.size, j, none⟩ = [Value.int .i64 id, .slice q m k][j]? := fun j => hN0.out.cell j
      have HF := Lib.hid (far_c id q m k hs z w5 (HH.out.below hN1.out (Nat.le_refl _)))
      have HB5 := Lib.hid (below_then HB.out HB.out.size hN1.out)
      generalize farS z hs = d at hsn hf1 hf2 HF
      generalize hpk : pk (farsS z (ts.take i)) = bl at hsn b1 b2 b3 b4
      obtain ⟨bb, ll⟩ := bl
      dsimp only at hsn b1 b2 b3 b4 ⊢
      clear hpk hc0 hc1 hN0 hN1
      go_wp2_with fail
      refine HF.out.mono ?_
      rintro _ w6 ⟨rfl, hb6⟩
      have HB6 := Lib.hid (below_then HB5.out HB5.out.size hb6)
      clear hb6 z0
      by_cases h0 : 0 ≤ d
      · have u0 : decide (0 ≤ d) = true := decide_eq_true h0
        by_cases h1 : ll < 0
        · have u1 : decide (ll < 0) = true := decide_eq_true h1
          rw [if_pos ⟨h0, .inl h1⟩] at hsn
          have HSN := Lib.hid hsn
          have kw := HKW.out
          clear h0 h1 hsn b1 b2 b3 b4 hf1 hf2
          go_wp2_with fail
          clear kw
          go_roundg (n - (i + 1))
          case measure => have := HI.out; have := HLT.out; omega
          case rel => exact ⟨i + 1, by first | rfl | go_num, by have := HI.out; have := HLT.out; omega, by rw [HSN.out], by rw [HSN.out], HB6⟩
        · have u1 : decide (ll < 0) = false := decide_eq_false h1
          by_cases h2 : d < ll
          · have u2 : decide (d < ll) = true := decide_eq_true h2
            rw [if_pos ⟨h0, .inr h2⟩] at hsn
            have HSN := Lib.hid hsn
            have kw := HKW.out
            clear h0 h1 h2 hsn b1 b2 b3 b4 hf1 hf2
            go_wp2_with fail
            clear kw
            go_roundg (n - (i + 1))
            case measure => have := HI.out; have := HLT.out; omega
            case rel => exact ⟨i + 1, by first | rfl | go_num, by have := HI.out; have := HLT.out; omega, by rw [HSN.out], by rw [HSN.out], HB6⟩
          · have u2 : decide (d < ll) = false := decide_eq_false h2
            rw [if_neg (by omega)] at hsn
            have HSN := Lib.hid hsn
            have kw := HKW.out
            clear h0 h1 h2 hsn b1 b2 b3 b4 hf1 hf2
            go_wp2_with fail
            clear kw
            go_roundg (n - (i + 1))
            case measure => have := HI.out; have := HLT.out; omega
            case rel => exact ⟨i + 1, by first | rfl | go_num, by have := HI.out; have := HLT.out; omega, by rw [HSN.out], by rw [HSN.out], HB6⟩
      · have u0 : decide (0 ≤ d) = false := decide_eq_false h0
        rw [if_neg (by omega)] at hsn
        have HSN := Lib.hid hsn
        have kw := HKW.out
        clear h0 hsn b1 b2 b3 b4 hf1 hf2
        go_wp2_with fail
        clear kw
        go_roundg (n - (i + 1))
        case measure => have := HI.out; have := HLT.out; omega
        case rel => exact ⟨i + 1, by first | rfl | go_num, by have := HI.out; have := HLT.out; omega, by rw [HSN.out], by rw [HSN.out], HB6⟩
    · have t1 : decide ((i : Int) < (n : Int)) = false := decide_eq_false (by omega)
      have t1n : decide (i < n) = false := decide_eq_false hlt
      have htk : ts.take i = ts := List.take_of_length_le (by have := HL.out; omega)
      rw [htk]
      clear hds b1 b2 b3 b4
      by_cases h0 : n = 0
      · have n0 : ((n : Int) == 0) = true := by rw [h0]; rfl
        have n0n : (n == 0) = true := by rw [h0]; rfl
        have HP : Hid (pickP (farsS z ts) = -1) := Lib.hid (by
          have : ts = [] := List.eq_nil_of_length_eq_zero (by have := HL.out; omega)
          rw [this]; rfl)
        clear hlt hi htk h0
        go_wp2_with fail
        go_ret
        exact ⟨ret_int HP.out.symm, HB.out⟩
      · have n0 : ((n : Int) == 0) = false := beq_eq_false_iff_ne.2 (by omega)
        have n0n : (n == 0) = false := beq_eq_false_iff_ne.2 h0
        have HP : Hid (pickP (farsS z ts) = (pk (farsS z ts)).1) := Lib.hid (by
          unfold pickP pk
          rcases choose_is (enum (farsS z ts)) with ⟨h1, h2⟩ | ⟨y, h1, h2⟩
          · have h3 := congrArg List.length h2
            unfold farsS at h3
            rw [enum_map] at h3
            have := HL.out
            exact absurd h3 (by simpa using (by omega : ts.length ≠ 0))
          · rw [h1])
        clear hlt hi htk h0
        go_wp2_with fail
        go_ret
        exact ⟨ret_int HP.out.symm, HB.out⟩
end Go.Proofs.Ytahpbcacfdkdjaa
