/- attempts: Ready. (Under way.) -/
import Derived.Test.YtahpbcacfdkdjaaBoard3
import Derived.Test.YtahpbcacfdkdjaaApp
namespace At
/-- the bounds that a board's numbers keep -/
structure Bd.Wf (S : Bd) : Prop where
  len : S.tasks.length ≤ 100000
  p1 : 1 ≤ S.patience
  p2 : S.patience ≤ 1099511627776
  tr : ∀ t ∈ S.tasks, t.tries.length ≤ 140737488355328 ∧ ∀ a ∈ t.tries, 0 ≤ a.begun ∧ a.begun ≤ 1099511627776
def isIdle (S : Bd) (i : Nat) : Bool := match S.tasks[i]? with
  | some t => may S i t && decide ((under t.tries).1 = 0)
  | none => false
def isSlow (S : Bd) (node now : Int) (i : Nat) : Bool := match S.tasks[i]? with
  | some t => may S i t && (decide ((under t.tries).1 = 1) && (decide ((under t.tries).2.node ≠ node) && decide (S.patience ≤ clamp now 0 1099511627776 - (under t.tries).2.begun)))
  | none => false
def idle (S : Bd) (k : Nat) : List Int := ((List.range k).filter (isIdle S)).map Int.ofNat
def slow (S : Bd) (node now : Int) (k : Nat) : List Int := ((List.range k).filter (isSlow S node now)).map Int.ofNat
def ready (S : Bd) (node now : Int) : List Int := if S.dead then [] else if 0 < (idle S S.tasks.length).length then idle S S.tasks.length else slow S node now S.tasks.length
theorem idle_succ (S : Bd) (k : Nat) : idle S (k + 1) = idle S k ++ if isIdle S k then [(k : Int)] else [] := by
  unfold idle
  rw [List.range_succ, List.filter_append, List.map_append]
  congr 1
  cases h : isIdle S k <;> simp [h]
theorem slow_succ (S : Bd) (node now : Int) (k : Nat) : slow S node now (k + 1) = slow S node now k ++ if isSlow S node now k then [(k : Int)] else [] := by
  unfold slow
  rw [List.range_succ, List.filter_append, List.map_append]
  congr 1
  cases h : isSlow S node now k <;> simp [h]
theorem idle_le (S : Bd) (k : Nat) : (idle S k).length ≤ k := by
  unfold idle
  rw [List.length_map]
  exact Nat.le_trans (List.length_filter_le _ _) (by simp)
theorem slow_le (S : Bd) (node now : Int) (k : Nat) : (slow S node now k).length ≤ k := by
  unfold slow
  rw [List.length_map]
  exact Nat.le_trans (List.length_filter_le _ _) (by simp)
theorem under_mem (l : List Try) : (under l).2 = zt ∨ (under l).2 ∈ l := by
  suffices h : ∀ (l : List Try) (r : Nat × Try), (l.foldl (fun r t => if t.state = 0 then (r.1 + 1, t) else r) r).2 = r.2 ∨ (l.foldl (fun r t => if t.state = 0 then (r.1 + 1, t) else r) r).2 ∈ l from h l (0, zt)
  intro l
  induction l with
  | nil => intro r; exact .inl rfl
  | cons t l ih =>
    intro r
    rw [List.foldl_cons]
    split
    · rcases ih (r.1 + 1, t) with h | h
      · exact .inr (by rw [h]; exact List.mem_cons_self ..)
      · exact .inr (List.mem_cons_of_mem _ h)
    · rcases ih r with h | h
      · exact .inl h
      · exact .inr (List.mem_cons_of_mem _ h)
end At
namespace Go.Proofs.Ytahpbcacfdkdjaa
open Go.RowKit
set_option linter.unusedVariables false
set_option linter.unusedSimpArgs false
def ints (l : List Int) : List Value := l.map (Value.int .i64)
theorem int_info : (Try.prog.info? 3).map (fun i => (i.zero, i.size, i.bytes)) = some (some (.int .i64 0), 1, 8) := by kernel_rfl
/-- a slice of numbers that a call hands back: its own row, or nil -/
def IntsNew (w : World) (l : List Int) (e : Ending) (w' : World) : Prop := ∃ v, e = .returned v ∧ w'.ownsRow w.heap.size 3 1 v l.length (ints l) ∧ Below w.heap.size w w'
theorem BoardAt.below {w w' : World} {b g : Nat} {vs : List Value} {S : At.Bd} {N : Nat} (h : BoardAt w b g vs S) (hb : Below N w w') (hN : w.heap.size ≤ N) : BoardAt w' b g vs S :=
  ⟨h.len, h.blk.below hb (Nat.lt_of_lt_of_le h.blk.lt hN), h.tsk.below hb (Nat.lt_of_lt_of_le h.tsk.lt hN), fun i v t hv ht => own_below (h.own i v t hv ht) hb hN, h.ne, h.off, h.apart⟩
set_option maxHeartbeats 1000000 in
theorem ready_nil (node now : Int) (w : World) : Calls Try.prog 6 #[.pointer none, .int .i64 node, .int .i64 now] w (IntsNew w []) := by
  go_enter Try.func6, Try.ntmps6
  go_wp2
  exact bodyPost_ret (results_tmp (by rfl) _ _ _) (by rfl) ⟨_, by rfl, World.ownsRow_nil _ _ _ _, Below.refl _ _⟩
set_option maxHeartbeats 1000000 in
theorem ready_dead (b g : Nat) (vs : List Value) (S : At.Bd) (hd : S.dead = true) (node now : Int) (w : World) (h : BoardAt w b g vs S) : Calls Try.prog 6 #[.pointer (some ⟨b, 0, none⟩), .int .i64 node, .int .i64 now] w (IntsNew w []) := by
  have z : ∀ j, w.cell? ⟨b, j, none⟩ = [Value.int .i64 (S.maps : Int), .int .i64 S.limit, .int .i64 S.patience, .slice (some ⟨g, 0, none⟩) S.tasks.length S.tasks.length, .int .i64 S.opn, .bool true][j]? := fun j => hd ▸ h.blk.cell j
  clear h hd
  go_enter Try.func6, Try.ntmps6
  go_wp2
  exact bodyPost_ret (results_tmp (by rfl) _ _ _) (by rfl) ⟨_, by rfl, World.ownsRow_nil _ _ _ _, Below.refl _ _⟩
theorem own_grown {w w' : World} {base : Nat} {e : TypeId} {size n : Nat} {v : Value} {xs : List Value} {row : Option Nat} (h : w.ownsRow base e size v n xs) (hg : w.grownBy w' row) (hne : ∀ q, row = some q → v.ownBlock ≠ some q) : w'.ownsRow base e size v n xs :=
  own_fr h (Fr.of_grown hg (S := fun q => row = some q) fun q e => e) fun q hq e => hne q e hq
theorem apart_next {w : World} {base : Nat} {e : TypeId} {size n : Nat} {u v v' : Value} {xs : List Value} (hap : ∀ q, v.ownBlock = some q → u.ownBlock ≠ some q) (hN : v'.ownBlock = v.ownBlock ∨ ∃ g, v'.ownBlock = some g ∧ w.heap.size ≤ g) (h : w.ownsRow base e size u n xs) :
    ∀ q, v'.ownBlock = some q → u.ownBlock ≠ some q := by
  intro q hq hu
  rcases hN with hN | ⟨g, hN, hg⟩
  · exact hap q (hN ▸ hq) hu
  · rw [hN] at hq
    have := Option.some.inj hq
    have := (h.lt q hu).2
    omega
theorem ints_snoc {w : World} {base : Nat} {e : TypeId} {v : Value} {l : List Int} {x : Int} (h : w.ownsRow base e 1 v (l.length + 1) (ints l ++ [.int .i64 x])) : w.ownsRow base e 1 v (l ++ [x]).length (ints (l ++ [x])) := by
  rw [List.length_append]
  simpa [ints] using h
set_option maxRecDepth 20000 in
set_option maxHeartbeats 8000000 in
theorem ready_c (b g : Nat) (vs : List Value) (S : At.Bd) (hd : S.dead = false) (hS : S.Wf) (node now : Int) (w : World) (h : BoardAt w b g vs S) : Calls Try.prog 6 #[.pointer (some ⟨b, 0, none⟩), .int .i64 node, .int .i64 now] w (IntsNew w (At.ready S node now)) := by
  have z : ∀ j, w.cell? ⟨b, j, none⟩ = [Value.int .i64 (S.maps : Int), .int .i64 S.limit, .int .i64 S.patience, .slice (some ⟨g, 0, none⟩) S.tasks.length S.tasks.length, .int .i64 S.opn, .bool false][j]? := fun j => hd ▸ h.blk.cell j
  have HA := Lib.hid h
  have HS := Lib.hid hS
  have HRD : Hid (At.ready S node now = if 0 < (At.idle S S.tasks.length).length then At.idle S S.tasks.length else At.slow S node now S.tasks.length) := Lib.hid (by unfold At.ready; rw [hd]; rfl)
  have hnb := hS.len
  clear h hd hS
  obtain ⟨n, hn⟩ : ∃ n, n = S.tasks.length := ⟨_, rfl⟩
  rw [← hn] at z HRD hnb
  have HN := Lib.hid hn
  clear hn
  go_enter Try.func6, Try.ntmps6
  go_wp2
  clear z
  go_loopg [7, 8, 9, 10, 11, 25] n (fun gg v7 v8 v9 v10 v11 v25 wr => ∃ k : Nat, v25 = .int .i64 (k : Int) ∧ k + gg = n ∧ Hid (wr.ownsRow w.heap.size 3 1 v7 (At.idle S k).length (ints (At.idle S k))) ∧ Hid (wr.ownsRow w.heap.size 3 1 v8 (At.slow S node now k).length (ints (At.slow S node now k))) ∧ Hid (∀ q, v7.ownBlock = some q → v8.ownBlock ≠ some q) ∧ Hid (Below w.heap.size w wr))
  case atStart => exact ⟨0, rfl, by omega, Lib.hid (World.ownsRow_nil _ _ _ _), Lib.hid (World.ownsRow_nil _ _ _ _), Lib.hid (fun q e => by cases e), Lib.hid (Below.refl _ _)⟩
  case round =>
    obtain ⟨k, rfl, hgg, HO7, HO8, HAP, HB⟩ := hrel
    have HBR := Lib.hid (HA.out.below HB.out (Nat.le_refl _))
    by_cases hlt : k < n
    · have t1 : decide ((k : Int) < (n : Int)) = true := decide_eq_true (by omega)
      have t1n : decide (k < n) = true := decide_eq_true hlt
      obtain ⟨t, ht⟩ : ∃ t, S.tasks[k]? = some t := ⟨S.tasks[k]'(by rw [← HN.out]; exact hlt), List.getElem?_eq_getElem _⟩
      have HM := Lib.hid (may_c b g vs S k t ht _ HBR.out HS.out.len)
      have hid1 : At.isIdle S k = (At.may S k t && decide ((At.under t.tries).1 = 0)) := by unfold At.isIdle; rw [ht]
      have hsl1 : At.isSlow S node now k = (At.may S k t && (decide ((At.under t.tries).1 = 1) && (decide ((At.under t.tries).2.node ≠ node) && decide (S.patience ≤ At.clamp now 0 1099511627776 - (At.under t.tries).2.begun)))) := by unfold At.isSlow; rw [ht]
      have HI := Lib.hid hid1
      have HSL := Lib.hid hsl1
      have HIS := Lib.hid (At.idle_succ S k)
      have HSS := Lib.hid (At.slow_succ S node now k)
      have HT := Lib.hid ht
      have HG := Lib.hid hgg
      clear hid1 hsl1 ht hgg
      generalize At.may S k t = mb at HM HI HSL
      cases mb with
      | false =>
        have e1 : At.idle S (k + 1) = At.idle S k := by rw [HIS.out, HI.out]; simp
        have e2 : At.slow S node now (k + 1) = At.slow S node now k := by rw [HSS.out, HSL.out]; simp
        have E1 := Lib.hid e1
        have E2 := Lib.hid e2
        clear e1 e2
        go_wp2_with fail
        refine HM.out.mono ?_
        rintro _ _ ⟨rfl, rfl⟩
        go_wp2_with fail
        go_roundg (n - (k + 1))
        case measure => have := HG.out; omega
        case rel => exact ⟨k + 1, by first | rfl | go_num, by have := HG.out; omega, by rw [E1.out]; exact HO7, by rw [E2.out]; exact HO8, HAP, HB⟩
      | true =>
        obtain ⟨v, hv, c0, _, _⟩ := HBR.out.task HT.out
        have hown := HBR.out.own k v t hv HT.out
        obtain ⟨p, c, rfl, hvw⟩ := Vw.of_own hown
        have hUN := Lib.hid (under_c g (k * 3) p t.tries.length c t.tries _ HBR.out.tsk.lt c0 hvw (HS.out.tr t (List.mem_of_getElem? HT.out)).1)
        have z : ∀ j, wr.cell? ⟨b, j, none⟩ = [Value.int .i64 (S.maps : Int), .int .i64 S.limit, .int .i64 S.patience, .slice (some ⟨g, 0, none⟩) n n, .int .i64 S.opn, .bool S.dead][j]? := fun j => HN.out ▸ HBR.out.blk.cell j
        have hbeg : 0 ≤ (At.under t.tries).2.begun ∧ (At.under t.tries).2.begun ≤ 1099511627776 := by
          rcases At.under_mem t.tries with h | h
          · rw [h]; decide
          · exact (HS.out.tr t (List.mem_of_getElem? HT.out)).2 _ h
        have hle := At.under_le t.tries
        have hle2 := (HS.out.tr t (List.mem_of_getElem? HT.out)).1
        have HBG := Lib.hid hbeg
        have HLE : Hid ((At.under t.tries).1 ≤ 140737488355328) := Lib.hid (by omega)
        clear hv hown hvw hbeg hle hle2 c0
        generalize At.under t.tries = r at hUN HBG HLE HI HSL
        obtain ⟨cnt, q⟩ := r
        dsimp only at *
        have ka : ((k : Int)).toNat = k := by omega
        have kp : (0 : Int) ≤ (k : Int) := by omega
        have kz : (k : Int) < (n : Int) := by omega
        go_wp2_with fail
        refine HM.out.mono ?_
        rintro _ _ ⟨rfl, rfl⟩
        go_wp2_with fail
        refine hUN.out.mono ?_
        rintro _ w5 ⟨rfl, hb5⟩
        have HB5 := Lib.hid (below_then HB.out HB.out.size hb5)
        have HO75 := Lib.hid (own_below HO7.out hb5 (Nat.le_refl _))
        have HO85 := Lib.hid (own_below HO8.out hb5 (Nat.le_refl _))
        have HA5 := Lib.hid (HBR.out.below hb5 (Nat.le_refl _))
        clear hb5 z hUN HM
        go_upto_region 9 with (fail)
        have HQ6 := Lib.hid (Blk.new w5 [.int .i64 q.node, .int .i64 q.begun, .int .i64 q.state] 49)
        have HB6 := Lib.hid (HB5.out.alloc HB5.out.size (.cells ([.int .i64 q.node, .int .i64 q.begun, .int .i64 q.state] : List Value).toArray 49))
        have HO76 := Lib.hid (HO75.out.alloc (.cells ([.int .i64 q.node, .int .i64 q.begun, .int .i64 q.state] : List Value).toArray 49))
        have HO86 := Lib.hid (HO85.out.alloc (.cells ([.int .i64 q.node, .int .i64 q.begun, .int .i64 q.state] : List Value).toArray 49))
        have HA6 := Lib.hid (HA5.out.below ((Below.refl w5.heap.size w5).alloc (Nat.le_refl _) (.cells ([.int .i64 q.node, .int .i64 q.begun, .int .i64 q.state] : List Value).toArray 49)) (Nat.le_refl _))
        change Code.wp _ _ _ _ (w5.alloc (.cells ([.int .i64 q.node, .int .i64 q.begun, .int .i64 q.state] : List Value).toArray 49))
        clear HB5 HO75 HO85 HA5 HO7 HO8 HB HBR
        generalize w5.alloc (.cells ([.int .i64 q.node, .int .i64 q.begun, .int .i64 q.state] : List Value).toArray 49) = w6 at HQ6 HB6 HO76 HO86 HA6 ⊢
        generalize w5.heap.size = gq at HQ6 ⊢
        have il := At.idle_le S k
        have sl := At.slow_le S node now k
        by_cases h0 : cnt = 0
        · have u1 : ((cnt : Int) == 0) = true := by rw [h0]; rfl
          have u2 : (cnt == 0) = true := by rw [h0]; rfl
          have e1 : At.idle S (k + 1) = At.idle S k ++ [(k : Int)] := by rw [HIS.out, HI.out, h0]; simp
          have e2 : At.slow S node now (k + 1) = At.slow S node now k := by rw [HSS.out, HSL.out, h0]; simp
          have E1 := Lib.hid e1
          have E2 := Lib.hid e2
          have hlk : (At.idle S k).length + 1 ≤ 100001 := by omega
          have HLK := Lib.hid hlk
          clear e1 e2 h0 il sl hlk
          go_wp2_with (at_builtin; refine wpList_app rfl _ _ 23 rfl w.heap.size 3 _ 1 8 Try.underlying23 int_info rfl (by decide) _ (At.idle S k).length _ rfl HO76.out _ _ 1 1 rfl rfl rfl (by have := HLK.out; unfold maxLen; omega) (by have := HLK.out; omega) HB6.out.size ?_; intro v' w7 hO hG hN)
          go_roundg (n - (k + 1))
          case measure => have := HG.out; omega
          case rel =>
            exact ⟨k + 1, by first | rfl | go_num, by have := HG.out; omega, by rw [E1.out]; exact Lib.hid (ints_snoc hO.out), by rw [E2.out]; exact Lib.hid (own_grown HO86.out hG.out HAP.out), Lib.hid (apart_next HAP.out hN.out HO86.out), Lib.hid (below_row HO76.out hG.out HB6.out (Nat.le_refl _) HB6.out.size)⟩
        · have u1 : ((cnt : Int) == 0) = false := beq_eq_false_iff_ne.2 (by omega)
          have u2 : (cnt == 0) = false := beq_eq_false_iff_ne.2 h0
          have e1 : At.idle S (k + 1) = At.idle S k := by rw [HIS.out, HI.out]; simp [h0]
          have E1 := Lib.hid e1
          have hz : ∀ m j, (w6.drewN m).cell? ⟨gq, j, none⟩ = [Value.int .i64 q.node, .int .i64 q.begun, .int .i64 q.state][j]? := fun m j => HQ6.out.cell j
          have hy : ∀ m j, (w6.drewN m).cell? ⟨b, j, none⟩ = [Value.int .i64 (S.maps : Int), .int .i64 S.limit, .int .i64 S.patience, .slice (some ⟨g, 0, none⟩) n n, .int .i64 S.opn, .bool S.dead][j]? := fun m j => HN.out ▸ HA6.out.blk.cell j
          have hcl := fun m => Lib.hid (clamp_c now 0 1099511627776 (w6.drewN m))
          have hwr : wrap64 (At.clamp now 0 1099511627776 - q.begun) = At.clamp now 0 1099511627776 - q.begun := by
            have := HBG.out
            have h1 : 0 ≤ At.clamp now 0 1099511627776 ∧ At.clamp now 0 1099511627776 ≤ 1099511627776 := by unfold At.clamp; omega
            unfold wrap64; omega
          have hwr2 : IntKind.i64.wrap (At.clamp now 0 1099511627776 - q.begun) = At.clamp now 0 1099511627776 - q.begun := by
            have := HBG.out
            have h1 : 0 ≤ At.clamp now 0 1099511627776 ∧ At.clamp now 0 1099511627776 ≤ 1099511627776 := by unfold At.clamp; omega
            rw [IntKind.wrap_i64]; omega
          generalize At.clamp now 0 1099511627776 = cn at hcl hwr hwr2 HSL
          clear e1 h0
          go_upto_region 11 with (fail)
          go_cut [25, 49] from 25 to 74 (fun vi v wc => vi = .int .i64 (k : Int) ∧ (∃ m, wc = w6.drewN m) ∧ v = .bool (decide (cnt = 1) && (decide (q.node ≠ node) && decide (S.patience ≤ cn - q.begun))))
          case first =>
            by_cases h1 : cnt = 1
            · have x1 : ((cnt : Int) == 1) = true := by rw [h1]; rfl
              have x2 : (cnt == 1) = true := by rw [h1]; rfl
              by_cases h2 : q.node ≠ node
              · have x3 : (q.node != node) = true := bne_iff_ne.2 h2
                by_cases h3 : S.patience ≤ cn - q.begun
                · have x4 : decide (S.patience ≤ cn - q.begun) = true := decide_eq_true h3
                  have EQ : Hid ((decide (cnt = 1) && (decide (q.node ≠ node) && decide (S.patience ≤ cn - q.begun))) = true) := Lib.hid (by rw [decide_eq_true h1, decide_eq_true h2, decide_eq_true h3]; rfl)
                  clear h1 h2 h3
                  go_quiet ((go_at_call 12; exact quiet_of (hcl _).out))
                  go_wp2
                  go_meet
                  exact ⟨rfl, ⟨_, rfl⟩, by rw [EQ.out]⟩
                · have x4 : decide (S.patience ≤ cn - q.begun) = false := decide_eq_false h3
                  have EQ : Hid ((decide (cnt = 1) && (decide (q.node ≠ node) && decide (S.patience ≤ cn - q.begun))) = false) := Lib.hid (by rw [decide_eq_true h1, decide_eq_true h2, decide_eq_false h3]; rfl)
                  clear h1 h2 h3
                  go_quiet ((go_at_call 12; exact quiet_of (hcl _).out))
                  go_wp2
                  go_meet
                  exact ⟨rfl, ⟨_, rfl⟩, by rw [EQ.out]⟩
              · have x3 : (q.node != node) = false := by simpa using h2
                have EQ : Hid ((decide (cnt = 1) && (decide (q.node ≠ node) && decide (S.patience ≤ cn - q.begun))) = false) := Lib.hid (by rw [decide_eq_true h1, decide_eq_false h2]; rfl)
                clear h1 h2
                go_quiet ((go_at_call 12; exact quiet_of (hcl _).out))
                go_wp2
                go_meet
                exact ⟨rfl, ⟨_, rfl⟩, by rw [EQ.out]⟩
            · have x1 : ((cnt : Int) == 1) = false := beq_eq_false_iff_ne.2 (by omega)
              have x2 : (cnt == 1) = false := beq_eq_false_iff_ne.2 h1
              have EQ : Hid ((decide (cnt = 1) && (decide (q.node ≠ node) && decide (S.patience ≤ cn - q.begun))) = false) := Lib.hid (by rw [decide_eq_false h1]; rfl)
              clear h1
              go_quiet ((go_at_call 12; exact quiet_of (hcl _).out))
              go_wp2
              go_meet
              exact ⟨rfl, ⟨_, rfl⟩, by rw [EQ.out]⟩
          case rest =>
            obtain ⟨rfl, ⟨m, rfl⟩, rfl⟩ := hcut
            have HBm := Lib.hid (below_drewN HB6.out m)
            have HO7m := Lib.hid (own_drewN HO76.out m)
            have HO8m := Lib.hid (own_drewN HO86.out m)
            have HSL2 : Hid (At.isSlow S node now k = (decide (cnt = 1) && (decide (q.node ≠ node) && decide (S.patience ≤ cn - q.begun)))) := Lib.hid (by rw [HSL.out]; rfl)
            clear hz hy hcl hwr hwr2 HB6 HO76 HO86 HSL HQ6
            generalize (decide (cnt = 1) && (decide (q.node ≠ node) && decide (S.patience ≤ cn - q.begun))) = bb at HSL2 ⊢
            generalize w6.drewN m = w7 at HBm HO7m HO8m ⊢
            cases bb with
            | true =>
              have e2 : At.slow S node now (k + 1) = At.slow S node now k ++ [(k : Int)] := by rw [HSS.out, HSL2.out]; simp
              have E2 := Lib.hid e2
              have hlk : (At.slow S node now k).length + 1 ≤ 100001 := by omega
              have HLK := Lib.hid hlk
              clear e2 il sl hlk
              go_wp2_with (at_builtin; refine wpList_app rfl _ _ 23 rfl w.heap.size 3 _ 1 8 Try.underlying23 int_info rfl (by decide) _ (At.slow S node now k).length _ rfl HO8m.out _ _ 1 1 rfl rfl rfl (by have := HLK.out; unfold maxLen; omega) (by have := HLK.out; omega) HBm.out.size ?_; intro v' w8 hO hG hN)
              go_roundg (n - (k + 1))
              case measure => have := HG.out; omega
              case rel =>
                exact ⟨k + 1, by first | rfl | go_num, by have := HG.out; omega, by rw [E1.out]; exact Lib.hid (own_grown HO7m.out hG.out fun q e1 e2 => HAP.out q e2 e1), by rw [E2.out]; exact Lib.hid (ints_snoc hO.out), Lib.hid (fun q e1 e2 => apart_next (fun q a b => HAP.out q b a) hN.out HO7m.out q e2 e1), Lib.hid (below_row HO8m.out hG.out HBm.out (Nat.le_refl _) HBm.out.size)⟩
            | false =>
              have e2 : At.slow S node now (k + 1) = At.slow S node now k := by rw [HSS.out, HSL2.out]; simp
              have E2 := Lib.hid e2
              clear e2 il sl
              go_wp2_with fail
              go_roundg (n - (k + 1))
              case measure => have := HG.out; omega
              case rel => exact ⟨k + 1, by first | rfl | go_num, by have := HG.out; omega, by rw [E1.out]; exact HO7m, by rw [E2.out]; exact HO8m, HAP, HBm⟩
    · obtain rfl : k = n := by omega
      have t1 : decide ((k : Int) < (k : Int)) = false := decide_eq_false (by omega)
      have t1n : decide (k < k) = false := decide_eq_false (by omega)
      obtain ⟨A7, c7, e7⟩ := own_slice HO7.out
      obtain ⟨A8, c8, e8⟩ := own_slice HO8.out
      subst e7 e8
      clear hlt hgg HAP HBR
      by_cases h0 : 0 < (At.idle S k).length
      · have hr : At.ready S node now = At.idle S k := by rw [HRD.out, if_pos h0]
        have HRX := Lib.hid hr
        have x1 : decide ((0 : Int) < ((At.idle S k).length : Int)) = true := decide_eq_true (by omega)
        have x2 : decide (0 < (At.idle S k).length) = true := decide_eq_true h0
        clear h0 hr HRD
        go_wp2
        exact bodyPost_ret (results_tmp (by rfl) _ _ _) (by rfl) ⟨_, by rfl, by rw [HRX.out]; exact HO7.out, HB.out⟩
      · have hr : At.ready S node now = At.slow S node now k := by rw [HRD.out, if_neg h0]
        have HRX := Lib.hid hr
        have x1 : decide ((0 : Int) < ((At.idle S k).length : Int)) = false := decide_eq_false (by omega)
        have x2 : decide (0 < (At.idle S k).length) = false := decide_eq_false h0
        clear h0 hr HRD
        go_wp2
        exact bodyPost_ret (results_tmp (by rfl) _ _ _) (by rfl) ⟨_, by rfl, by rw [HRX.out]; exact HO8.out, HB.out⟩
end Go.Proofs.Ytahpbcacfdkdjaa
