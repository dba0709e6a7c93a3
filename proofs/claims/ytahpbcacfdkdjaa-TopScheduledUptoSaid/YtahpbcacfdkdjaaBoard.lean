/- attempts: a board in memory; New. (Under way.) -/
import Derived.Test.YtahpbcacfdkdjaaRecs
import Derived.Test.YtahpbcacfdkdjaaView
import Derived.Test.YtahpbcacfdkdjaaMake
import Derived.StillTailTactics
import Derived.Deep.RegionHeld3
namespace At
structure Try where
  node : Int
  begun : Int
  state : Int
  deriving DecidableEq
structure Task where
  tries : List Try
  winner : Int
  full : Int
structure Bd where
  maps : Nat
  limit : Int
  patience : Int
  tasks : List Task
  opn : Int
  dead : Bool
def clamp (n least most : Int) : Int := min (max n least) most
def empty : Task := ⟨[], 0, 0⟩
def new (maps reduces limit patience : Int) : Bd := ⟨(clamp maps 0 4096).toNat, max limit 1, clamp patience 1 1099511627776, List.replicate (((clamp maps 0 4096).toNat + (clamp reduces 0 4096).toNat)) empty, clamp maps 0 4096, false⟩
end At
namespace Go.Proofs.Ytahpbcacfdkdjaa
open Go.RowKit
set_option linter.unusedVariables false
set_option linter.unusedSimpArgs false
set_option maxHeartbeats 1000000 in
theorem clamp_c (n least most : Int) (w : World) : Calls Try.prog 12 #[.int .i64 n, .int .i64 least, .int .i64 most] w fun e w' => e = .returned (.int .i64 (At.clamp n least most)) ∧ w = w' := by
  go_enter Try.func12, Try.ntmps12
  go_wp2
  all_goals
    go_ret
    refine ⟨ret_int ?_, rfl⟩
    unfold At.clamp
    omega
def triesC (l : List At.Try) : List Value := (l.map fun t => [Value.int .i64 t.node, .int .i64 t.begun, .int .i64 t.state]).flatten
def taskC (v : Value) (t : At.Task) : List Value := [v, .int .i64 t.winner, .int .i64 t.full]
def tasksC (vs : List Value) (ts : List At.Task) : List Value := (List.zipWith taskC vs ts).flatten
/-- a board at block b: its tasks in block g, their tries in rows vs -/
structure BoardAt (w : World) (b g : Nat) (vs : List Value) (S : At.Bd) : Prop where
  len : vs.length = S.tasks.length
  blk : Blk w b [.int .i64 (S.maps : Int), .int .i64 S.limit, .int .i64 S.patience, .slice (some ⟨g, 0, none⟩) S.tasks.length S.tasks.length, .int .i64 S.opn, .bool S.dead] 43
  tsk : Blk w g (tasksC vs S.tasks) 46
  own : ∀ (i : Nat) (v : Value) (t : At.Task), vs[i]? = some v → S.tasks[i]? = some t → w.ownsRow 0 49 3 v t.tries.length (triesC t.tries)
  ne : b ≠ g
  off : ∀ (i : Nat) (v : Value) (k : Nat), vs[i]? = some v → v.ownBlock = some k → k ≠ b ∧ k ≠ g
  apart : ∀ (i j : Nat) (v u : Value) (k : Nat), vs[i]? = some v → vs[j]? = some u → v.ownBlock = some k → u.ownBlock = some k → i = j
theorem made3 (a b c : Value) (n : Nat) : (madeCells #[a, b, c] (n * 3)).toList = (List.replicate n [a, b, c]).flatten := by
  apply List.ext_getElem?
  intro k
  have hl : (List.replicate n [a, b, c]).flatten.length = n * 3 := by simp
  by_cases hk : k < n * 3
  · have h1 := flatten_get (rs := List.replicate n [a, b, c]) (sz := 3) (fun r hr => by rw [(List.mem_replicate.1 hr).2]; rfl) (i := k / 3) (j := k % 3) (r := [a, b, c]) (by rw [List.getElem?_replicate, if_pos (by omega)]) (by omega)
    rw [show k / 3 * 3 + k % 3 = k by omega] at h1
    rw [h1]
    have hm : k % 3 = 0 ∨ k % 3 = 1 ∨ k % 3 = 2 := by omega
    simp [madeCells, hk]
    rcases hm with h | h | h <;> simp [h]
  · rw [List.getElem?_eq_none (by simp [madeCells]; omega), List.getElem?_eq_none (by omega)]
theorem task_info : ∃ i, Try.prog.info? 46 = some i ∧ i.zero = some (.agg #[.slice none 0 0, .int .i64 0, .int .i64 0]) ∧ i.size = 3 ∧ i.bytes = 40 := ⟨_, rfl, by kernel_rfl, by kernel_rfl, by kernel_rfl⟩
theorem tasks_made (n : Nat) (hn : n ≤ 100000) (w : World) : (Instr.makeSlice 41 (.int .i64 (n : Int)) (.int .i64 (n : Int))).run Try.prog w = .ok (.slice (some ⟨w.heap.size, 0, none⟩) n n) (w.alloc (.cells (tasksC (List.replicate n (.slice none 0 0)) (List.replicate n At.empty)).toArray 46)) := by
  obtain ⟨i, hi, hz, hs, hb⟩ := task_info
  have hr := run_make (P := Try.prog) w 41 46 i _ Try.underlying41 hi hz .i64 .i64 n n (by omega) (by omega) (by rw [hb]; omega) (by omega)
  rw [hr, hs]
  simp only [Int.toNat_natCast]
  have hc : (tasksC (List.replicate n (.slice none 0 0)) (List.replicate n At.empty)).toArray = madeCells (Value.agg #[.slice none 0 0, .int .i64 0, .int .i64 0]).cells (n * 3) := by
    apply Array.toList_inj.1
    show _ = (madeCells #[.slice none 0 0, .int .i64 0, .int .i64 0] (n * 3)).toList
    rw [made3]
    unfold tasksC
    simp [List.zipWith_replicate, taskC, At.empty]
  rw [hc]
theorem clamp_nat (x : Int) : ∃ m : Nat, At.clamp x 0 4096 = (m : Int) ∧ m ≤ 4096 := ⟨(At.clamp x 0 4096).toNat, by unfold At.clamp; omega, by unfold At.clamp; omega⟩
/-- what a call that makes a board leaves -/
def BoardNew (w : World) (S : At.Bd) (e : Ending) (w' : World) : Prop := ∃ b g vs, e = .returned (.pointer (some ⟨b, 0, none⟩)) ∧ BoardAt w' b g vs S ∧ (∀ v ∈ vs, v = .slice none 0 0) ∧ w.heap.size ≤ b ∧ w.heap.size ≤ g ∧ Below w.heap.size w w'
theorem board_new (w : World) (n m : Nat) (lm pa : Int) (mm : Int) (hmm : mm = (m : Int)) :
    BoardAt ((w.alloc (.cells (tasksC (List.replicate n (.slice none 0 0)) (List.replicate n At.empty)).toArray 46)).alloc (.cells #[.int .i64 (m : Int), .int .i64 lm, .int .i64 pa, .slice (some ⟨w.heap.size, 0, none⟩) n n, .int .i64 mm, .bool false] 43)).drew
      (w.heap.size + 1) w.heap.size (List.replicate n (.slice none 0 0)) ⟨m, lm, pa, List.replicate n At.empty, (m : Int), false⟩ := by
  subst hmm
  have hrep : ∀ (i : Nat) (v : Value), (List.replicate n (Value.slice none 0 0))[i]? = some v → v = .slice none 0 0 := fun i v h => (List.mem_replicate.1 (List.mem_of_getElem? h)).2
  refine ⟨by simp, ?_, ?_, ?_, by omega, ?_, ?_⟩
  · have := Blk.new (w.alloc (.cells (tasksC (List.replicate n (.slice none 0 0)) (List.replicate n At.empty)).toArray 46)) [.int .i64 (m : Int), .int .i64 lm, .int .i64 pa, .slice (some ⟨w.heap.size, 0, none⟩) n n, .int .i64 (m : Int), .bool false] 43
    rw [World.size_alloc] at this
    rw [List.length_replicate]
    exact this
  · exact (Blk.new w (tasksC (List.replicate n (.slice none 0 0)) (List.replicate n At.empty)) 46).alloc _
  · intro i v t hv ht
    obtain rfl := hrep i v hv
    obtain rfl : t = At.empty := (List.mem_replicate.1 (List.mem_of_getElem? ht)).2
    exact World.ownsRow_nil _ _ _ _
  · intro i v k hv hk
    obtain rfl := hrep i v hv
    cases hk
  · intro i j v u k hv hu hk _
    obtain rfl := hrep i v hv
    cases hk
set_option maxRecDepth 20000 in
set_option maxHeartbeats 2000000 in
theorem new_c (maps reduces limit patience : Int) (w : World) : Calls Try.prog 4 #[.int .i64 maps, .int .i64 reduces, .int .i64 limit, .int .i64 patience] w (BoardNew w (At.new maps reduces limit patience)) := by
  have hc1 := fun w => Lib.hid (clamp_c maps 0 4096 w)
  have hc2 := fun w => Lib.hid (clamp_c reduces 0 4096 w)
  have hc3 := fun w => Lib.hid (clamp_c patience 1 1099511627776 w)
  obtain ⟨m, hm, hm2⟩ := clamp_nat maps
  obtain ⟨r, hr, hr2⟩ := clamp_nat reduces
  have HN : Hid (At.new maps reduces limit patience = ⟨m, max limit 1, At.clamp patience 1 1099511627776, List.replicate (m + r) At.empty, (m : Int), false⟩) := Lib.hid (by
    unfold At.new
    rw [hm, hr]; rfl)
  rw [hm] at hc1
  rw [hr] at hc2
  obtain ⟨lm, hlm⟩ : ∃ lm, lm = max limit 1 := ⟨_, rfl⟩
  rw [← hlm] at HN
  obtain ⟨n, hn⟩ : ∃ n, n = m + r := ⟨_, rfl⟩
  rw [← hn] at HN
  have hnb : n ≤ 100000 := hn ▸ Nat.le_trans (Nat.add_le_add hm2 hr2) (by decide)
  have e1 : wrap64 ((m : Int) + (r : Int)) = (n : Int) := by rw [hn]; unfold wrap64; omega
  have e2 : IntKind.i64.wrap ((m : Int) + (r : Int)) = (n : Int) := by rw [hn, IntKind.wrap_i64]; omega
  have e3 : (m : Int) + (r : Int) = (n : Int) := by omega
  have e4 : IntKind.i64.wrap (n : Int) = (n : Int) := by rw [hn, IntKind.wrap_i64]; omega
  have e5 : wrap64 (n : Int) = (n : Int) := by rw [hn]; unfold wrap64; omega
  have hmk := tasks_made n hnb
  have S0 : Hid (Below w.heap.size w w.drew) := Lib.hid (below_drewN (Below.refl w.heap.size w) 1)
  have KA : Hid (∀ (X : World) (o : Obj), Below w.heap.size w X → Below w.heap.size w (X.alloc o)) := Lib.hid fun X o h => h.alloc h.size o
  have KD : Hid (∀ (X : World) (o : Obj), Below w.heap.size w X.drew → Below w.heap.size w (X.alloc o).drew) := Lib.hid fun X o h => h.alloc h.size o
  have HL := Lib.hid hlm
  clear hm hr hn hlm hm2 hr2 hnb
  by_cases hl : limit < 1
  · have HLM : Hid (lm = 1) := Lib.hid (by have := HL.out; omega)
    go_enter Try.func4, Try.ntmps4
    go_wp2_with fail
    refine (hc1 w).out.mono ?_
    rintro _ _ ⟨rfl, rfl⟩
    go_wp2_with fail
    refine (hc2 w).out.mono ?_
    rintro _ _ ⟨rfl, rfl⟩
    go_upto_region 2 with (fail)
    go_region_held3 (fun X => Below w.heap.size w X)
      (with_reducible first | exact S0.out | assumption | exact KA.out _ _ (by assumption) | exact KD.out _ _ (by assumption))
      (first
        | (go_at_call 12; with_reducible refine (hc3 _).out.mono ?_; rintro _ _ ⟨rfl, rfl⟩))
    all_goals
      go_wp2_with fail
      refine bodyPost_ret (results_tmp (by rfl) _ _ _) (by rfl) ⟨w.heap.size + 1, w.heap.size, List.replicate n (.slice none 0 0), by rfl, ?_, fun v hv => (List.mem_replicate.1 hv).2, by omega, Nat.le_refl _, ?_⟩
      · rw [HN.out, HLM.out]
        exact board_new w n m _ _ _ rfl
      · exact (((Below.refl w.heap.size w).alloc (Nat.le_refl _) _).alloc (by simp) _).drew
  · have HLM : Hid (lm = limit) := Lib.hid (by have := HL.out; omega)
    go_enter Try.func4, Try.ntmps4
    go_wp2_with fail
    refine (hc1 w).out.mono ?_
    rintro _ _ ⟨rfl, rfl⟩
    go_wp2_with fail
    refine (hc2 w).out.mono ?_
    rintro _ _ ⟨rfl, rfl⟩
    go_upto_region 2 with (fail)
    go_region_held3 (fun X => Below w.heap.size w X)
      (with_reducible first | exact S0.out | assumption | exact KA.out _ _ (by assumption) | exact KD.out _ _ (by assumption))
      (first
        | (go_at_call 12; with_reducible refine (hc3 _).out.mono ?_; rintro _ _ ⟨rfl, rfl⟩))
    all_goals
      go_wp2_with fail
      refine bodyPost_ret (results_tmp (by rfl) _ _ _) (by rfl) ⟨w.heap.size + 1, w.heap.size, List.replicate n (.slice none 0 0), by rfl, ?_, fun v hv => (List.mem_replicate.1 hv).2, by omega, Nat.le_refl _, ?_⟩
      · rw [HN.out, HLM.out]
        exact board_new w n m _ _ _ rfl
      · exact (((Below.refl w.heap.size w).alloc (Nat.le_refl _) _).alloc (by simp) _).drew
end Go.Proofs.Ytahpbcacfdkdjaa
