/- disk: the other changes; one word for all three. -/
import Derived.Test.YtdkjehjiacmppaaDisk
namespace Go.Proofs.Ytdkjehjiacmppaa
open Go.RowKit Go.Maps
set_option linter.unusedVariables false
set_option linter.unusedSimpArgs false
set_option maxRecDepth 20000 in
set_option maxHeartbeats 2000000 in
theorem doDel_c (N : Nat → Prop) (m : Nat) (L : List ByteArray) (F : Files) (x : ByteArray) (hx : x.size ≤ maxLen) (w : World) (h : MapF w N m L F) (hm : N m) :
    Calls Try.prog 87 #[.agg #[.string x], .map (some m)] w (DoPost w N m L (F.del x)) := by
  have hf1 := (Fr.refl w (fun _ => False)).alloc (.cells ([.string x] : List Value).toArray 69)
  have h1 := h.fr hf1 (fun e => e) (fun q e => e.elim)
  obtain ⟨w6, hrunM, h6, hf6⟩ := h1.drop x hx hm 0
  have HP : Hid (DoPost w N m L (F.del x) (.returned (.tuple #[])) w6) := Lib.hid ⟨rfl, h6, (hf1.mono (fun _ _ e => e.elim)).trans hf6 fun _ _ e => e⟩
  clear h h1 hf1 h6 hf6 hx hm
  go_enter Try.func87, Try.ntmps87
  go_wp2
  go_end0
  exact HP.out
set_option maxRecDepth 20000 in
set_option maxHeartbeats 2000000 in
theorem doRen_c (N : Nat → Prop) (m : Nat) (L : List ByteArray) (F : Files) (x y : ByteArray) (hx : x.size ≤ maxLen) (hy : y.size ≤ maxLen) (w : World) (h : MapF w N m L F) (hN : ∀ k, N k → k < w.heap.size) (hm : N m) (hl : L.length < maxLen) :
    Calls Try.prog 88 #[.agg #[.string x, .string y], .map (some m)] w (DoPost w N m (insN y L) ((F.put y (F.at x)).del x)) := by
  have hB1 := Blk.new w [.string x, .string y] 71
  have hf1 := (Fr.refl w (fun _ => False)).alloc (.cells ([.string x, .string y] : List Value).toArray 71)
  have h1 := h.fr hf1 (fun e => e) (fun q e => e.elim)
  obtain ⟨p, c, hlook, hfv⟩ := h1.look x hx
  obtain ⟨w5, hrunM, h5, hf5⟩ := h1.store hl y hy _ _ hfv hm
  obtain ⟨w6, hrunD, h6, hf6⟩ := h5.drop x hx hm 0
  have b5 : Blk w5 w.heap.size [.string x, .string y] 71 := hB1.fr hf5 (fun e => Nat.lt_irrefl _ (hN _ (e ▸ hm)))
  have c5 : w5.cell? ⟨w.heap.size, 0, none⟩ = some (.string x) := b5.cell 0
  have HP : Hid (DoPost w N m (insN y L) ((F.put y (F.at x)).del x) (.returned (.tuple #[])) w6) := Lib.hid ⟨rfl, h6, (hf1.mono (fun _ _ e => e.elim)).trans (hf5.trans hf6 fun _ _ e => e) fun _ _ e => e⟩
  clear h h1 hf1 h6 hf6 hx hy hm hl hfv h5 hf5 b5 hN hB1
  generalize (F.at x).length = nl at hlook hrunM
  go_enter Try.func88, Try.ntmps88
  go_wp2
  go_end0
  exact HP.out
/-! ### a change -/
inductive Chg where
  | app (x d : ByteArray)
  | ren (x y : ByteArray)
  | del (x : ByteArray)
def Chg.ty : Chg → TypeId
  | .app _ _ => 62
  | .ren _ _ => 71
  | .del _ => 69
def Chg.fn : Chg → FuncId
  | .app _ _ => 27
  | .ren _ _ => 88
  | .del _ => 87
def Chg.val : Chg → Value
  | .app x d => .agg #[.string x, .string d]
  | .ren x y => .agg #[.string x, .string y]
  | .del x => .agg #[.string x]
def Chg.v (c : Chg) : Value := .iface c.ty c.val
def Chg.do (c : Chg) (F : Files) : Files :=
  match c with
  | .app x d => F.put x (F.at x ++ d.data.toList)
  | .ren x y => (F.put y (F.at x)).del x
  | .del x => F.del x
def Chg.names (c : Chg) (L : List ByteArray) : List ByteArray :=
  match c with
  | .app x _ => insN x L
  | .ren _ y => insN y L
  | .del _ => L
def Chg.Ok : Chg → Prop
  | .app x _ => x.size ≤ maxLen
  | .ren x y => x.size ≤ maxLen ∧ y.size ≤ maxLen
  | .del x => x.size ≤ maxLen
/-- there is room for what is appended -/
def Chg.Fits (c : Chg) (F : Files) : Prop :=
  match c with
  | .app x d => (F.at x).length + d.size ≤ 140737488355328
  | _ => True
theorem do_c (N : Nat → Prop) (m : Nat) (L : List ByteArray) (F : Files) (c : Chg) (hc : c.Ok) (w : World) (h : MapF w N m L F) (hN : ∀ k, N k → k < w.heap.size) (hm : N m) (hl : L.length < maxLen) (hb : c.Fits F) :
    Calls Try.prog c.fn #[c.val, .map (some m)] w (DoPost w N m (c.names L) (c.do F)) := by
  cases c with
  | app x d => exact doApp_c N m L F x d hc w h hN hm hl hb
  | ren x y => exact doRen_c N m L F x y hc.1 hc.2 w h hN hm hl
  | del x => exact doDel_c N m L F x hc w h hm
theorem nil_app (x d : ByteArray) (w : World) : (nilAhead 242 62 (.agg #[.string x, .string d]) "mahout/disk.do").run Try.prog w = .ok (some false) w := by kernel_rfl
theorem nil_ren (x y : ByteArray) (w : World) : (nilAhead 242 71 (.agg #[.string x, .string y]) "mahout/disk.do").run Try.prog w = .ok (some false) w := by kernel_rfl
theorem nil_del (x : ByteArray) (w : World) : (nilAhead 242 69 (.agg #[.string x]) "mahout/disk.do").run Try.prog w = .ok (some false) w := by kernel_rfl
theorem nil_do (c : Chg) (w : World) : (nilAhead 242 c.ty c.val "mahout/disk.do").run Try.prog w = .ok (some false) w := by
  cases c with
  | app x d => exact nil_app x d w
  | ren x y => exact nil_ren x y w
  | del x => exact nil_del x w
theorem meth_app (x d : ByteArray) (w : World) : (method 242 62 (.agg #[.string x, .string d]) "mahout/disk.do").run Try.prog w = .ok (27, .agg #[.string x, .string d]) w := by kernel_rfl
theorem meth_ren (x y : ByteArray) (w : World) : (method 242 71 (.agg #[.string x, .string y]) "mahout/disk.do").run Try.prog w = .ok (88, .agg #[.string x, .string y]) w := by kernel_rfl
theorem meth_del (x : ByteArray) (w : World) : (method 242 69 (.agg #[.string x]) "mahout/disk.do").run Try.prog w = .ok (87, .agg #[.string x]) w := by kernel_rfl
theorem meth_do (c : Chg) (w : World) : (method 242 c.ty c.val "mahout/disk.do").run Try.prog w = .ok (c.fn, c.val) w := by
  cases c with
  | app x d => exact meth_app x d w
  | ren x y => exact meth_ren x y w
  | del x => exact meth_del x w
theorem enter_do (c : Chg) (args : Array Value) (w : World) : (callFunc c.fn args).run Try.prog w = .ok (.enter c.fn args) w := by
  cases c <;> kernel_rfl
end Go.Proofs.Ytdkjehjiacmppaa
