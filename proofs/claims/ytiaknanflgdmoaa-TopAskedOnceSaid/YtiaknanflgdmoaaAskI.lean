/- What holds all along: letters, caller, desk. -/
import Derived.Test.YtiaknanflgdmoaaAskD
namespace Go.Proofs.Ytiaknanflgdmoaa
open Go.RowKit Go.Maps
set_option linter.unusedVariables false
set_option linter.unusedSimpArgs false
def rtx (x : Nat) : ByteArray := txt (114 :: dec x)
def GoodL (call last : Nat) (l : Letter) : Prop :=
  (l.dst = 1 ∧ ∃ x : Nat, 1 ≤ x ∧ x ≤ call ∧ l.txt = txt (dec x)) ∨ (l.dst = 0 ∧ ∃ x : Nat, 1 ≤ x ∧ x ≤ last ∧ l.txt = rtx x)
theorem GoodL.mono {call last call' last' : Nat} {l : Letter} (h : GoodL call last l) (h1 : call ≤ call') (h2 : last ≤ last') : GoodL call' last' l := by
  rcases h with ⟨a, x, b, c, d⟩ | ⟨a, x, b, c, d⟩
  · exact .inl ⟨a, x, b, by omega, d⟩
  · exact .inr ⟨a, x, b, by omega, d⟩
structure AInv (s : NS) (cl : Cl) (f : View) (call last q : Nat) : Prop where
  cut : s.cut = fun _ => false
  sent : s.sent ≤ q
  fly : ∀ l ∈ s.fly, GoodL call last l
  wf : cl.Wf
  ccall : cl.call = call
  c1 : 1 ≤ call
  lc : last ≤ call
  desk : (f 1 = none ∧ last = 0) ∨ (1 ≤ last ∧ f 1 = some ⟨last, true, rtx last⟩)
theorem AInv.mono {s : NS} {cl : Cl} {f : View} {call last q q' : Nat} (h : AInv s cl f call last q) (hq : q ≤ q') : AInv s cl f call last q' :=
  ⟨h.cut, by have := h.sent; omega, h.fly, h.wf, h.ccall, h.c1, h.lc, h.desk⟩
theorem AInv.send {s s' : NS} {cl : Cl} {f : View} {call last q : Nat} (h : AInv s cl f call last q) {a b i j : Int} {t : ByteArray} (hr : s.send a b t = (s', i, j))
    (hg : GoodL call last ⟨0, 0, b, t⟩) : AInv s' cl f call last (q + 1) := by
  have h1 : s'.cut = s.cut ∧ (s'.sent = s.sent ∨ s'.sent = s.sent + 1) ∧ (s'.fly = s.fly ∨ s'.fly = s.fly ++ [⟨s.sent + 1, a, b, t⟩]) := by
    unfold NS.send at hr
    split at hr
    · cases hr; exact ⟨rfl, .inl rfl, .inl rfl⟩
    · split at hr
      · cases hr; exact ⟨rfl, .inl rfl, .inl rfl⟩
      · split at hr
        · cases hr; exact ⟨rfl, .inl rfl, .inl rfl⟩
        · cases hr; exact ⟨rfl, .inr rfl, .inr rfl⟩
  refine ⟨h1.1.trans h.cut, by have := h.sent; omega, fun l hl => ?_, h.wf, h.ccall, h.c1, h.lc, h.desk⟩
  rcases h1.2.2 with e | e
  · exact h.fly l (e ▸ hl)
  · rw [e] at hl
    rcases List.mem_append.1 hl with hl | hl
    · exact h.fly l hl
    · obtain rfl := List.mem_singleton.1 hl
      exact hg
theorem AInv.sendCall {s s' : NS} {cl : Cl} {f : View} {call last q : Nat} (h : AInv s cl f call last q) {a i j : Int} {x : Nat} (hr : s.send a 1 (txt (dec x)) = (s', i, j))
    (h1 : 1 ≤ x) (h2 : x ≤ call) : AInv s' cl f call last (q + 1) := h.send hr (.inl ⟨rfl, x, h1, h2, rfl⟩)
theorem AInv.sendRep {s s' : NS} {cl : Cl} {f : View} {call last q : Nat} (h : AInv s cl f call last q) {a i j : Int} {x : Nat} (hr : s.send a 0 (rtx x) = (s', i, j))
    (h1 : 1 ≤ x) (h2 : x ≤ last) : AInv s' cl f call last (q + 1) := h.send hr (.inr ⟨rfl, x, h1, h2, rfl⟩)
theorem AInv.deliver {s : NS} {cl : Cl} {f : View} {call last q : Nat} (h : AInv s cl f call last q) {k : Nat} (hk : k < s.fly.length) :
    ∃ s' l, s.deliver k = (s', l, 0) ∧ GoodL call last l ∧ AInv s' cl f call last q := by
  obtain ⟨l, hl⟩ : ∃ l, s.fly[k]? = some l := ⟨s.fly[k], List.getElem?_eq_getElem hk⟩
  refine ⟨{ s with fly := s.fly.eraseIdx k }, l, ?_, h.fly l (List.mem_of_getElem? hl), ⟨h.cut, h.sent, fun l hl => h.fly l (List.mem_of_mem_eraseIdx hl), h.wf, h.ccall, h.c1, h.lc, h.desk⟩⟩
  have hh : s.has k = true := by unfold NS.has; simp; omega
  unfold NS.deliver
  rw [hh, Int.toNat_natCast, hl]
  simp [NS.parted, h.cut]
theorem AInv.deliver0 {s : NS} (h : s.fly = []) : s.deliver 0 = (s, noLetter, 2) := by
  have hh : s.has 0 = false := by unfold NS.has; simp [h]
  unfold NS.deliver
  rw [hh]
theorem AInv.drop {s s' : NS} {cl : Cl} {f : View} {call last q : Nat} (h : AInv s cl f call last q) {k j : Int} (hr : s.drop k = (s', j)) : AInv s' cl f call last q := by
  unfold NS.drop at hr
  split at hr
  · cases hr
    exact ⟨h.cut, h.sent, fun l hl => h.fly l (List.mem_of_mem_eraseIdx hl), h.wf, h.ccall, h.c1, h.lc, h.desk⟩
  · cases hr; exact h
theorem AInv.double {s s' : NS} {cl : Cl} {f : View} {call last q : Nat} (h : AInv s cl f call last q) {k j : Int} (hr : s.double k = (s', j)) : AInv s' cl f call last q := by
  unfold NS.double at hr
  split at hr
  · rename_i l _ hl
    split at hr
    · cases hr; exact h
    · cases hr
      refine ⟨h.cut, h.sent, fun m hm => ?_, h.wf, h.ccall, h.c1, h.lc, h.desk⟩
      rcases List.mem_append.1 hm with hm | hm
      · exact h.fly m hm
      · obtain rfl := List.mem_singleton.1 hm
        exact h.fly m (List.mem_of_getElem? hl)
  · cases hr; exact h
theorem AInv.start {s : NS} {cl : Cl} {f : View} {call last q : Nat} (h : AInv s cl f call last q) (now : Int) (hc : call < 1152921504606846976) : AInv s (cl.start now) f (call + 1) last q ∧ (cl.start now).call = ((call + 1 : Nat) : Int) ∧ (cl.start now).under = true := by
  have e : (cl.start now).call = ((call + 1 : Nat) : Int) := by
    show wrap64 (cl.call + 1) = _
    rw [h.ccall]; unfold wrap64; omega
  exact ⟨⟨h.cut, h.sent, fun l hl => (h.fly l hl).mono (by omega) (Nat.le_refl _), Cl.start_wf h.wf _, e, by omega, by have := h.lc; omega, h.desk⟩, e, rfl⟩
theorem AInv.tick {s : NS} {cl : Cl} {f : View} {call last q : Nat} (h : AInv s cl f call last q) (now : Int) : AInv s (cl.tick now).2 f call last q := by
  refine ⟨h.cut, h.sent, h.fly, Cl.tick_wf h.wf _, ?_, h.c1, h.lc, h.desk⟩
  rw [← h.ccall]
  unfold Cl.tick
  repeat' split
  all_goals rfl
theorem AInv.got {s : NS} {cl : Cl} {f : View} {call last q : Nat} (h : AInv s cl f call last q) (hu : cl.under = true) (x : Nat) :
    AInv s (cl.got x).2 f call last q ∧ (cl.got x).1 = decide ((x : Int) = (call : Int)) := by
  refine ⟨⟨h.cut, h.sent, h.fly, Cl.got_wf h.wf _, ?_, h.c1, h.lc, h.desk⟩, ?_⟩
  · rw [← h.ccall]
    unfold Cl.got
    split <;> rfl
  · unfold Cl.got
    rw [h.ccall, hu]
    by_cases e : call = x
    · subst e; simp
    · rw [if_neg (by simp; omega)]
      symm; simp; omega
theorem View.set_set (f : View) (c : Int) (a b : Last) : (f.set c a).set c b = f.set c b := by
  funext x; unfold View.set; split <;> rfl
theorem AInv.askNew {s : NS} {cl : Cl} {f : View} {call last q : Nat} (h : AInv s cl f call last q) {x : Nat} (h1 : last < x) (h2 : x ≤ call) :
    f.ask 1 x = (0, ⟨#[]⟩, f.set 1 ⟨x, false, ⟨#[]⟩⟩) ∧ (f.set 1 ⟨x, false, ⟨#[]⟩⟩).reply 1 x (rtx x) = (true, f.set 1 ⟨x, true, rtx x⟩) ∧ AInv s cl (f.set 1 ⟨x, true, rtx x⟩) call x q := by
  refine ⟨?_, ?_, ⟨h.cut, h.sent, fun l hl => (h.fly l hl).mono (Nat.le_refl _) (by omega), h.wf, h.ccall, h.c1, h2, .inr ⟨by omega, by simp [View.set]⟩⟩⟩
  · unfold View.ask
    rcases h.desk with ⟨e, _⟩ | ⟨_, e⟩
    · rw [e]
    · rw [e]; simp only; rw [if_pos (by omega)]
  · unfold View.reply
    have : (f.set 1 ⟨x, false, ⟨#[]⟩⟩) 1 = some ⟨x, false, ⟨#[]⟩⟩ := by simp [View.set]
    rw [this]
    simp [View.set_set]
theorem AInv.askOld {s : NS} {cl : Cl} {f : View} {call last q : Nat} (h : AInv s cl f call last q) {x : Nat} (h0 : 1 ≤ x) (h1 : x ≤ last) :
    f.ask 1 x = if x = last then (2, rtx x, f) else (3, ⟨#[]⟩, f) := by
  rcases h.desk with ⟨_, e⟩ | ⟨_, e⟩
  · omega
  · unfold View.ask
    rw [e]
    simp only
    rw [if_neg (by omega)]
    by_cases h2 : x = last
    · subst h2; simp
    · rw [if_pos (by omega), if_neg h2]
theorem AInv.first : AInv (newNS 2) (Cl.start ⟨clamp 2 1, clamp 9 1, 0, false, 0, 0⟩ 0) (fun _ => none) 1 0 0 :=
  ⟨rfl, Int.le_refl _, fun l h => by (cases h), Cl.start_wf ⟨clamp_lo (by decide), clamp_hi _ _, clamp_lo (by decide), clamp_hi _ _, Int.le_refl _, by decide, Int.le_refl _, by decide⟩ _, (by show wrap64 (0 + 1) = _; unfold wrap64; omega), Nat.le_refl _, Nat.zero_le _, .inl ⟨rfl, rfl⟩⟩
end Go.Proofs.Ytiaknanflgdmoaa
