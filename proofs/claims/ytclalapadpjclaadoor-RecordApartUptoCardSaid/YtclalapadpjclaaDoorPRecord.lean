/- Plain laws of messages as bytes: other messages have other bytes. -/
import Derived.Test.YtclalapadpjclaaDoorEncode
namespace Rec
theorem uv_cancel : ∀ (u v : Nat) (x y : List UInt8), Wire.uv u ++ x = Wire.uv v ++ y → u = v ∧ x = y := by
  intro u
  induction u using Nat.strongRecOn with
  | _ u ih =>
    intro v x y h
    have ofn : ∀ a b : Nat, a < 256 → b < 256 → UInt8.ofNat a = UInt8.ofNat b → a = b := fun a b ha hb e => by
      have := congrArg UInt8.toNat e
      rwa [UInt8.toNat_ofNat', UInt8.toNat_ofNat', Nat.mod_eq_of_lt (by omega), Nat.mod_eq_of_lt (by omega)] at this
    by_cases hu : u < 128
    · by_cases hv : v < 128
      · rw [Wire.uv_lt hu, Wire.uv_lt hv] at h
        simp only [List.cons_append, List.nil_append, List.cons.injEq] at h
        exact ⟨ofn _ _ (by omega) (by omega) h.1, h.2⟩
      · rw [Wire.uv_lt hu, Wire.uv_ge hv] at h
        simp only [List.cons_append, List.nil_append, List.cons.injEq] at h
        have := ofn _ _ (by omega) (by omega) h.1
        omega
    · by_cases hv : v < 128
      · rw [Wire.uv_ge hu, Wire.uv_lt hv] at h
        simp only [List.cons_append, List.nil_append, List.cons.injEq] at h
        have := ofn _ _ (by omega) (by omega) h.1
        omega
      · rw [Wire.uv_ge hu, Wire.uv_ge hv] at h
        simp only [List.cons_append, List.cons.injEq] at h
        have h1 := ofn _ _ (by omega) (by omega) h.1
        obtain ⟨h2, h3⟩ := ih (u / 128) (by omega) (v / 128) x y h.2
        exact ⟨by omega, h3⟩
theorem enc_cancel {a b : Int} {x y : List UInt8} (h : Wire.enc a ++ x = Wire.enc b ++ y) : a = b ∧ x = y := by
  obtain ⟨h1, h2⟩ := uv_cancel _ _ _ _ h
  refine ⟨?_, h2⟩
  unfold Wire.zz at h1
  split at h1 <;> split at h1 <;> omega
theorem txt_cancel {a b : ByteArray} {x y : List UInt8} (h : txt a ++ x = txt b ++ y) : a = b ∧ x = y := by
  unfold txt at h
  rw [List.append_assoc, List.append_assoc] at h
  obtain ⟨h1, h2⟩ := enc_cancel h
  have hs : a.data.toList.length = b.data.toList.length := by simp; omega
  obtain ⟨h3, h4⟩ := List.append_inj h2 hs
  exact ⟨by cases a; cases b; simp at h3; rw [h3], h4⟩
theorem encN_cancel : ∀ {a b : List Int} {x y : List UInt8}, a.length = b.length → encN a ++ x = encN b ++ y → a = b ∧ x = y
  | [], [], x, y, _, h => ⟨rfl, h⟩
  | p :: a, q :: b, x, y, hl, h => by
    have e : ∀ (p : Int) (a : List Int), encN (p :: a) = Wire.enc p ++ encN a := fun _ _ => rfl
    rw [e, e, List.append_assoc, List.append_assoc] at h
    obtain ⟨h1, h2⟩ := enc_cancel h
    obtain ⟨h3, h4⟩ := encN_cancel (by simpa using hl) h2
    exact ⟨by rw [h1, h3], h4⟩
theorem encT_cancel : ∀ {a b : List ByteArray} {x y : List UInt8}, a.length = b.length → encT a ++ x = encT b ++ y → a = b ∧ x = y
  | [], [], x, y, _, h => ⟨rfl, h⟩
  | p :: a, q :: b, x, y, hl, h => by
    have e : ∀ (p : ByteArray) (a : List ByteArray), encT (p :: a) = txt p ++ encT a := fun _ _ => rfl
    rw [e, e, List.append_assoc, List.append_assoc] at h
    obtain ⟨h1, h2⟩ := txt_cancel h
    obtain ⟨h3, h4⟩ := encT_cancel (by simpa using hl) h2
    exact ⟨by rw [h1, h3], h4⟩
theorem body_inj {a b : Msg} (h : body a = body b) : a = b := by
  unfold body at h
  rw [List.append_assoc, List.append_assoc] at h
  obtain ⟨h1, h2⟩ := encN_cancel (a := [a.k, a.c, a.a, (a.N.length : Int)]) (b := [b.k, b.c, b.a, (b.N.length : Int)]) rfl h
  simp only [List.cons.injEq, and_true] at h1
  obtain ⟨e1, e2, e3, e4⟩ := h1
  obtain ⟨h3, h4⟩ := encN_cancel (by omega) h2
  obtain ⟨h5, h6⟩ := enc_cancel h4
  obtain ⟨h7, _⟩ := encT_cancel (a := a.T) (b := b.T) (x := []) (y := []) (by omega) (by simpa using h6)
  cases a; cases b; simp_all
theorem body_ne (a : Msg) : body a ≠ [] := by
  unfold body encN
  have := Wire.uv_pos (Wire.zz a.k)
  intro h
  have h1 := congrArg List.length h
  simp only [List.length_append, List.map_cons, List.flatten_cons, List.length_nil] at h1
  have h2 : (Wire.enc a.k).length = (Wire.uv (Wire.zz a.k)).length := rfl
  omega
theorem encB_nil (a : Msg) : encB a = [] ↔ validB a.k a.N.length a.T.length = false := by
  unfold encB
  cases validB a.k a.N.length a.T.length with
  | true => simp [body_ne a]
  | false => simp
theorem encB_inj {a b : Msg} (ha : encB a ≠ []) (hb : encB b ≠ []) (h : encB a = encB b) : a = b := by
  unfold encB at *
  cases h1 : validB a.k a.N.length a.T.length with
  | false => rw [h1] at ha; exact absurd rfl ha
  | true =>
    cases h2 : validB b.k b.N.length b.T.length with
    | false => rw [h2] at hb; exact absurd rfl hb
    | true => rw [h1, h2] at h; exact body_inj (by simpa using h)
end Rec
