/- Plain facts about numbers of bits and single bits of numbers that are lists of digits. No Go in it. -/
import Derived.Test.YthadkjekagfjfaaN11
namespace Go.Proofs.Ythadkjekagfjfaa.N
open Go.RowKit Go.Proofs.Ythadkjekagfjfaa.Dig Go.Proofs.YthadkjekagfjfaaW.PrintWords Go.Proofs.YthadkjekagfjfaaW.PrintLast Go.Proofs.YthadkjekagfjfaaW.PrintMore
set_option linter.unusedVariables false

/-- The number of bits. -/
def bl (n : Nat) : Nat := (dg 2 n).length
theorem bl_le (k n : Nat) : bl n ≤ k ↔ n < 2 ^ k := dg_len (Nat.le_refl 2) k n
theorem bl_zero : bl 0 = 0 := rfl
theorem bl_lt (n : Nat) : n < 2 ^ bl n := dg_len_lt (Nat.le_refl 2) n
theorem bl_ge {n : Nat} (h : n ≠ 0) : 2 ^ (bl n - 1) ≤ n := dg_len_ge (Nat.le_refl 2) h
theorem bl_pos {n : Nat} (h : n ≠ 0) : 0 < bl n := by
  have := bl_lt n
  rcases Nat.eq_zero_or_pos (bl n) with h0 | h0
  · rw [h0] at this; omega
  · exact h0
theorem bl_eq {n k : Nat} (h0 : 2 ^ k ≤ n) (h1 : n < 2 ^ (k + 1)) : bl n = k + 1 := by
  have a := (bl_le (k + 1) n).2 h1
  have b : ¬ bl n ≤ k := fun h => by have := (bl_le k n).1 h; omega
  omega
theorem BB_pow (k : Nat) : BB ^ k = 2 ^ (32 * k) := by rw [Nat.pow_mul]; rfl
theorem bl_top {l : List Int} {k t : Nat} (h : NOk l) (hl : l.length = k + 1) (ht : (t : Int) = l.getD k 0) (h0 : t ≠ 0) : bl (nv l) = 32 * k + bl t := by
  have hsplit := val_take_succ BB l k (by omega)
  rw [List.take_of_length_le (by omega), ← ht, Int.toNat_natCast] at hsplit
  have hlo := val_lt (h.take k)
  rw [List.length_take, Nat.min_eq_left (by omega)] at hlo
  change nv l = _ at hsplit
  rw [hsplit]
  generalize val BB (l.take k) = lo at *
  have e1 := bl_lt t
  have e2 := bl_ge h0
  have e3 := bl_pos h0
  obtain ⟨m, hm⟩ : ∃ m, bl t = m + 1 := ⟨bl t - 1, by omega⟩
  rw [hm] at e1 e2 ⊢
  rw [Nat.add_sub_cancel] at e2
  have hb : BB ^ k * (t + 1) ≤ BB ^ k * 2 ^ (m + 1) := Nat.mul_le_mul_left _ e1
  have hc : BB ^ k * 2 ^ m ≤ BB ^ k * t := Nat.mul_le_mul_left _ e2
  rw [Nat.mul_add] at hb
  rw [← Nat.add_assoc]
  apply bl_eq
  · rw [Nat.pow_add, ← BB_pow]; omega
  · rw [Nat.add_assoc, Nat.pow_add, ← BB_pow]; omega

/-- A bit, 0 for a negative place. -/
def bitv (n : Nat) (i : Int) : Int := if i < 0 then 0 else ((n / 2 ^ i.toNat % 2 : Nat) : Int)

theorem digit_val {l : List Int} (h : NOk l) {c d : Nat} (hc : c < l.length) (hd : (d : Int) = l.getD c 0) : nv l / BB ^ c % BB = d := by
  have h1 := nv_drop_div l h c (by omega)
  rw [← h1, List.drop_eq_getElem_cons hc]
  unfold nv
  have e : l[c] = (d : Int) := by rw [hd, List.getD_eq_getElem?_getD, List.getElem?_eq_getElem hc]; rfl
  have hb := h.at_ c
  rw [← hd] at hb
  rw [val_cons, e, Int.toNat_natCast, Nat.add_mul_mod_self_left]
  exact Nat.mod_eq_of_lt (by rw [BB_eq]; omega)

theorem bit_digit {n c s d : Nat} (hs : s < 32) (h : n / BB ^ c % BB = d) : n / 2 ^ (32 * c + s) % 2 = d / 2 ^ s % 2 := by
  subst h
  have e : BB = 2 ^ s * 2 ^ (32 - s) := by rw [← Nat.pow_add, Nat.add_sub_cancel' (by omega)]; rfl
  rw [Nat.pow_add, ← BB_pow, ← Nat.div_div_eq_div_mul]
  generalize n / BB ^ c = m
  rw [e, Nat.mod_mul_right_div_self]
  obtain ⟨k, hk⟩ : ∃ k, 32 - s = k + 1 := ⟨31 - s, by omega⟩
  rw [hk, Nat.pow_succ, Nat.mul_comm, Nat.mod_mul_right_mod]

end Go.Proofs.Ythadkjekagfjfaa.N
