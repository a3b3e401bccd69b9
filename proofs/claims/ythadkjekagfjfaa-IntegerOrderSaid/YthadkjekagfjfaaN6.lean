/- natural.DivSmall as a walk: the quotient's digits in a new slice and the remainder, or nothing for 0. Condition: the slice reads as fewer than 2^44 digits; the divisor is below 2^32. -/
import Derived.Test.YthadkjekagfjfaaN5
namespace Go.Proofs.Ythadkjekagfjfaa.N
open Go.RowKit Go.Proofs.Ythadkjekagfjfaa.Dig Go.Proofs.YthadkjekagfjfaaW.PrintWords Go.Proofs.YthadkjekagfjfaaW.PrintLast Go.Proofs.YthadkjekagfjfaaW.PrintMore
set_option linter.unusedVariables false

theorem nv_drop (l : List Int) (i : Nat) (hi : i < l.length) : nv (l.drop i) = (l.getD i 0).toNat + BB * nv (l.drop (i + 1)) := by
  rw [List.drop_eq_getElem_cons hi, List.getD_eq_getElem?_getD, List.getElem?_eq_getElem hi]; rfl
theorem nv_set_drop (l : List Int) (i : Nat) (d : Int) (hi : i < l.length) : nv ((l.set i d).drop i) = d.toNat + BB * nv (l.drop (i + 1)) := by
  rw [nv_drop _ _ (by simpa using hi), List.drop_set_of_lt (by omega)]
  simp [hi]

/-- What is known when the digits from i on have been divided. -/
def DV (x y : List Int) (d : Nat) (i : Nat) (r : Int) : Prop := NOk y ∧ y.length = x.length ∧ nv (x.drop i) = nv (y.drop i) * d + r.toNat
theorem DV.step {x y : List Int} {d i : Nat} {r e q s : Int} (h : DV x y d (i + 1) r) (hi : i < x.length) (he : e = x.getD i 0) (he0 : 0 ≤ e) (hr : 0 ≤ r) (h1 : r * 4294967296 + e = q * d + s) (hq : 0 ≤ q) (hq2 : q < 4294967296) (hs : 0 ≤ s) : DV x (y.set i q) d i s := by
  obtain ⟨ho, hl, hv⟩ := h
  refine ⟨ho.set_ i hq hq2, by simpa using hl, ?_⟩
  rw [nv_set_drop _ _ _ (by omega), nv_drop _ _ hi, ← he, hv]
  obtain ⟨e, rfl⟩ := Int.eq_ofNat_of_zero_le he0
  obtain ⟨r, rfl⟩ := Int.eq_ofNat_of_zero_le hr
  obtain ⟨q, rfl⟩ := Int.eq_ofNat_of_zero_le hq
  obtain ⟨s, rfl⟩ := Int.eq_ofNat_of_zero_le hs
  simp only [Int.toNat_natCast, BB_eq]
  have h2 : ((q * d : Nat) : Int) = (q : Int) * d := Int.natCast_mul _ _
  generalize nv (y.drop (i + 1)) = Q
  rw [Nat.add_mul, Nat.mul_add, Nat.mul_assoc]
  omega

/-- A quotient and a remainder are handed back. -/
def DivMade (w : World) (n d : Nat) (e : Ending) (w' : World) : Prop := ∃ v, e = .returned (.tuple #[v, .int .u32 (n % d : Nat), .bool true]) ∧ Own w' w.heap.size v (nd (n / d)) ∧ Below w.heap.size w w'

theorem DV.stop {x y : List Int} {d : Nat} {r : Int} (h : DV x y d 0 r) (hr : 0 ≤ r) (hrd : r < d) : nv y = nv x / d ∧ r = ((nv x % d : Nat) : Int) := by
  obtain ⟨_, _, hv⟩ := h
  rw [List.drop_zero, List.drop_zero] at hv
  obtain ⟨r, rfl⟩ := Int.eq_ofNat_of_zero_le hr
  rw [Int.toNat_natCast] at hv
  rw [hv, Nat.add_comm, Nat.add_mul_div_right _ _ (by omega), Nat.div_eq_of_lt (by omega), Nat.add_mul_mod_self_right, Nat.mod_eq_of_lt (by omega)]
  omega

end Go.Proofs.Ythadkjekagfjfaa.N
