/- natural.MulAdd as a walk: the digits of a * m + c in a new slice. Condition: the slice reads as fewer than 2^44 digits; m and c are below 2^32. -/
import Derived.Test.YthadkjekagfjfaaN4
import Derived.Test.YthadkjekagfjfaaBits
namespace Go.Proofs.Ythadkjekagfjfaa.N
open Go.RowKit Go.Proofs.Ythadkjekagfjfaa.Dig Go.Proofs.YthadkjekagfjfaaW.PrintWords Go.Proofs.YthadkjekagfjfaaW.PrintLast Go.Proofs.YthadkjekagfjfaaW.PrintMore
set_option linter.unusedVariables false

theorem NOk.at_ {l : List Int} (h : NOk l) (i : Nat) : 0 ≤ l.getD i 0 ∧ l.getD i 0 < 4294967296 := Ok.at_ h (by decide) i
theorem NOk.set_ {l : List Int} (h : NOk l) (i : Nat) {d : Int} (h0 : 0 ≤ d) (h1 : d < 4294967296) : NOk (l.set i d) := fun x hx => by
  rcases List.mem_or_eq_of_mem_set hx with h2 | rfl
  · exact h x h2
  · exact ⟨h0, h1⟩
theorem nok_zeros (n : Nat) : NOk (List.replicate n 0) := Ok.replicate (by decide) n
theorem nv_take_succ (l : List Int) (k : Nat) (hk : k < l.length) : nv (l.take (k + 1)) = nv (l.take k) + BB ^ k * (l.getD k 0).toNat := val_take_succ BB l k hk
theorem nv_set_take (l : List Int) (k : Nat) (d : Int) (hk : k < l.length) : nv ((l.set k d).take (k + 1)) = nv (l.take k) + BB ^ k * d.toNat := by
  rw [nv_take_succ _ _ (by simpa using hk), List.take_set_of_le (Nat.le_refl _)]
  simp [hk]
theorem nv_take_all (l : List Int) : nv (l.take l.length) = nv l := by rw [List.take_length]

theorem muladd_step {X Y P m c s cc d : Nat} {c0 : Nat} (h : Y + P * c = X * m + c0) (he : d * m + c = cc * BB + s) : Y + P * s + P * BB * cc = (X + P * d) * m + c0 := by
  have h1 : P * (d * m + c) = P * (cc * BB + s) := by rw [he]
  rw [Nat.mul_add, Nat.mul_add] at h1
  rw [Nat.add_mul, Nat.mul_assoc P BB cc, Nat.mul_comm BB cc, Nat.mul_assoc P d m]
  omega

/-- What is known after i rounds of MulAdd. -/
def MA (x y : List Int) (m c0 : Nat) (i : Nat) (c : Int) : Prop :=
  NOk y ∧ y.length = x.length + 1 ∧ nv (y.take i) + BB ^ i * c.toNat = nv (x.take i) * m + c0

theorem MA.step {x y : List Int} {m c0 i : Nat} {c d hi lo k s : Int} (h : MA x y m c0 i c) (hi_ : i < x.length) (hd : d = x.getD i 0) (hd0 : 0 ≤ d) (hc : 0 ≤ c) (h1 : d * m = hi * 4294967296 + lo) (h2 : lo + c + 0 = k * 4294967296 + s) (h3 : 0 ≤ s) (h4 : s < 4294967296) (h5 : 0 ≤ hi + k) :
    MA x (y.set i s) m c0 (i + 1) (hi + k) := by
  obtain ⟨ho, hl, hv⟩ := h
  refine ⟨ho.set_ i h3 h4, by simpa using hl, ?_⟩
  rw [nv_set_take _ _ _ (by omega), nv_take_succ _ _ hi_, ← hd, Nat.pow_succ]
  refine muladd_step hv ?_
  obtain ⟨d, rfl⟩ := Int.eq_ofNat_of_zero_le hd0
  obtain ⟨c, rfl⟩ := Int.eq_ofNat_of_zero_le hc
  obtain ⟨s, rfl⟩ := Int.eq_ofNat_of_zero_le h3
  obtain ⟨z, hz⟩ := Int.eq_ofNat_of_zero_le h5
  rw [hz]
  simp only [Int.toNat_natCast, BB_eq]
  have : ((d * m : Nat) : Int) = (d : Int) * m := Int.natCast_mul _ _
  omega

theorem MA.stop {x y : List Int} {m c0 : Nat} {c : Int} (h : MA x y m c0 x.length c) (hc : 0 ≤ c) (hc2 : c < 4294967296) : NOk (y.set x.length c) ∧ nv (y.set x.length c) = nv x * m + c0 ∧ (y.set x.length c).length = x.length + 1 := by
  obtain ⟨ho, hl, hv⟩ := h
  refine ⟨ho.set_ _ hc hc2, ?_, by simpa using hl⟩
  have := nv_set_take y x.length c (by omega)
  rw [List.take_of_length_le (by simp; omega)] at this
  rw [this, hv, List.take_length]

end Go.Proofs.Ythadkjekagfjfaa.N
