/- The contracts of natural's Shl, Shr, BitLen and Bit said of numbers. Plain consequences of the walks. -/
import Derived.Test.YthadkjekagfjfaaN12
namespace Go.Proofs.Ythadkjekagfjfaa.N
open Go.RowKit Go.Proofs.Ythadkjekagfjfaa.Dig Go.Proofs.YthadkjekagfjfaaW.PrintWords Go.Proofs.YthadkjekagfjfaaW.PrintLast Go.Proofs.YthadkjekagfjfaaW.PrintMore
set_option linter.unusedVariables false

section
variable {w : World} {v : Value} {n i : Nat}
theorem shl_lt {n i s : Nat} (h : n < BB ^ i) (k : Nat) (hk : s ≤ 32 * k) : n * 2 ^ s < BB ^ (i + k) := by
  rw [Nat.pow_add, BB_pow k]
  have h1 : 2 ^ s ≤ 2 ^ (32 * k) := Nat.pow_le_pow_right (by decide) hk
  exact Nat.mul_lt_mul_of_lt_of_le h h1 (Nat.pow_pos (by decide))
theorem shl_n (h : Num w v n i) (hi : i ≤ 8796093022208) (s : Int) (k : Nat) (hk : shc s ≤ 32 * k) : Calls Try.prog 48 #[v, .int .i64 s] w (MadeN w (n * 2 ^ shc s) (i + k)) := by
  have hlt := shl_lt h.lt k hk
  obtain ⟨l, a, rfl, c⟩ := h
  exact (shl_any a (by omega) s).mono fun _ _ hm => MadeN.of hlt hm
theorem bitLen_n (h : Num w v n i) (hi : i ≤ 8796093022208) : Calls Try.prog 50 #[v] w fun e w' => e = .returned (.int .i64 (bl n : Nat)) ∧ w = w' := by
  obtain ⟨l, a, rfl, c⟩ := h
  exact bitLen_any a (by omega)
theorem bit_n (h : Num w v n i) (hi : i ≤ 8796093022208) (j : Int) (hj : -9223372036854775808 ≤ j ∧ j ≤ 9223372036854775807) : Calls Try.prog 51 #[v, .int .i64 j] w fun e w' => e = .returned (.int .i64 (bitv n j)) ∧ w = w' := by
  obtain ⟨l, a, rfl, c⟩ := h
  exact bit_any a (by omega) j hj
end
end Go.Proofs.Ythadkjekagfjfaa.N
