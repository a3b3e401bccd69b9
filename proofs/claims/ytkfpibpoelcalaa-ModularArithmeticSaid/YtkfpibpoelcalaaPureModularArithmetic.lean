/- The statement ModularArithmetic over numbers alone: sums, differences, negatives and products modulo m are those of numbers, reduced; for every a, b, m below 2^32. No further condition. -/
import Derived.Test.YtkfpibpoelcalaaPModularArithmeticx3
import Derived.OpenShut
namespace Go.Proofs.Ytkfpibpoelcalaa.Pure
open Go.RowKit Go.Proofs.Ytkfpibpoelcalaa.PModularArithmetic Go.Proofs.YtkfpibpoelcalaaW.PrintWords Go.Proofs.YtkfpibpoelcalaaW.PrintLast Go.Proofs.YtkfpibpoelcalaaW.PrintMore

def md (m : Nat) : Nat := if m = 0 then 1 else m
theorem md_pos (m : Nat) : 0 < md m := by unfold md; split <;> omega
theorem md_le {m B : Nat} (h : m ≤ B) (hB : 1 ≤ B) : md m ≤ B := by unfold md; split <;> omega

theorem fit_true : cylinderlaw07_fit.f 60 = some true := by decide +kernel

theorem wide_eq (m : Nat) (h : m ≤ 4294967295) : modular_wide.f (m : Int) = some ((md m : Nat) : Int) := by
  unfold modular_wide.f mx md
  split <;> split <;> (first | omega | (rw [IntWalk.u64_in _ (by omega)]; done) | (rw [IntWalk.u64_in _ (by omega)]; congr 1; omega) | rfl)

theorem mul_le_u64 {a b : Nat} (ha : a ≤ 4294967295) (hb : b ≤ 4294967295) : a * b ≤ 18446744065119617025 :=
  Nat.le_trans (Nat.mul_le_mul ha hb) (by decide)

theorem tmod_cast (a b : Nat) : Int.tmod (a : Int) (b : Int) = ((a % b : Nat) : Int) := by
  rw [Int.tmod_eq_emod_of_nonneg (by omega)]; rfl

theorem u64_cast (n : Nat) (h : n ≤ 18446744073709551615) : IntKind.u64.wrap (n : Int) = (n : Int) := IntWalk.u64_in _ (by omega)

theorem mul_eq (a b m : Nat) (ha : a ≤ 4294967295) (hb : b ≤ 4294967295) (hm : m ≤ 4294967295) : modular_Mul.f a b m = some ((a * b % md m : Nat) : Int) := by
  have h1 := mul_le_u64 ha hb
  have hp := md_pos m
  have hl := md_le hm (by decide)
  have hr := Nat.mod_lt (a * b) hp
  unfold modular_Mul.f
  rw [wide_eq m hm, Option.bind_some, if_neg (by omega), u64_cast a (by omega), u64_cast b (by omega), ← Int.natCast_mul, u64_cast _ (by omega), tmod_cast]
  congr 1
  omega

theorem add_eq (a b m : Nat) (ha : a ≤ 4294967295) (hb : b ≤ 4294967295) (hm : m ≤ 4294967295) : modular_Add.f a b m = some (((a + b) % md m : Nat) : Int) := by
  have hp := md_pos m
  have hl := md_le hm (by decide)
  have hr := Nat.mod_lt (a + b) hp
  unfold modular_Add.f
  rw [wide_eq m hm, Option.bind_some, if_neg (by omega), u64_cast a (by omega), u64_cast b (by omega), ← Int.natCast_add, u64_cast _ (by omega), tmod_cast]
  congr 1
  omega

theorem sub_eq (a b m : Nat) (ha : a ≤ 4294967295) (hb : b ≤ 4294967295) (hm : m ≤ 4294967295) : modular_Sub.f a b m = some (((a % md m + md m - b % md m) % md m : Nat) : Int) := by
  have hp := md_pos m
  have hl := md_le hm (by decide)
  have h1 := Nat.mod_lt a hp
  have h2 := Nat.mod_lt b hp
  have hr := Nat.mod_lt (a % md m + md m - b % md m) hp
  unfold modular_Sub.f
  rw [wide_eq m hm, Option.bind_some, if_neg (by omega), u64_cast a (by omega), u64_cast b (by omega), tmod_cast, tmod_cast, ← Int.natCast_add, u64_cast _ (by omega), ← Int.ofNat_sub (by omega), u64_cast _ (by omega), tmod_cast]
  congr 1
  omega

theorem neg_eq (a m : Nat) (ha : a ≤ 4294967295) (hm : m ≤ 4294967295) : modular_Neg.f a m = some (((md m - a % md m) % md m : Nat) : Int) := by
  unfold modular_Neg.f
  rw [show (0 : Int) = ((0 : Nat) : Int) from rfl, sub_eq 0 a m (by omega) ha hm]
  simp

theorem modulus_eq (m : Nat) (h : m ≤ 4294967295) : cylinderref07_Modulus.f (m : Int) = some ((md m : Nat) : Int) := by
  unfold cylinderref07_Modulus.f md
  split <;> split <;> (first | omega | (rw [IntWalk.u64_in _ (by omega)]; done) | (rw [IntWalk.u64_in _ (by omega)]; congr 1; omega) | rfl)

theorem ModularArithmetic : cylinderlaw07_ModularArithmetic.Pure := by
  intro a0 a1 a2 w0 w1 w2
  have b0 := bounds_u32 w0
  have b1 := bounds_u32 w1
  have b2 := bounds_u32 w2
  obtain ⟨a, rfl⟩ := Int.eq_ofNat_of_zero_le b0.1
  obtain ⟨b, rfl⟩ := Int.eq_ofNat_of_zero_le b1.1
  obtain ⟨m, rfl⟩ := Int.eq_ofNat_of_zero_le b2.1
  have ha : a ≤ 4294967295 := by omega
  have hb : b ≤ 4294967295 := by omega
  have hm : m ≤ 4294967295 := by omega
  have hp := md_pos m
  have hl := md_le hm (by decide)
  have h1 := Nat.mod_lt a hp
  have h2 := Nat.mod_lt b hp
  have hr1 := Nat.mod_lt (a + b) hp
  have hr2 := Nat.mod_lt (a % md m + md m - b % md m) hp
  have hr3 := Nat.mod_lt (md m - a % md m) hp
  have hr4 := Nat.mod_lt (a * b) hp
  have h12 := mul_le_u64 (a := a % md m) (b := b % md m) (by omega) (by omega)
  refine ⟨60, ?_⟩
  unfold cylinderlaw07_ModularArithmetic.f
  rw [fit_true, Option.bind_some, if_pos rfl, modulus_eq m hm, Option.bind_some, if_neg (by omega), add_eq a b m ha hb hm, Option.bind_some, u64_cast a (by omega), u64_cast b (by omega), tmod_cast, tmod_cast,
    u64_cast ((a + b) % md m) (by omega), ← Int.natCast_add, u64_cast (a % md m + b % md m) (by omega), tmod_cast, if_pos (by rw [← Nat.add_mod]), sub_eq a b m ha hb hm, Option.bind_some, u64_cast _ (by omega),
    ← Int.natCast_add, u64_cast (a % md m + md m) (by omega), ← Int.ofNat_sub (by omega), u64_cast _ (by omega), tmod_cast, if_pos rfl, neg_eq a m ha hm, Option.bind_some, u64_cast _ (by omega),
    ← Int.ofNat_sub (by omega), u64_cast _ (by omega), tmod_cast, if_pos rfl, mul_eq a b m ha hb hm, Option.bind_some, u64_cast _ (by omega), ← Int.natCast_mul, u64_cast _ (by omega), tmod_cast, ← Nat.mul_mod]
  simp
end Go.Proofs.Ytkfpibpoelcalaa.Pure
