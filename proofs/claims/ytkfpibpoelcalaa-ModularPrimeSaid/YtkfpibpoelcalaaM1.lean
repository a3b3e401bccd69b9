/- Plain facts about the functions of package modular and its reference as numbers alone: what wide, Mul, Pow and the reference's Power return. Conditions: moduli and numbers below 2^32, exponents below 2^64. -/
import Derived.Test.YtkfpibpoelcalaaBx2
import Derived.OpenShut
import Derived.WalkSmall
import Derived.Laws.BitsAllLaws
namespace Go.Proofs.Ytkfpibpoelcalaa.M
open Go.RowKit Go.Proofs.Ytkfpibpoelcalaa.B Go.Proofs.YtkfpibpoelcalaaW.PrintWords Go.Proofs.YtkfpibpoelcalaaW.PrintLast Go.Proofs.YtkfpibpoelcalaaW.PrintMore

def md (m : Nat) : Nat := if m = 0 then 1 else m
theorem md_pos (m : Nat) : 0 < md m := by unfold md; split <;> omega
theorem md_le {m B : Nat} (h : m ≤ B) (hB : 1 ≤ B) : md m ≤ B := by unfold md; split <;> omega

theorem fit_true : cylinderlaw07_fit.f 60 = some true := by decide +kernel

theorem wide_eq (m : Nat) (h : m ≤ 4294967295) : modular_wide.f (m : Int) = some ((md m : Nat) : Int) := by
  unfold modular_wide.f mx md
  split <;> split <;> (first | omega | (rw [IntWalk.u64_in _ (by omega)]; done) | (rw [IntWalk.u64_in _ (by omega)]; congr 1; omega) | rfl)

theorem mul_le_u64 {a b : Nat} (ha : a ≤ 4294967295) (hb : b ≤ 4294967295) : a * b ≤ 18446744065119617025 :=
  Nat.le_trans (Nat.mul_le_mul ha hb) (by decide)

theorem tmod_cast (a b : Nat) : Int.tmod (a : Int) (b : Int) = ((a % b : Nat) : Int) := by
  rw [Int.tmod_eq_emod_of_nonneg (by omega)]; rfl

theorem u64_cast (n : Nat) (h : n ≤ 18446744073709551615) : IntKind.u64.wrap (n : Int) = (n : Int) := IntWalk.u64_in _ (by omega)

theorem mul_eq (a b m : Nat) (ha : a ≤ 4294967295) (hb : b ≤ 4294967295) (hm : m ≤ 4294967295) : modular_Mul.f a b m = some ((a * b % md m : Nat) : Int) := by
  have h1 := mul_le_u64 ha hb
  have hp := md_pos m
  have hl := md_le hm (by decide)
  have hr := Nat.mod_lt (a * b) hp
  unfold modular_Mul.f
  rw [wide_eq m hm, Option.bind_some, if_neg (by omega), u64_cast a (by omega), u64_cast b (by omega), ← Int.natCast_mul, u64_cast _ (by omega), tmod_cast]
  congr 1
  omega

theorem modulus_eq (m : Nat) (h : m ≤ 4294967295) : cylinderref07_Modulus.f (m : Int) = some ((md m : Nat) : Int) := by
  unfold cylinderref07_Modulus.f md
  split <;> split <;> (first | omega | (rw [IntWalk.u64_in _ (by omega)]; done) | (rw [IntWalk.u64_in _ (by omega)]; congr 1; omega) | rfl)

theorem pow_loop (m : Nat) (hm : m ≤ 4294967295) (j : Nat) : ∀ (k n out base : Nat), j < k → n < 2 ^ j → j ≤ 64 → out < md m → base ≤ 4294967295 →
    modular_Pow.l0 k n m out base = some ((out * base ^ n % md m : Nat) : Int) := by
  have hp := md_pos m
  have hl := md_le hm (by decide : 1 ≤ 4294967295)
  induction j with
  | zero =>
    intro k n out base hk hn hj ho hb
    obtain ⟨k, rfl⟩ : ∃ i, k = i + 1 := ⟨k - 1, by omega⟩
    obtain rfl : n = 0 := by simpa using hn
    simp only [modular_Pow.l0]
    rw [if_neg (by decide), Nat.pow_zero, Nat.mul_one, Nat.mod_eq_of_lt ho]
  | succ j ih =>
    intro k n out base hk hn hj ho hb
    obtain ⟨k, rfl⟩ : ∃ i, k = i + 1 := ⟨k - 1, by omega⟩
    simp only [modular_Pow.l0]
    by_cases h0 : n = 0
    · subst h0
      rw [if_neg (by decide), Nat.pow_zero, Nat.mul_one, Nat.mod_eq_of_lt ho]
    · have hn64 : n < 2 ^ 64 := Nat.lt_of_lt_of_le hn (Nat.pow_le_pow_right (by decide) (by omega))
      have hn64' : n < 18446744073709551616 := hn64
      have h2 : n / 2 < 2 ^ j := by rw [Nat.pow_succ] at hn; omega
      have hbb := Nat.mod_lt (base * base) hp
      have hob := Nat.mod_lt (out * base) hp
      have hc : ((n : Int) / 2) = ((n / 2 : Nat) : Int) := rfl
      have key : (base * base % md m) ^ (n / 2) % md m = base ^ (2 * (n / 2)) % md m := by
        rw [← Nat.pow_mod, ← Nat.pow_two, ← Nat.pow_mul]
      rw [if_pos (by omega), and_one_u64 _ (by omega) (by omega)]
      by_cases h1 : n % 2 = 1
      · rw [if_pos (by omega), mul_eq out base m (by omega) hb hm, Option.bind_some, mul_eq base base m hb hb hm, Option.bind_some, hc, ih k (n / 2) _ _ (by omega) h2 (by omega) hob (by omega)]
        congr 2
        rw [Nat.mul_mod, key, Nat.mod_mod, ← Nat.mul_mod, Nat.mul_assoc, ← Nat.pow_succ']
        congr 3
        omega
      · rw [if_neg (by omega), mul_eq base base m hb hb hm, Option.bind_some, hc, ih k (n / 2) _ _ (by omega) h2 (by omega) ho (by omega)]
        congr 2
        rw [Nat.mul_mod, key, ← Nat.mul_mod]
        congr 3
        omega

theorem pow_eq (a n m k : Nat) (ha : a ≤ 4294967295) (hn : n ≤ 18446744073709551615) (hm : m ≤ 4294967295) (hk : 64 < k) : modular_Pow.f k a n m = some ((a ^ n % md m : Nat) : Int) := by
  have hp := md_pos m
  unfold modular_Pow.f
  rw [show (1 : Int) = ((1 : Nat) : Int) from rfl, mul_eq 1 1 m (by decide) (by decide) hm, Option.bind_some, pow_loop m hm 64 k n _ a (by omega) (by omega) (by omega) (Nat.mod_lt _ hp) ha]
  congr 2
  rw [Nat.mul_mod, Nat.mod_mod, ← Nat.mul_mod, Nat.one_mul]

theorem power_loop (a n m : Nat) (ha : a ≤ 4294967295) (hn : n ≤ 4294967295) (hm : m ≤ 4294967295) (d : Nat) : ∀ (k i x : Nat), d < k → i + d = n → x < md m →
    cylinderref07_Power.l0 k a n (md m : Nat) x i = some ((x * a ^ d % md m : Nat) : Int) := by
  have hp := md_pos m
  have hl := md_le hm (by decide : 1 ≤ 4294967295)
  have ham := Nat.mod_lt a hp
  induction d with
  | zero =>
    intro k i x hk hi hx
    obtain ⟨k, rfl⟩ : ∃ j, k = j + 1 := ⟨k - 1, by omega⟩
    simp only [cylinderref07_Power.l0]
    rw [if_neg (by omega), Nat.pow_zero, Nat.mul_one, Nat.mod_eq_of_lt hx]
    congr 1
    omega
  | succ d ih =>
    intro k i x hk hi hx
    obtain ⟨k, rfl⟩ : ∃ j, k = j + 1 := ⟨k - 1, by omega⟩
    have hxa := mul_le_u64 (a := x) (b := a % md m) (by omega) (by omega)
    have hw : wrap64 ((i : Int) + 1) = ((i + 1 : Nat) : Int) := by unfold wrap64; omega
    simp only [cylinderref07_Power.l0]
    rw [if_pos (by omega), if_neg (by omega), u64_cast a (by omega), tmod_cast, ← Int.natCast_mul, u64_cast _ (by omega), tmod_cast, hw, ih k (i + 1) _ (by omega) (by omega) (Nat.mod_lt _ hp)]
    congr 2
    rw [Nat.mul_mod, Nat.mod_mod, ← Nat.mul_mod, Nat.pow_succ', ← Nat.mul_assoc, Nat.mul_mod, Nat.mul_mod x, Nat.mod_mod, ← Nat.mul_mod x, ← Nat.mul_mod]

theorem power_eq (a n m k : Nat) (ha : a ≤ 4294967295) (hn : n ≤ 4294967295) (hm : m ≤ 4294967295) (hk : n < k) : cylinderref07_Power.f k a n m = some ((a ^ n % md m : Nat) : Int) := by
  have hp := md_pos m
  unfold cylinderref07_Power.f
  rw [modulus_eq m hm, Option.bind_some, if_neg (by omega), show (1 : Int) % ((md m : Nat) : Int) = ((1 % md m : Nat) : Int) from rfl, show (0 : Int) = ((0 : Nat) : Int) from rfl,
    power_loop a n m ha hn hm n k 0 (1 % md m) hk (by omega) (Nat.mod_lt _ hp)]
  congr 2
  rw [Nat.mul_mod, Nat.mod_mod, ← Nat.mul_mod, Nat.one_mul]
end Go.Proofs.Ytkfpibpoelcalaa.M
