/- The functions of math/bits that the program calls, at 32 bits, as walks: Mul32, Add32, Sub32, Div32, Len32. Conditions: the arguments are below 2^32; a carry or borrow is 0 or 1; Div32's divisor is greater than the high word. -/
import Derived.Test.YthadkjekagfjfaaN0
namespace Go.Proofs.Ythadkjekagfjfaa.N
open Go.RowKit Go.Proofs.Ythadkjekagfjfaa.Dig Go.Proofs.YthadkjekagfjfaaW.PrintWords Go.Proofs.YthadkjekagfjfaaW.PrintLast Go.Proofs.YthadkjekagfjfaaW.PrintMore
set_option linter.unusedVariables false

theorem mul32_bound {x y : Int} (hx : 0 ≤ x) (hx2 : x < 4294967296) (hy : 0 ≤ y) (hy2 : y < 4294967296) : 0 ≤ x * y ∧ x * y ≤ 18446744065119617025 := by
  refine ⟨Int.mul_nonneg hx hy, ?_⟩
  have : x * y ≤ 4294967295 * 4294967295 := Int.mul_le_mul (by omega) (by omega) hy (by omega)
  omega

theorem mul32_any (x y : Int) (w : World) (hx : 0 ≤ x) (hx2 : x < 4294967296) (hy : 0 ≤ y) (hy2 : y < 4294967296) :
    Calls Try.prog 64 #[.int .u32 x, .int .u32 y] w fun e w' => e = .returned (.tuple #[.int .u32 (x * y / 4294967296), .int .u32 (x * y % 4294967296)]) ∧ w = w' := by
  obtain ⟨h0, h1⟩ := mul32_bound hx hx2 hy hy2
  go_enter Try.func64, Try.ntmps64
  go_wp2
  go_ret2
  exact ⟨rfl, rfl⟩

theorem add32_any (x y c : Int) (w : World) (hx : 0 ≤ x) (hx2 : x < 4294967296) (hy : 0 ≤ y) (hy2 : y < 4294967296) (hc : 0 ≤ c) (hc2 : c < 4294967296) :
    Calls Try.prog 65 #[.int .u32 x, .int .u32 y, .int .u32 c] w fun e w' => e = .returned (.tuple #[.int .u32 ((x + y + c) % 4294967296), .int .u32 ((x + y + c) / 4294967296)]) ∧ w = w' := by
  go_enter Try.func65, Try.ntmps65
  go_wp2
  go_ret2
  exact ⟨rfl, rfl⟩

/-- The borrow. -/
def bw (x y c : Int) : Int := if x - y - c < 0 then 1 else 0
theorem bw_range (x y c : Int) : 0 ≤ bw x y c ∧ bw x y c ≤ 1 := by unfold bw; split <;> omega
theorem sub32_bits (x y c : Int) (hx : 0 ≤ x) (hx2 : x < 4294967296) (hy : 0 ≤ y) (hy2 : y < 4294967296) (hc : 0 ≤ c) (hc2 : c ≤ 1) :
    bits .or .u32 (bits .and .u32 (bits .xor .u32 IntKind.u32.max x) y) (bits .and .u32 (bits .xor .u32 IntKind.u32.max (bits .xor .u32 x y)) ((x - y - c) % 4294967296)) / 2147483648 = bw x y c := by
  obtain ⟨a, rfl⟩ := Int.eq_ofNat_of_zero_le hx
  obtain ⟨b, rfl⟩ := Int.eq_ofNat_of_zero_le hy
  obtain ⟨d, hd⟩ := Int.eq_ofNat_of_zero_le (Int.emod_nonneg ((a : Int) - b - c) (by decide : (4294967296 : Int) ≠ 0))
  have hd2 : d < 4294967296 := by have := Int.emod_lt_of_pos ((a : Int) - b - c) (by decide : (0 : Int) < 4294967296); omega
  have hm : IntKind.u32.max = ((4294967295 : Nat) : Int) := rfl
  have e1 : 4294967295 ^^^ a < 2 ^ 32 := Nat.xor_lt_two_pow (by decide) (by omega)
  have e2 : a ^^^ b < 2 ^ 32 := Nat.xor_lt_two_pow (by omega) (by omega)
  have e3 : 4294967295 ^^^ (a ^^^ b) < 2 ^ 32 := Nat.xor_lt_two_pow (by decide) e2
  have e4 : (4294967295 ^^^ a) &&& b < 2 ^ 32 := Nat.and_lt_two_pow _ (by omega)
  have e5 : (4294967295 ^^^ (a ^^^ b)) &&& d < 2 ^ 32 := Nat.and_lt_two_pow _ (by omega)
  rw [hd, hm, u32_xor_nat _ _ (by decide) (by omega), u32_and_nat _ _ e1 (by omega), u32_xor_nat _ _ (by omega) (by omega), u32_xor_nat _ _ (by decide) e2, u32_and_nat _ _ e3 (by omega), u32_or_nat _ _ e4 e5]
  have hq : ((((4294967295 ^^^ a) &&& b ||| (4294967295 ^^^ (a ^^^ b)) &&& d : Nat) : Int) / (2147483648 : Int)) = (((((4294967295 ^^^ a) &&& b ||| (4294967295 ^^^ (a ^^^ b)) &&& d) >>> 31 : Nat)) : Int) := by rw [Nat.shiftRight_eq_div_pow]; rfl
  rw [hq, Nat.shiftRight_or_distrib, Nat.shiftRight_and_distrib, Nat.shiftRight_and_distrib, Nat.shiftRight_xor_distrib, Nat.shiftRight_xor_distrib, Nat.shiftRight_xor_distrib]
  have ha : a >>> 31 = a / 2147483648 := Nat.shiftRight_eq_div_pow a 31
  have hb : b >>> 31 = b / 2147483648 := Nat.shiftRight_eq_div_pow b 31
  have hdd : d >>> 31 = d / 2147483648 := Nat.shiftRight_eq_div_pow d 31
  have hM : 4294967295 >>> 31 = 1 := by decide
  rw [hM, ha, hb, hdd]
  have ra : a / 2147483648 = 0 ∨ a / 2147483648 = 1 := by omega
  have rb : b / 2147483648 = 0 ∨ b / 2147483648 = 1 := by omega
  have rd : d / 2147483648 = 0 ∨ d / 2147483648 = 1 := by omega
  unfold bw
  rcases ra with ra | ra <;> rcases rb with rb | rb <;> rcases rd with rd | rd <;> rw [ra, rb, rd] <;> split <;> first | rfl | decide | (exfalso; omega)

theorem sub32_any (x y c : Int) (w : World) (hx : 0 ≤ x) (hx2 : x < 4294967296) (hy : 0 ≤ y) (hy2 : y < 4294967296) (hc : 0 ≤ c) (hc2 : c ≤ 1) :
    Calls Try.prog 70 #[.int .u32 x, .int .u32 y, .int .u32 c] w fun e w' => e = .returned (.tuple #[.int .u32 ((x - y - c) % 4294967296), .int .u32 (bw x y c)]) ∧ w = w' := by
  have E := Lib.hid (sub32_bits x y c hx hx2 hy hy2 hc hc2)
  have hs : ¬ IntKind.u32.signed = true := by decide
  go_enter Try.func70, Try.ntmps70
  go_wp2
  go_ret2
  have e : ((x - y) % 4294967296 - c) % 4294967296 = (x - y - c) % 4294967296 := by omega
  refine ⟨?_, rfl⟩
  rw [← E.out, ← e]
  show Ending.returned (.tuple #[.int .u32 (((x - y) % 4294967296 - c) % 4294967296), .int .u32 _]) = _
  rw [e]

theorem join32i {a b : Int} (ha : 0 ≤ a) (ha2 : a < 4294967296) (hb : 0 ≤ b) (hb2 : b < 4294967296) : bits .or .u64 (b * 4294967296) a = b * 4294967296 + a := by
  obtain ⟨x, rfl⟩ := Int.eq_ofNat_of_zero_le ha
  obtain ⟨y, rfl⟩ := Int.eq_ofNat_of_zero_le hb
  have h := u64_or_nat (y * 4294967296) x (by omega) (by omega)
  rw [nat_join 32 (y * 4294967296) x (by simp [Nat.mul_mod_left]) (by omega)] at h
  rw [Int.natCast_mul] at h
  rw [show ((4294967296 : Int)) = ((4294967296 : Nat) : Int) from rfl, h]
  omega

theorem div_lt_of {hi lo y : Int} (h0 : 0 ≤ hi) (h1 : hi < y) (h2 : 0 ≤ lo) (h3 : lo < 4294967296) : 0 ≤ (hi * 4294967296 + lo) / y ∧ (hi * 4294967296 + lo) / y < 4294967296 := by
  refine ⟨Int.ediv_nonneg (by omega) (by omega), Int.ediv_lt_of_lt_mul (by omega) ?_⟩
  have : (hi + 1) * 4294967296 ≤ y * 4294967296 := Int.mul_le_mul_of_nonneg_right (by omega) (by decide)
  rw [Int.mul_comm y] at this
  omega

/-- High and low word. -/
theorem split32 (n : Int) (h : 0 ≤ n) : ∃ hi lo : Int, n = hi * 4294967296 + lo ∧ 0 ≤ lo ∧ lo < 4294967296 ∧ 0 ≤ hi := ⟨n / 4294967296, n % 4294967296, by omega, by omega, by omega, by omega⟩

theorem mul32_to {x y hi lo : Int} (w : World) (hx : 0 ≤ x) (hx2 : x < 4294967296) (hy : 0 ≤ y) (hy2 : y < 4294967296) (he : x * y = hi * 4294967296 + lo) (h0 : 0 ≤ lo) (h1 : lo < 4294967296) :
    Calls Try.prog 64 #[.int .u32 x, .int .u32 y] w fun e w' => e = .returned (.tuple #[.int .u32 hi, .int .u32 lo]) ∧ w = w' :=
  (mul32_any x y w hx hx2 hy hy2).mono fun e w' ⟨h, k⟩ => ⟨by rw [h, he, show (hi * 4294967296 + lo) / 4294967296 = hi by omega, show (hi * 4294967296 + lo) % 4294967296 = lo by omega], k⟩

theorem add32_to {x y c k s : Int} (w : World) (hx : 0 ≤ x) (hx2 : x < 4294967296) (hy : 0 ≤ y) (hy2 : y < 4294967296) (hc : 0 ≤ c) (hc2 : c < 4294967296) (he : x + y + c = k * 4294967296 + s) (h0 : 0 ≤ s) (h1 : s < 4294967296) :
    Calls Try.prog 65 #[.int .u32 x, .int .u32 y, .int .u32 c] w fun e w' => e = .returned (.tuple #[.int .u32 s, .int .u32 k]) ∧ w = w' :=
  (add32_any x y c w hx hx2 hy hy2 hc hc2).mono fun e w' ⟨h, z⟩ => ⟨by rw [h, he, show (k * 4294967296 + s) / 4294967296 = k by omega, show (k * 4294967296 + s) % 4294967296 = s by omega], z⟩

theorem div32_split {hi lo y : Int} (h0 : 0 ≤ hi) (h1 : hi < y) (h2 : 0 ≤ lo) (h3 : lo < 4294967296) : ∃ q r : Int, hi * 4294967296 + lo = q * y + r ∧ 0 ≤ r ∧ r < y ∧ 0 ≤ q ∧ q < 4294967296 := by
  obtain ⟨a, b⟩ := div_lt_of h0 h1 h2 h3
  refine ⟨(hi * 4294967296 + lo) / y, (hi * 4294967296 + lo) % y, ?_, Int.emod_nonneg _ (by omega), Int.emod_lt_of_pos _ (by omega), a, b⟩
  have := Int.mul_ediv_add_emod (hi * 4294967296 + lo) y
  rw [Int.mul_comm y] at this
  exact this.symm

theorem sub32_to {x y c s k : Int} (w : World) (hx : 0 ≤ x) (hx2 : x < 4294967296) (hy : 0 ≤ y) (hy2 : y < 4294967296) (hc : 0 ≤ c) (hc2 : c ≤ 1) (he : x - y - c = s - k * 4294967296) (h0 : 0 ≤ s) (h1 : s < 4294967296) :
    Calls Try.prog 70 #[.int .u32 x, .int .u32 y, .int .u32 c] w fun e w' => e = .returned (.tuple #[.int .u32 s, .int .u32 k]) ∧ w = w' :=
  (sub32_any x y c w hx hx2 hy hy2 hc hc2).mono fun e w' ⟨h, z⟩ => ⟨by
    have e1 : (x - y - c) % 4294967296 = s := by rw [he]; omega
    have e2 : bw x y c = k := by unfold bw; split <;> omega
    rw [h, e1, e2], z⟩
theorem sub32_split {x y c : Int} (hx : 0 ≤ x) (hx2 : x < 4294967296) (hy : 0 ≤ y) (hy2 : y < 4294967296) (hc : 0 ≤ c) (hc2 : c ≤ 1) : ∃ s k : Int, x - y - c = s - k * 4294967296 ∧ 0 ≤ s ∧ s < 4294967296 ∧ 0 ≤ k ∧ k ≤ 1 := by
  by_cases h : x - y - c < 0
  · exact ⟨x - y - c + 4294967296, 1, by omega, by omega, by omega, by omega, by omega⟩
  · exact ⟨x - y - c, 0, by omega, by omega, by omega, by omega, by omega⟩
end Go.Proofs.Ythadkjekagfjfaa.N
