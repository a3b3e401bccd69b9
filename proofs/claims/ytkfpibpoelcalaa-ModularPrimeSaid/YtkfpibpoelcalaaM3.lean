/- modular.IsPrime and the reference's IsPrime as numbers alone: both tell whether the number is a prime. Condition: the number is below 2^32. -/
import Derived.Test.YtkfpibpoelcalaaM1
import Derived.Test.YtkfpibpoelcalaaNT4
namespace Go.Proofs.Ytkfpibpoelcalaa.M
open Go.RowKit Go.Proofs.Ytkfpibpoelcalaa.B Go.Proofs.Ytkfpibpoelcalaa.NT Go.Proofs.YtkfpibpoelcalaaW.PrintWords Go.Proofs.YtkfpibpoelcalaaW.PrintLast Go.Proofs.YtkfpibpoelcalaaW.PrintMore
set_option linter.unusedVariables false

/-- Is n a prime? -/
noncomputable def pB (n : Nat) : Bool := @decide (Prime n) (Classical.propDecidable _)
theorem pB_iff {n : Nat} : pB n = true ↔ Prime n := by unfold pB; exact @decide_eq_true_iff _ (Classical.propDecidable _)
theorem pB_eq {n : Nat} {b : Bool} (h : b = true ↔ Prime n) : pB n = b := by rw [Bool.eq_iff_iff, pB_iff, h]

theorem md_self {n : Nat} (h : 0 < n) : md n = n := if_neg (by omega)

theorem wit_loop (n m : Nat) (hn : 0 < n) (hn2 : n ≤ 4294967295) (hm : m ≤ 64) (j : Nat) : ∀ (k x i : Nat), j < k → i + j = m → x < n →
    modular_witness.l0 k n x m i = some (!stl n j x) := by
  induction j with
  | zero =>
    intro k x i hk hi hx
    obtain ⟨k, rfl⟩ : ∃ t, k = t + 1 := ⟨k - 1, by omega⟩
    simp only [modular_witness.l0]
    rw [if_neg (by omega)]
    rfl
  | succ j ih =>
    intro k x i hk hi hx
    obtain ⟨k, rfl⟩ : ∃ t, k = t + 1 := ⟨k - 1, by omega⟩
    have hlt := Nat.mod_lt (x * x) hn
    simp only [modular_witness.l0]
    rw [if_pos (by omega), mul_eq x x n (by omega) (by omega) hn2, Option.bind_some, md_self hn]
    have hw : wrap64 ((i : Int) + 1) = ((i + 1 : Nat) : Int) := by unfold wrap64; omega
    by_cases h1 : x * x % n = n - 1
    · rw [if_pos (by rw [h1]; omega)]
      simp [stl, h1]
    · rw [if_neg (by omega), hw, ih k _ (i + 1) (by omega) (by omega) hlt]
      have : (x * x % n == n - 1) = false := by rw [beq_eq_false_iff_ne]; exact h1
      simp [stl, this]

theorem witness_eq (n d s b k : Nat) (hn : 2 ≤ n) (hn2 : n ≤ 4294967295) (hd : d ≤ 4294967295) (hs : 1 ≤ s) (hs2 : s ≤ 64) (hb : b ≤ 4294967295) (hk : 70 < k) :
    modular_witness.f k n d s b = some (!strong n d s b) := by
  obtain ⟨k, rfl⟩ : ∃ t, k = t + 1 := ⟨k - 1, by omega⟩
  have hlt := Nat.mod_lt (b ^ d) (show n > 0 by omega)
  have hw : wrap64 ((s : Int) - 1) = ((s - 1 : Nat) : Int) := by unfold wrap64; omega
  unfold modular_witness.f
  rw [u64_cast d (by omega), pow_eq b d n (k + 1) hb (by omega) hn2 (by omega), Option.bind_some, md_self (by omega)]
  have hl := wit_loop n (s - 1) (by omega) hn2 (by omega) (s - 1) k (b ^ d % n) 0 (by omega) (by omega) hlt
  unfold strong
  generalize b ^ d % n = x at *
  simp only
  by_cases h1 : x = 1
  · rw [if_pos (by omega)]
    simp [modular_witness.j0, h1]
  · rw [if_neg (by omega)]
    have e1 : (x == 1) = false := by rw [beq_eq_false_iff_ne]; exact h1
    by_cases h2 : x = n - 1
    · rw [if_pos (by omega)]
      simp [modular_witness.j0, h2]
    · rw [if_neg (by omega), if_neg (by omega), tmod_cast]
      have e2 : (x == n - 1) = false := by rw [beq_eq_false_iff_ne]; exact h2
      by_cases h3 : b % n = 0
      · have e3 : ((b % n : Nat) : Int) == 0 := by rw [h3]; rfl
        rw [e3]
        simp [modular_witness.j0, h3]
      · have e3 : (((b % n : Nat) : Int) == 0) = false := by rw [beq_eq_false_iff_ne]; omega
        have e4 : (b % n == 0) = false := by rw [beq_eq_false_iff_ne]; exact h3
        rw [e3, e1, e2, e4]
        simp only [modular_witness.j0, hw]
        rw [if_neg (by decide)]
        exact hl

theorem lt32 {n : Nat} (h : n ≤ 4294967295) : n - 1 < 2 ^ 32 := by
  have : (2 : Nat) ^ 32 = 4294967296 := by decide
  omega
def three (n d s : Nat) : Bool := strong n d s 2 && strong n d s 7 && strong n d s 61
set_option maxHeartbeats 1000000 in
theorem prime_loop (n : Nat) (hn : 5 ≤ n) (hn2 : n ≤ 4294967295) (hodd : n % 2 = 1) (f : Nat) : ∀ (k d s : Nat), f + 100 < k → 0 < d → d < 2 ^ f → s + f ≤ 32 → 2 ^ s * d + 1 = n →
    modular_IsPrime.l0 k n d s = some (three n (spl f d s).1 (spl f d s).2) := by
  induction f with
  | zero => intro k d s _ h0 h1; simp at h1; omega
  | succ f ih =>
    intro k d s hk h0 h1 hs he
    obtain ⟨k, rfl⟩ : ∃ t, k = t + 1 := ⟨k - 1, by omega⟩
    have hdn : d ≤ 4294967295 := by
      have : d ≤ 2 ^ s * d := Nat.le_mul_of_pos_left d (Nat.pow_pos (by decide))
      omega
    simp only [modular_IsPrime.l0]
    rw [show (2 : Int) = ((2 : Nat) : Int) from rfl, tmod_cast]
    by_cases h2 : d % 2 = 0
    · have e1 : (Int.tdiv (d : Int) ((2 : Nat) : Int)) % 4294967296 = ((d / 2 : Nat) : Int) := by
        have : Int.tdiv (d : Int) ((2 : Nat) : Int) = ((d / 2 : Nat) : Int) := rfl
        rw [this]; omega
      have e2 : wrap64 ((s : Int) + 1) = ((s + 1 : Nat) : Int) := by unfold wrap64; omega
      have e3 : spl (f + 1) d s = spl f (d / 2) (s + 1) := by simp [spl, h2]
      rw [if_pos (by omega), e1, e2, e3]
      have b1 : d / 2 < 2 ^ f := (Nat.div_lt_iff_lt_mul (by decide)).2 (by rw [Nat.pow_succ] at h1; exact h1)
      have b2 : f + 100 < k := by clear he h1 b1; omega
      have b3 : 0 < d / 2 := by clear he h1 b1; omega
      have b4 : s + 1 + f ≤ 32 := by clear he h1 b1; omega
      refine ih k (d / 2) (s + 1) b2 b3 b1 b4 ?_
      rw [Nat.pow_succ, Nat.mul_assoc]
      have : 2 * (d / 2) = d := by omega
      rw [this]; exact he
    · have e3 : spl (f + 1) d s = (d, s) := by simp [spl, h2]
      have hs1 : 1 ≤ s := by
        rcases Nat.eq_zero_or_pos s with h | h
        · subst h; simp at he; omega
        · exact h
      have w2 : modular_witness.f k n d s ((2 : Nat) : Int) = _ := witness_eq n d s 2 k (by omega) hn2 hdn hs1 (by omega) (by omega) (by omega)
      have w7 : modular_witness.f k n d s 7 = _ := witness_eq n d s 7 k (by omega) hn2 hdn hs1 (by omega) (by omega) (by omega)
      have w61 : modular_witness.f k n d s 61 = _ := witness_eq n d s 61 k (by omega) hn2 hdn hs1 (by omega) (by omega) (by omega)
      rw [if_neg (by omega), e3, w2, Option.bind_some, w7, w61]
      unfold three
      cases strong n d s 2 <;> cases strong n d s 7 <;> cases strong n d s 61 <;> rfl

theorem spl_ok (f : Nat) : ∀ (d s : Nat), 0 < d → d < 2 ^ f → 2 ^ (spl f d s).2 * (spl f d s).1 = 2 ^ s * d ∧ (spl f d s).1 % 2 = 1 ∧ s ≤ (spl f d s).2 := by
  induction f with
  | zero => intro d s h0 h1; simp at h1; omega
  | succ f ih =>
    intro d s h0 h1
    by_cases h2 : d % 2 = 0
    · have e3 : spl (f + 1) d s = spl f (d / 2) (s + 1) := by simp [spl, h2]
      rw [e3]
      obtain ⟨a, b, c⟩ := ih (d / 2) (s + 1) (by clear h1; omega) ((Nat.div_lt_iff_lt_mul (by decide)).2 (by rw [Nat.pow_succ] at h1; exact h1))
      refine ⟨?_, b, Nat.le_trans (Nat.le_succ s) c⟩
      rw [a, Nat.pow_succ, Nat.mul_assoc]
      congr 1
      omega
    · have e3 : spl (f + 1) d s = (d, s) := by simp [spl, h2]
      rw [e3]
      exact ⟨rfl, by show d % 2 = 1; omega, Nat.le_refl s⟩

theorem prime_of {p : Nat} (h2 : 2 ≤ p) (h : ∀ d, d < p → d ∣ p → d = 1) : Prime p :=
  ⟨h2, fun d hd => by
    have := Nat.le_of_dvd (by omega) hd
    rcases Nat.lt_or_ge d p with hl | hl
    · exact .inl (h d hl hd)
    · exact .inr (by omega)⟩
theorem prime7 : Prime 7 := prime_of (by decide) (by decide)
theorem prime61 : Prime 61 := prime_of (by decide) (by decide)

theorem three_prime (n : Nat) (hn : 5 ≤ n) (hn2 : n ≤ 4294967295) (hodd : n % 2 = 1) : three n (spl 32 (n - 1) 0).1 (spl 32 (n - 1) 0).2 = pB n := by
  obtain ⟨h1, h2, h3⟩ := spl_ok 32 (n - 1) 0 (by omega) (lt32 (by omega))
  have hs1 : 1 ≤ (spl 32 (n - 1) 0).2 := by
    rcases Nat.eq_zero_or_pos (spl 32 (n - 1) 0).2 with h | h
    · rw [h] at h1; simp at h1; omega
    · exact h
  have hd : 2 ^ (spl 32 (n - 1) 0).2 * (spl 32 (n - 1) 0).1 + 1 = n := by rw [h1, Nat.pow_zero, Nat.one_mul]; omega
  symm
  refine pB_eq ⟨fun h => ?_, fun hp => ?_⟩
  · rcases Classical.em (Prime n) with hp | hnp
    · exact hp
    exfalso
    refine no_bad n ⟨hn, by omega, hodd, hnp, ?_⟩
    have h' := h
    unfold three at h'
    rw [Bool.and_eq_true, Bool.and_eq_true] at h'
    obtain ⟨⟨s2, s7⟩, s61⟩ := h'
    have nb : ∀ b, Prime b → b % n ≠ 0 := fun b hb e => by
      rcases hb.2 n (Nat.dvd_of_mod_eq_zero e) with h | h
      · omega
      · exact hnp (h ▸ hb)
    have o2 := strong_one (by omega) hs1 hd (by rw [Nat.mod_eq_of_lt (by omega)]; decide) s2
    have o7 := strong_one (by omega) hs1 hd (nb 7 prime7) s7
    have o61 := strong_one (by omega) hs1 hd (nb 61 prime61) s61
    unfold cand
    rw [Bool.and_eq_true]
    refine ⟨ones_iff.2 ⟨o2, o7, o61⟩, ?_⟩
    show (strongk n (spl 32 (n - 1) 0).1 (spl 32 (n - 1) 0).2 2 && strongk n (spl 32 (n - 1) 0).1 (spl 32 (n - 1) 0).2 7 && strongk n (spl 32 (n - 1) 0).1 (spl 32 (n - 1) 0).2 61) = true
    rw [strongk_eq, strongk_eq, strongk_eq]
    exact h
  · unfold three
    rw [strong_prime hp hs1 hd (by decide), strong_prime hp hs1 hd (by decide), strong_prime hp hs1 hd (by decide)]
    rfl

theorem prime2 : Prime 2 := prime_of (by decide) (by decide)
theorem prime3 : Prime 3 := prime_of (by decide) (by decide)
theorem isPrime_eq (n k : Nat) (hn : n ≤ 4294967295) (hk : 200 < k) : modular_IsPrime.f k n = some (pB n) := by
  obtain ⟨k, rfl⟩ : ∃ t, k = t + 1 := ⟨k - 1, by omega⟩
  unfold modular_IsPrime.f
  by_cases h4 : n < 4
  · rw [if_pos (by omega)]
    simp only [modular_IsPrime.j0, if_true]
    have h : n = 0 ∨ n = 1 ∨ n = 2 ∨ n = 3 := by omega
    rcases h with rfl | rfl | rfl | rfl
    · rw [pB_eq (b := false) ⟨fun h => by simp at h, fun h => absurd h.1 (by decide)⟩]; rfl
    · rw [pB_eq (b := false) ⟨fun h => by simp at h, fun h => absurd h.1 (by decide)⟩]; rfl
    · rw [pB_eq (b := true) ⟨fun _ => prime2, fun _ => rfl⟩]; rfl
    · rw [pB_eq (b := true) ⟨fun _ => prime3, fun _ => rfl⟩]; rfl
  · rw [if_neg (by omega), show (2 : Int) = ((2 : Nat) : Int) from rfl, tmod_cast]
    by_cases h2 : n % 2 = 0
    · have e : (((n % 2 : Nat) : Int) == 0) = true := by rw [h2]; rfl
      have e3 : ((n : Int) == 3) = false := by rw [beq_eq_false_iff_ne]; omega
      rw [e]
      simp only [modular_IsPrime.j0, if_true]
      rw [if_neg (by omega), e3]
      rw [pB_eq (b := false) ⟨fun h => by simp at h, fun h => by have := h.2 2 (Nat.dvd_of_mod_eq_zero h2); omega⟩]
    · have e : (((n % 2 : Nat) : Int) == 0) = false := by rw [beq_eq_false_iff_ne]; omega
      have e1 : ((n : Int) - 1) % 4294967296 = ((n - 1 : Nat) : Int) := by omega
      rw [e]
      simp only [modular_IsPrime.j0]
      rw [if_neg (by decide), e1, show (0 : Int) = ((0 : Nat) : Int) from rfl, prime_loop n (by omega) hn (by omega) 32 k (n - 1) 0 (by omega) (by omega) (lt32 (by omega)) (by omega) (by rw [Nat.pow_zero, Nat.one_mul]; omega)]
      rw [three_prime n (by omega) hn (by omega)]

theorem ref_done {n d : Nat} (hn : 2 ≤ n) (hdd : n < d * d) (hno : ∀ e, 2 ≤ e → e < d → ¬ e ∣ n) (e : Nat) (he : e ∣ n) : e = 1 ∨ e = n := by
  obtain ⟨q, rfl⟩ := he
  have hq0 : q ≠ 0 := fun h => by subst h; simp at hn
  have he0 : e ≠ 0 := fun h => by subst h; simp at hn
  by_cases h1 : e = 1
  · exact .inl h1
  right
  by_cases hq : q = 1
  · rw [hq, Nat.mul_one]
  exfalso
  have a1 : d ≤ e := by
    rcases Nat.lt_or_ge e d with h | h
    · exact absurd (Nat.dvd_mul_right e q) (hno e (by omega) h)
    · exact h
  have a2 : d ≤ q := by
    rcases Nat.lt_or_ge q d with h | h
    · exact absurd (Nat.dvd_mul_left q e) (hno q (by omega) h)
    · exact h
  have := Nat.mul_le_mul a1 a2
  omega
theorem ref_loop (n : Nat) (hn : 2 ≤ n) (hn2 : n ≤ 4294967295) (j : Nat) : ∀ (k d : Nat), j < k → d + j = 65536 → 2 ≤ d → (∀ e, 2 ≤ e → e < d → ¬ e ∣ n) →
    cylinderref07_IsPrime.l0 k n d = some (pB n) := by
  induction j with
  | zero =>
    intro k d hk hd h2 hno
    obtain ⟨k, rfl⟩ : ∃ t, k = t + 1 := ⟨k - 1, by omega⟩
    obtain rfl : d = 65536 := by omega
    simp only [cylinderref07_IsPrime.l0]
    have e : IntKind.u64.wrap (((65536 : Nat) : Int) * ((65536 : Nat) : Int)) = 4294967296 := by decide
    rw [e, u64_cast n (by omega), if_neg (by omega)]
    congr 1
    symm
    refine pB_eq ⟨fun _ => ⟨hn, fun e he => ?_⟩, fun _ => rfl⟩
    exact ref_done hn (by omega) hno e he
  | succ j ih =>
    intro k d hk hd h2 hno
    obtain ⟨k, rfl⟩ : ∃ t, k = t + 1 := ⟨k - 1, by omega⟩
    simp only [cylinderref07_IsPrime.l0]
    have hdd : d * d ≤ 4294967296 := Nat.mul_le_mul (show d ≤ 65536 by omega) (show d ≤ 65536 by omega)
    rw [← Int.natCast_mul, u64_cast (d * d) (by omega), u64_cast n (by omega)]
    by_cases hle : d * d ≤ n
    · rw [if_pos (by omega), if_neg (by omega), tmod_cast]
      by_cases h0 : n % d = 0
      · rw [if_pos (by omega)]
        congr 1
        symm
        refine pB_eq ⟨fun h => by simp at h, fun hp => ?_⟩
        exfalso
        rcases hp.2 d (Nat.dvd_of_mod_eq_zero h0) with h | h
        · omega
        · subst h
          have : d * 2 ≤ d * d := Nat.mul_le_mul_left _ h2
          omega
      · have e : IntKind.u64.wrap ((d : Int) + 1) = ((d + 1 : Nat) : Int) := by rw [← Int.natCast_succ, u64_cast (d + 1) (by omega)]
        rw [if_neg (by omega), e]
        refine ih k (d + 1) (by omega) (by omega) (by omega) (fun e h1 h3 hdv => ?_)
        rcases Nat.eq_or_lt_of_le (Nat.le_of_lt_succ h3) with h | h
        · subst h; exact h0 (Nat.mod_eq_zero_of_dvd hdv)
        · exact hno e h1 h hdv
    · rw [if_neg (by omega)]
      congr 1
      symm
      exact pB_eq ⟨fun _ => ⟨hn, ref_done hn (by omega) hno⟩, fun _ => rfl⟩
theorem refPrime_eq (n k : Nat) (hn : n ≤ 4294967295) (hk : 65536 < k) : cylinderref07_IsPrime.f k n = some (pB n) := by
  unfold cylinderref07_IsPrime.f
  by_cases h : n < 2
  · rw [if_pos (by omega), pB_eq (b := false) ⟨fun h => by simp at h, fun hp => absurd hp.1 (by omega)⟩]
  · rw [if_neg (by omega), show (2 : Int) = ((2 : Nat) : Int) from rfl]
    exact ref_loop n (by omega) hn 65534 k 2 (by omega) (by omega) (by omega) (fun e h1 h2 => by omega)
end Go.Proofs.Ytkfpibpoelcalaa.M
