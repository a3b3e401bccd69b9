/- A search, written for the kernel's arithmetic, for composite numbers below 2^32 that pass the strong test to the bases 2, 7 and 61; and that what it looks at is all there is. Plain facts about natural numbers. -/
import Derived.Test.YtkfpibpoelcalaaNT0
namespace Go.Proofs.Ytkfpibpoelcalaa.NT
set_option linter.unusedVariables false

/-- b^e mod n for e below 2^32, by four windows. -/
def pwm (b e n : Nat) : Nat :=
  Nat.mod (Nat.mul (Nat.pow (Nat.mod (Nat.mul (Nat.pow (Nat.mod (Nat.mul (Nat.pow (Nat.mod (Nat.pow b (Nat.div e (nat_lit 16777216))) n) (nat_lit 256)) (Nat.pow b (Nat.mod (Nat.div e (nat_lit 65536)) (nat_lit 256)))) n) (nat_lit 256)) (Nat.pow b (Nat.mod (Nat.div e (nat_lit 256)) (nat_lit 256)))) n) (nat_lit 256)) (Nat.pow b (Nat.mod e (nat_lit 256)))) n

theorem win (b x y n : Nat) : (b ^ x % n) ^ 256 * b ^ y % n = b ^ (256 * x + y) % n := by
  rw [Nat.mul_mod, ← Nat.pow_mod, ← Nat.mul_mod, ← Nat.pow_mul, ← Nat.pow_add, Nat.mul_comm x]
theorem pwm_eq (b e n : Nat) : pwm b e n = b ^ e % n := by
  show ((((b ^ (e / 16777216) % n) ^ 256 * b ^ (e / 65536 % 256) % n) ^ 256 * b ^ (e / 256 % 256) % n) ^ 256 * b ^ (e % 256)) % n = b ^ e % n
  rw [win, win, win]
  congr 2
  omega

/-- f holds below k. -/
noncomputable def allLt (k : Nat) (f : Nat → Bool) : Bool := Nat.rec true (fun i ih => and (f i) ih) k
theorem allLt_at {f : Nat → Bool} : ∀ {k}, allLt k f = true → ∀ i, i < k → f i = true
  | 0, _, i, hi => by omega
  | k + 1, h, i, hi => by
    have h' : (f k && allLt k f) = true := h
    rw [Bool.and_eq_true] at h'
    rcases Nat.eq_or_lt_of_le (Nat.le_of_lt_succ hi) with e | e
    · rw [e]; exact h'.1
    · exact allLt_at h'.2 i e

/-- The three bases' powers are 1. -/
def ones (n e : Nat) : Bool := and (Nat.beq (pwm (nat_lit 2) e n) (Nat.mod (nat_lit 1) n)) (and (Nat.beq (pwm (nat_lit 7) e n) (Nat.mod (nat_lit 1) n)) (Nat.beq (pwm (nat_lit 61) e n) (Nat.mod (nat_lit 1) n)))
def Ones (n e : Nat) : Prop := 2 ^ e % n = 1 % n ∧ 7 ^ e % n = 1 % n ∧ 61 ^ e % n = 1 % n
theorem ones_iff {n e : Nat} : ones n e = true ↔ Ones n e := by
  unfold ones Ones
  rw [Bool.and_eq_true, Bool.and_eq_true, Nat.beq_eq, Nat.beq_eq, Nat.beq_eq, pwm_eq, pwm_eq, pwm_eq]
  rfl

/-- The odd part. -/
def spl : Nat → Nat → Nat → Nat × Nat
  | 0, d, s => (d, s)
  | f + 1, d, s => if d % 2 = 0 then spl f (d / 2) (s + 1) else (d, s)
/-- The strong test by windows. -/
def strongk (n d s b : Nat) : Bool := let x := pwm b d n; x == 1 || x == n - 1 || b % n == 0 || stl n (s - 1) x
/-- Does n pass? -/
def cand (n : Nat) : Bool := and (ones n (Nat.pred n)) (let ds := spl 32 (n - 1) 0; strongk n ds.1 ds.2 2 && strongk n ds.1 ds.2 7 && strongk n ds.1 ds.2 61)

theorem strongk_eq (n d s b : Nat) : strongk n d s b = strong n d s b := by
  unfold strongk strong
  rw [pwm_eq]

/-- A composite number that passes. -/
def Bad (n : Nat) : Prop := 5 ≤ n ∧ n < 4294967296 ∧ n % 2 = 1 ∧ ¬ Prime n ∧ cand n = true
theorem Bad.ones {n : Nat} (h : Bad n) : Ones n (n - 1) := by
  have := h.2.2.2.2
  unfold cand at this
  rw [Bool.and_eq_true] at this
  exact ones_iff.1 this.1
theorem Bad.ones_of {n p : Nat} (h : Bad n) (hp : p ∣ n) : Ones p (n - 1) := by
  obtain ⟨a, b, c⟩ := h.ones
  refine ⟨?_, ?_, ?_⟩
  · rw [← Nat.mod_mod_of_dvd _ hp, a, Nat.mod_mod_of_dvd _ hp]
  · rw [← Nat.mod_mod_of_dvd _ hp, b, Nat.mod_mod_of_dvd _ hp]
  · rw [← Nat.mod_mod_of_dvd _ hp, c, Nat.mod_mod_of_dvd _ hp]
theorem not_base {p b e : Nat} (hp : Prime p) (he : 0 < e) (h : b ^ e % p = 1 % p) : ¬ p ∣ b := fun hd => by
  obtain ⟨k, rfl⟩ : ∃ k, e = k + 1 := ⟨e - 1, by omega⟩
  have h1 : b ^ (k + 1) % p = 0 := Nat.mod_eq_zero_of_dvd (Nat.dvd_trans hd (Nat.dvd_mul_left b (b ^ k)))
  rw [h1, Nat.mod_eq_of_lt (show 1 < p from hp.1)] at h
  omega

theorem one_gcd (b p : Nat) (e f : Nat) : b ^ e % p = 1 % p → b ^ f % p = 1 % p → b ^ Nat.gcd e f % p = 1 % p := by
  induction e, f using Nat.gcd.induction with
  | H0 f => intro _ h; rw [Nat.gcd_zero_left]; exact h
  | H1 e f _ ih =>
    intro he hf
    rw [Nat.gcd_rec]
    refine ih ?_ he
    rw [← Nat.div_add_mod f e, Nat.pow_add, Nat.mul_mod, pow_one_mul he, ← Nat.mul_mod, Nat.one_mul] at hf
    exact hf
theorem ones_gcd {p e f : Nat} (h : Ones p e) (h' : Ones p f) : Ones p (Nat.gcd e f) :=
  ⟨one_gcd _ _ _ _ h.1 h'.1, one_gcd _ _ _ _ h.2.1 h'.2.1, one_gcd _ _ _ _ h.2.2 h'.2.2⟩

/-- L is the least exponent at which all three powers are 1 modulo p. -/
noncomputable def ordOK (p L : Nat) : Bool :=
  and (ones p L) (and (Nat.ble (nat_lit 1) L) (and (Nat.ble L (nat_lit 65535)) (allLt (nat_lit 256) fun s =>
    or (Nat.beq s (nat_lit 0)) (or (not (Nat.beq (Nat.mod L s) (nat_lit 0))) (and (or (Nat.beq s (nat_lit 1)) (not (ones p (Nat.div L s)))) (or (Nat.beq s L) (not (ones p s))))))))
theorem ordOK_dvd {p L e : Nat} (h : ordOK p L = true) (he : Ones p e) : L ∣ e := by
  unfold ordOK at h
  simp only [Bool.and_eq_true] at h
  obtain ⟨h1, h2, h3, h4⟩ := h
  replace h2 : 1 ≤ L := Nat.le_of_ble_eq_true h2
  replace h3 : L ≤ 65535 := Nat.le_of_ble_eq_true h3
  have hg := ones_gcd he (ones_iff.1 h1)
  by_cases hL : L ∣ e
  · exact hL
  exfalso
  have hne : Nat.gcd e L ≠ L := fun h => hL (h ▸ Nat.gcd_dvd_left e L)
  obtain ⟨k, hk⟩ := Nat.gcd_dvd_right e L
  generalize Nat.gcd e L = g at *
  have hg0 : g ≠ 0 := fun h => by subst h; simp at hk; omega
  have hk0 : k ≠ 0 := fun h => by subst h; simp at hk; omega
  have hk1 : k ≠ 1 := fun h => by subst h; simp at hk; omega
  by_cases hs : k < 256
  · have h5 := allLt_at h4 k hs
    have e1 : L % k = 0 := Nat.mod_eq_zero_of_dvd ⟨g, by rw [Nat.mul_comm]; exact hk⟩
    have e2 : L / k = g := by rw [hk]; exact Nat.mul_div_cancel _ (by omega)
    have e3 : Nat.mod L k = 0 := e1
    have e4 : Nat.div L k = g := e2
    rw [e3, e4] at h5
    have e5 : Nat.beq k 0 = false := by rw [← Bool.not_eq_true, Nat.beq_eq]; exact hk0
    have e6 : Nat.beq k 1 = false := by rw [← Bool.not_eq_true, Nat.beq_eq]; exact hk1
    rw [e5, e6, ones_iff.2 hg] at h5
    simp at h5
  · have hgs : g < 256 := by
      rcases Nat.lt_or_ge g 256 with h | h
      · exact h
      · have := Nat.mul_le_mul h (Nat.le_of_not_lt hs)
        omega
    have h5 := allLt_at h4 g hgs
    have e1 : L % g = 0 := Nat.mod_eq_zero_of_dvd ⟨k, hk⟩
    have e3 : Nat.mod L g = 0 := e1
    rw [e3] at h5
    have e5 : Nat.beq g 0 = false := by rw [← Bool.not_eq_true, Nat.beq_eq]; exact hg0
    have e6 : Nat.beq g L = false := by rw [← Bool.not_eq_true, Nat.beq_eq]; exact hne
    rw [e5, e6, ones_iff.2 hg] at h5
    simp at h5

theorem cand_lt {n : Nat} (h : Bad n) : or (Nat.ble (nat_lit 4294967296) n) (not (cand n)) = false := by
  rw [h.2.2.2.2]
  have : Nat.ble 4294967296 n = false := by rw [← Bool.not_eq_true, Nat.ble_eq]; have := h.2.1; omega
  show (Nat.ble 4294967296 n || !true) = false
  rw [this]; rfl

/-- All n = p * (1 + j * L), j > 0, fail. -/
noncomputable def stepsOK (p L : Nat) : Bool :=
  and (ordOK p L) (and (Nat.beq (Nat.mod p L) (Nat.mod (nat_lit 1) L)) (allLt (Nat.div (nat_lit 4294967296) (Nat.mul p L)) fun j =>
    (fun n => or (Nat.ble (nat_lit 4294967296) n) (not (cand n))) (Nat.mul p (Nat.succ (Nat.mul (Nat.succ j) L)))))
theorem steps_no {p L n : Nat} (h : stepsOK p L = true) (hn : Bad n) (hp : Prime p) (hd : p ∣ n) : False := by
  unfold stepsOK at h
  simp only [Bool.and_eq_true] at h
  obtain ⟨h1, h2, h3⟩ := h
  have hL : L ∣ n - 1 := ordOK_dvd h1 (hn.ones_of hd)
  have hL0 : 1 ≤ L := by
    unfold ordOK at h1
    simp only [Bool.and_eq_true] at h1
    exact Nat.le_of_ble_eq_true h1.2.1
  replace h2 : p % L = 1 % L := Nat.eq_of_beq_eq_true h2
  obtain ⟨m, rfl⟩ := hd
  have hn5 := hn.1
  have hm0 : m ≠ 0 := fun h => by subst h; simp at hn5
  have hm1 : m ≠ 1 := fun h => by subst h; exact hn.2.2.2.1 (by rw [Nat.mul_one]; exact hp)
  have hpm : p * m % L = 1 % L := mod_of_dvd (by omega) hL
  have hm : m % L = 1 % L := by
    rw [Nat.mul_mod, h2, ← Nat.mul_mod, Nat.one_mul] at hpm
    exact hpm
  obtain ⟨j, hj⟩ := dvd_of_mod hm
  have hj0 : j ≠ 0 := fun h => by subst h; simp at hj; omega
  obtain ⟨j, rfl⟩ : ∃ i, j = i + 1 := ⟨j - 1, by omega⟩
  have hlt := hn.2.1
  have hm' : m = (j + 1) * L + 1 := by rw [Nat.mul_comm] at hj; omega
  have hjc : j < 4294967296 / (p * L) := by
    have hpos : 0 < p * L := Nat.mul_pos (by have := hp.1; omega) hL0
    refine (Nat.le_div_iff_mul_le hpos).2 ?_
    have h4 : (j + 1) * (p * L) ≤ p * m := by
      rw [Nat.mul_left_comm]
      exact Nat.mul_le_mul_left _ (by omega)
    exact Nat.le_trans h4 (Nat.le_of_lt hlt)
  have h6 : or (Nat.ble 4294967296 (p * ((j + 1) * L + 1))) (not (cand (p * ((j + 1) * L + 1)))) = true := allLt_at h3 j hjc
  rw [← hm'] at h6
  have h7 := cand_lt hn
  exact absurd (h6.symm.trans h7) (by decide)

/-- Products by halves: f a * f (a+1) * .. * f (a + 2^k - 1). -/
noncomputable def bp (f : Nat → Nat) (k : Nat) : Nat → Nat := Nat.rec (fun a => f a) (fun i ih a => Nat.mul (ih a) (ih (Nat.add a (Nat.pow (nat_lit 2) i)))) k
theorem bp_not {q : Nat} (hq : Prime q) (f : Nat → Nat) : ∀ k a, (∀ x, x < a + 2 ^ k → ¬ q ∣ f x) → ¬ q ∣ bp f k a
  | 0, a, h => h a (by simp)
  | k + 1, a, h => by
    have e : bp f (k + 1) a = bp f k a * bp f k (a + 2 ^ k) := rfl
    rw [e]
    have hp2 : 2 ^ (k + 1) = 2 ^ k + 2 ^ k := by rw [Nat.pow_succ]; omega
    intro hd
    rcases hq.mul hd with h1 | h1
    · exact bp_not hq f k a (fun x hx => h x (by rw [hp2]; exact Nat.lt_of_lt_of_le hx (by rw [← Nat.add_assoc]; exact Nat.le_add_right _ _))) h1
    · exact bp_not hq f k (a + 2 ^ k) (fun x hx => h x (by rw [hp2]; omega)) h1
/-- 256! -/
noncomputable def P256 : Nat := bp Nat.succ (nat_lit 8) (nat_lit 0)
theorem cop256 {q : Nat} (hq : Prime q) (h : 256 < q) : Nat.gcd q P256 = 1 :=
  hq.cop (bp_not hq _ 8 0 fun x hx hd => by
    have := Nat.le_of_dvd (Nat.succ_pos x) hd
    simp at hx
    omega)
/-- The product of the odd numbers below 65536 that are at most 256 or have no divisor up to 256. -/
noncomputable def Pbig : Nat := bp (fun a => (fun x => cond (or (Nat.ble x (nat_lit 256)) (Nat.beq (Nat.gcd x P256) (nat_lit 1))) x (nat_lit 1)) (Nat.succ (Nat.mul (nat_lit 2) a))) (nat_lit 15) (nat_lit 0)
theorem copBig {q : Nat} (hq : Prime q) (h : 65536 ≤ q) : ¬ q ∣ Pbig := by
  refine bp_not hq _ 15 0 fun x hx hd => ?_
  have hx' : x < 32768 := by simpa using hx
  have hle : ∀ c : Bool, ¬ q ∣ cond c (Nat.succ (Nat.mul 2 x)) 1 := fun c hd => by
    cases c with
    | true =>
      have := Nat.le_of_dvd (Nat.succ_pos _) hd
      have e : Nat.succ (Nat.mul 2 x) = 2 * x + 1 := rfl
      have := show q ≤ Nat.succ (Nat.mul 2 x) from this
      omega
    | false => exact hq.not_one hd
  exact hle _ hd

/-- What is left of G without its small prime factors. -/
noncomputable def strip (G k : Nat) : Nat := Nat.rec G (fun _ H => Nat.div H (Nat.gcd H Pbig)) k
theorem strip_dvd {q G : Nat} (hq : Prime q) (h : 65536 ≤ q) (hG : q ∣ G) : ∀ k, q ∣ strip G k
  | 0 => hG
  | k + 1 => by
    have ih := strip_dvd hq h hG k
    have e : strip G (k + 1) = strip G k / Nat.gcd (strip G k) Pbig := rfl
    rw [e]
    have h1 := Nat.gcd_dvd_left (strip G k) Pbig
    obtain ⟨c, hc⟩ := h1
    have h2 : ¬ q ∣ Nat.gcd (strip G k) Pbig := fun hd => copBig hq h (Nat.dvd_trans hd (Nat.gcd_dvd_right _ _))
    by_cases h0 : Nat.gcd (strip G k) Pbig = 0
    · rw [h0]; exact absurd (by rw [h0]; exact Nat.dvd_zero _) h2
    · have e2 : strip G k / Nat.gcd (strip G k) Pbig = c := by
        conv => lhs; lhs; rw [hc]
        exact Nat.mul_div_cancel_left _ (Nat.pos_of_ne_zero h0)
      rw [e2]
      rw [hc] at ih
      exact (hq.mul ih).resolve_left h2

/-- No n = P * q with a prime q above 65536 passes. -/
noncomputable def bigOK (P : Nat) : Bool :=
  (fun H => and (Nat.ble (nat_lit 1) H) (allLt (Nat.succ (Nat.div H (nat_lit 65536))) fun k => or (Nat.beq k (nat_lit 0)) (or (not (Nat.beq (Nat.mod H k) (nat_lit 0))) ((fun n => or (Nat.ble (nat_lit 4294967296) n) (not (cand n))) (Nat.mul P (Nat.div H k))))))
    (strip (Nat.gcd (Nat.gcd (Nat.pred (Nat.pow (nat_lit 2) (Nat.pred P))) (Nat.pred (Nat.pow (nat_lit 7) (Nat.pred P)))) (Nat.pred (Nat.pow (nat_lit 61) (Nat.pred P)))) (nat_lit 12))
theorem big_no {P q : Nat} (h : bigOK P = true) (hn : Bad (P * q)) (hq : Prime q) (h6 : 65536 ≤ q) : False := by
  have hP : P ≠ 0 := fun h => by subst h; have := hn.1; simp at this
  have ho := hn.ones_of (Nat.dvd_mul_left q P)
  have hn1 := hn.1
  have e : P * q - 1 = (q - 1) * P + (P - 1) := by
    obtain ⟨r, rfl⟩ : ∃ r, q = r + 1 := ⟨q - 1, by omega⟩
    rw [Nat.mul_add, Nat.mul_one, Nat.add_sub_cancel, Nat.mul_comm]
    omega
  have hx : ∀ b, b ^ (P * q - 1) % q = 1 % q → q ∣ b ^ (P - 1) - 1 := fun b hb => by
    have hnb := not_base hq (by omega) hb
    have hf := fermat hq hnb
    rw [e, Nat.pow_add, Nat.mul_mod, pow_one_mul hf, ← Nat.mul_mod, Nat.one_mul] at hb
    exact dvd_of_mod hb
  have hG : q ∣ Nat.gcd (Nat.gcd (Nat.pred (Nat.pow 2 (Nat.pred P))) (Nat.pred (Nat.pow 7 (Nat.pred P)))) (Nat.pred (Nat.pow 61 (Nat.pred P))) := Nat.dvd_gcd (Nat.dvd_gcd (hx 2 ho.1) (hx 7 ho.2.1)) (hx 61 ho.2.2)
  have hs := strip_dvd hq h6 hG 12
  unfold bigOK at h
  generalize strip (Nat.gcd (Nat.gcd (Nat.pred (Nat.pow 2 (Nat.pred P))) (Nat.pred (Nat.pow 7 (Nat.pred P)))) (Nat.pred (Nat.pow 61 (Nat.pred P)))) 12 = H at *
  simp only [Bool.and_eq_true] at h
  obtain ⟨h1, h2⟩ := h
  replace h1 : 1 ≤ H := Nat.le_of_ble_eq_true h1
  obtain ⟨k, rfl⟩ := hs
  have hk0 : k ≠ 0 := fun h => by subst h; simp at h1
  have hk : k < Nat.succ (q * k / 65536) := by
    refine Nat.lt_succ_of_le ((Nat.le_div_iff_mul_le (by decide)).2 ?_)
    rw [Nat.mul_comm]
    exact Nat.mul_le_mul_right _ h6
  have h5 := allLt_at h2 k hk
  have e1 : Nat.mod (q * k) k = 0 := Nat.mul_mod_left q k
  have e2 : Nat.div (q * k) k = q := Nat.mul_div_cancel _ (by omega)
  have e5 : Nat.beq k 0 = false := by rw [← Bool.not_eq_true, Nat.beq_eq]; exact hk0
  simp only [e1, e2, e5] at h5
  have h7 := cand_lt hn
  have h8 : or (Nat.ble 4294967296 (P * q)) (not (cand (P * q))) = true := by simpa using h5
  exact absurd (h8.symm.trans h7) (by decide)
end Go.Proofs.Ytkfpibpoelcalaa.NT
