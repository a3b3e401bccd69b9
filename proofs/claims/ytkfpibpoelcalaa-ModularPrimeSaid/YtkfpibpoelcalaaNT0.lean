/- Primes, Fermat's little theorem, and the strong test to one base: a prime passes it. Plain facts about natural numbers. -/
namespace Go.Proofs.Ytkfpibpoelcalaa.NT
set_option linter.unusedVariables false

def Prime (p : Nat) : Prop := 2 ≤ p ∧ ∀ d, d ∣ p → d = 1 ∨ d = p

theorem exists_prime (n : Nat) : n ≠ 1 → ∃ p, Prime p ∧ p ∣ n := by
  induction n using Nat.strongRecOn with
  | ind n ih =>
    intro h1
    by_cases h0 : n = 0
    · subst h0
      refine ⟨2, ⟨Nat.le_refl _, fun d hd => ?_⟩, Nat.dvd_zero _⟩
      have := Nat.le_of_dvd (by decide) hd
      have : d ≠ 0 := fun h => by subst h; simp at hd
      omega
    · by_cases hp : ∀ d, d ∣ n → d = 1 ∨ d = n
      · exact ⟨n, ⟨by omega, hp⟩, Nat.dvd_refl _⟩
      · obtain ⟨d, hd⟩ := Classical.not_forall.1 hp
        obtain ⟨hd, hne⟩ := Classical.not_imp.1 hd
        have hle := Nat.le_of_dvd (by omega) hd
        obtain ⟨p, hp, hpd⟩ := ih d (by omega) (by omega)
        exact ⟨p, hp, Nat.dvd_trans hpd hd⟩

theorem Prime.cop {p a : Nat} (hp : Prime p) (h : ¬ p ∣ a) : Nat.Coprime p a :=
  (hp.2 (Nat.gcd p a) (Nat.gcd_dvd_left _ _)).resolve_right (fun e => h (e ▸ Nat.gcd_dvd_right p a))
theorem Prime.mul {p a b : Nat} (hp : Prime p) (h : p ∣ a * b) : p ∣ a ∨ p ∣ b := by
  by_cases ha : p ∣ a
  · exact .inl ha
  · exact .inr ((hp.cop ha).dvd_of_dvd_mul_left h)
theorem Prime.pow {p a : Nat} (hp : Prime p) : ∀ k, p ∣ a ^ k → p ∣ a
  | 0, h => by
    rw [Nat.pow_zero] at h
    have := Nat.le_of_dvd (by decide) h
    have := hp.1
    omega
  | k + 1, h => by
    rw [Nat.pow_succ] at h
    exact (hp.mul h).elim (Prime.pow hp k) id
theorem Prime.not_one {p : Nat} (hp : Prime p) : ¬ p ∣ 1 := fun h => by
  have := Nat.le_of_dvd (by decide) h
  have := hp.1
  omega

theorem mod_of_dvd {x y q : Nat} (hle : y ≤ x) (h : q ∣ x - y) : x % q = y % q := by
  obtain ⟨c, hc⟩ := h
  have : x = y + q * c := by omega
  rw [this, Nat.add_mul_mod_self_left]
theorem dvd_of_mod {x y q : Nat} (h : x % q = y % q) : q ∣ x - y := Nat.dvd_of_mod_eq_zero (Nat.sub_mod_eq_zero_of_mod_eq h)
theorem mod_cancel {p x y q : Nat} (hp : Prime p) (hq : ¬ p ∣ q) (h : x * q % p = y * q % p) : x % p = y % p := by
  rcases Nat.le_total y x with hle | hle
  · have h1 := dvd_of_mod h
    rw [← Nat.sub_mul] at h1
    exact mod_of_dvd hle ((hp.mul h1).resolve_right hq)
  · have h1 := dvd_of_mod h.symm
    rw [← Nat.sub_mul] at h1
    exact (mod_of_dvd hle ((hp.mul h1).resolve_right hq)).symm

/-- The product of a list. -/
def pr (l : List Nat) : Nat := l.foldr (· * ·) 1
theorem pr_perm {l m : List Nat} (h : l.Perm m) : pr l = pr m := by
  induction h with
  | nil => rfl
  | cons x _ ih => simp only [pr, List.foldr_cons] at *; rw [ih]
  | swap x y l => simp only [pr, List.foldr_cons]; exact Nat.mul_left_comm _ _ _
  | trans _ _ ih1 ih2 => exact ih1.trans ih2
theorem perm_of_sub : ∀ (l m : List Nat), l.Nodup → (∀ x ∈ l, x ∈ m) → m.length ≤ l.length → l.Perm m
  | [], m, _, _, h => by
    have : m = [] := List.length_eq_zero_iff.1 (by simpa using h)
    rw [this]
  | x :: t, m, hn, hs, hl => by
    have hx : x ∈ m := hs x (by simp)
    have hp := List.perm_cons_erase hx
    rw [List.nodup_cons] at hn
    have hlen : (m.erase x).length ≤ t.length := by rw [List.length_erase_of_mem hx]; simp at hl; omega
    refine (List.Perm.cons x (perm_of_sub t (m.erase x) hn.2 (fun y hy => ?_) hlen)).trans hp.symm
    exact (List.mem_erase_of_ne (fun e => by subst e; exact hn.1 hy)).2 (hs y (by simp [hy]))

theorem pr_map (a p : Nat) : ∀ l, pr (l.map fun i => a * i % p) % p = a ^ l.length * pr l % p
  | [] => by simp [pr]
  | x :: t => by
    have ih := pr_map a p t
    simp only [pr, List.map_cons, List.foldr_cons, List.length_cons] at *
    rw [Nat.mul_mod, Nat.mod_mod, ih, ← Nat.mul_mod, Nat.pow_succ]
    congr 1
    simp only [Nat.mul_assoc, Nat.mul_comm, Nat.mul_left_comm]
theorem pr_not {p : Nat} (hp : Prime p) : ∀ l : List Nat, (∀ x ∈ l, ¬ p ∣ x) → ¬ p ∣ pr l
  | [], _ => hp.not_one
  | x :: t, h => fun hd => (hp.mul hd).elim (h x (by simp)) (pr_not hp t (fun y hy => h y (by simp [hy])))

theorem fermat {p a : Nat} (hp : Prime p) (ha : ¬ p ∣ a) : a ^ (p - 1) % p = 1 % p := by
  have h2 := hp.1
  have hnd : ∀ x ∈ List.range' 1 (p - 1), ¬ p ∣ x := fun x hx hd => by
    rw [List.mem_range'_1] at hx
    have := Nat.le_of_dvd (by omega) hd
    omega
  have hperm : ((List.range' 1 (p - 1)).map fun i => a * i % p).Perm (List.range' 1 (p - 1)) := by
    refine perm_of_sub _ _ ?_ ?_ (by simp)
    · rw [List.Nodup, List.pairwise_map]
      refine List.Pairwise.imp_of_mem ?_ (List.pairwise_lt_range' (s := 1) (n := p - 1))
      intro x y hx hy hlt e
      rw [List.mem_range'_1] at hx hy
      have h1 := dvd_of_mod e.symm
      rw [← Nat.mul_sub] at h1
      have h3 := Nat.le_of_dvd (by omega) ((hp.mul h1).resolve_left ha)
      omega
    · intro x hx
      obtain ⟨i, hi, rfl⟩ := List.mem_map.1 hx
      have hi' := hnd i hi
      rw [List.mem_range'_1]
      have := Nat.mod_lt (a * i) (show p > 0 by omega)
      have : a * i % p ≠ 0 := fun h => (hp.mul (Nat.dvd_of_mod_eq_zero h)).elim ha hi'
      omega
  have h := pr_map a p (List.range' 1 (p - 1))
  rw [pr_perm hperm, List.length_range'] at h
  refine mod_cancel hp (pr_not hp _ hnd) ?_
  rw [← h, Nat.one_mul]

theorem sqrt1 {p x : Nat} (hp : Prime p) (hx : x < p) (h : x * x % p = 1 % p) : x = 1 ∨ x = p - 1 := by
  have h2 := hp.1
  by_cases h0 : x = 0
  · subst h0
    rw [Nat.mod_eq_of_lt (show 1 < p by omega)] at h
    simp at h
  · have h1 := dvd_of_mod h
    have e : x * x - 1 = (x + 1) * (x - 1) := by
      obtain ⟨y, rfl⟩ : ∃ y, x = y + 1 := ⟨x - 1, by omega⟩
      rw [Nat.add_sub_cancel, Nat.add_mul (y + 1) 1 y, Nat.mul_add (y + 1) y 1]
      omega
    rw [e] at h1
    rcases hp.mul h1 with h3 | h3
    · have := Nat.le_of_dvd (by omega) h3
      omega
    · have := Nat.eq_zero_of_dvd_of_lt h3 (by omega)
      omega

/-- The strong test's loop: k squarings. -/
def stl (n : Nat) : Nat → Nat → Bool
  | 0, _ => false
  | k + 1, x => let y := x * x % n; y == n - 1 || stl n k y
/-- n = 2^s * d + 1 passes the strong test to base b. -/
def strong (n d s b : Nat) : Bool := let x := b ^ d % n; x == 1 || x == n - 1 || b % n == 0 || stl n (s - 1) x

theorem stl_prime {p : Nat} (hp : Prime p) : ∀ k x, x < p → x ^ (2 ^ (k + 1)) % p = 1 % p → x = 1 ∨ x = p - 1 ∨ stl p k x = true
  | 0, x, hx, h => by
    rw [Nat.zero_add, Nat.pow_one, Nat.pow_two] at h
    exact (sqrt1 hp hx h).imp id .inl
  | k + 1, x, hx, h => by
    have hy := Nat.mod_lt (x * x) (show p > 0 by omega)
    have e : (x * x % p) ^ (2 ^ (k + 1)) % p = 1 % p := by
      rw [← Nat.pow_mod, ← Nat.pow_two, ← Nat.pow_mul]
      rw [Nat.pow_succ 2 (k + 1), Nat.mul_comm] at h
      exact h
    rcases stl_prime hp k _ hy e with h1 | h1 | h1
    · have := sqrt1 hp hx (by rw [h1, Nat.mod_eq_of_lt (by omega)])
      exact this.imp id .inl
    · exact .inr (.inr (by simp [stl, h1]))
    · exact .inr (.inr (by simp [stl, h1]))

theorem strong_prime {p d s b : Nat} (hp : Prime p) (hs : 1 ≤ s) (hd : 2 ^ s * d + 1 = p) (hb : 0 < b) : strong p d s b = true := by
  have h2 := hp.1
  unfold strong
  by_cases h0 : p ∣ b
  · have : b % p = 0 := Nat.mod_eq_zero_of_dvd h0
    simp [this]
  · have hf := fermat hp h0
    have hx := Nat.mod_lt (b ^ d) (show p > 0 by omega)
    have e : (b ^ d % p) ^ (2 ^ ((s - 1) + 1)) % p = 1 % p := by
      rw [← Nat.pow_mod, ← Nat.pow_mul, show s - 1 + 1 = s by omega, show d * 2 ^ s = p - 1 by rw [Nat.mul_comm]; omega]
      exact hf
    rcases stl_prime hp (s - 1) _ hx e with h1 | h1 | h1
    · simp [h1]
    · simp [h1]
    · simp [h1]

theorem pow_one_mul {n a e : Nat} (h : a ^ e % n = 1 % n) (k : Nat) : a ^ (e * k) % n = 1 % n := by
  rw [Nat.pow_mul, Nat.pow_mod, h, ← Nat.pow_mod, Nat.one_pow]
theorem neg_sq {n : Nat} (hn : 2 ≤ n) : (n - 1) * (n - 1) % n = 1 % n := by
  obtain ⟨m, rfl⟩ : ∃ m, n = m + 2 := ⟨n - 2, by omega⟩
  have : (m + 2 - 1) * (m + 2 - 1) = 1 + (m + 2) * m := by
    rw [show m + 2 - 1 = m + 1 by omega, Nat.mul_add (m + 1) m 1, Nat.add_mul m 1 m, Nat.add_mul m 2 m]
    omega
  rw [this, Nat.add_mul_mod_self_left]
theorem neg_pow {n : Nat} (hn : 2 ≤ n) (x k : Nat) (hx : x % n = n - 1) : x ^ (2 ^ (k + 1)) % n = 1 % n := by
  rw [Nat.pow_succ, Nat.mul_comm, Nat.pow_mul]
  have : x ^ 2 % n = 1 % n := by rw [Nat.pow_two, Nat.mul_mod, hx]; exact neg_sq hn
  rw [Nat.pow_mod, this, ← Nat.pow_mod, Nat.one_pow]
theorem stl_one {n : Nat} (hn : 2 ≤ n) : ∀ k x, stl n k x = true → x ^ (2 ^ (k + 1)) % n = 1 % n
  | 0, _, h => by simp [stl] at h
  | k + 1, x, h => by
    simp only [stl, Bool.or_eq_true, beq_iff_eq] at h
    have e : x ^ (2 ^ (k + 1 + 1)) % n = (x * x % n) ^ (2 ^ (k + 1)) % n := by
      rw [← Nat.pow_mod, ← Nat.pow_two, ← Nat.pow_mul, Nat.pow_succ 2 (k + 1), Nat.mul_comm]
    rw [e]
    rcases h with h | h
    · exact neg_pow hn _ k (by rw [Nat.mod_mod]; exact h)
    · exact stl_one hn k _ h
theorem strong_one {n d s b : Nat} (hn : 2 ≤ n) (hs : 1 ≤ s) (hd : 2 ^ s * d + 1 = n) (hb : b % n ≠ 0) (h : strong n d s b = true) : b ^ (n - 1) % n = 1 % n := by
  have e : b ^ (n - 1) = (b ^ d) ^ (2 ^ ((s - 1) + 1)) := by
    rw [← Nat.pow_mul, show s - 1 + 1 = s by omega, Nat.mul_comm]
    congr 1
    omega
  rw [e]
  simp only [strong, Bool.or_eq_true, beq_iff_eq] at h
  rcases h with ((h | h) | h) | h
  · rw [Nat.pow_mod, h, Nat.one_pow]
  · exact neg_pow hn _ _ h
  · exact absurd h hb
  · rw [Nat.pow_mod]
    exact stl_one hn _ _ h
end Go.Proofs.Ytkfpibpoelcalaa.NT
