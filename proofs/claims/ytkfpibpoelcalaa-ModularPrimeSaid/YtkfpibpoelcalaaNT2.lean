/- The search over the products of primes below 1000, and what it shows. Plain facts about natural numbers. -/
import Derived.Test.YtkfpibpoelcalaaNT1
namespace Go.Proofs.Ytkfpibpoelcalaa.NT
set_option linter.unusedVariables false

/-- f at each element of a list and the list from it on. -/
noncomputable def each (f : Nat → Nat → List (Nat × Nat) → Bool) (l : List (Nat × Nat)) : Bool := List.rec true (fun x t ih => and (f (Prod.fst x) (Prod.snd x) (List.cons x t)) ih) l
theorem each_at {f : Nat → Nat → List (Nat × Nat) → Bool} : ∀ {a : List (Nat × Nat)} {x t}, each f (a ++ x :: t) = true → f x.1 x.2 (x :: t) = true
  | [], x, t, h => by
    have h' : (f x.1 x.2 (x :: t) && each f t) = true := h
    rw [Bool.and_eq_true] at h'
    exact h'.1
  | y :: a, x, t, h => by
    have h' : (f y.1 y.2 (y :: (a ++ x :: t)) && each f (a ++ x :: t)) = true := h
    rw [Bool.and_eq_true] at h'
    exact each_at h'.2

/-- An inverse of P modulo M (what it hands back is looked at again). -/
noncomputable def inv (P M : Nat) : Nat :=
  Nat.rec (fun _ _ t0 _ => t0) (fun _ ih r0 r1 t0 t1 => cond (Nat.beq r1 (nat_lit 0)) t0 (ih r1 (Nat.mod r0 r1) t1 (Nat.mod (Nat.add t0 (Nat.sub M (Nat.mod (Nat.mul (Nat.div r0 r1) t1) M))) M))) (nat_lit 64) M (Nat.mod P M) (nat_lit 0) (nat_lit 1)

/-- All n = P * m with M dividing n - 1 fail; c is at least 2^32 / (P * M). -/
noncomputable def leaf (P M c : Nat) : Bool :=
  (fun u => and (Nat.beq (Nat.mod (Nat.mul P u) M) (Nat.mod (nat_lit 1) M)) (allLt (Nat.succ c) fun i =>
    (fun m => or (Nat.ble m (nat_lit 1)) ((fun n => or (Nat.ble (nat_lit 4294967296) n) (not (cand n))) (Nat.mul P m))) (Nat.add (Nat.mod u M) (Nat.mul i M)))) (inv P M)
theorem leaf_no {P M m : Nat} (h : leaf P M (4294967296 / (P * M)) = true) (hn : Bad (P * m)) (hm : m ≠ 1) (hM : M ∣ P * m - 1) : False := by
  unfold leaf at h
  generalize inv P M = u at *
  simp only [Bool.and_eq_true] at h
  obtain ⟨h1, h2⟩ := h
  replace h1 : P * u % M = 1 % M := Nat.eq_of_beq_eq_true h1
  have hn5 := hn.1
  have hlt := hn.2.1
  have hm0 : m ≠ 0 := fun h => by subst h; simp at hn5
  have hP0 : 0 < P := Nat.pos_of_ne_zero fun h => by subst h; simp at hn5
  have h3 : P * m % M = 1 % M := mod_of_dvd (by omega) hM
  have h4 : m % M = u % M := by
    have a : P * u * m % M = m % M := by rw [Nat.mul_mod, h1, ← Nat.mul_mod, Nat.one_mul]
    have b : P * m * u % M = u % M := by rw [Nat.mul_mod, h3, ← Nat.mul_mod, Nat.one_mul]
    rw [← a, ← b, Nat.mul_right_comm]
  have h5 : m = u % M + m / M * M := by rw [← h4, Nat.mul_comm]; exact (Nat.mod_add_div m M).symm
  have h6 : m / M < Nat.succ (4294967296 / (P * M)) := by
    refine Nat.lt_succ_of_le ?_
    rw [← Nat.div_div_eq_div_mul]
    refine Nat.div_le_div_right ((Nat.le_div_iff_mul_le hP0).2 ?_)
    rw [Nat.mul_comm]
    omega
  have h7 := allLt_at h2 (m / M) h6
  have e : Nat.add (Nat.mod u M) (Nat.mul (m / M) M) = m := h5.symm
  simp only [e] at h7
  have e1 : Nat.ble m 1 = false := by rw [← Bool.not_eq_true, Nat.ble_eq]; omega
  rw [e1] at h7
  have h8 : or (Nat.ble 4294967296 (P * m)) (not (cand (P * m))) = true := h7
  exact absurd (h8.symm.trans (cand_lt hn)) (by decide)

/-- The search: n = P * m, M divides n - 1, m's prime factors below 65536 are in l. -/
noncomputable def go (k : Nat) : Nat → Nat → List (Nat × Nat) → Bool :=
  Nat.rec (fun _ _ _ => false) (fun _ ih P M l =>
    or (Nat.ble (nat_lit 4294967296) P) (or (not (Nat.beq (Nat.gcd P M) (nat_lit 1)))
      (cond (Nat.ble (Nat.div (nat_lit 4294967296) (Nat.mul P M)) (nat_lit 24)) (leaf P M (Nat.div (nat_lit 4294967296) (Nat.mul P M)))
        (and (or (Nat.ble (nat_lit 65536) P) (bigOK P)) (each (fun p L t => and (or (Nat.ble (nat_lit 4294967296) (Nat.mul P p)) (not (cand (Nat.mul P p)))) (ih (Nat.mul P p) (Nat.div (Nat.mul M L) (Nat.gcd M L)) t)) l))))) k

theorem first_dvd {m : Nat} : ∀ l : List (Nat × Nat), (∃ x, x ∈ l ∧ x.1 ∣ m) → ∃ a x t, l = a ++ x :: t ∧ x.1 ∣ m ∧ ∀ y ∈ a, ¬ y.1 ∣ m
  | [], ⟨x, hx, _⟩ => by simp at hx
  | y :: l, h => by
    by_cases hy : y.1 ∣ m
    · exact ⟨[], y, l, rfl, hy, by simp⟩
    · obtain ⟨x, hx, hxm⟩ := h
      have hx' : x ∈ l := by
        rcases List.mem_cons.1 hx with e | e
        · subst e; exact absurd hxm hy
        · exact e
      obtain ⟨a, z, t, e, hz, ha⟩ := first_dvd l ⟨x, hx', hxm⟩
      refine ⟨y :: a, z, t, by rw [e]; rfl, hz, fun w hw => ?_⟩
      rcases List.mem_cons.1 hw with e | e
      · subst e; exact hy
      · exact ha w e

/-- m's prime factors are in l or above 65536. -/
def Fac (l : List (Nat × Nat)) (m : Nat) : Prop := ∀ r, Prime r → r ∣ m → (∃ x, x ∈ l ∧ x.1 = r) ∨ 65536 ≤ r
theorem Fac.next {l a t : List (Nat × Nat)} {x : Nat × Nat} {m m' : Nat} (h : Fac l m) (hl : l = a ++ x :: t) (ha : ∀ y ∈ a, ¬ y.1 ∣ m) (hm : m' ∣ m) : Fac (x :: t) m' := by
  intro r hr hd
  rcases h r hr (Nat.dvd_trans hd hm) with ⟨y, hy, rfl⟩ | h6
  · left
    rw [hl, List.mem_append] at hy
    rcases hy with hy | hy
    · exact absurd (Nat.dvd_trans hd hm) (ha y hy)
    · exact ⟨y, hy, rfl⟩
  · exact .inr h6
theorem big_prime {m : Nat} (hm : m ≠ 1) (h0 : m ≠ 0) (hlt : m < 4294967296) (h : ∀ r, Prime r → r ∣ m → 65536 ≤ r) : Prime m := by
  obtain ⟨q, hq, hqm⟩ := exists_prime m hm
  have h6 := h q hq hqm
  obtain ⟨k, rfl⟩ := hqm
  by_cases hk : k = 1
  · rw [hk, Nat.mul_one]; exact hq
  · exfalso
    obtain ⟨r, hr, hrk⟩ := exists_prime k hk
    have h7 := h r hr (Nat.dvd_trans hrk (Nat.dvd_mul_left k q))
    have hk0 : 0 < k := Nat.pos_of_ne_zero fun e => h0 (by rw [e]; rfl)
    have h8 := Nat.le_of_dvd hk0 hrk
    have := Nat.mul_le_mul h6 (Nat.le_trans h7 h8)
    omega

theorem go_no : ∀ k {P M m : Nat} {l : List (Nat × Nat)}, go k P M l = true → Bad (P * m) → m ≠ 1 → M ∣ P * m - 1 → (∀ x ∈ l, ordOK x.1 x.2 = true) → Fac l m → False
  | 0, P, M, m, l, h, _, _, _, _, _ => Bool.noConfusion h
  | k + 1, P, M, m, l, h, hn, hm, hM, ho, hf => by
    have h' : (Nat.ble 4294967296 P || (!(Nat.beq (Nat.gcd P M) 1) || cond (Nat.ble (4294967296 / (P * M)) 24) (leaf P M (4294967296 / (P * M)))
        ((Nat.ble 65536 P || bigOK P) && each (fun p L t => and (or (Nat.ble 4294967296 (P * p)) (not (cand (P * p)))) (go k (P * p) (M * L / Nat.gcd M L) t)) l))) = true := h
    clear h
    have hn5 := hn.1
    have hlt := hn.2.1
    have hm0 : m ≠ 0 := fun h => by subst h; simp at hn5
    have hP0 : 0 < P := Nat.pos_of_ne_zero fun h => by subst h; simp at hn5
    have hPm : P ≤ P * m := Nat.le_mul_of_pos_right P (Nat.pos_of_ne_zero hm0)
    have hmm : m ≤ P * m := Nat.le_mul_of_pos_left m hP0
    have e1 : Nat.ble 4294967296 P = false := by rw [← Bool.not_eq_true, Nat.ble_eq]; omega
    have e2 : Nat.beq (Nat.gcd P M) 1 = true := by
      rw [Nat.beq_eq]
      have d1 : Nat.gcd P M ∣ P * m := Nat.dvd_trans (Nat.gcd_dvd_left P M) (Nat.dvd_mul_right P m)
      have d2 : Nat.gcd P M ∣ P * m - 1 := Nat.dvd_trans (Nat.gcd_dvd_right P M) hM
      have d3 := Nat.dvd_sub d1 d2
      rw [show P * m - (P * m - 1) = 1 by omega] at d3
      exact Nat.dvd_one.1 d3
    rw [e1, e2] at h'
    simp only [Bool.false_or, Bool.not_true] at h'
    by_cases hc : Nat.ble (4294967296 / (P * M)) 24 = true
    · rw [hc, cond_true] at h'
      exact leaf_no h' hn hm hM
    · rw [Bool.not_eq_true] at hc
      rw [hc, cond_false, Bool.and_eq_true] at h'
      obtain ⟨h1, h2⟩ := h'
      by_cases hx : ∃ x, x ∈ l ∧ x.1 ∣ m
      · obtain ⟨a, x, t, hl, hxm, ha⟩ := first_dvd l hx
        rw [hl] at h2
        have h3 := each_at h2
        simp only [Bool.and_eq_true] at h3
        obtain ⟨h3, h4⟩ := h3
        have hf' := hf.next hl ha (m' := m / x.1) (Nat.div_dvd_of_dvd hxm)
        have hxl : x ∈ l := by rw [hl]; simp
        obtain ⟨m', rfl⟩ := hxm
        have hx0 : 0 < x.1 := Nat.pos_of_ne_zero fun h => hm0 (by rw [h]; exact Nat.zero_mul _)
        rw [Nat.mul_div_cancel_left _ hx0] at hf'
        have e3 : P * (x.1 * m') = P * x.1 * m' := (Nat.mul_assoc ..).symm
        rw [e3] at hn hM
        by_cases hm1 : m' = 1
        · rw [hm1, Nat.mul_one] at hn
          exact absurd (h3.symm.trans (cand_lt hn)) (by decide)
        · refine go_no k h4 hn hm1 ?_ (fun y hy => ho y (by rw [hl]; exact List.mem_append_right _ hy)) hf'
          refine Nat.lcm_dvd hM (ordOK_dvd (ho x hxl) (hn.ones_of ?_))
          exact Nat.dvd_trans (Nat.dvd_mul_left x.1 P) (Nat.dvd_mul_right _ m')
      · have hq := big_prime hm hm0 (by omega) (fun r hr hd => by
          rcases hf r hr hd with ⟨y, hy, rfl⟩ | h6
          · exact absurd ⟨y, hy, hd⟩ hx
          · exact h6)
        have h6 : 65536 ≤ m := by
          rcases hf m hq (Nat.dvd_refl m) with ⟨y, hy, e⟩ | h6
          · exact absurd ⟨y, hy, by rw [e]; exact Nat.dvd_refl m⟩ hx
          · exact h6
        have h7 : P < 65536 := by
          rcases Nat.lt_or_ge P 65536 with h | h
          · exact h
          · have := Nat.mul_le_mul h h6
            omega
        have e4 : Nat.ble 65536 P = false := by rw [← Bool.not_eq_true, Nat.ble_eq]; omega
        rw [e4, Bool.false_or] at h1
        exact big_no h1 hn hq h6
end Go.Proofs.Ytkfpibpoelcalaa.NT
