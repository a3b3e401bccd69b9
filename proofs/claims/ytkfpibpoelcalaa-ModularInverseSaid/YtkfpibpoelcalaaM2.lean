/- Plain facts about modular.Inverse and the reference's Gcd as numbers alone: the loop of Inverse ends with the greatest common divisor and a cofactor that is no greater than the modulus. Conditions: the modulus is at least 1 and below 2^32. -/
import Derived.Test.YtkfpibpoelcalaaM1
namespace Go.Proofs.Ytkfpibpoelcalaa.M
open Go.RowKit Go.Proofs.Ytkfpibpoelcalaa.B Go.Proofs.YtkfpibpoelcalaaW.PrintWords Go.Proofs.YtkfpibpoelcalaaW.PrintLast Go.Proofs.YtkfpibpoelcalaaW.PrintMore

theorem gcd_loop (b : Nat) : ∀ (k a : Nat), b < k → cylinderref07_Gcd.l0 k a b = some ((Nat.gcd a b : Nat) : Int) := by
  induction b using Nat.strongRecOn with
  | ind b ih =>
    intro k a hk
    obtain ⟨k, rfl⟩ : ∃ j, k = j + 1 := ⟨k - 1, by omega⟩
    simp only [cylinderref07_Gcd.l0]
    by_cases h0 : b = 0
    · subst h0
      rw [if_pos (by omega), Nat.gcd_zero_right]
    · have hlt := Nat.mod_lt a (by omega : b > 0)
      rw [if_neg (by omega), tmod_cast, ih (a % b) hlt k b (by omega), Nat.gcd_comm b, ← Nat.gcd_rec, Nat.gcd_comm]

/-- What Inverse hands back, g being the greatest common divisor. -/
def Inv (n a g : Nat) (res : Int × Int) : Prop :=
  (g = 1 → ∃ x : Nat, res = ((x : Int), 0) ∧ x < n ∧ a * x % n = 1 % n) ∧ (g ≠ 1 → res = (0, 5))

theorem tmod_low (u n : Int) (hn : 0 < n) : -n < Int.tmod u n ∧ Int.tmod u n < n := by
  rcases Int.le_total 0 u with h | h
  · rw [Int.tmod_eq_emod_of_nonneg h]
    have := Int.emod_nonneg u (by omega : n ≠ 0)
    have := Int.emod_lt_of_pos u hn
    omega
  · have e : Int.tmod u n = -Int.tmod (-u) n := by rw [Int.neg_tmod, Int.neg_neg]
    rw [e, Int.tmod_eq_emod_of_nonneg (by omega)]
    have := Int.emod_nonneg (-u) (by omega : n ≠ 0)
    have := Int.emod_lt_of_pos (-u) hn
    omega

theorem tmod_turn (u n : Int) (hn : 0 < n) : Int.tmod (Int.tmod u n + n) n = u % n := by
  have := tmod_low u n hn
  rw [Int.tmod_eq_emod_of_nonneg (by omega), Int.add_emod_right, Int.tmod_def, Int.sub_emod, Int.mul_emod_right]
  simp

theorem inv_end (n a r : Nat) (u : Int) (hn : 1 ≤ n) (hn2 : n ≤ 4294967295) (hc : (n : Int) ∣ a * u - r) :
    ∃ res, (if (r : Int) = 1 then (if (n : Int) = 0 then none else some ((Int.tmod (wrap64 (Int.tmod u n + n)) n) % 4294967296, (0 : Int))) else some (0, 5)) = some res ∧ Inv n a r res := by
  by_cases hr : r = 1
  · subst hr
    rw [if_pos (by omega), if_neg (by omega)]
    have ht := tmod_low u n (by omega)
    have hw : wrap64 (Int.tmod u n + n) = Int.tmod u n + n := by unfold wrap64; omega
    have hx0 := Int.emod_nonneg u (by omega : (n : Int) ≠ 0)
    have hx1 := Int.emod_lt_of_pos u (by omega : (0 : Int) < n)
    refine ⟨_, rfl, fun _ => ⟨(u % n).toNat, ?_, by omega, ?_⟩, fun h => absurd rfl h⟩
    · rw [hw, tmod_turn u n (by omega)]
      simp only [Prod.mk.injEq, and_true]
      omega
    · have h1 : ((a * (u % n).toNat % n : Nat) : Int) = ((1 % n : Nat) : Int) := by
        rw [Int.natCast_emod, Int.natCast_mul, Int.toNat_of_nonneg hx0, Int.mul_emod, Int.emod_emod_of_dvd _ (Int.dvd_refl _), ← Int.mul_emod, Int.natCast_emod]
        exact Int.emod_eq_emod_iff_emod_sub_eq_zero.2 (Int.emod_eq_zero_of_dvd hc)
      omega
  · rw [if_neg (by omega)]
    exact ⟨_, rfl, fun h => absurd h hr, fun _ => rfl⟩

theorem step_rest {r s q t n : Nat} (hd : s * q + t = r) (hrn : r ≤ n) (hn2 : n ≤ 4294967295) : wrap64 ((r : Int) - wrap64 ((q : Int) * s)) = (t : Int) := by
  have e : (q : Int) * s = ((s * q : Nat) : Int) := by rw [Int.natCast_mul, Int.mul_comm]
  rw [e]
  generalize s * q = p at *
  unfold wrap64
  omega

theorem step_cof {q U V n : Nat} {σ : Int} (hσ : σ = 1 ∨ σ = -1) (hV : U + q * V ≤ n) (hn2 : n ≤ 4294967295) : wrap64 (-(σ * U) - wrap64 ((q : Int) * (σ * V))) = -σ * ((U + q * V : Nat) : Int) := by
  have e : (q : Int) * (σ * V) = σ * ((q * V : Nat) : Int) := by rw [Int.natCast_mul, Int.mul_left_comm]
  rw [e]
  generalize q * V = p at *
  rcases hσ with rfl | rfl <;> unfold wrap64 <;> omega

theorem step_inv {r s q t U V n : Nat} (hd : s * q + t = r) (h : U * s + V * r = n) : V * t + (U + q * V) * s = n := by
  subst hd
  rw [Nat.add_mul, ← h, Nat.mul_add]
  have e : q * V * s = V * (s * q) := by rw [Nat.mul_comm q V, Nat.mul_assoc, Nat.mul_comm q s]
  rw [e]
  omega

theorem step_cong {r s q t U V : Nat} {a : Int} {σ : Int} (hd : s * q + t = r) : a * (-σ * ((U + q * V : Nat) : Int)) - (t : Int) = (a * (-(σ * U)) - r) - (q : Int) * (a * (σ * V) - s) := by
  subst hd
  simp only [Int.natCast_add, Int.natCast_mul, Int.neg_mul, Int.mul_neg, Int.mul_add, Int.mul_sub]
  have e1 : a * (σ * ((q : Int) * V)) = (q : Int) * (a * (σ * V)) := by rw [Int.mul_left_comm σ, Int.mul_left_comm a]
  rw [e1, Int.mul_comm (s : Int)]
  omega

theorem inv_loop (n a : Nat) (hn : 1 ≤ n) (hn2 : n ≤ 4294967295) (s : Nat) : ∀ (k r U V : Nat) (σ : Int), s < k → (σ = 1 ∨ σ = -1) → s < r → r ≤ n → U * s + V * r = n →
    (n : Int) ∣ a * (-(σ * U)) - r → (n : Int) ∣ a * (σ * V) - s →
    ∃ res, modular_Inverse.l0 k n r s (-(σ * U)) (σ * V) = some res ∧ Inv n a (Nat.gcd r s) res := by
  induction s using Nat.strongRecOn with
  | ind s ih =>
    intro k r U V σ hk hσ hsr hrn hinv hc1 hc2
    obtain ⟨k, rfl⟩ : ∃ j, k = j + 1 := ⟨k - 1, by omega⟩
    simp only [modular_Inverse.l0]
    by_cases h0 : s = 0
    · subst h0
      rw [if_pos (by omega), Nat.gcd_zero_right]
      exact inv_end n a r _ hn hn2 hc1
    · rw [if_neg (by omega)]
      have hlt := Nat.mod_lt r (by omega : s > 0)
      have hdm := Nat.div_add_mod r s
      have hg : Nat.gcd r s = Nat.gcd s (r % s) := by rw [Nat.gcd_comm r s, Nat.gcd_rec s r, Nat.gcd_comm]
      have hqr : r / s ≤ r := Nat.div_le_self r s
      have htd : Int.tdiv (r : Int) s = ((r / s : Nat) : Int) := rfl
      rw [htd, hg]
      clear htd hg
      generalize r / s = q at *
      generalize r % s = t at *
      have hd : wrap64 (q : Int) = (q : Int) := by unfold wrap64; omega
      have hinv' := step_inv hdm hinv
      have hV' : U + q * V ≤ n := by
        have h1 : U + q * V ≤ (U + q * V) * s := Nat.le_mul_of_pos_right _ (by omega)
        have h2 : (U + q * V) * s ≤ n := hinv' ▸ Nat.le_add_left _ _
        exact Nat.le_trans h1 h2
      rw [hd, step_rest hdm hrn hn2, step_cof hσ hV' hn2]
      have hv0 : σ * (V : Int) = -(-σ * V) := by rw [Int.neg_mul, Int.neg_neg]
      rw [hv0]
      refine ih t hlt k s V (U + q * V) (-σ) (by omega) (by omega) hlt (by omega) hinv' ?_ ?_
      · rw [← hv0]; exact hc2
      · rw [step_cong hdm]
        exact Int.dvd_sub hc1 (Int.dvd_trans hc2 (Int.dvd_mul_left _ _))

theorem inverse_eq (a m k : Nat) (ha : a ≤ 4294967295) (hm : m ≤ 4294967295) (hk : 4294967296 ≤ k) : ∃ res, modular_Inverse.f k a m = some res ∧ Inv (md m) a (Nat.gcd (a % md m) (md m)) res := by
  have hp := md_pos m
  have hl := md_le hm (by decide : 1 ≤ 4294967295)
  have hlt := Nat.mod_lt a hp
  have h1 : wrap64 ((md m : Nat) : Int) = ((md m : Nat) : Int) := by unfold wrap64; omega
  have h2 : wrap64 (a : Int) = (a : Int) := by unfold wrap64; omega
  unfold modular_Inverse.f
  rw [wide_eq m hm, Option.bind_some, h1, h2, if_neg (by omega), tmod_cast, Nat.gcd_comm]
  generalize hn : md m = n at *
  have := inv_loop n a (by omega) hl (a % n) k n 0 1 1 (by omega) (.inl rfl) hlt (Nat.le_refl n) (by simp) (by simp)
    (by
      rw [Int.one_mul, Int.natCast_one, Int.mul_one, Int.natCast_emod, Int.emod_def]
      exact ⟨(a : Int) / n, by omega⟩)
  simpa using this
end Go.Proofs.Ytkfpibpoelcalaa.M
