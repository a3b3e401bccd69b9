/- cylinderref01.DivMod as a walk: quotient and remainder of two numbers as bits. Conditions: the slices of ints read as the bits of numbers, fewer than 2^33 each; the divisor is not 0. -/
import Derived.Test.YthadkjekagfjfaaR6
namespace Go.Proofs.Ythadkjekagfjfaa.N
open Go.RowKit Go.Proofs.Ythadkjekagfjfaa.Dig Go.Proofs.YthadkjekagfjfaaW.PrintWords Go.Proofs.YthadkjekagfjfaaW.PrintLast Go.Proofs.YthadkjekagfjfaaW.PrintMore
set_option linter.unusedVariables false

/-- The words after k of them have been doubled, carry c pending. -/
def DD (r0 r : List Int) (b k c : Nat) : Prop :=
  Ok WW r ∧ r.length = r0.length ∧ val WW (r.take k) + c * WW ^ k = 2 * val WW (r0.take k) + b ∧ ∀ j, k ≤ j → r.getD j 0 = r0.getD j 0
theorem set_take_val (b : Nat) (l : List Int) (k : Nat) (d : Int) (hk : k < l.length) : val b ((l.set k d).take (k + 1)) = val b (l.take k) + b ^ k * d.toNat := by
  rw [val_take_succ b _ k (by simpa using hk), List.take_set_of_le (Nat.le_refl _)]
  simp [hk]
theorem getD_set_ne (l : List Int) (i j : Nat) (d : Int) (h : i ≠ j) : (l.set i d).getD j 0 = l.getD j 0 := by
  rw [List.getD_eq_getElem?_getD, List.getElem?_set_ne h, ← List.getD_eq_getElem?_getD]
theorem DD.start {r : List Int} (b : Nat) (h : Ok WW r) : DD r r b 0 b := ⟨h, rfl, by simp, fun _ _ => rfl⟩
theorem DD.step {r0 r : List Int} {b k c x : Nat} (h : DD r0 r b k c) (hk : k < r0.length) (hx : (x : Int) = r.getD k 0) : DD r0 (r.set k (((2 * x + c) % 32768 : Nat) : Int)) b (k + 1) ((2 * x + c) / 32768) := by
  obtain ⟨ho, hl, hv, hz⟩ := h
  refine ⟨Ok.set_ ho _ (Int.natCast_nonneg _) (Int.ofNat_lt.2 (Nat.mod_lt _ (by decide))), by rw [List.length_set]; exact hl, ?_, fun j hj => ?_⟩
  · rw [set_take_val _ _ _ _ (by omega), val_take_succ _ r0 k hk, ← hz k (Nat.le_refl _), ← hx, Int.toNat_natCast, Int.toNat_natCast]
    have e1 : (2 * x + c) / 32768 * WW ^ (k + 1) = WW ^ k * (32768 * ((2 * x + c) / 32768)) := by
      rw [Nat.pow_succ, Nat.mul_comm _ (WW ^ k * WW), Nat.mul_assoc]; rfl
    have h3 : WW ^ k * ((2 * x + c) % 32768 + 32768 * ((2 * x + c) / 32768)) = WW ^ k * (2 * x + c) := by rw [Nat.mod_add_div]
    rw [e1]
    have h4 : WW ^ k * (2 * x + c) = 2 * (WW ^ k * x) + WW ^ k * c := by rw [Nat.mul_add, Nat.mul_left_comm]
    rw [Nat.mul_add, h4] at h3
    rw [Nat.mul_comm c] at hv
    omega
  · rw [getD_set_ne _ _ _ _ (by omega)]
    exact hz j (by omega)
theorem DD.stop {r0 r : List Int} {b c : Nat} (h : DD r0 r b r0.length c) (hlt : 2 * val WW r0 + b < WW ^ r0.length) : val WW r = 2 * val WW r0 + b := by
  obtain ⟨ho, hl, hv, _⟩ := h
  rw [List.take_length, List.take_of_length_le (by omega)] at hv
  have hp : 0 < WW ^ r0.length := Nat.pow_pos (by decide)
  rcases Nat.eq_zero_or_pos c with rfl | hc
  · omega
  · have : 1 * WW ^ r0.length ≤ c * WW ^ r0.length := Nat.mul_le_mul_right _ hc
    omega

/-- The words after j of them have been subtracted, borrow w pending. -/
def DS (r0 d r : List Int) (j w : Nat) : Prop :=
  Ok WW r ∧ r.length = r0.length ∧ val WW (r.take j) + val WW (d.take j) = val WW (r0.take j) + w * WW ^ j ∧ ∀ i, j ≤ i → r.getD i 0 = r0.getD i 0
theorem DS.start {r : List Int} (d : List Int) (h : Ok WW r) : DS r d r 0 0 := ⟨h, rfl, by simp, fun _ _ => rfl⟩
theorem DS.step {r0 d r : List Int} {j w w' x y z : Nat} (h : DS r0 d r j w) (hj : j < r0.length) (hd : d.length = r0.length) (hx : (x : Int) = r.getD j 0) (hy : (y : Int) = d.getD j 0)
    (hz : z + y + w = x + w' * 32768) (hzl : z < 32768) : DS r0 d (r.set j (z : Int)) (j + 1) w' := by
  obtain ⟨ho, hl, hv, hr⟩ := h
  refine ⟨Ok.set_ ho _ (Int.natCast_nonneg _) (Int.ofNat_lt.2 hzl), by rw [List.length_set]; exact hl, ?_, fun i hi => ?_⟩
  · rw [set_take_val _ _ _ _ (by omega), val_take_succ _ r0 j hj, val_take_succ _ d j (by omega), ← hr j (Nat.le_refl _), ← hx, ← hy, Int.toNat_natCast, Int.toNat_natCast, Int.toNat_natCast]
    have e1 : w' * WW ^ (j + 1) = WW ^ j * (w' * 32768) := by rw [Nat.pow_succ, Nat.mul_comm, Nat.mul_assoc, Nat.mul_comm WW]; rfl
    have h3 : WW ^ j * (z + y + w) = WW ^ j * (x + w' * 32768) := by rw [hz]
    rw [e1]
    rw [Nat.mul_add, Nat.mul_add, Nat.mul_add] at h3
    rw [Nat.mul_comm w] at hv
    omega
  · rw [getD_set_ne _ _ _ _ (by omega)]
    exact hr i (by omega)
theorem DS.stop {r0 d r : List Int} {w : Nat} (h : DS r0 d r r0.length w) (hd : d.length = r0.length) (hle : val WW d ≤ val WW r0) : val WW r = val WW r0 - val WW d := by
  obtain ⟨ho, hl, hv, _⟩ := h
  rw [List.take_length, List.take_of_length_le (by omega), List.take_of_length_le (by omega)] at hv
  have hlt := val_lt ho
  rw [hl] at hlt
  rcases Nat.eq_zero_or_pos w with rfl | hw
  · omega
  · have : 1 * WW ^ r0.length ≤ w * WW ^ r0.length := Nat.mul_le_mul_right _ hw
    omega

theorem drop_eq_of_getD {l m : List Int} (hl : l.length = m.length) (k : Nat) (h : ∀ j, k ≤ j → l.getD j 0 = m.getD j 0) : l.drop k = m.drop k := by
  apply List.ext_getElem (by simp [hl])
  intro i h1 h2
  simp only [List.length_drop] at h1 h2
  have := h (k + i) (by omega)
  simpa [List.getD_eq_getElem?_getD, List.getElem?_eq_getElem (by omega : k + i < l.length), List.getElem?_eq_getElem (by omega : k + i < m.length)] using this
/-- Two lists of words that are alike above k are in the order of their words at k. -/
theorem cmp_at {r d : List Int} (hr : Ok WW r) (hd : Ok WW d) (hl : r.length = d.length) {k : Nat} (hk : k < r.length) (h : ∀ j, k < j → r.getD j 0 = d.getD j 0) {x y : Nat} (hx : (x : Int) = r.getD k 0) (hy : (y : Int) = d.getD k 0) :
    (x < y → val WW r < val WW d) ∧ (y < x → val WW d < val WW r) ∧ (k = 0 → x = y → val WW r = val WW d) := by
  have e := drop_eq_of_getD hl (k + 1) (fun j hj => h j hj)
  have s1 := val_split WW r (k + 1) (by omega)
  have s2 := val_split WW d (k + 1) (by omega)
  rw [val_take_succ _ _ _ hk, ← hx, Int.toNat_natCast] at s1
  rw [val_take_succ _ _ _ (by omega), ← hy, Int.toNat_natCast, ← e] at s2
  have l1 := val_lt (hr.take k)
  have l2 := val_lt (hd.take k)
  rw [List.length_take, Nat.min_eq_left (by omega)] at l1 l2
  have key : ∀ {p q : Nat}, p < q → WW ^ k * p + WW ^ k ≤ WW ^ k * q := fun {p q} hpq => by
    have := Nat.mul_le_mul_left (WW ^ k) hpq
    rwa [Nat.mul_succ] at this
  refine ⟨fun hxy => ?_, fun hxy => ?_, fun hk0 hxy => ?_⟩
  · have := key hxy; omega
  · have := key hxy; omega
  · subst hk0 hxy
    simp at s1 s2
    omega

/-- What is known of quotient and remainder when the bits from i on have been worked in. -/
theorem div_bit (N D i : Nat) (hD : 0 < D) : N / 2 ^ i = 2 * (N / 2 ^ (i + 1)) + N / 2 ^ i % 2 := by
  rw [Nat.pow_succ, ← Nat.div_div_eq_div_mul]; omega
theorem div_step (N D i : Nat) (hD : 0 < D) : (D ≤ 2 * (N / 2 ^ (i + 1) % D) + N / 2 ^ i % 2 → N / 2 ^ i % D = 2 * (N / 2 ^ (i + 1) % D) + N / 2 ^ i % 2 - D ∧ N / D / 2 ^ i % 2 = 1) ∧
    (2 * (N / 2 ^ (i + 1) % D) + N / 2 ^ i % 2 < D → N / 2 ^ i % D = 2 * (N / 2 ^ (i + 1) % D) + N / 2 ^ i % 2 ∧ N / D / 2 ^ i % 2 = 0) := by
  have h1 := div_bit N D i hD
  have h2 := Nat.div_add_mod (N / 2 ^ (i + 1)) D
  have h3 := Nat.mod_lt (N / 2 ^ (i + 1)) hD
  have e : N / D / 2 ^ i = N / 2 ^ i / D := by rw [Nat.div_div_eq_div_mul, Nat.div_div_eq_div_mul, Nat.mul_comm]
  rw [e]
  have hb : N / 2 ^ i % 2 < 2 := Nat.mod_lt _ (by decide)
  generalize N / 2 ^ i % 2 = b at *
  generalize N / 2 ^ (i + 1) % D = R at *
  generalize N / 2 ^ (i + 1) / D = Q at *
  rw [← h2] at h1
  have h4 : N / 2 ^ i = (2 * R + b) + D * (2 * Q) := by rw [h1, Nat.mul_add, Nat.mul_left_comm]; omega
  rw [h4, Nat.add_mul_mod_self_left, Nat.add_mul_div_left _ _ hD]
  refine ⟨fun h => ?_, fun h => ?_⟩
  · have e5 : 2 * R + b = (2 * R + b - D) + D * 1 := by omega
    rw [e5, Nat.add_mul_mod_self_left, Nat.add_mul_div_left _ _ hD, Nat.mod_eq_of_lt (by omega), Nat.div_eq_of_lt (by omega)]
    omega
  · rw [Nat.mod_eq_of_lt h, Nat.div_eq_of_lt h]
    omega

/-- The bits of the quotient from i on are known, the others are 0. -/
def QI (q : List Int) (k Q i : Nat) : Prop := q.length = k ∧ (∀ j, i ≤ j → q.getD j 0 = ((Q / 2 ^ j % 2 : Nat) : Int)) ∧ ∀ j, j < i → q.getD j 0 = 0
theorem QI.one {q : List Int} {k Q i : Nat} (h : QI q k Q (i + 1)) (hi : i < k) (hb : Q / 2 ^ i % 2 = 1) : QI (q.set i 1) k Q i := by
  obtain ⟨hl, h1, h2⟩ := h
  refine ⟨by rw [List.length_set]; exact hl, fun j hj => ?_, fun j hj => ?_⟩
  · rcases Nat.eq_or_lt_of_le hj with rfl | e
    · rw [hb, List.getD_eq_getElem?_getD, List.getElem?_set_self (by omega)]; rfl
    · rw [getD_set_ne _ _ _ _ (by omega)]; exact h1 j e
  · rw [getD_set_ne _ _ _ _ (by omega)]; exact h2 j (by omega)
theorem QI.zero {q : List Int} {k Q i : Nat} (h : QI q k Q (i + 1)) (hb : Q / 2 ^ i % 2 = 0) : QI q k Q i := by
  obtain ⟨hl, h1, h2⟩ := h
  refine ⟨hl, fun j hj => ?_, fun j hj => h2 j (by omega)⟩
  rcases Nat.eq_or_lt_of_le hj with rfl | e
  · rw [hb]; exact h2 i (by omega)
  · exact h1 j e
theorem QI.start (k Q : Nat) (h : Q < 2 ^ k) : QI (List.replicate k 0) k Q k := by
  refine ⟨List.length_replicate, fun j hj => ?_, fun j hj => ?_⟩
  · rw [Nat.div_eq_of_lt (Nat.lt_of_lt_of_le h (Nat.pow_le_pow_right (by decide) hj)), List.getD_eq_getElem?_getD, List.getElem?_eq_none (by simp; omega)]; rfl
  · rw [List.getD_eq_getElem?_getD, List.getElem?_replicate]; split <;> rfl
theorem QI.stop {q : List Int} {k Q : Nat} (h : QI q k Q 0) (hQ : Q < 2 ^ k) : q = lo 2 Q k := by
  obtain ⟨hl, h1, _⟩ := h
  apply List.ext_getElem (by rw [lo_len, hl])
  intro j a b
  have e := h1 j (Nat.zero_le _)
  rw [← lo_at 2 Q two2 k j (by omega)] at e
  simpa [List.getD_eq_getElem?_getD, List.getElem?_eq_getElem a, List.getElem?_eq_getElem b] using e
end Go.Proofs.Ythadkjekagfjfaa.N
