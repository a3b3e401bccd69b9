/- natural.Shr as a walk: the digits of a / 2^n, rounded down, in a new slice, n negative counting as 0; nothing for 0. Condition: the slice reads as fewer than 2^43 digits; n is an int64. -/
import Derived.Test.YthadkjekagfjfaaN10
namespace Go.Proofs.Ythadkjekagfjfaa.N
open Go.RowKit Go.Proofs.Ythadkjekagfjfaa.Dig Go.Proofs.YthadkjekagfjfaaW.PrintWords Go.Proofs.YthadkjekagfjfaaW.PrintLast Go.Proofs.YthadkjekagfjfaaW.PrintMore
attribute [local go_sem] max2_int min2_int
set_option linter.unusedVariables false

/-- The digit that Shr stores. -/
def srd (s : Nat) (x y : Int) : Int := ((x.toNat / 2 ^ s + y.toNat % 2 ^ s * 2 ^ (32 - s) : Nat) : Int)
/-- What is known after i digits have been shifted down by s places. -/
def SR (o0 o : List Int) (s i : Nat) : Prop :=
  NOk o ∧ o.length = o0.length ∧ nv (o.take i) * 2 ^ s + (o0.getD 0 0).toNat % 2 ^ s = nv (o0.take i) + (o0.getD i 0).toNat % 2 ^ s * BB ^ i ∧ ∀ t, i ≤ t → o.getD t 0 = o0.getD t 0

theorem sr_digit {x y s : Nat} (hs : s ≤ 32) (hx : x < 4294967296) : x / 2 ^ s + y % 2 ^ s * 2 ^ (32 - s) < 4294967296 ∧ (x / 2 ^ s + y % 2 ^ s * 2 ^ (32 - s)) * 2 ^ s + x % 2 ^ s = x + y % 2 ^ s * 4294967296 ∧ x / 2 ^ s < 2 ^ (32 - s) := by
  have e : (4294967296 : Nat) = 2 ^ (32 - s) * 2 ^ s := by rw [← Nat.pow_add, Nat.sub_add_cancel hs]
  have hp : 0 < 2 ^ s := Nat.pow_pos (by decide)
  have h1 : x / 2 ^ s < 2 ^ (32 - s) := by rw [Nat.div_lt_iff_lt_mul hp, ← e]; exact hx
  have h2 := Nat.mod_lt y hp
  have h3 : (y % 2 ^ s + 1) * 2 ^ (32 - s) ≤ 2 ^ s * 2 ^ (32 - s) := Nat.mul_le_mul_right _ h2
  rw [Nat.mul_comm (2 ^ s), ← e, Nat.add_mul] at h3
  refine ⟨by omega, ?_, h1⟩
  have h4 := Nat.div_add_mod x (2 ^ s)
  rw [Nat.add_mul, Nat.mul_assoc, ← e, Nat.mul_comm (x / 2 ^ s)]
  omega

theorem sr_shl {y s : Nat} (hs : s ≤ 32) (hs0 : 0 < s) : y * 2 ^ (32 - s) % 4294967296 = y % 2 ^ s * 2 ^ (32 - s) := by
  have e : (4294967296 : Nat) = 2 ^ s * 2 ^ (32 - s) := by rw [← Nat.pow_add, Nat.add_sub_cancel' hs]
  rw [e, Nat.mul_mod_mul_right]

theorem sr_bits {x y s : Nat} (hs : s ≤ 32) (hs0 : 0 < s) (hx : x < 4294967296) : bits .or .u32 ((x : Int) / 2 ^ s) ((y : Int) * 2 ^ (32 - s) % 4294967296) = srd s x y := by
  obtain ⟨d1, d2, d3⟩ := sr_digit (x := x) (y := y) hs hx
  have h1 : x / 2 ^ s < 4294967296 := Nat.lt_of_le_of_lt (Nat.div_le_self _ _) hx
  have e := u32_or_nat (x / 2 ^ s) (y * 2 ^ (32 - s) % 4294967296) h1 (Nat.mod_lt _ (by decide))
  rw [Nat.or_comm, nat_join (32 - s) _ _ (by rw [sr_shl hs hs0, Nat.mul_mod_left]) d3, sr_shl hs hs0, Nat.add_comm] at e
  have e5 : (y : Int) * 2 ^ (32 - s) % 4294967296 = ((y % 2 ^ s * 2 ^ (32 - s) : Nat) : Int) := by
    rw [← sr_shl hs hs0, Int.natCast_emod, Int.natCast_mul, Int.natCast_pow]; rfl
  have e6 : (x : Int) / 2 ^ s = ((x / 2 ^ s : Nat) : Int) := by rw [Int.natCast_ediv, Int.natCast_pow]; rfl
  unfold srd
  rw [Int.toNat_natCast, Int.toNat_natCast, ← e, e5, e6]

theorem sr_bits0 {x s : Nat} (hx : x < 4294967296) : bits .or .u32 ((x : Int) / 2 ^ s) 0 = srd s x 0 := by
  have h1 : x / 2 ^ s < 4294967296 := Nat.lt_of_le_of_lt (Nat.div_le_self _ _) hx
  have e := u32_or_nat (x / 2 ^ s) 0 h1 (by decide)
  unfold srd
  rw [Int.toNat_natCast]
  simp only [Int.toNat_zero, Nat.zero_mod, Nat.zero_mul, Nat.add_zero]
  rw [Nat.or_zero] at e
  rw [← e]
  congr 1

theorem SR.start {o : List Int} {s : Nat} (ho : NOk o) : SR o o s 0 := ⟨ho, rfl, by simp [nv], fun _ _ => rfl⟩
theorem SR.step {o0 o : List Int} {s i : Nat} {x y : Int} (h : SR o0 o s i) (h0 : NOk o0) (hs : s ≤ 32) (hi : i < o0.length) (hx : x = o.getD i 0) (hy : y = o.getD (i + 1) 0) : SR o0 (o.set i (srd s x y)) s (i + 1) := by
  obtain ⟨ho, hl, hv, hz⟩ := h
  have hxr := ho.at_ i
  have hyr := ho.at_ (i + 1)
  rw [← hx] at hxr
  rw [← hy] at hyr
  obtain ⟨x, rfl⟩ := Int.eq_ofNat_of_zero_le hxr.1
  obtain ⟨y, rfl⟩ := Int.eq_ofNat_of_zero_le hyr.1
  obtain ⟨d1, d2, d3⟩ := sr_digit (x := x) (y := y) hs (by omega)
  refine ⟨ho.set_ i (by unfold srd; exact Int.natCast_nonneg _) (by unfold srd; simp only [Int.toNat_natCast]; exact Int.ofNat_lt.2 d1), by simpa using hl, ?_, fun t ht => ?_⟩
  · rw [nv_set_take _ _ _ (by omega), nv_take_any o0, ← hz _ (by omega : i ≤ i + 1), ← hy]
    rw [← hz _ (Nat.le_refl _), ← hx] at hv ⊢
    unfold srd
    simp only [Int.toNat_natCast] at *
    generalize x / 2 ^ s + y % 2 ^ s * 2 ^ (32 - s) = q at *
    rw [Nat.add_mul, Nat.mul_assoc, Nat.pow_succ]
    have h5 : BB ^ i * (q * 2 ^ s + x % 2 ^ s) = BB ^ i * (x + y % 2 ^ s * 4294967296) := by rw [d2]
    rw [Nat.mul_add, Nat.mul_add] at h5
    have e1 : y % 2 ^ s * (BB ^ i * BB) = BB ^ i * (y % 2 ^ s * 4294967296) := by rw [Nat.mul_left_comm]; rfl
    have e2 : x % 2 ^ s * BB ^ i = BB ^ i * (x % 2 ^ s) := Nat.mul_comm _ _
    rw [e1]
    rw [e2] at hv
    omega
  · rw [List.getD_eq_getElem?_getD, List.getElem?_set_ne (by omega), ← List.getD_eq_getElem?_getD]
    exact hz t (by omega)
theorem SR.stop {o0 o : List Int} {s : Nat} (h : SR o0 o s o0.length) : nv o = nv o0 / 2 ^ s := by
  obtain ⟨ho, hl, hv, _⟩ := h
  rw [List.take_length, List.take_of_length_le (by omega), List.getD_eq_getElem?_getD (i := o0.length), List.getElem?_eq_none (Nat.le_refl _)] at hv
  have hp : 0 < 2 ^ s := Nat.pow_pos (by decide)
  have hr := Nat.mod_lt (o0.getD 0 0).toNat hp
  simp only [Option.getD_none, Int.toNat_zero, Nat.zero_mod, Nat.zero_mul, Nat.add_zero] at hv
  rw [← hv, Nat.add_comm, Nat.add_mul_div_right _ _ hp, Nat.div_eq_of_lt hr, Nat.zero_add]

theorem nv_drop_div (l : List Int) (h : NOk l) (c : Nat) (hc : c ≤ l.length) : nv (l.drop c) = nv l / BB ^ c := by
  have h1 := val_split BB l c hc
  have h2 := val_lt (h.take c)
  rw [List.length_take, Nat.min_eq_left hc] at h2
  unfold nv
  rw [h1, Nat.add_mul_div_left _ _ (Nat.pow_pos (by decide)), Nat.div_eq_of_lt h2, Nat.zero_add]

/-- A row of digits of the call's own, in the block g from its start. -/
def Row (w : World) (B g m cap : Nat) (o : List Int) : Prop := w.ownsRow B 59 1 (.slice (some ⟨g, 0, none⟩) m cap) m (encs (Value.int .u32) o)
section
variable {w : World} {B g m cap : Nat} {o : List Int}
theorem Row.cell (h : Row w B g m cap o) (hl : o.length = m) (i : Nat) (hi : i < m) : w.cell? ⟨g, i, none⟩ = some (.int .u32 (o.getD i 0)) := by
  rw [World.ownsRow.cellAt h i (by omega)]
  simp [encs, List.getD_eq_getElem?_getD, List.getElem?_eq_getElem (by omega : i < o.length)]
theorem Row.frozen (h : Row w B g m cap o) (i : Nat) : w.frozen? ⟨g, i, none⟩ = false := World.ownsRow.frozenAt h i
theorem Row.set_ (h : Row w B g m cap o) (i : Nat) (x : Int) : Row (w.setCell ⟨g, i, none⟩ (.int .u32 x)) B g m cap (o.set i x) := by
  have h2 := (World.ownsRow.stored h i (.int .u32 x)).1
  unfold Row encs
  rw [List.map_set]
  exact h2
theorem Row.own (h : Row w B g m cap o) (hl : o.length = m) (ho : NOk o) : Own w B (.slice (some ⟨g, 0, none⟩) m cap) o := by
  subst hl
  exact own_of_row ho h
end

/-- The number of places. -/
def shr0 (n : Int) : Nat := n.toNat

end Go.Proofs.Ythadkjekagfjfaa.N
