/- The contracts of package natural said of numbers: a slice value that reads as the number n in at most k digits. Plain consequences of the walks. -/
import Derived.Test.YthadkjekagfjfaaN9
namespace Go.Proofs.Ythadkjekagfjfaa.N
open Go.RowKit Go.Proofs.Ythadkjekagfjfaa.Dig Go.Proofs.YthadkjekagfjfaaW.PrintWords Go.Proofs.YthadkjekagfjfaaW.PrintLast Go.Proofs.YthadkjekagfjfaaW.PrintMore
set_option linter.unusedVariables false

/-- The slice value v reads as n, in at most k digits. -/
def Num (w : World) (v : Value) (n k : Nat) : Prop := ∃ l, Rd w v l ∧ nv l = n ∧ l.length ≤ k
theorem Num.below {w w' : World} {v : Value} {n k : Nat} (h : Num w v n k) (hb : Below w.heap.size w w') : Num w' v n k := by
  obtain ⟨l, a, b, c⟩ := h
  exact ⟨l, a.below hb, b, c⟩
theorem Num.alloc {w : World} {v : Value} {n k : Nat} (h : Num w v n k) (o : Obj) : Num (w.alloc o) v n k := h.below (below_alloc (Below.refl _ _) o)
theorem Num.drewN {w : World} {v : Value} {n k : Nat} (h : Num w v n k) (m : Nat) : Num (w.drewN m) v n k := h.below (pw_below_drewN (Below.refl _ _) m)
theorem Num.of_rd {w : World} {v : Value} {l : List Int} {k : Nat} (h : Rd w v l) (hk : l.length ≤ k) : Num w v (nv l) k := ⟨l, h, rfl, hk⟩
theorem Num.lt {w : World} {v : Value} {n k : Nat} (h : Num w v n k) : n < BB ^ k := by
  obtain ⟨l, a, rfl, c⟩ := h
  exact Nat.lt_of_lt_of_le (nv_lt a.ok) (Nat.pow_le_pow_right (by decide) c)
theorem Num.of_own {w : World} {B : Nat} {v : Value} {n k : Nat} (h : Own w B v (nd n)) (hk : n < BB ^ k) : Num w v n k := ⟨nd n, h.rd, nv_nd n, (nd_len k n).2 hk⟩
theorem Num.more {w : World} {v : Value} {n k k' : Nat} (h : Num w v n k) (hk : k ≤ k') : Num w v n k' := by
  obtain ⟨l, a, b, c⟩ := h
  exact ⟨l, a, b, Nat.le_trans c hk⟩
theorem Num.zero (w : World) : Num w (.slice none 0 0) 0 0 := ⟨[], Rd.nil w, rfl, Nat.le_refl _⟩

/-- A number of the call's own is handed back. -/
def MadeN (w : World) (n k : Nat) (e : Ending) (w' : World) : Prop := ∃ v, e = .returned v ∧ Own w' w.heap.size v (nd n) ∧ Num w' v n k ∧ Below w.heap.size w w'
theorem MadeN.of {w : World} {n k : Nat} {e : Ending} {w' : World} (hk : n < BB ^ k) (h : Made w n e w') : MadeN w n k e w' := by
  obtain ⟨v, he, ho, hb⟩ := h
  exact ⟨v, he, ho, Num.of_own ho hk, hb⟩

theorem pow_add_lt {n m i j : Nat} (h1 : n < BB ^ i) (h2 : m < BB ^ j) : n + m < BB ^ (max i j + 1) := by
  have a : BB ^ i ≤ BB ^ max i j := Nat.pow_le_pow_right (by decide) (Nat.le_max_left _ _)
  have b : BB ^ j ≤ BB ^ max i j := Nat.pow_le_pow_right (by decide) (Nat.le_max_right _ _)
  have c : BB ^ (max i j + 1) = BB ^ max i j * BB := Nat.pow_succ ..
  have d : BB ^ max i j * 2 ≤ BB ^ max i j * BB := Nat.mul_le_mul_left _ BB2
  omega
theorem pow_mul_lt {n m i j : Nat} (h1 : n < BB ^ i) (h2 : m < BB ^ j) : n * m < BB ^ (i + j) := by
  rw [Nat.pow_add]
  exact Nat.mul_lt_mul_of_lt_of_le h1 (Nat.le_of_lt h2) (Nat.lt_of_le_of_lt (Nat.zero_le _) h2)

section
variable {w : World} {v v1 v2 : Value} {n m i j : Nat}
theorem of_n (n : Nat) (h : n ≤ 18446744073709551615) (w : World) : Calls Try.prog 53 #[.int .u64 n] w (MadeN w n 2) :=
  (of_any n h w).mono fun _ _ hm => MadeN.of (Nat.lt_of_le_of_lt h (by decide)) hm
theorem add_n (h1 : Num w v1 n i) (h2 : Num w v2 m j) (hi : i ≤ 8796093022208) (hj : j ≤ 8796093022208) : Calls Try.prog 56 #[v1, v2] w (MadeN w (n + m) (max i j + 1)) := by
  have hlt := pow_add_lt h1.lt h2.lt
  obtain ⟨l1, a1, rfl, c1⟩ := h1
  obtain ⟨l2, a2, rfl, c2⟩ := h2
  exact (add_any a1 a2 (by omega) (by omega)).mono fun _ _ hm => MadeN.of hlt hm
theorem mul_n (h1 : Num w v1 n i) (h2 : Num w v2 m j) (hi : i ≤ 8796093022208) (hj : j ≤ 8796093022208) : Calls Try.prog 46 #[v1, v2] w (MadeN w (n * m) (i + j)) := by
  have hlt := pow_mul_lt h1.lt h2.lt
  obtain ⟨l1, a1, rfl, c1⟩ := h1
  obtain ⟨l2, a2, rfl, c2⟩ := h2
  exact (mul_any a1 a2 (by omega) (by omega)).mono fun _ _ hm => MadeN.of hlt hm
theorem cmp_n (h1 : Num w v1 n i) (h2 : Num w v2 m j) : Calls Try.prog 54 #[v1, v2] w fun e w' => e = .returned (.int .i64 (cmpv n m)) ∧ Below w.heap.size w w' := by
  obtain ⟨l1, a1, rfl, c1⟩ := h1
  obtain ⟨l2, a2, rfl, c2⟩ := h2
  exact (cmp_any a1 a2).mono fun _ _ hm => ⟨hm.1, hm.2.below⟩
theorem cmp_eq (h1 : Num w v1 n i) (h2 : Num w v2 m j) (he : n = m) : Calls Try.prog 54 #[v1, v2] w fun e w' => e = .returned (.int .i64 0) ∧ Below w.heap.size w w' := by
  rw [← cmpv_eq he]
  exact cmp_n h1 h2
theorem normal_n (h : Num w v n i) (hi : i ≤ 8796093022208) : Calls Try.prog 49 #[v] w (MadeN w n i) := by
  have hlt := h.lt
  obtain ⟨l, a, rfl, c⟩ := h
  exact (normal_any a (by omega)).mono fun _ _ hm => MadeN.of hlt hm
theorem isZero_n (h : Num w v n i) : Calls Try.prog 58 #[v] w fun e w' => e = .returned (.bool (isz n)) ∧ w = w' := by
  obtain ⟨l, a, rfl, c⟩ := h
  exact isZero_any a
theorem uint64_n (h : Num w v n i) : Calls Try.prog 52 #[v] w fun e w' => e = .returned (.tuple #[.int .u64 (u64v n : Nat), .bool (u64ok n)]) ∧ Below w.heap.size w w' := by
  obtain ⟨l, a, rfl, c⟩ := h
  exact (uint64_any a).mono fun _ _ hm => ⟨hm.1, hm.2.below⟩
theorem sub_n (h1 : Num w v1 n i) (h2 : Num w v2 m j) (hi : i ≤ 8796093022208) (hle : m ≤ n) : Calls Try.prog 57 #[v1, v2] w fun e w' => ∃ v, e = .returned (.tuple #[v, .bool true]) ∧ Own w' w.heap.size v (nd (n - m)) ∧ Num w' v (n - m) i ∧ Below w.heap.size w w' := by
  have hlt : n - m < BB ^ i := Nat.lt_of_le_of_lt (Nat.sub_le _ _) h1.lt
  obtain ⟨l1, a1, rfl, c1⟩ := h1
  obtain ⟨l2, a2, rfl, c2⟩ := h2
  refine (sub_any a1 a2 hle (by omega)).mono fun _ _ hm => ?_
  obtain ⟨v, he, ho, hb⟩ := hm
  exact ⟨v, he, ho, Num.of_own ho hlt, hb⟩
theorem sub_no (h1 : Num w v1 n i) (h2 : Num w v2 m j) (hlt : n < m) : Calls Try.prog 57 #[v1, v2] w fun e w' => e = .returned (.tuple #[.slice none 0 0, .bool false]) ∧ Below w.heap.size w w' := by
  obtain ⟨l1, a1, rfl, c1⟩ := h1
  obtain ⟨l2, a2, rfl, c2⟩ := h2
  exact (sub_less a1 a2 hlt).mono fun _ _ hm => ⟨hm.1, hm.2.below⟩
end
end Go.Proofs.Ythadkjekagfjfaa.N
