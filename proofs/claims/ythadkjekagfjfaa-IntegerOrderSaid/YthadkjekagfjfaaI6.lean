/- The contracts of packages integer and cylinderref02 as a law's walk uses them: results are named, equations between integers are kept apart. Plain consequences of the walks. -/
import Derived.Test.YthadkjekagfjfaaI5
namespace Go.Proofs.Ythadkjekagfjfaa.N
open Go.RowKit Go.Proofs.Ythadkjekagfjfaa.Dig Go.Proofs.YthadkjekagfjfaaW.PrintWords Go.Proofs.YthadkjekagfjfaaW.PrintLast Go.Proofs.YthadkjekagfjfaaW.PrintMore
set_option linter.unusedVariables false

/-- A sign and a slice read as the integer x, in at most k digits. -/
def ZI (w : World) (b : Bool) (s : Value) (x : Int) (k : Nat) : Prop := sg b x.natAbs = x ∧ Num w s x.natAbs k
/-- The same in canonical form. -/
def ZC (w : World) (b : Bool) (s : Value) (x : Int) (k : Nat) : Prop := b = zneg x ∧ Num w s x.natAbs k ∧ Rd w s (nd x.natAbs)
/-- A sign and bits read as the reference's integer x. -/
def ZBI (w : World) (p : Int) (u : Value) (x : Int) (K : Nat) : Prop := p = sgn x ∧ BN w u x.natAbs K
section
variable {w w' : World} {b : Bool} {s u : Value} {x p : Int} {k K : Nat}
theorem ZI.below (h : ZI w b s x k) (hb : Below w.heap.size w w') : ZI w' b s x k := ⟨h.1, h.2.below hb⟩
theorem ZI.alloc (h : ZI w b s x k) (o : Obj) : ZI (w.alloc o) b s x k := ⟨h.1, h.2.alloc o⟩
theorem ZI.drewN (h : ZI w b s x k) (n : Nat) : ZI (w.drewN n) b s x k := ⟨h.1, h.2.drewN n⟩
theorem ZI.more {k' : Nat} (h : ZI w b s x k) (hk : k ≤ k') : ZI w b s x k' := ⟨h.1, h.2.more hk⟩
theorem ZI.mk {n : Nat} (b : Bool) (h : Num w s n k) : ZI w b s (sg b n) k := ⟨by rw [sg_abs], by rw [sg_abs]; exact h⟩
theorem ZC.below (h : ZC w b s x k) (hb : Below w.heap.size w w') : ZC w' b s x k := ⟨h.1, h.2.1.below hb, h.2.2.below hb⟩
theorem ZC.alloc (h : ZC w b s x k) (o : Obj) : ZC (w.alloc o) b s x k := ⟨h.1, h.2.1.alloc o, h.2.2.alloc o⟩
theorem ZC.drewN (h : ZC w b s x k) (n : Nat) : ZC (w.drewN n) b s x k := ⟨h.1, h.2.1.drewN n, h.2.2.drewN n⟩
theorem ZC.zi (h : ZC w b s x k) : ZI w b s x k := ⟨by rw [h.1, sg_z], h.2.1⟩
theorem ZBI.below (h : ZBI w p u x K) (hb : Below w.heap.size w w') : ZBI w' p u x K := ⟨h.1, h.2.below hb⟩
theorem ZBI.alloc (h : ZBI w p u x K) (o : Obj) : ZBI (w.alloc o) p u x K := ⟨h.1, h.2.alloc o⟩
theorem ZBI.drewN (h : ZBI w p u x K) (n : Nat) : ZBI (w.drewN n) p u x K := ⟨h.1, h.2.drewN n⟩
end
def MadeI (w : World) (x : Int) (k : Nat) (e : Ending) (w' : World) : Prop := ∃ b A m c, e = .returned (.agg #[.bool b, .slice A m c]) ∧ ZC w' b (.slice A m c) x k ∧ Below w.heap.size w w'
def MadeR (w : World) (x : Int) (K : Nat) (e : Ending) (w' : World) : Prop := ∃ p A m c, e = .returned (.agg #[.int .i64 p, .slice A m c]) ∧ ZBI w' p (.slice A m c) x K ∧ Below w.heap.size w w'
theorem MadeZ.i {w w' : World} {x : Int} {k : Nat} {e : Ending} (h : MadeZ w x k e w') : MadeI w x k e w' := by
  obtain ⟨s, rfl, ho, hn, hb⟩ := h
  obtain ⟨A, c, rfl⟩ := ho.shp
  exact ⟨_, _, _, _, rfl, ⟨rfl, hn, ho.rd⟩, hb⟩
theorem MadeZB.r {w w' : World} {x : Int} {K : Nat} {e : Ending} (h : MadeZB w x K e w') : MadeR w x K e w' := by
  obtain ⟨u, rfl, hn, hb⟩ := h
  obtain ⟨A, m, c, rfl⟩ := hn.slc
  exact ⟨_, _, _, _, rfl, ⟨rfl, hn⟩, hb⟩
theorem add_as {w : World} {b b' : Bool} {s s' : Value} {x y z : Int} {i j : Nat} (hx : ZI w b s x i) (hy : ZI w b' s' y j) (hi : i ≤ 8796093022208) (hj : j ≤ 8796093022208) (hz : Hid (z = x + y)) :
    Calls Try.prog 29 #[.agg #[.bool b, s], .agg #[.bool b', s']] w (MadeI w z (max i j + 1)) := by
  have h := add_z b b' hx.2 hy.2 hi hj
  rw [hx.1, hy.1, ← hz.out] at h
  exact h.mono fun _ _ hm => hm.i
theorem sub_as {w : World} {b b' : Bool} {s s' : Value} {x y z : Int} {i j : Nat} (hx : ZI w b s x i) (hy : ZI w b' s' y j) (hi : i ≤ 8796093022208) (hj : j ≤ 8796093022208) (hz : Hid (z = x - y)) :
    Calls Try.prog 31 #[.agg #[.bool b, s], .agg #[.bool b', s']] w (MadeI w z (max i j + 1)) := by
  have h := sub_z b b' hx.2 hy.2 hi hj
  rw [hx.1, hy.1, ← hz.out] at h
  exact h.mono fun _ _ hm => hm.i
theorem mul_as {w : World} {b b' : Bool} {s s' : Value} {x y z : Int} {i j : Nat} (hx : ZI w b s x i) (hy : ZI w b' s' y j) (hi : i ≤ 8796093022208) (hj : j ≤ 8796093022208) (hz : Hid (z = x * y)) :
    Calls Try.prog 17 #[.agg #[.bool b, s], .agg #[.bool b', s']] w (MadeI w z (i + j)) := by
  have h := mul_z b b' hx.2 hy.2 hi hj
  rw [hx.1, hy.1, ← hz.out] at h
  exact h.mono fun _ _ hm => hm.i
theorem normal_as {w : World} {b : Bool} {s : Value} {x z : Int} {i : Nat} (hx : ZI w b s x i) (hi : i ≤ 8796093022208) (hz : Hid (z = x)) :
    Calls Try.prog 21 #[.agg #[.bool b, s]] w (MadeI w z i) := by
  have h := normal_z b hx.2 hi
  rw [hx.1, ← hz.out] at h
  exact h.mono fun _ _ hm => hm.i
theorem neg_as {w : World} {b : Bool} {s : Value} {x z : Int} {i : Nat} (hx : ZI w b s x i) (hi : i ≤ 8796093022208) (hz : Hid (z = -x)) :
    Calls Try.prog 35 #[.agg #[.bool b, s]] w (MadeI w z i) := by
  have h := neg_z b hx.2 hi
  have e : sg (!b) x.natAbs = z := by rw [hz.out]; have := hx.1; cases b <;> simp [sg] at * <;> omega
  rw [e] at h
  exact h.mono fun _ _ hm => hm.i
theorem abs_as {w : World} {b : Bool} {s : Value} {x z : Int} {i : Nat} (hx : ZI w b s x i) (hi : i ≤ 8796093022208) (hz : Hid (z = (x.natAbs : Int))) :
    Calls Try.prog 36 #[.agg #[.bool b, s]] w (MadeI w z i) := by
  have h := abs_z b hx.2 hi
  rw [show sg false x.natAbs = z from hz.out.symm] at h
  exact h.mono fun _ _ hm => hm.i
theorem from_as {w : World} (b : Bool) {s : Value} {n i : Nat} {z : Int} (hx : Num w s n i) (hi : i ≤ 8796093022208) (hz : Hid (z = sg b n)) :
    Calls Try.prog 20 #[.bool b, s] w (MadeI w z i) := by
  have h := from_z b hx hi
  rw [← hz.out] at h
  exact h.mono fun _ _ hm => hm.i
theorem shl_as {w : World} {b : Bool} {s : Value} {x z : Int} {i : Nat} (hx : ZI w b s x i) (hi : i ≤ 8796093022208) (m : Int) (k : Nat) (hk : shc m ≤ 32 * k) (hz : Hid (z = x * (2 ^ shc m : Nat))) :
    Calls Try.prog 19 #[.agg #[.bool b, s], .int .i64 m] w (MadeI w z (i + k)) := by
  have h := shl_z b hx.2 hi m k hk
  have e : sg b (x.natAbs * 2 ^ shc m) = z := by
    rw [hz.out]
    conv => rhs; rw [← hx.1]
    cases b <;> simp [sg, Int.neg_mul]
  rw [e] at h
  exact h.mono fun _ _ hm => hm.i
theorem of_as {w : World} (x : Int) (h1 : -9223372036854775808 ≤ x) (h2 : x ≤ 9223372036854775807) :
    Calls Try.prog 25 #[.int .i64 x] w (MadeI w x 2) := by
  exact (of_z x h1 h2 w).mono fun _ _ hm => hm.i
theorem sgn_as {w : World} {b : Bool} {s : Value} {x z : Int} {i : Nat} (hx : ZI w b s x i) (hz : Hid (z = sgn x)) :
    Calls Try.prog 30 #[.agg #[.bool b, s]] w (fun e w' => e = .returned (.int .i64 z) ∧ Below w.heap.size w w') := by
  have h := sign_z b hx.2
  rw [hx.1, ← hz.out] at h
  exact h
theorem cmp_as {w : World} {b b' : Bool} {s s' : Value} {x y z : Int} {i j : Nat} (hx : ZI w b s x i) (hy : ZI w b' s' y j) (hz : Hid (z = zcmp x y)) :
    Calls Try.prog 26 #[.agg #[.bool b, s], .agg #[.bool b', s']] w (fun e w' => e = .returned (.int .i64 z) ∧ Below w.heap.size w w') := by
  have h := cmp_z b b' hx.2 hy.2
  rw [hx.1, hy.1, ← hz.out] at h
  exact h
theorem same_as {w : World} {b b' : Bool} {s s' : Value} {x y : Int} {i j : Nat} (hx : ZI w b s x i) (hy : ZI w b' s' y j) {r : Bool} (hz : Hid (r = zsame x y)) :
    Calls Try.prog 28 #[.agg #[.bool b, s], .agg #[.bool b', s']] w (fun e w' => e = .returned (.bool r) ∧ Below w.heap.size w w') := by
  have h := same_z b b' hx.2 hy.2
  rw [hx.1, hy.1, ← hz.out] at h
  exact h
theorem same_yes {w : World} {b b' : Bool} {s s' : Value} {x y : Int} {i j : Nat} (hx : ZI w b s x i) (hy : ZI w b' s' y j) (hz : x = y) :
    Calls Try.prog 28 #[.agg #[.bool b, s], .agg #[.bool b', s']] w (fun e w' => e = .returned (.bool true) ∧ Below w.heap.size w w') := by
  exact same_as hx hy (Lib.hid (show true = zsame x y by unfold zsame; rw [decide_eq_true hz]))
theorem odd_as {w : World} {b : Bool} {s : Value} {x : Int} {i : Nat} (hx : ZI w b s x i) (hi : i ≤ 8796093022208) {r : Bool} (hz : Hid (r = oddb x.natAbs)) :
    Calls Try.prog 23 #[.agg #[.bool b, s]] w (fun e w' => e = .returned (.bool r) ∧ Below w.heap.size w w') := by
  have h := isOdd_z b hx.2 hi
  rw [← hz.out] at h
  exact h
theorem bitLen_as {w : World} {b : Bool} {s : Value} {x : Int} {i : Nat} (hx : ZI w b s x i) (hi : i ≤ 8796093022208) {r : Int} (hz : Hid (r = (bl x.natAbs : Nat))) :
    Calls Try.prog 22 #[.agg #[.bool b, s]] w (fun e w' => e = .returned (.int .i64 r) ∧ Below w.heap.size w w') := by
  have h := bitLen_z b hx.2 hi
  rw [← hz.out] at h
  exact h
theorem radd_as {w : World} {p q : Int} {u v : Value} {x y z : Int} {K L : Nat} (hx : ZBI w p u x K) (hy : ZBI w q v y L) (hK : K ≤ 1073741824) (hL : L ≤ 1073741824) (hz : Hid (z = x + y)) :
    Calls Try.prog 34 #[.agg #[.int .i64 p, u], .agg #[.int .i64 q, v]] w (MadeR w z (max K L + 1)) := by
  have h := zadd_b hx.2 hy.2 hK hL
  rw [← hx.1, ← hy.1, ← hz.out] at h
  exact h.mono fun _ _ hm => hm.r
theorem rmul_as {w : World} {p q : Int} {u v : Value} {x y z : Int} {K L : Nat} (hx : ZBI w p u x K) (hy : ZBI w q v y L) (hK : K ≤ 1073741824) (hL : L ≤ 1073741824) (hz : Hid (z = x * y)) :
    Calls Try.prog 18 #[.agg #[.int .i64 p, u], .agg #[.int .i64 q, v]] w (MadeR w z (K + L)) := by
  have h := zmul_b hx.2 hy.2 hK hL
  rw [← hx.1, ← hy.1, ← hz.out] at h
  exact h.mono fun _ _ hm => hm.r
theorem rneg_as {w : World} {p : Int} {u : Value} {x z : Int} {K : Nat} (hx : ZBI w p u x K) (hz : Hid (z = -x)) :
    Calls Try.prog 32 #[.agg #[.int .i64 p, u]] w (MadeR w z K) := by
  have h := negr_b hx.2
  rw [← hx.1, ← hz.out] at h
  exact h.mono fun _ _ hm => hm.r
theorem rcmp_as {w : World} {p q : Int} {u v : Value} {x y z : Int} {K L : Nat} (hx : ZBI w p u x K) (hy : ZBI w q v y L) (hK : K ≤ 1073741824) (hL : L ≤ 1073741824) (hz : Hid (z = zcmp x y)) :
    Calls Try.prog 33 #[.agg #[.int .i64 p, u], .agg #[.int .i64 q, v]] w (fun e w' => e = .returned (.int .i64 z) ∧ Below w.heap.size w w') := by
  have h := zcmp_b hx.2 hy.2 hK hL
  rw [← hx.1, ← hy.1, ← hz.out] at h
  exact h
theorem rmake_as {w : World} (b : Bool) {u : Value} {n K : Nat} {z : Int} (h : BN w u n K) (hz : Hid (z = sg b n)) :
    Calls Try.prog 14 #[.bool b, u] w (MadeR w z K) := by
  have h := make_b b h
  rw [← hz.out] at h
  exact h.mono fun _ _ hm => hm.r
theorem rof_as {w : World} {b : Bool} {s : Value} {x : Int} {i : Nat} (hx : ZI w b s x i) (hi : i ≤ 33554432) :
    Calls Try.prog 42 #[.bool b, s] w (MadeR w x (32 * i)) := by
  have h := ofr_b b hx.2 (by omega)
  rw [hx.1] at h
  exact h.mono fun _ _ hm => hm.r
theorem ris_as {w : World} {b : Bool} {s : Value} {x y : Int} {i K : Nat} {p : Int} {u : Value} (hx : ZC w b s x i) (hy : ZBI w p u y K) (hi : i ≤ 8796093022208) (hK : K ≤ 34359738368) (e : x = y) :
    Calls Try.prog 44 #[.bool b, s, .agg #[.int .i64 p, u]] w (fun e w' => e = .returned (.bool true) ∧ Below w.heap.size w w') := by
  subst e
  rw [hy.1]
  exact is_zb hx.2.1 hx.2.2 hy.2 hi hK hx.1 rfl
theorem zcmp_range (x y : Int) : -1 ≤ zcmp x y ∧ zcmp x y ≤ 1 := by unfold zcmp; split <;> (try split) <;> omega
theorem zcmp_trans (x y z : Int) : zcmp x y ≤ 0 → zcmp y z ≤ 0 → zcmp x z ≤ 0 := by unfold zcmp; (repeat' split) <;> omega
theorem zcmp_neg_ (x y : Int) : -zcmp x y = zcmp y x := by unfold zcmp; (repeat' split) <;> omega
theorem zcmp_add (x y z : Int) : zcmp x y = zcmp (x + z) (y + z) := by unfold zcmp; (repeat' split) <;> omega
theorem zcmp_sub (x y : Int) : zcmp x y = sgn (x - y) := by unfold zcmp sgn; (repeat' split) <;> omega
theorem zcmp_mul (x y z : Int) : zcmp x y * sgn z = zcmp (x * z) (y * z) := by
  have e : sgn (x * z - y * z) = sgn (x - y) * sgn z := by
    rw [← Int.sub_mul]
    rcases Int.lt_trichotomy (x - y) 0 with h | h | h <;> rcases Int.lt_trichotomy z 0 with k | k | k
    · rw [sgn_m.2 h, sgn_m.2 k, sgn_p.2 (Int.mul_pos_of_neg_of_neg h k)]; rfl
    · rw [k, Int.mul_zero]; simp [sgn]
    · rw [sgn_m.2 h, sgn_p.2 k, sgn_m.2 (Int.mul_neg_of_neg_of_pos h k)]; rfl
    · rw [h, Int.zero_mul]; simp [sgn]
    · rw [h, Int.zero_mul]; simp [sgn]
    · rw [h, Int.zero_mul]; simp [sgn]
    · rw [sgn_p.2 h, sgn_m.2 k, sgn_m.2 (Int.mul_neg_of_pos_of_neg h k)]; rfl
    · rw [k, Int.mul_zero]; simp [sgn]
    · rw [sgn_p.2 h, sgn_p.2 k, sgn_p.2 (Int.mul_pos h k)]; rfl
  rw [zcmp_sub, zcmp_sub, e]
theorem BN.len {w : World} {A : Option Addr} {m c n K : Nat} (h : BN w (.slice A m c) n K) : m = (bt n).length := by
  obtain ⟨⟨A', c', e, _⟩, _⟩ := h
  injection e
theorem BN.bit0 {w : World} {A : Option Addr} {m c n K : Nat} (h : BN w (.slice A m c) n K) (hm : 0 < m) : ∃ ad, A = some ad ∧ w.cell? ad = some (.int .i64 ((n % 2 : Nat) : Int)) := by
  have hl := h.len
  obtain ⟨⟨A', c', e, _, hC⟩, _⟩ := h
  injection e with e1 e2 e3
  subst e1
  obtain ⟨ad, hA, hc⟩ := at_zero hC (by omega)
  refine ⟨ad, hA, ?_⟩
  rw [hc, bt_at, Nat.pow_zero, Nat.div_one]
theorem up_as {w : World} {v : Value} {n i : Nat} (h : BN w v n i) (hi : i ≤ 17179869184) (k : Nat) {m : Int} (hm : Hid (m = (k : Int))) (hs : k ≤ 8589934592) :
    Calls Try.prog 15 #[v, .int .i64 m] w (MadeBN w (n * 2 ^ k) (i + k)) := by
  rw [hm.out]; exact up_b h hi k hs
theorem keep2 {w w1 : World} {a0 a1 : Addr} {v0 v1 : Value} (h : w.cell? a0 = some v0 ∧ w.cell? a1 = some v1) (hb : Below w.heap.size w w1) : w1.cell? a0 = some v0 ∧ w1.cell? a1 = some v1 := ⟨pw_cell_below hb h.1, pw_cell_below hb h.2⟩
theorem keep4 {w w1 : World} {a0 a1 a2 a3 : Addr} {v0 v1 v2 v3 : Value} (h : w.cell? a0 = some v0 ∧ w.cell? a1 = some v1 ∧ w.cell? a2 = some v2 ∧ w.cell? a3 = some v3) (hb : Below w.heap.size w w1) : w1.cell? a0 = some v0 ∧ w1.cell? a1 = some v1 ∧ w1.cell? a2 = some v2 ∧ w1.cell? a3 = some v3 := ⟨pw_cell_below hb h.1, pw_cell_below hb h.2.1, pw_cell_below hb h.2.2.1, pw_cell_below hb h.2.2.2⟩
theorem keep6 {w w1 : World} {a0 a1 a2 a3 a4 a5 : Addr} {v0 v1 v2 v3 v4 v5 : Value} (h : w.cell? a0 = some v0 ∧ w.cell? a1 = some v1 ∧ w.cell? a2 = some v2 ∧ w.cell? a3 = some v3 ∧ w.cell? a4 = some v4 ∧ w.cell? a5 = some v5) (hb : Below w.heap.size w w1) : w1.cell? a0 = some v0 ∧ w1.cell? a1 = some v1 ∧ w1.cell? a2 = some v2 ∧ w1.cell? a3 = some v3 ∧ w1.cell? a4 = some v4 ∧ w1.cell? a5 = some v5 := ⟨pw_cell_below hb h.1, pw_cell_below hb h.2.1, pw_cell_below hb h.2.2.1, pw_cell_below hb h.2.2.2.1, pw_cell_below hb h.2.2.2.2.1, pw_cell_below hb h.2.2.2.2.2⟩
theorem keep8 {w w1 : World} {a0 a1 a2 a3 a4 a5 a6 a7 : Addr} {v0 v1 v2 v3 v4 v5 v6 v7 : Value} (h : w.cell? a0 = some v0 ∧ w.cell? a1 = some v1 ∧ w.cell? a2 = some v2 ∧ w.cell? a3 = some v3 ∧ w.cell? a4 = some v4 ∧ w.cell? a5 = some v5 ∧ w.cell? a6 = some v6 ∧ w.cell? a7 = some v7) (hb : Below w.heap.size w w1) : w1.cell? a0 = some v0 ∧ w1.cell? a1 = some v1 ∧ w1.cell? a2 = some v2 ∧ w1.cell? a3 = some v3 ∧ w1.cell? a4 = some v4 ∧ w1.cell? a5 = some v5 ∧ w1.cell? a6 = some v6 ∧ w1.cell? a7 = some v7 := ⟨pw_cell_below hb h.1, pw_cell_below hb h.2.1, pw_cell_below hb h.2.2.1, pw_cell_below hb h.2.2.2.1, pw_cell_below hb h.2.2.2.2.1, pw_cell_below hb h.2.2.2.2.2.1, pw_cell_below hb h.2.2.2.2.2.2.1, pw_cell_below hb h.2.2.2.2.2.2.2⟩
theorem keep10 {w w1 : World} {a0 a1 a2 a3 a4 a5 a6 a7 a8 a9 : Addr} {v0 v1 v2 v3 v4 v5 v6 v7 v8 v9 : Value} (h : w.cell? a0 = some v0 ∧ w.cell? a1 = some v1 ∧ w.cell? a2 = some v2 ∧ w.cell? a3 = some v3 ∧ w.cell? a4 = some v4 ∧ w.cell? a5 = some v5 ∧ w.cell? a6 = some v6 ∧ w.cell? a7 = some v7 ∧ w.cell? a8 = some v8 ∧ w.cell? a9 = some v9) (hb : Below w.heap.size w w1) : w1.cell? a0 = some v0 ∧ w1.cell? a1 = some v1 ∧ w1.cell? a2 = some v2 ∧ w1.cell? a3 = some v3 ∧ w1.cell? a4 = some v4 ∧ w1.cell? a5 = some v5 ∧ w1.cell? a6 = some v6 ∧ w1.cell? a7 = some v7 ∧ w1.cell? a8 = some v8 ∧ w1.cell? a9 = some v9 := ⟨pw_cell_below hb h.1, pw_cell_below hb h.2.1, pw_cell_below hb h.2.2.1, pw_cell_below hb h.2.2.2.1, pw_cell_below hb h.2.2.2.2.1, pw_cell_below hb h.2.2.2.2.2.1, pw_cell_below hb h.2.2.2.2.2.2.1, pw_cell_below hb h.2.2.2.2.2.2.2.1, pw_cell_below hb h.2.2.2.2.2.2.2.2.1, pw_cell_below hb h.2.2.2.2.2.2.2.2.2⟩
theorem keep12 {w w1 : World} {a0 a1 a2 a3 a4 a5 a6 a7 a8 a9 a10 a11 : Addr} {v0 v1 v2 v3 v4 v5 v6 v7 v8 v9 v10 v11 : Value} (h : w.cell? a0 = some v0 ∧ w.cell? a1 = some v1 ∧ w.cell? a2 = some v2 ∧ w.cell? a3 = some v3 ∧ w.cell? a4 = some v4 ∧ w.cell? a5 = some v5 ∧ w.cell? a6 = some v6 ∧ w.cell? a7 = some v7 ∧ w.cell? a8 = some v8 ∧ w.cell? a9 = some v9 ∧ w.cell? a10 = some v10 ∧ w.cell? a11 = some v11) (hb : Below w.heap.size w w1) : w1.cell? a0 = some v0 ∧ w1.cell? a1 = some v1 ∧ w1.cell? a2 = some v2 ∧ w1.cell? a3 = some v3 ∧ w1.cell? a4 = some v4 ∧ w1.cell? a5 = some v5 ∧ w1.cell? a6 = some v6 ∧ w1.cell? a7 = some v7 ∧ w1.cell? a8 = some v8 ∧ w1.cell? a9 = some v9 ∧ w1.cell? a10 = some v10 ∧ w1.cell? a11 = some v11 := ⟨pw_cell_below hb h.1, pw_cell_below hb h.2.1, pw_cell_below hb h.2.2.1, pw_cell_below hb h.2.2.2.1, pw_cell_below hb h.2.2.2.2.1, pw_cell_below hb h.2.2.2.2.2.1, pw_cell_below hb h.2.2.2.2.2.2.1, pw_cell_below hb h.2.2.2.2.2.2.2.1, pw_cell_below hb h.2.2.2.2.2.2.2.2.1, pw_cell_below hb h.2.2.2.2.2.2.2.2.2.1, pw_cell_below hb h.2.2.2.2.2.2.2.2.2.2.1, pw_cell_below hb h.2.2.2.2.2.2.2.2.2.2.2⟩
theorem keep14 {w w1 : World} {a0 a1 a2 a3 a4 a5 a6 a7 a8 a9 a10 a11 a12 a13 : Addr} {v0 v1 v2 v3 v4 v5 v6 v7 v8 v9 v10 v11 v12 v13 : Value} (h : w.cell? a0 = some v0 ∧ w.cell? a1 = some v1 ∧ w.cell? a2 = some v2 ∧ w.cell? a3 = some v3 ∧ w.cell? a4 = some v4 ∧ w.cell? a5 = some v5 ∧ w.cell? a6 = some v6 ∧ w.cell? a7 = some v7 ∧ w.cell? a8 = some v8 ∧ w.cell? a9 = some v9 ∧ w.cell? a10 = some v10 ∧ w.cell? a11 = some v11 ∧ w.cell? a12 = some v12 ∧ w.cell? a13 = some v13) (hb : Below w.heap.size w w1) : w1.cell? a0 = some v0 ∧ w1.cell? a1 = some v1 ∧ w1.cell? a2 = some v2 ∧ w1.cell? a3 = some v3 ∧ w1.cell? a4 = some v4 ∧ w1.cell? a5 = some v5 ∧ w1.cell? a6 = some v6 ∧ w1.cell? a7 = some v7 ∧ w1.cell? a8 = some v8 ∧ w1.cell? a9 = some v9 ∧ w1.cell? a10 = some v10 ∧ w1.cell? a11 = some v11 ∧ w1.cell? a12 = some v12 ∧ w1.cell? a13 = some v13 := ⟨pw_cell_below hb h.1, pw_cell_below hb h.2.1, pw_cell_below hb h.2.2.1, pw_cell_below hb h.2.2.2.1, pw_cell_below hb h.2.2.2.2.1, pw_cell_below hb h.2.2.2.2.2.1, pw_cell_below hb h.2.2.2.2.2.2.1, pw_cell_below hb h.2.2.2.2.2.2.2.1, pw_cell_below hb h.2.2.2.2.2.2.2.2.1, pw_cell_below hb h.2.2.2.2.2.2.2.2.2.1, pw_cell_below hb h.2.2.2.2.2.2.2.2.2.2.1, pw_cell_below hb h.2.2.2.2.2.2.2.2.2.2.2.1, pw_cell_below hb h.2.2.2.2.2.2.2.2.2.2.2.2.1, pw_cell_below hb h.2.2.2.2.2.2.2.2.2.2.2.2.2⟩
theorem keep16 {w w1 : World} {a0 a1 a2 a3 a4 a5 a6 a7 a8 a9 a10 a11 a12 a13 a14 a15 : Addr} {v0 v1 v2 v3 v4 v5 v6 v7 v8 v9 v10 v11 v12 v13 v14 v15 : Value} (h : w.cell? a0 = some v0 ∧ w.cell? a1 = some v1 ∧ w.cell? a2 = some v2 ∧ w.cell? a3 = some v3 ∧ w.cell? a4 = some v4 ∧ w.cell? a5 = some v5 ∧ w.cell? a6 = some v6 ∧ w.cell? a7 = some v7 ∧ w.cell? a8 = some v8 ∧ w.cell? a9 = some v9 ∧ w.cell? a10 = some v10 ∧ w.cell? a11 = some v11 ∧ w.cell? a12 = some v12 ∧ w.cell? a13 = some v13 ∧ w.cell? a14 = some v14 ∧ w.cell? a15 = some v15) (hb : Below w.heap.size w w1) : w1.cell? a0 = some v0 ∧ w1.cell? a1 = some v1 ∧ w1.cell? a2 = some v2 ∧ w1.cell? a3 = some v3 ∧ w1.cell? a4 = some v4 ∧ w1.cell? a5 = some v5 ∧ w1.cell? a6 = some v6 ∧ w1.cell? a7 = some v7 ∧ w1.cell? a8 = some v8 ∧ w1.cell? a9 = some v9 ∧ w1.cell? a10 = some v10 ∧ w1.cell? a11 = some v11 ∧ w1.cell? a12 = some v12 ∧ w1.cell? a13 = some v13 ∧ w1.cell? a14 = some v14 ∧ w1.cell? a15 = some v15 := ⟨pw_cell_below hb h.1, pw_cell_below hb h.2.1, pw_cell_below hb h.2.2.1, pw_cell_below hb h.2.2.2.1, pw_cell_below hb h.2.2.2.2.1, pw_cell_below hb h.2.2.2.2.2.1, pw_cell_below hb h.2.2.2.2.2.2.1, pw_cell_below hb h.2.2.2.2.2.2.2.1, pw_cell_below hb h.2.2.2.2.2.2.2.2.1, pw_cell_below hb h.2.2.2.2.2.2.2.2.2.1, pw_cell_below hb h.2.2.2.2.2.2.2.2.2.2.1, pw_cell_below hb h.2.2.2.2.2.2.2.2.2.2.2.1, pw_cell_below hb h.2.2.2.2.2.2.2.2.2.2.2.2.1, pw_cell_below hb h.2.2.2.2.2.2.2.2.2.2.2.2.2.1, pw_cell_below hb h.2.2.2.2.2.2.2.2.2.2.2.2.2.2.1, pw_cell_below hb h.2.2.2.2.2.2.2.2.2.2.2.2.2.2.2⟩
theorem keep18 {w w1 : World} {a0 a1 a2 a3 a4 a5 a6 a7 a8 a9 a10 a11 a12 a13 a14 a15 a16 a17 : Addr} {v0 v1 v2 v3 v4 v5 v6 v7 v8 v9 v10 v11 v12 v13 v14 v15 v16 v17 : Value} (h : w.cell? a0 = some v0 ∧ w.cell? a1 = some v1 ∧ w.cell? a2 = some v2 ∧ w.cell? a3 = some v3 ∧ w.cell? a4 = some v4 ∧ w.cell? a5 = some v5 ∧ w.cell? a6 = some v6 ∧ w.cell? a7 = some v7 ∧ w.cell? a8 = some v8 ∧ w.cell? a9 = some v9 ∧ w.cell? a10 = some v10 ∧ w.cell? a11 = some v11 ∧ w.cell? a12 = some v12 ∧ w.cell? a13 = some v13 ∧ w.cell? a14 = some v14 ∧ w.cell? a15 = some v15 ∧ w.cell? a16 = some v16 ∧ w.cell? a17 = some v17) (hb : Below w.heap.size w w1) : w1.cell? a0 = some v0 ∧ w1.cell? a1 = some v1 ∧ w1.cell? a2 = some v2 ∧ w1.cell? a3 = some v3 ∧ w1.cell? a4 = some v4 ∧ w1.cell? a5 = some v5 ∧ w1.cell? a6 = some v6 ∧ w1.cell? a7 = some v7 ∧ w1.cell? a8 = some v8 ∧ w1.cell? a9 = some v9 ∧ w1.cell? a10 = some v10 ∧ w1.cell? a11 = some v11 ∧ w1.cell? a12 = some v12 ∧ w1.cell? a13 = some v13 ∧ w1.cell? a14 = some v14 ∧ w1.cell? a15 = some v15 ∧ w1.cell? a16 = some v16 ∧ w1.cell? a17 = some v17 := ⟨pw_cell_below hb h.1, pw_cell_below hb h.2.1, pw_cell_below hb h.2.2.1, pw_cell_below hb h.2.2.2.1, pw_cell_below hb h.2.2.2.2.1, pw_cell_below hb h.2.2.2.2.2.1, pw_cell_below hb h.2.2.2.2.2.2.1, pw_cell_below hb h.2.2.2.2.2.2.2.1, pw_cell_below hb h.2.2.2.2.2.2.2.2.1, pw_cell_below hb h.2.2.2.2.2.2.2.2.2.1, pw_cell_below hb h.2.2.2.2.2.2.2.2.2.2.1, pw_cell_below hb h.2.2.2.2.2.2.2.2.2.2.2.1, pw_cell_below hb h.2.2.2.2.2.2.2.2.2.2.2.2.1, pw_cell_below hb h.2.2.2.2.2.2.2.2.2.2.2.2.2.1, pw_cell_below hb h.2.2.2.2.2.2.2.2.2.2.2.2.2.2.1, pw_cell_below hb h.2.2.2.2.2.2.2.2.2.2.2.2.2.2.2.1, pw_cell_below hb h.2.2.2.2.2.2.2.2.2.2.2.2.2.2.2.2.1, pw_cell_below hb h.2.2.2.2.2.2.2.2.2.2.2.2.2.2.2.2.2⟩
theorem sg_dec (x : Int) (m : Nat) : sg (decide (sgn x < 0)) (x.natAbs * m) = x * (m : Int) := by
  by_cases h : x < 0
  · have e : decide (sgn x < 0) = true := decide_eq_true (by rw [sgn_m.2 h]; decide)
    rw [e]
    obtain ⟨i, rfl⟩ : ∃ i : Nat, x = -(i : Int) := ⟨x.natAbs, by omega⟩
    simp [sg, Int.neg_mul]
  · have e : decide (sgn x < 0) = false := decide_eq_false (by unfold sgn; split <;> (try split) <;> omega)
    rw [e]
    obtain ⟨i, rfl⟩ : ∃ i : Nat, x = (i : Int) := ⟨x.natAbs, by omega⟩
    simp [sg]
end Go.Proofs.Ythadkjekagfjfaa.N
