/- The helpers of a package of laws as walks: of, is, few, awake. Conditions stand at each theorem. -/
import Derived.Test.YthadkjekagfjfaaI6
namespace Go.Proofs.Ythadkjekagfjfaa.N
open Go.RowKit Go.Proofs.Ythadkjekagfjfaa.Dig Go.Proofs.YthadkjekagfjfaaW.PrintWords Go.Proofs.YthadkjekagfjfaaW.PrintLast Go.Proofs.YthadkjekagfjfaaW.PrintMore
set_option linter.unusedVariables false

set_option maxHeartbeats 400000 in
theorem lof_as {w : World} {b : Bool} {A : Option Addr} {m c : Nat} {x : Int} {i : Nat} (hx : ZI w b (.slice A m c) x i) (hi : i ≤ 33554432) :
    Calls Try.prog 13 #[.agg #[.bool b, .slice A m c]] w (MadeR w x (32 * i)) := by
  go_enter Try.func13, Try.ntmps13
  go_wp2_with fail
  refine (rof_as ((hx.alloc _).alloc _) hi).mono ?_
  rintro e w1 ⟨p1, A1, m1, c1, rfl, q1, hb1⟩
  have x1 := (Box.new1 w _ _ _ _).then_ hb1
  have B1 := below_then (below_alloc (below_alloc (Below.refl w.heap.size w) _) _) (by simp; try omega) hb1
  obtain ⟨e0, e1, e2, e3⟩ := x1.rdy (.int .i64 p1)
  go_wp2_with fail
  refine bodyPost_ret (results_cell_row rfl _ _ (w.heap.size + 1) 30 _ (0, 0) _ rfl ((x1.set0 _).set1 _) Try.underlying30 rfl (by kernel_rfl)) rfl ?_
  exact ⟨_, _, _, _, rfl, ⟨q1.1, q1.2.far x1 _ _⟩, (B1.setCell (by simp) _).setCell (by simp) _⟩

set_option maxHeartbeats 400000 in
theorem lis_as {w : World} {b : Bool} {A A' : Option Addr} {m c m' c' : Nat} {x y : Int} {i K : Nat} {p : Int} (hx : ZC w b (.slice A m c) x i) (hy : ZBI w p (.slice A' m' c') y K) (hi : i ≤ 8796093022208) (hK : K ≤ 34359738368) (e : x = y) :
    Calls Try.prog 16 #[.agg #[.bool b, .slice A m c], .agg #[.int .i64 p, .slice A' m' c']] w fun e w' => e = .returned (.bool true) ∧ Below w.heap.size w w' := by
  have HE := Lib.hid e
  clear e
  go_enter Try.func16, Try.ntmps16
  go_wp2_with fail
  refine (ris_as ((hx.alloc _).alloc _) ((hy.alloc _).alloc _) hi hK HE.out).mono ?_
  rintro e w1 ⟨rfl, hb1⟩
  have B1 := below_then (below_alloc (below_alloc (Below.refl w.heap.size w) _) _) (by simp; try omega) hb1
  go_wp2_with fail
  go_ret
  exact ⟨rfl, B1⟩

/-- Few over a list of three. -/
theorem few3_any (n : Int) (w : World) (g : Nat) {A B C : Option Addr} {a b c a' b' c' : Nat} (h0 : w.cell? ⟨g, 0, none⟩ = some (.slice A a a')) (h1 : w.cell? ⟨g, 1, none⟩ = some (.slice B b b')) (h2 : w.cell? ⟨g, 2, none⟩ = some (.slice C c c')) {r : Bool} (hr : r = (decide ((a : Int) ≤ n) && decide ((b : Int) ≤ n) && decide ((c : Int) ≤ n))) :
    Calls Try.prog 41 #[.int .i64 n, .slice (some ⟨g, 0, none⟩) 3 3] w fun e w' => e = .returned (.bool r) ∧ w = w' := by
  have h := few_any n g [a, b, c] 3 w (by simp) (fun i hi => by
    match i, hi with
    | 0, _ => exact ⟨_, _, h0⟩
    | 1, _ => exact ⟨_, _, h1⟩
    | 2, _ => exact ⟨_, _, h2⟩)
  have e : ([a, b, c].all fun x => decide ((x : Int) ≤ n)) = r := by rw [hr]; simp [Bool.and_assoc]
  rw [e] at h
  exact h
set_option maxHeartbeats 400000 in
theorem lfew_as {w : World} (n : Int) {b b' b'' : Bool} {A B C : Option Addr} {i j k i' j' k' : Nat} {r : Bool} (hr : Hid (r = (decide ((i : Int) ≤ n) && decide ((j : Int) ≤ n) && decide ((k : Int) ≤ n)))) :
    Calls Try.prog 12 #[.int .i64 n, .agg #[.bool b, .slice A i i'], .agg #[.bool b', .slice B j j'], .agg #[.bool b'', .slice C k k']] w fun e w' => e = .returned (.bool r) ∧ Below w.heap.size w w' := by
  go_enter Try.func12, Try.ntmps12
  go_wp2_with fail
  refine (few3_any n _ _ (A := A) (B := B) (C := C) (a := i) (b := j) (c := k) (a' := i') (b' := j') (c' := k') (by simp [World.cell?_alloc_at]) (by simp [World.cell?_alloc_at]) (by simp [World.cell?_alloc_at]) hr.out).mono ?_
  rintro e w_ ⟨rfl, rfl⟩
  go_wp2_with fail
  go_ret
  exact ⟨rfl, below_alloc (below_alloc (below_alloc (below_alloc (Below.refl _ _) _) _) _) _⟩

theorem nd_15 : nd 15 = [15] := by decide +kernel
set_option maxHeartbeats 400000 in
theorem lawake (w : World) : Calls Try.prog 11 #[] w fun e w' => e = .returned (.bool true) ∧ Below w.heap.size w w' := by
  obtain ⟨z, hz⟩ : ∃ z, z = (-5 : Int) * 3 := ⟨_, rfl⟩
  have HZ := Lib.hid hz
  clear hz
  go_enter Try.func11, Try.ntmps11
  go_wp2_with fail
  refine (of_as (-5) (by decide) (by decide)).mono ?_
  rintro e w1 ⟨b1, A1, m1, c1, rfl, q1, hb1⟩
  go_wp2_with fail
  refine (of_as 3 (by decide) (by decide)).mono ?_
  rintro e w2 ⟨b2, A2, m2, c2, rfl, q2, hb2⟩
  go_wp2_with fail
  refine (mul_as (q1.zi.below hb2) q2.zi (by decide) (by decide) HZ).mono ?_
  rintro e w3 ⟨b3, A3, m3, c3, rfl, q3, hb3⟩
  have hb := q3.1
  have hr := q3.2.2
  have hz := HZ.out
  subst hz
  have e15 : nd (Int.natAbs (-5 * 3)) = [15] := nd_15
  rw [e15] at hr
  obtain rfl : b3 = true := hb
  obtain ⟨_, A, c, he, hc, hC⟩ := hr
  injection he with e1 e2 e3
  subst e1 e2 e3
  obtain ⟨ad, rfl, c0⟩ := at_zero hC (by simp)
  replace c0 : w3.cell? ad = some (.int .u32 15) := c0
  have c1 : ∀ o, (w3.alloc o).cell? ad = some (.int .u32 15) := fun o => pw_cell_below (below_alloc (Below.refl _ _) o) c0
  have B1 : Below w.heap.size w w1 := hb1
  have B2 := below_then B1 B1.size hb2
  have B3 := below_then B2 B2.size hb3
  clear q1 q2 q3 hc hC HZ hb1 hb2 hb3
  go_wp2_with fail
  go_ret
  exact ⟨rfl, below_alloc B3 _⟩
end Go.Proofs.Ythadkjekagfjfaa.N
