/- integer.Int64 as a walk: the number, if it fits. Condition: the slice reads as digits. -/
import Derived.Test.YthadkjekagfjfaaI7
namespace Go.Proofs.Ythadkjekagfjfaa.N
open Go.RowKit Go.Proofs.Ythadkjekagfjfaa.Dig Go.Proofs.YthadkjekagfjfaaW.PrintWords Go.Proofs.YthadkjekagfjfaaW.PrintLast Go.Proofs.YthadkjekagfjfaaW.PrintMore
set_option linter.unusedVariables false

def i64ok (z : Int) : Bool := decide (-9223372036854775808 ≤ z ∧ z ≤ 9223372036854775807)
def i64v (z : Int) : Int := cond (i64ok z) z 0

set_option maxHeartbeats 400000 in
theorem int64_big (b : Bool) {s : Value} {n i : Nat} {w : World} (h : Num w s n i) (hn : ¬ n < 18446744073709551616) :
    Calls Try.prog 24 #[.agg #[.bool b, s]] w fun e w' => e = .returned (.tuple #[.int .i64 0, .bool false]) ∧ Below w.heap.size w w' := by
  obtain ⟨As, ms, cs, rfl, _⟩ := h.slc
  have E1 := Lib.hid (show u64v n = 0 from if_neg hn)
  have E2 := Lib.hid (show u64ok n = false from decide_eq_false hn)
  clear hn
  go_enter Try.func24, Try.ntmps24
  go_wp2_with fail
  refine (uint64_n (h.alloc _)).mono ?_
  rw [E1.out, E2.out]
  rintro e w1 ⟨rfl, hb1⟩
  have B1 := below_then (below_alloc (Below.refl w.heap.size w) _) (by simp) hb1
  go_wp2_with fail
  go_ret2
  exact ⟨rfl, B1⟩

set_option maxRecDepth 100000 in
set_option maxHeartbeats 1000000 in
theorem int64_in (b : Bool) {s : Value} {n i : Nat} {w : World} (h : Num w s n i) (hn : n < 18446744073709551616) :
    Calls Try.prog 24 #[.agg #[.bool b, s]] w fun e w' => e = .returned (.tuple #[.int .i64 (i64v (sg b n)), .bool (i64ok (sg b n))]) ∧ Below w.heap.size w w' := by
  obtain ⟨As, ms, cs, rfl, _⟩ := h.slc
  have E1 := Lib.hid (show u64v n = n from if_pos hn)
  have E2 := Lib.hid (show u64ok n = true from decide_eq_true hn)
  have hx := Box.new w 25 (.bool b) (.slice As ms cs)
  cases b
  · by_cases h1 : n < 9223372036854775808
    · have e1 : i64ok (sg false n) = true := decide_eq_true (by simp [sg]; omega)
      have e2 : i64v (sg false n) = n := by unfold i64v; rw [e1]; rfl
      rw [e1, e2]
      have hd : decide ((n : Int) < 9223372036854775808) = true := decide_eq_true (by omega)
      have e3 : wrap64 (n : Int) = n := by unfold wrap64; omega
      have e4 : IntKind.i64.wrap (n : Int) = n := IntWalk.i64_in _ (by omega)
      clear e1 e2 h1 hn
      go_enter Try.func24, Try.ntmps24
      go_wp2_with fail
      refine (uint64_n (h.alloc _)).mono ?_
      rw [E1.out, E2.out]
      rintro e w1 ⟨rfl, hb1⟩
      have B1 := below_then (below_alloc (Below.refl w.heap.size w) _) (by simp) hb1
      have c0 := (hx.then_ hb1).c0
      go_wp2_with fail
      go_ret2
      exact ⟨rfl, B1⟩
    · have h2 : 9223372036854775808 ≤ n := by omega
      have e1 : i64ok (sg false n) = false := decide_eq_false (by simp [sg]; omega)
      have e2 : i64v (sg false n) = 0 := by unfold i64v; rw [e1]; rfl
      rw [e1, e2]
      have hd : decide ((n : Int) < 9223372036854775808) = false := decide_eq_false (by omega)
      clear e1 e2 h1 h2 hn
      go_enter Try.func24, Try.ntmps24
      go_wp2_with fail
      refine (uint64_n (h.alloc _)).mono ?_
      rw [E1.out, E2.out]
      rintro e w1 ⟨rfl, hb1⟩
      have B1 := below_then (below_alloc (Below.refl w.heap.size w) _) (by simp) hb1
      have c0 := (hx.then_ hb1).c0
      go_wp2_with fail
      go_ret2
      exact ⟨rfl, B1⟩
  · by_cases h1 : n ≤ 9223372036854775808
    · have e1 : i64ok (sg true n) = true := decide_eq_true (by simp [sg]; omega)
      have e2 : i64v (sg true n) = -(n : Int) := by unfold i64v; rw [e1]; rfl
      rw [e1, e2]
      have e3 : IntKind.i64.wrap (IntKind.u64.wrap (-(n : Int))) = -(n : Int) := by
        unfold IntKind.wrap
        simp [IntKind.signed, IntKind.bits]
        omega
      clear e1 e2
      go_enter Try.func24, Try.ntmps24
      go_wp2_with fail
      refine (uint64_n (h.alloc _)).mono ?_
      rw [E1.out, E2.out]
      rintro e w1 ⟨rfl, hb1⟩
      have B1 := below_then (below_alloc (Below.refl w.heap.size w) _) (by simp) hb1
      have c0 := (hx.then_ hb1).c0
      go_wp2_with fail
      go_ret2
      exact ⟨rfl, B1⟩
    · have h2 : 9223372036854775808 < n := by omega
      have e1 : i64ok (sg true n) = false := decide_eq_false (by simp [sg]; omega)
      have e2 : i64v (sg true n) = 0 := by unfold i64v; rw [e1]; rfl
      rw [e1, e2]
      clear e1 e2 h1
      go_enter Try.func24, Try.ntmps24
      go_wp2_with fail
      refine (uint64_n (h.alloc _)).mono ?_
      rw [E1.out, E2.out]
      rintro e w1 ⟨rfl, hb1⟩
      have B1 := below_then (below_alloc (Below.refl w.heap.size w) _) (by simp) hb1
      have c0 := (hx.then_ hb1).c0
      go_wp2_with fail
      go_ret2
      exact ⟨rfl, B1⟩
theorem int64_as {w : World} {b : Bool} {s : Value} {x : Int} {i : Nat} (hx : ZI w b s x i) {r : Int} {ok : Bool} (hr : Hid (r = i64v x)) (ho : Hid (ok = i64ok x)) :
    Calls Try.prog 24 #[.agg #[.bool b, s]] w fun e w' => e = .returned (.tuple #[.int .i64 r, .bool ok]) ∧ Below w.heap.size w w' := by
  rw [hr.out, ho.out]
  have hz := hx.1
  by_cases hn : x.natAbs < 18446744073709551616
  · have := int64_in b hx.2 hn
    rw [hz] at this
    exact this
  · have e1 : i64ok x = false := decide_eq_false (by omega)
    have e2 : i64v x = 0 := by unfold i64v; rw [e1]; rfl
    rw [e1, e2]
    exact int64_big b hx.2 hn
end Go.Proofs.Ythadkjekagfjfaa.N
