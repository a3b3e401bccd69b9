/- The law ModularPower returns true for every a, m below 2^32 and every two exponents below 2^64, and leaves what lay in memory as it was. No further condition. -/
import Derived.Test.YtkfpibpoelcalaaM1
import Derived.RegionTactic
import Derived.ChangeAlike
import Derived.Outline
import Derived.WalkKit
import Derived.WalkSpells
import Derived.Deep.QuietTactic
import Derived.BigQuiet
import Derived.Lib.Hide
namespace Go.Proofs.Ytkfpibpoelcalaa.Power
open Go.RowKit Go.Proofs.Ytkfpibpoelcalaa.B Go.Proofs.Ytkfpibpoelcalaa.M Go.Proofs.YtkfpibpoelcalaaW.PrintWords Go.Proofs.YtkfpibpoelcalaaW.PrintLast Go.Proofs.YtkfpibpoelcalaaW.PrintMore

theorem and255 (n : Nat) (h : n ≤ 18446744073709551615) : bits .and .u64 (n : Int) 255 = ((n % 256 : Nat) : Int) := by
  have := u64_and_nat n 255 (by omega) (by omega)
  rw [nat_mask8] at this
  exact this

set_option maxHeartbeats 400000 in
theorem law_any (a m x y : Nat) (w : World) (ha : a ≤ 4294967295) (hm : m ≤ 4294967295) (hx : x ≤ 18446744073709551615) (hy : y ≤ 18446744073709551615) :
    Calls Try.prog 3 #[.int .u32 a, .int .u32 m, .agg #[.int .u64 x, .int .u64 y]] w fun e w' => e = .returned (.bool true) ∧ Below w.heap.size w w' := by
  obtain ⟨s, hs, h255⟩ : ∃ s : Nat, s < 256 ∧ bits .and .u64 (x : Int) 255 = (s : Int) := ⟨x % 256, Nat.mod_lt _ (by decide), and255 x hx⟩
  have hs1 : (s : Int) ≤ 255 := by omega
  have P1 := Lib.hid fun w => modular_Pow.calls 65 (a : Int) (s : Int) m _ w (pow_eq a s m 65 ha (by omega) hm (by decide))
  have P2 := Lib.hid fun w => cylinderref07_Power.calls 256 (a : Int) (s : Int) m _ w (power_eq a s m 256 ha (by omega) hm (by omega))
  obtain ⟨u, hu, hu1⟩ : ∃ u : Nat, u = x / 2 ∧ u ≤ 9223372036854775807 := ⟨_, rfl, by omega⟩
  obtain ⟨v, hv, hv1⟩ : ∃ v : Nat, v = y / 2 ∧ v ≤ 9223372036854775807 := ⟨_, rfl, by omega⟩
  have ex : ((x : Int) / 2) = (u : Int) := by omega
  have ey : ((y : Int) / 2) = (v : Int) := by omega
  clear hu hv hx hy
  have hr1 := Nat.mod_lt (a ^ u) (md_pos m)
  have hr2 := Nat.mod_lt (a ^ v) (md_pos m)
  have hml := md_le hm (by decide : 1 ≤ 4294967295)
  have P3 := Lib.hid fun w => modular_Pow.calls 65 (a : Int) ((u + v : Nat) : Int) m _ w (pow_eq a (u + v) m 65 ha (by omega) hm (by decide))
  rw [Int.natCast_add] at P3
  have P4 := Lib.hid fun w => modular_Pow.calls 65 (a : Int) (u : Int) m _ w (pow_eq a u m 65 ha (by omega) hm (by decide))
  have P5 := Lib.hid fun w => modular_Pow.calls 65 (a : Int) (v : Int) m _ w (pow_eq a v m 65 ha (by omega) hm (by decide))
  have P6 := Lib.hid fun w => modular_Mul.calls ((a ^ u % md m : Nat) : Int) ((a ^ v % md m : Nat) : Int) m _ w (mul_eq (a ^ u % md m) (a ^ v % md m) m (by omega) (by omega) hm)
  have E := Lib.hid (show a ^ u % md m * (a ^ v % md m) % md m = a ^ (u + v) % md m by rw [Nat.pow_add, ← Nat.mul_mod])
  clear hr1 hr2 hml
  generalize a ^ u % md m = pu at *
  generalize a ^ v % md m = pv at *
  generalize a ^ (u + v) % md m = pq at *
  generalize a ^ s % md m = ps at *
  generalize pu * pv % md m = pr at *
  obtain rfl : pr = pq := E.out
  clear E
  go_enter Try.func3, Try.ntmps3
  go_wp2_with fail
  refine (cylinderlaw07_fit.calls 60 true _ fit_true).mono ?_
  rintro e w1 ⟨rfl, hb1⟩
  have c0 : w1.cell? ⟨w.heap.size, 0, none⟩ = some (.int .u64 x) := (hb1.cell (p := ⟨w.heap.size, 0, none⟩) (by simp)).trans (by simp [World.cell?_alloc_at])
  have c1 : w1.cell? ⟨w.heap.size, 1, none⟩ = some (.int .u64 y) := (hb1.cell (p := ⟨w.heap.size, 1, none⟩) (by simp)).trans (by simp [World.cell?_alloc_at])
  have z1 : w.heap.size + 1 ≤ w1.heap.size := by have := hb1.size; simp at this; omega
  go_wp2_with fail
  refine (P1.out _).mono ?_
  rintro e w2 ⟨rfl, hb2⟩
  go_wp2_with fail
  refine (P2.out _).mono ?_
  rintro e w3 ⟨rfl, hb3⟩
  have d0 := (hb3.below.cell (p := ⟨w.heap.size, 0, none⟩) (by have := hb2.size; simp; omega)).trans ((hb2.cell (p := ⟨w.heap.size, 0, none⟩) (by simp; omega)).trans c0)
  have d1 := (hb3.below.cell (p := ⟨w.heap.size, 1, none⟩) (by have := hb2.size; simp; omega)).trans ((hb2.cell (p := ⟨w.heap.size, 1, none⟩) (by simp; omega)).trans c1)
  go_wp2_with fail
  go_quiet (fail)
  go_wp2_with fail
  refine (P3.out _).mono ?_
  rintro e w4 ⟨rfl, hb4⟩
  go_wp2_with fail
  refine (P4.out _).mono ?_
  rintro e w5 ⟨rfl, hb5⟩
  go_wp2_with fail
  refine (P5.out _).mono ?_
  rintro e w6 ⟨rfl, hb6⟩
  go_wp2_with fail
  refine (P6.out _).mono ?_
  rintro e w7 ⟨rfl, hb7⟩
  go_wp2_with fail
  go_ret
  have B1 : Below w.heap.size w w1 := below_then ((Below.refl _ _).alloc (Nat.le_refl _) _) (by simp) hb1
  have B2 := below_then B1 (by omega) hb2
  have B3 := below_then B2 B2.size hb3.below
  have B4 := below_then (pw_below_drewN B3 nq) B3.size hb4
  have B5 := below_then B4 B4.size hb5
  have B6 := below_then B5 B5.size hb6
  have B7 := below_then B6 B6.size hb7
  exact ⟨by simp, B7⟩
end Go.Proofs.Ytkfpibpoelcalaa.Power
