/- The law ModularPrime returns true for every n below 2^32 and every a, b below 2^16, and leaves what lay in memory as it was. No further condition. -/
import Derived.Test.YtkfpibpoelcalaaM3
import Derived.RegionTactic
import Derived.ChangeAlike
import Derived.Outline
import Derived.WalkKit
import Derived.WalkSpells
import Derived.Deep.QuietTactic
import Derived.BigQuiet
import Derived.Lib.Hide
namespace Go.Proofs.Ytkfpibpoelcalaa.Prime
open Go.RowKit Go.Proofs.Ytkfpibpoelcalaa.B Go.Proofs.Ytkfpibpoelcalaa.M Go.Proofs.YtkfpibpoelcalaaW.PrintWords Go.Proofs.YtkfpibpoelcalaaW.PrintLast Go.Proofs.YtkfpibpoelcalaaW.PrintMore

theorem not_product (a b : Nat) (ha : 1 < a) (hb : 1 < b) : pB (a * b) = false := by
  refine pB_eq ⟨fun h => by simp at h, fun hp => ?_⟩
  exfalso
  rcases hp.2 a (Nat.dvd_mul_right a b) with h | h
  · omega
  · have : a * 2 ≤ a * b := Nat.mul_le_mul_left a hb
    omega

set_option maxHeartbeats 1000000 in
theorem law_any (n a b : Nat) (w : World) (hn : n ≤ 4294967295) (ha : a ≤ 65535) (hb : b ≤ 65535) :
    Calls Try.prog 5 #[.int .u32 n, .int .u16 a, .int .u16 b] w fun e w' => e = .returned (.bool true) ∧ Below w.heap.size w w' := by
  have C1 := Lib.hid fun w => modular_IsPrime.calls 201 (n : Int) _ w (isPrime_eq n 201 hn (by decide))
  have D1 := Lib.hid fun w => cylinderref07_IsPrime.calls 65537 (n : Int) _ w (refPrime_eq n 65537 hn (by decide))
  have C2 := Lib.hid fun w => modular_IsPrime.calls 201 (a : Int) _ w (isPrime_eq a 201 (by omega) (by decide))
  have D2 := Lib.hid fun w => cylinderref07_IsPrime.calls 65537 (a : Int) _ w (refPrime_eq a 65537 (by omega) (by decide))
  generalize pB n = pn at *
  have hab : a * b ≤ 4294836225 := Nat.mul_le_mul ha hb
  by_cases hg : 1 < a ∧ 1 < b
  · obtain ⟨h1, h2⟩ := hg
    have C0 := fun w => modular_IsPrime.calls 201 ((a * b : Nat) : Int) _ w (isPrime_eq (a * b) 201 (by omega) (by decide))
    rw [not_product a b h1 h2] at C0
    obtain ⟨m, hm⟩ : ∃ m, a * b = m := ⟨_, rfl⟩
    have E : (a : Int) * (b : Int) = (m : Int) := by rw [← hm, Int.natCast_mul]
    rw [hm] at C0 hab
    have C0' := Lib.hid C0
    clear C0 hm
    generalize pB a = pa at *
    go_enter Try.func5, Try.ntmps5
    go_wp2_with fail
    refine (cylinderlaw07_fit.calls 60 true _ fit_true).mono ?_
    rintro e w1 ⟨rfl, hb1⟩
    go_wp2_with fail
    refine (C0'.out _).mono ?_
    rintro e w2 ⟨rfl, hb2⟩
    go_wp2_with fail
    refine (C1.out _).mono ?_
    rintro e w3 ⟨rfl, hb3⟩
    go_wp2_with fail
    refine (D1.out _).mono ?_
    rintro e w4 ⟨rfl, hb4⟩
    go_wp2_with fail
    refine (C2.out _).mono ?_
    rintro e w5 ⟨rfl, hb5⟩
    go_wp2_with fail
    refine (D2.out _).mono ?_
    rintro e w6 ⟨rfl, hb6⟩
    go_wp2_with fail
    have B1 := hb1
    have B2 := below_then B1 B1.size hb2
    have B3 := below_then B2 B2.size hb3
    have B4 := below_then B3 B3.size hb4.below
    have B5 := below_then B4 B4.size hb5
    have B6 := below_then B5 B5.size hb6.below
    go_ret
    exact ⟨rfl, B6⟩
  · have hg' : (decide ((1 : Int) < (a : Int)) && decide ((1 : Int) < (b : Int))) = false := by
      rw [Bool.eq_false_iff, Ne, Bool.and_eq_true, decide_eq_true_iff, decide_eq_true_iff]; omega
    rcases Nat.lt_or_ge 1 a with h1 | h1
    · have h2 : b ≤ 1 := by omega
      clear hg hg' hab
      generalize pB a = pa at *
      go_enter Try.func5, Try.ntmps5
      go_wp2_with fail
      refine (cylinderlaw07_fit.calls 60 true _ fit_true).mono ?_
      rintro e w1 ⟨rfl, hb1⟩
      go_wp2_with fail
      refine (C1.out _).mono ?_
      rintro e w3 ⟨rfl, hb3⟩
      go_wp2_with fail
      refine (D1.out _).mono ?_
      rintro e w4 ⟨rfl, hb4⟩
      go_wp2_with fail
      refine (C2.out _).mono ?_
      rintro e w5 ⟨rfl, hb5⟩
      go_wp2_with fail
      refine (D2.out _).mono ?_
      rintro e w6 ⟨rfl, hb6⟩
      go_wp2_with fail
      have B1 := hb1
      have B3 := below_then B1 B1.size hb3
      have B4 := below_then B3 B3.size hb4.below
      have B5 := below_then B4 B4.size hb5
      have B6 := below_then B5 B5.size hb6.below
      go_ret
      exact ⟨rfl, B6⟩
    · clear hg hg' hab
      generalize pB a = pa at *
      go_enter Try.func5, Try.ntmps5
      go_wp2_with fail
      refine (cylinderlaw07_fit.calls 60 true _ fit_true).mono ?_
      rintro e w1 ⟨rfl, hb1⟩
      go_wp2_with fail
      refine (C1.out _).mono ?_
      rintro e w3 ⟨rfl, hb3⟩
      go_wp2_with fail
      refine (D1.out _).mono ?_
      rintro e w4 ⟨rfl, hb4⟩
      go_wp2_with fail
      refine (C2.out _).mono ?_
      rintro e w5 ⟨rfl, hb5⟩
      go_wp2_with fail
      refine (D2.out _).mono ?_
      rintro e w6 ⟨rfl, hb6⟩
      go_wp2_with fail
      have B1 := hb1
      have B3 := below_then B1 B1.size hb3
      have B4 := below_then B3 B3.size hb4.below
      have B5 := below_then B4 B4.size hb5
      have B6 := below_then B5 B5.size hb6.below
      go_ret
      exact ⟨rfl, B6⟩
end Go.Proofs.Ytkfpibpoelcalaa.Prime
