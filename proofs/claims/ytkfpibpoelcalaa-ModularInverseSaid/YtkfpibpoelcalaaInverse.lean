/- The law ModularInverse returns true for every a, m below 2^32 and leaves what lay in memory as it was. No further condition. -/
import Derived.Test.YtkfpibpoelcalaaM2
import Derived.RegionTactic
import Derived.ChangeAlike
import Derived.Outline
import Derived.WalkKit
import Derived.WalkSpells
import Derived.Deep.QuietTactic
import Derived.BigQuiet
import Derived.Lib.Hide
namespace Go.Proofs.Ytkfpibpoelcalaa.Inverse
open Go.RowKit Go.Proofs.Ytkfpibpoelcalaa.B Go.Proofs.Ytkfpibpoelcalaa.M Go.Proofs.YtkfpibpoelcalaaW.PrintWords Go.Proofs.YtkfpibpoelcalaaW.PrintLast Go.Proofs.YtkfpibpoelcalaaW.PrintMore

theorem wide_any (m : Nat) (hm : m ≤ 4294967295) (w : World) : Calls Try.prog 24 #[.int .u32 m] w fun e w' => e = .returned (.int .u64 (md m : Nat)) ∧ w' = w := by
  by_cases h0 : m = 0
  · subst h0
    go_enter Try.func24, Try.ntmps24
    go_wp2
    go_ret
    exact ⟨rfl, rfl⟩
  · have h1 : md m = m := by unfold md; rw [if_neg h0]
    rw [h1]
    have h2 : ¬ ((m : Int) < 1) := by omega
    clear h1
    go_enter Try.func24, Try.ntmps24
    go_wp2
    go_ret
    exact ⟨rfl, rfl⟩

theorem mul_any (a b m : Nat) (ha : a ≤ 4294967295) (hb : b ≤ 4294967295) (hm : m ≤ 4294967295) (w : World) :
    Calls Try.prog 13 #[.int .u32 a, .int .u32 b, .int .u32 m] w fun e w' => e = .returned (.int .u32 (a * b % md m : Nat)) ∧ w' = w := by
  have hab : (a : Int) * (b : Int) ≤ 18446744065119617025 := by have := mul_le_u64 ha hb; rw [← Int.natCast_mul]; omega
  have hab0 : 0 ≤ (a : Int) * (b : Int) := by rw [← Int.natCast_mul]; omega
  have hp := md_pos m
  have hl := md_le hm (by decide : 1 ≤ 4294967295)
  have hr := Nat.mod_lt (a * b) hp
  have E := Lib.hid (show (((a * b % md m : Nat) : Int)) = (a : Int) * b % (md m : Nat) by rw [← Int.natCast_mul]; rfl)
  have hr0 : 0 ≤ (a : Int) * (b : Int) % ((md m : Nat) : Int) := by rw [← E.out]; omega
  have hr1 : (a : Int) * (b : Int) % ((md m : Nat) : Int) ≤ 4294967295 := by rw [← E.out]; omega
  have C := Lib.hid (wide_any m hm)
  rw [E.out]
  clear E hr
  generalize md m = n at *
  go_enter Try.func13, Try.ntmps13
  go_wp2_with (go_at_call 24; refine (C.out _).mono ?_; rintro e w' ⟨rfl, rfl⟩)
  go_ret
  exact ⟨rfl, rfl⟩

set_option maxHeartbeats 400000 in
theorem law_any (a m : Nat) (w : World) (ha : a ≤ 4294967295) (hm : m ≤ 4294967295) :
    Calls Try.prog 4 #[.int .u32 a, .int .u32 m] w fun e w' => e = .returned (.bool true) ∧ Below w.heap.size w w' := by
  have hp := md_pos m
  have hl := md_le hm (by decide : 1 ≤ 4294967295)
  have hlt := Nat.mod_lt a hp
  have C0 := Lib.hid (fun w => cylinderref07_Modulus.calls (m : Int) _ w (modulus_eq m hm))
  obtain ⟨res, h1, h2⟩ := inverse_eq a m 4294967296 ha hm (Nat.le_refl _)
  obtain ⟨r1, r2⟩ := res
  have C1 := Lib.hid (fun w => modular_Inverse.calls 4294967296 (a : Int) m r1 r2 w h1)
  have C2 := Lib.hid (fun w => cylinderref07_Gcd.calls 4294967296 ((a % md m : Nat) : Int) (md m : Nat) _ w (gcd_loop (md m) 4294967296 (a % md m) (by omega)))
  have C3 := fun (x : Nat) (hx : x ≤ 4294967295) (w : World) => mul_any a x m ha hx hm w
  have hg : 0 < Nat.gcd (a % md m) (md m) := Nat.gcd_pos_of_pos_right _ hp
  have hgl : Nat.gcd (a % md m) (md m) ≤ md m := Nat.gcd_le_right _ hp
  rw [Int.natCast_emod] at C2
  clear h1
  by_cases hg1 : Nat.gcd (a % md m) (md m) = 1
  · obtain ⟨x, hx, hxl, hxe⟩ := h2.1 hg1
    simp only [Prod.mk.injEq] at hx
    obtain ⟨rfl, rfl⟩ := hx
    rw [hg1] at C2
    have C3 := Lib.hid (C3 x (by omega))
    rw [hxe] at C3
    have e1 : ((1 % md m : Nat) : Int) = 1 % ((md m : Nat) : Int) := rfl
    rw [e1] at C3
    clear h2 hxe hg1 e1 hlt hg hgl
    generalize md m = n at *
    have hxn : (x : Int) < (n : Int) := by omega
    have h1n := Int.emod_nonneg 1 (by omega : (n : Int) ≠ 0)
    have h1n2 : (1 : Int) % (n : Int) ≤ 1 := by
      rcases Nat.lt_or_ge 1 n with h | h
      · rw [Int.emod_eq_of_lt (by omega) (by omega)]; exact Int.le_refl _
      · have := Int.emod_lt_of_pos 1 (by omega : (0 : Int) < n); omega
    go_enter Try.func4, Try.ntmps4
    go_wp2_with fail
    refine (cylinderlaw07_fit.calls 60 true _ fit_true).mono ?_
    rintro e w1 ⟨rfl, hb1⟩
    go_wp2_with fail
    refine (C0.out _).mono ?_
    rintro e w2 ⟨rfl, hb2⟩
    go_wp2_with fail
    refine (C1.out _).mono ?_
    rintro e w3 ⟨rfl, hb3⟩
    go_wp2_with fail
    refine (C2.out _).mono ?_
    rintro e w4 ⟨rfl, hb4⟩
    go_wp2_with fail
    go_quiet ((go_at_call 13; exact Calls.quiet_of_same (C3.out _)))
    go_wp2
    go_ret
    have B1 : Below w.heap.size w w1 := hb1
    have B2 := below_then B1 B1.size hb2.below
    have B3 := below_then B2 B2.size hb3
    have B4 := below_then B3 B3.size hb4.below
    exact ⟨by simp, pw_below_drewN B4 _⟩
  · obtain ⟨rfl, rfl⟩ : r1 = 0 ∧ r2 = 5 := by have := h2.2 hg1; simpa using this
    clear h2 C3
    have hne : ((Nat.gcd (a % md m) (md m) : Int) != 1) = true := by rw [bne_iff_ne]; omega
    clear hg1 hlt
    generalize Nat.gcd (a % md m) (md m) = g at *
    generalize md m = n at *
    go_enter Try.func4, Try.ntmps4
    go_wp2_with fail
    refine (cylinderlaw07_fit.calls 60 true _ fit_true).mono ?_
    rintro e w1 ⟨rfl, hb1⟩
    go_wp2_with fail
    refine (C0.out _).mono ?_
    rintro e w2 ⟨rfl, hb2⟩
    go_wp2_with fail
    refine (C1.out _).mono ?_
    rintro e w3 ⟨rfl, hb3⟩
    go_wp2_with fail
    refine (C2.out _).mono ?_
    rintro e w4 ⟨rfl, hb4⟩
    go_wp2_with fail
    go_ret
    have B1 : Below w.heap.size w w1 := hb1
    have B2 := below_then B1 B1.size hb2.below
    have B3 := below_then B2 B2.size hb3
    have B4 := below_then B3 B3.size hb4.below
    exact ⟨by simp, B4⟩
end Go.Proofs.Ytkfpibpoelcalaa.Inverse
