/- The law NaturalInverse returns true for every two slices of digits and two numbers and leaves what lay in memory as it was. Condition: the slices read as digits, the numbers are uint32 (a row's arguments are). -/
import Derived.Test.YtmfkabebhbecgaaNum2
import Derived.Test.YtmfkabebhbecgaaL1
namespace Go.Proofs.Ytmfkabebhbecgaa.Inverse
open Go.RowKit Go.Proofs.Ytmfkabebhbecgaa.Dig Go.Proofs.Ytmfkabebhbecgaa.N Go.Proofs.YtmfkabebhbecgaaW.PrintWords Go.Proofs.YtmfkabebhbecgaaW.PrintLast Go.Proofs.YtmfkabebhbecgaaW.PrintMore
set_option linter.unusedVariables false

theorem shc_small {n : Nat} (h : n < 256) : shc ((n : Nat) : Int) = n := by
  unfold shc
  rw [if_neg (by omega), if_neg (by omega), Int.toNat_natCast]
theorem shr0_nat (n : Nat) : shr0 ((n : Nat) : Int) = n := Int.toNat_natCast n

set_option maxRecDepth 100000 in
set_option maxHeartbeats 2000000 in
theorem law_any {v0 v1 : Value} {l0 l1 : List Int} {w : World} (d n : Nat) (h0 : Rd w v0 l0) (h1 : Rd w v1 l1) (hd : d ≤ 4294967295) (hn : n ≤ 4294967295) :
    Calls Try.prog 10 #[v0, v1, .agg #[.int .u32 d, .int .u32 n]] w fun e w' => e = .returned (.bool true) ∧ Below w.heap.size w w' := by
  have s0 := h0.shp
  have s1 := h1.shp
  obtain ⟨m, hm⟩ : ∃ m : Nat, (n : Int) % 256 = m := ⟨n % 256, by omega⟩
  have hm1 : m < 256 := by omega
  by_cases hall : l0.length ≤ 20 ∧ l1.length ≤ 20
  · obtain ⟨b0, b1⟩ := hall
    have q0 := Num.of_rd h0 b0
    have q1 := Num.of_rd h1 b1
    have HF := Lib.hid (fun W => few2 (T := 22) 20 s0 s1 W true (by simp; omega))
    clear h0 h1 b0 b1
    obtain ⟨A0, c0, rfl⟩ := s0
    obtain ⟨A1, c1, rfl⟩ := s1
    generalize nv l0 = a at *
    generalize nv l1 = b at *
    generalize l0.length = k0 at *
    generalize l1.length = k1 at *
    have E1 := Lib.hid (shc_small hm1)
    have E2 := Lib.hid (shr0_nat m)
    have E3 := Lib.hid (show a * 2 ^ m / 2 ^ m = a from Nat.mul_div_cancel _ (Nat.pow_pos (by decide)))
    by_cases hd0 : d = 0
    · subst hd0
      go_enter Try.func10, Try.ntmps10
      have c0 : (w.alloc (.cells #[.int .u32 (0 : Nat), .int .u32 n] 24)).cell? ⟨w.heap.size, 0, none⟩ = some (.int .u32 (0 : Nat)) := by simp [World.cell?_alloc_at]
      have c1 : (w.alloc (.cells #[.int .u32 (0 : Nat), .int .u32 n] 24)).cell? ⟨w.heap.size, 1, none⟩ = some (.int .u32 n) := by simp [World.cell?_alloc_at]
      go_wp2_with fail
      go_quiet (fail)
      go_wp2_with fail
      refine (awake_any _).mono ?_
      rintro e w1 ⟨rfl, hb0⟩
      have hb1 := below_then (pw_below_drewN (below_alloc (Below.refl w.heap.size w) _) _) (by simp) hb0
      clear hb0 c0 c1
      go_wp2_with fail
      refine (HF.out _).mono ?_
      rintro e w2 ⟨rfl, hb2⟩
      go_wp2_with fail
      refine (add_n ((q0.below hb1).below hb2) ((q1.below hb1).below hb2) (by decide) (by decide)).mono ?_
      rintro e w3 ⟨v3, rfl, ho3, hn3, hb3⟩
      go_wp2_with fail
      refine (sub_n hn3 (((q1.below hb1).below hb2).below hb3) (by decide) (Nat.le_add_left _ _)).mono ?_
      rw [Nat.add_sub_cancel]
      rintro e w4 ⟨v4, rfl, ho4, hn4, hb4⟩
      go_wp2_with fail
      refine (shl_n ((((q0.below hb1).below hb2).below hb3).below hb4) (by decide) _ 8 (by rw [E1.out]; omega)).mono ?_
      rw [E1.out]
      rintro e w5 ⟨v5, rfl, ho5, hn5, hb5⟩
      go_wp2_with fail
      refine (shr_n hn5 (by decide) _ (by omega)).mono ?_
      rw [E2.out, E3.out]
      rintro e w6 ⟨v6, rfl, ho6, hn6, hb6⟩
      go_wp2_with fail
      refine (cmp_eq ((hn4.below hb5).below hb6) ((((((q0.below hb1).below hb2).below hb3).below hb4).below hb5).below hb6) rfl).mono ?_
      rintro e w7 ⟨rfl, hb7⟩
      go_wp2_with fail
      refine (cmp_eq (hn6.below hb7) (((((((q0.below hb1).below hb2).below hb3).below hb4).below hb5).below hb6).below hb7) rfl).mono ?_
      rintro e w8 ⟨rfl, hb8⟩
      go_wp2_with fail
      refine (divSmall_zero _ _).mono ?_
      rintro e w_ ⟨rfl, rfl⟩
      have B_0 := below_then (Below.refl w.heap.size w) (Nat.le_refl _) hb1
      have B_1 := below_then B_0 B_0.size hb2
      have B_2 := below_then B_1 B_1.size hb3
      have B_3 := below_then B_2 B_2.size hb4
      have B_4 := below_then B_3 B_3.size hb5
      have B_5 := below_then B_4 B_4.size hb6
      have B_6 := below_then B_5 B_5.size hb7
      have B_7 := below_then B_6 B_6.size hb8
      go_wp2_with fail
      go_ret
      exact ⟨rfl, B_7⟩
    · have E4 := Lib.hid (Nat.div_add_mod a d)
      have hr := Nat.mod_lt a (show 0 < d by omega)
      go_enter Try.func10, Try.ntmps10
      have c0 : (w.alloc (.cells #[.int .u32 d, .int .u32 n] 24)).cell? ⟨w.heap.size, 0, none⟩ = some (.int .u32 d) := by simp [World.cell?_alloc_at]
      have c1 : (w.alloc (.cells #[.int .u32 d, .int .u32 n] 24)).cell? ⟨w.heap.size, 1, none⟩ = some (.int .u32 n) := by simp [World.cell?_alloc_at]
      go_wp2_with fail
      go_quiet (fail)
      go_wp2_with fail
      refine (awake_any _).mono ?_
      rintro e w1 ⟨rfl, hb0⟩
      have hb1 := below_then (pw_below_drewN (below_alloc (Below.refl w.heap.size w) _) _) (by simp) hb0
      clear hb0 c0 c1
      go_wp2_with fail
      refine (HF.out _).mono ?_
      rintro e w2 ⟨rfl, hb2⟩
      go_wp2_with fail
      refine (add_n ((q0.below hb1).below hb2) ((q1.below hb1).below hb2) (by decide) (by decide)).mono ?_
      rintro e w3 ⟨v3, rfl, ho3, hn3, hb3⟩
      go_wp2_with fail
      refine (sub_n hn3 (((q1.below hb1).below hb2).below hb3) (by decide) (Nat.le_add_left _ _)).mono ?_
      rw [Nat.add_sub_cancel]
      rintro e w4 ⟨v4, rfl, ho4, hn4, hb4⟩
      go_wp2_with fail
      refine (shl_n ((((q0.below hb1).below hb2).below hb3).below hb4) (by decide) _ 8 (by rw [E1.out]; omega)).mono ?_
      rw [E1.out]
      rintro e w5 ⟨v5, rfl, ho5, hn5, hb5⟩
      go_wp2_with fail
      refine (shr_n hn5 (by decide) _ (by omega)).mono ?_
      rw [E2.out, E3.out]
      rintro e w6 ⟨v6, rfl, ho6, hn6, hb6⟩
      go_wp2_with fail
      refine (cmp_eq ((hn4.below hb5).below hb6) ((((((q0.below hb1).below hb2).below hb3).below hb4).below hb5).below hb6) rfl).mono ?_
      rintro e w7 ⟨rfl, hb7⟩
      go_wp2_with fail
      refine (cmp_eq (hn6.below hb7) (((((((q0.below hb1).below hb2).below hb3).below hb4).below hb5).below hb6).below hb7) rfl).mono ?_
      rintro e w8 ⟨rfl, hb8⟩
      go_wp2_with fail
      refine (divSmall_n ((((((((q0.below hb1).below hb2).below hb3).below hb4).below hb5).below hb6).below hb7).below hb8) (by decide) d (by omega) hd).mono ?_
      rintro e w9 ⟨v9, rfl, ho9, hn9, hb9⟩
      generalize hR : a % d = R at *
      clear hR
      go_wp2_with fail
      refine (mulAdd_n hn9 (by decide) d R hd (by omega)).mono ?_
      rintro e w10 ⟨v10, rfl, ho10, hn10, hb10⟩
      go_wp2_with fail
      refine (cmp_eq hn10 ((((((((((q0.below hb1).below hb2).below hb3).below hb4).below hb5).below hb6).below hb7).below hb8).below hb9).below hb10) (by rw [Nat.mul_comm]; exact E4.out)).mono ?_
      rintro e w11 ⟨rfl, hb11⟩
      go_wp2_with fail
      have B_0 := below_then (Below.refl w.heap.size w) (Nat.le_refl _) hb1
      have B_1 := below_then B_0 B_0.size hb2
      have B_2 := below_then B_1 B_1.size hb3
      have B_3 := below_then B_2 B_2.size hb4
      have B_4 := below_then B_3 B_3.size hb5
      have B_5 := below_then B_4 B_4.size hb6
      have B_6 := below_then B_5 B_5.size hb7
      have B_7 := below_then B_6 B_6.size hb8
      have B_8 := below_then B_7 B_7.size hb9
      have B_9 := below_then B_8 B_8.size hb10
      have B_10 := below_then B_9 B_9.size hb11
      go_ret
      exact ⟨rfl, B_10⟩
  · have HF := Lib.hid (fun W => few2 (T := 22) 20 s0 s1 W false (by simp; omega))
    clear h0 h1 hall
    obtain ⟨A0, c0, rfl⟩ := s0
    obtain ⟨A1, c1, rfl⟩ := s1
    generalize l0.length = k0 at *
    generalize l1.length = k1 at *
    go_enter Try.func10, Try.ntmps10
    have c0 : (w.alloc (.cells #[.int .u32 d, .int .u32 n] 24)).cell? ⟨w.heap.size, 0, none⟩ = some (.int .u32 d) := by simp [World.cell?_alloc_at]
    have c1 : (w.alloc (.cells #[.int .u32 d, .int .u32 n] 24)).cell? ⟨w.heap.size, 1, none⟩ = some (.int .u32 n) := by simp [World.cell?_alloc_at]
    go_wp2_with fail
    go_quiet (fail)
    go_wp2_with fail
    refine (awake_any _).mono ?_
    rintro e w1 ⟨rfl, hb0⟩
    have hb1 := below_then (pw_below_drewN (below_alloc (Below.refl w.heap.size w) _) _) (by simp) hb0
    clear hb0 c0 c1
    go_wp2_with fail
    refine (HF.out _).mono ?_
    rintro e w2 ⟨rfl, hb2⟩
    go_wp2_with fail
    refine (awake_any _).mono ?_
    rintro e w3 ⟨rfl, hb3⟩
    go_wp2_with fail
    have B_0 := below_then (Below.refl w.heap.size w) (Nat.le_refl _) hb1
    have B_1 := below_then B_0 B_0.size hb2
    have B_2 := below_then B_1 B_1.size hb3
    go_ret
    exact ⟨rfl, B_2⟩
end Go.Proofs.Ytmfkabebhbecgaa.Inverse
