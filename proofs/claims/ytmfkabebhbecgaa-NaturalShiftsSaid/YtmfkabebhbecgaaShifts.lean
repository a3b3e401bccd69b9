/- The law NaturalShifts returns true for all its arguments and leaves what lay in memory as it was. Condition: slices read as digits, numbers are in their types' ranges (a row's arguments are). -/
import Derived.Test.YtmfkabebhbecgaaNum2
import Derived.Test.YtmfkabebhbecgaaL1
import Derived.Test.YtmfkabebhbecgaaR9
namespace Go.Proofs.Ytmfkabebhbecgaa.Shifts
open Go.RowKit Go.Proofs.Ytmfkabebhbecgaa.Dig Go.Proofs.Ytmfkabebhbecgaa.N Go.Proofs.YtmfkabebhbecgaaW.PrintWords Go.Proofs.YtmfkabebhbecgaaW.PrintLast Go.Proofs.YtmfkabebhbecgaaW.PrintMore
attribute [local go_sem] max2_int min2_int
set_option linter.unusedVariables false


set_option maxRecDepth 100000 in
set_option maxHeartbeats 4000000 in
theorem law_any {v0 : Value} {l0 : List Int} {w : World} (n : Int) (h0 : Rd w v0 l0) (hn : -9223372036854775808 ≤ n ∧ n ≤ 9223372036854775807) :
    Calls Try.prog 6 #[v0, .int .i64 n] w fun e w' => e = .returned (.bool true) ∧ Below w.heap.size w w' := by
  have s0 := h0.shp
  by_cases hall : l0.length ≤ 20
  · have b0 := hall
    have q0 := Num.of_rd h0 b0
    have HF := Lib.hid (fun W => few1 (T := 22) 20 s0 W true (by simp; omega))
    clear h0 b0
    obtain ⟨A0, c0, rfl⟩ := s0
    generalize nv l0 = a at *
    generalize l0.length = k0 at *
    by_cases hnb : n ≤ 3000
    · obtain ⟨k, hk1, hk2, hk3, hk4⟩ : ∃ k : Nat, max n 0 = (k : Int) ∧ shc n = k ∧ shr0 n = k ∧ k ≤ 3000 := ⟨n.toNat, by omega, by unfold shc; split <;> (try split) <;> omega, rfl, by omega⟩
      have E1 := Lib.hid hk2
      have E2 := Lib.hid hk3
      have E0 := Lib.hid hk1
      clear hk1 hk2 hk3
      go_enter Try.func6, Try.ntmps6
      go_wp2_with fail
      refine (awake_any _).mono ?_
      rintro e w1 ⟨rfl, hb1⟩
      go_wp2_with fail
      refine (HF.out _).mono ?_
      rintro e w2 ⟨rfl, hb2⟩
      go_wp2_with fail
      refine (of_b ((q0.below hb1).below hb2) (by decide)).mono ?_
      rintro e w3 ⟨v3, rfl, hn3, hb3⟩
      go_wp2_with fail
      have C := shl_n (((q0.below hb1).below hb2).below hb3) (by decide) n 94 (by rw [E1.out]; omega)
      rw [E1.out] at C
      refine C.mono ?_
      clear C
      rintro e w4 ⟨v4, rfl, ho4, hn4, hb4⟩
      have hr4 := ho4.rd
      go_wp2_with fail
      have C := up_b (hn3.below hb4) (by decide) k (by omega)
      rw [← E0.out] at C
      refine C.mono ?_
      clear C
      rintro e w5 ⟨v5, rfl, hn5, hb5⟩
      have hn5 := BN.more hn5 (show 32 * 20 + k ≤ 4000 by omega)
      go_wp2_with fail
      refine (is_yes (hn4.below hb5) (hr4.below hb5) hn5 (by decide) (by decide) (rfl)).mono ?_
      rintro e w6 ⟨rfl, hb6⟩
      go_wp2_with fail
      have C := shr_n ((((((q0.below hb1).below hb2).below hb3).below hb4).below hb5).below hb6) (by decide) n hn.2
      rw [E2.out] at C
      refine C.mono ?_
      clear C
      rintro e w7 ⟨v7, rfl, ho7, hn7, hb7⟩
      have hr7 := ho7.rd
      go_wp2_with fail
      have C := down_b ((((hn3.below hb4).below hb5).below hb6).below hb7) k (by omega)
      rw [← E0.out] at C
      refine C.mono ?_
      clear C
      rintro e w8 ⟨v8, rfl, hn8, hb8⟩
      go_wp2_with fail
      refine (is_yes (hn7.below hb8) (hr7.below hb8) hn8 (by decide) (by decide) (rfl)).mono ?_
      rintro e w9 ⟨rfl, hb9⟩
      go_wp2_with fail
      have B_0 := below_then (Below.refl w.heap.size w) (Nat.le_refl _) hb1
      have B_1 := below_then B_0 B_0.size hb2
      have B_2 := below_then B_1 B_1.size hb3
      have B_3 := below_then B_2 B_2.size hb4
      have B_4 := below_then B_3 B_3.size hb5
      have B_5 := below_then B_4 B_4.size hb6
      have B_6 := below_then B_5 B_5.size hb7
      have B_7 := below_then B_6 B_6.size hb8
      have B_8 := below_then B_7 B_7.size hb9
      go_ret
      exact ⟨rfl, B_8⟩
    · have hnb3 : 3000 < n := by omega
      go_enter Try.func6, Try.ntmps6
      go_wp2_with fail
      refine (awake_any _).mono ?_
      rintro e w1 ⟨rfl, hb1⟩
      go_wp2_with fail
      refine (HF.out _).mono ?_
      rintro e w2 ⟨rfl, hb2⟩
      go_wp2_with fail
      refine (awake_any _).mono ?_
      rintro e w3 ⟨rfl, hb3⟩
      go_wp2_with fail
      have B_0 := below_then (Below.refl w.heap.size w) (Nat.le_refl _) hb1
      have B_1 := below_then B_0 B_0.size hb2
      have B_2 := below_then B_1 B_1.size hb3
      go_ret
      exact ⟨rfl, B_2⟩
  · have HF := Lib.hid (fun W => few1 (T := 22) 20 s0 W false (by simp; omega))
    clear h0 hall
    obtain ⟨A0, c0, rfl⟩ := s0
    generalize l0.length = k0 at *
    go_enter Try.func6, Try.ntmps6
    go_wp2_with fail
    refine (awake_any _).mono ?_
    rintro e w1 ⟨rfl, hb1⟩
    go_wp2_with fail
    refine (HF.out _).mono ?_
    rintro e w2 ⟨rfl, hb2⟩
    go_wp2_with fail
    refine (awake_any _).mono ?_
    rintro e w3 ⟨rfl, hb3⟩
    go_wp2_with fail
    have B_0 := below_then (Below.refl w.heap.size w) (Nat.le_refl _) hb1
    have B_1 := below_then B_0 B_0.size hb2
    have B_2 := below_then B_1 B_1.size hb3
    go_ret
    exact ⟨rfl, B_2⟩
end Go.Proofs.Ytmfkabebhbecgaa.Shifts
