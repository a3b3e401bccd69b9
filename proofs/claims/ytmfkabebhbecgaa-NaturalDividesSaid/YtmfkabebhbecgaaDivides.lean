/- The law NaturalDivides returns true for all its arguments and leaves what lay in memory as it was. Condition: slices read as digits, numbers are in their types' ranges (a row's arguments are). -/
import Derived.Test.YtmfkabebhbecgaaNum2
import Derived.Test.YtmfkabebhbecgaaL1
import Derived.Test.YtmfkabebhbecgaaR9
namespace Go.Proofs.Ytmfkabebhbecgaa.Divides
open Go.RowKit Go.Proofs.Ytmfkabebhbecgaa.Dig Go.Proofs.Ytmfkabebhbecgaa.N Go.Proofs.YtmfkabebhbecgaaW.PrintWords Go.Proofs.YtmfkabebhbecgaaW.PrintLast Go.Proofs.YtmfkabebhbecgaaW.PrintMore
attribute [local go_sem] max2_int min2_int
set_option linter.unusedVariables false


set_option maxRecDepth 100000 in
set_option maxHeartbeats 4000000 in
theorem law_any {v0 : Value} {l0 : List Int} {w : World} (d : Nat) (h0 : Rd w v0 l0) (hd : d ≤ 4294967295) :
    Calls Try.prog 5 #[v0, .int .u32 d] w fun e w' => e = .returned (.bool true) ∧ Below w.heap.size w w' := by
  have s0 := h0.shp
  by_cases hall : l0.length ≤ 20
  · have b0 := hall
    have q0 := Num.of_rd h0 b0
    have HF := Lib.hid (fun W => few1 (T := 22) 20 s0 W true (by simp; omega))
    clear h0 b0
    obtain ⟨A0, c0, rfl⟩ := s0
    generalize nv l0 = a at *
    generalize l0.length = k0 at *
    by_cases hd0 : d = 0
    · subst hd0
      go_enter Try.func5, Try.ntmps5
      go_wp2_with fail
      refine (awake_any _).mono ?_
      rintro e w1 ⟨rfl, hb1⟩
      go_wp2_with fail
      refine (HF.out _).mono ?_
      rintro e w2 ⟨rfl, hb2⟩
      go_wp2_with fail
      refine (divSmall_zero _ _).mono ?_
      rintro e w_ ⟨rfl, rfl⟩
      go_wp2_with fail
      have B_0 := below_then (Below.refl w.heap.size w) (Nat.le_refl _) hb1
      have B_1 := below_then B_0 B_0.size hb2
      go_ret
      exact ⟨rfl, B_1⟩
    · have hr := Nat.mod_lt a (show 0 < d by omega)
      go_enter Try.func5, Try.ntmps5
      go_wp2_with fail
      refine (awake_any _).mono ?_
      rintro e w1 ⟨rfl, hb1⟩
      go_wp2_with fail
      refine (HF.out _).mono ?_
      rintro e w2 ⟨rfl, hb2⟩
      go_wp2_with fail
      refine (divSmall_n ((q0.below hb1).below hb2) (by decide) d (by omega) hd).mono ?_
      rintro e w3 ⟨v3, rfl, ho3, hn3, hb3⟩
      have hr3 := ho3.rd
      have hR : a % d ≤ 4294967295 := by omega
      have hdiv : a / d = a / d := rfl
      generalize hRe : a % d = R at *
      have HRe := Lib.hid hRe
      clear hRe hdiv
      go_wp2_with fail
      refine (of_b (((q0.below hb1).below hb2).below hb3) (by decide)).mono ?_
      rintro e w4 ⟨v4, rfl, hn4, hb4⟩
      go_wp2_with fail
      refine (of_b (lit1 _ d hd) (by decide)).mono ?_
      rintro e w5 ⟨v5, rfl, hn5, hb5⟩
      go_wp2_with fail
      refine (divMod_b ((hn4.below (below_alloc (Below.refl w4.heap.size w4) (.cells #[.int .u32 d] 23))).below hb5) hn5 (by decide) (by decide) (by omega)).mono ?_
      rintro e w6 ⟨v6, u6, rfl, hn6, hm6, hb6⟩
      go_wp2_with fail
      refine (is_yes ((((hn3.below hb4).below (below_alloc (Below.refl w4.heap.size w4) (.cells #[.int .u32 d] 23))).below hb5).below hb6) ((((hr3.below hb4).below (below_alloc (Below.refl w4.heap.size w4) (.cells #[.int .u32 d] 23))).below hb5).below hb6) hn6 (by decide) (by decide) (rfl)).mono ?_
      rintro e w7 ⟨rfl, hb7⟩
      go_wp2_with fail
      refine (of_n R (by omega) _).mono ?_
      rintro e w8 ⟨v8, rfl, ho8, hn8, hb8⟩
      have hr8 := ho8.rd
      go_wp2_with fail
      refine (is_yes hn8 hr8 ((hm6.below hb7).below hb8) (by decide) (by decide) (HRe.out.symm)).mono ?_
      rintro e w9 ⟨rfl, hb9⟩
      go_wp2_with fail
      have B_0 := below_then (Below.refl w.heap.size w) (Nat.le_refl _) hb1
      have B_1 := below_then B_0 B_0.size hb2
      have B_2 := below_then B_1 B_1.size hb3
      have B_3 := below_then B_2 B_2.size hb4
      have B_4 := below_then B_3 B_3.size (below_alloc (Below.refl w4.heap.size w4) (.cells #[.int .u32 d] 23))
      have B_5 := below_then B_4 B_4.size hb5
      have B_6 := below_then B_5 B_5.size hb6
      have B_7 := below_then B_6 B_6.size hb7
      have B_8 := below_then B_7 B_7.size hb8
      have B_9 := below_then B_8 B_8.size hb9
      go_ret
      exact ⟨rfl, B_9⟩
  · have HF := Lib.hid (fun W => few1 (T := 22) 20 s0 W false (by simp; omega))
    clear h0 hall
    obtain ⟨A0, c0, rfl⟩ := s0
    generalize l0.length = k0 at *
    go_enter Try.func5, Try.ntmps5
    go_wp2_with fail
    refine (awake_any _).mono ?_
    rintro e w1 ⟨rfl, hb1⟩
    go_wp2_with fail
    refine (HF.out _).mono ?_
    rintro e w2 ⟨rfl, hb2⟩
    go_wp2_with fail
    refine (awake_any _).mono ?_
    rintro e w3 ⟨rfl, hb3⟩
    go_wp2_with fail
    have B_0 := below_then (Below.refl w.heap.size w) (Nat.le_refl _) hb1
    have B_1 := below_then B_0 B_0.size hb2
    have B_2 := below_then B_1 B_1.size hb3
    go_ret
    exact ⟨rfl, B_2⟩
end Go.Proofs.Ytmfkabebhbecgaa.Divides
