/- The law NaturalAdds returns true for all its arguments and leaves what lay in memory as it was. Condition: slices read as digits, numbers are in their types' ranges (a row's arguments are). -/
import Derived.Test.YtmfkabebhbecgaaNum2
import Derived.Test.YtmfkabebhbecgaaL1
import Derived.Test.YtmfkabebhbecgaaR9
namespace Go.Proofs.Ytmfkabebhbecgaa.Adds
open Go.RowKit Go.Proofs.Ytmfkabebhbecgaa.Dig Go.Proofs.Ytmfkabebhbecgaa.N Go.Proofs.YtmfkabebhbecgaaW.PrintWords Go.Proofs.YtmfkabebhbecgaaW.PrintLast Go.Proofs.YtmfkabebhbecgaaW.PrintMore
attribute [local go_sem] max2_int min2_int
set_option linter.unusedVariables false


set_option maxRecDepth 100000 in
set_option maxHeartbeats 4000000 in
theorem law_any {v0 v1 : Value} {l0 l1 : List Int} {w : World} (h0 : Rd w v0 l0) (h1 : Rd w v1 l1) :
    Calls Try.prog 9 #[v0, v1] w fun e w' => e = .returned (.bool true) ∧ Below w.heap.size w w' := by
  have s0 := h0.shp
  have s1 := h1.shp
  by_cases hall : l0.length ≤ 30 ∧ l1.length ≤ 30
  · obtain ⟨b0, b1⟩ := hall
    have q0 := Num.of_rd h0 b0
    have q1 := Num.of_rd h1 b1
    have HF := Lib.hid (fun W => few2 (T := 22) 30 s0 s1 W true (by simp; omega))
    clear h0 b0 h1 b1
    obtain ⟨A0, c0, rfl⟩ := s0
    obtain ⟨A1, c1, rfl⟩ := s1
    generalize nv l0 = a at *
    generalize nv l1 = b at *
    generalize l0.length = k0 at *
    generalize l1.length = k1 at *
    by_cases hle : b ≤ a
    · have hcv : 0 ≤ cmpv a b := by unfold cmpv; rw [if_neg (by omega)]; split <;> omega
      have hcr := cmpv_range a b
      generalize hcq : cmpv a b = cv at *
      have HCV := Lib.hid hcq
      clear hcq
      by_cases hz : a = 0
      · have EZ := Lib.hid (show isz a = true from isz_true hz)
        have hLz : (bt a).length = 0 := bt_len0.2 hz
        go_enter Try.func9, Try.ntmps9
        go_wp2_with fail
        refine (awake_any _).mono ?_
        rintro e w1 ⟨rfl, hb1⟩
        go_wp2_with fail
        refine (HF.out _).mono ?_
        rintro e w2 ⟨rfl, hb2⟩
        go_wp2_with fail
        refine (of_b ((q0.below hb1).below hb2) (by decide)).mono ?_
        rintro e w3 ⟨v3, rfl, hn3, hb3⟩
        obtain ⟨XA, XC, rfl⟩ := hn3.shp
        generalize hLe : (bt a).length = LL at *
        clear hLe
        subst hLz
        go_wp2_with fail
        refine (of_b (((q1.below hb1).below hb2).below hb3) (by decide)).mono ?_
        rintro e w4 ⟨v4, rfl, hn4, hb4⟩
        go_wp2_with fail
        refine (cmp_b (hn3.below hb4) hn4 (by decide) (by decide)).mono ?_
        rw [HCV.out]
        rintro e w5 ⟨rfl, hb5⟩
        go_wp2_with fail
        refine (sub_n (((((q0.below hb1).below hb2).below hb3).below hb4).below hb5) (((((q1.below hb1).below hb2).below hb3).below hb4).below hb5) (by decide) hle).mono ?_
        rintro e w6 ⟨v6, rfl, ho6, hn6, hb6⟩
        have hr6 := ho6.rd
        go_wp2_with fail
        refine (cmp_n ((((((q0.below hb1).below hb2).below hb3).below hb4).below hb5).below hb6) ((((((q1.below hb1).below hb2).below hb3).below hb4).below hb5).below hb6)).mono ?_
        rw [HCV.out]
        rintro e w7 ⟨rfl, hb7⟩
        go_wp2_with fail
        refine (add_n (((((((q0.below hb1).below hb2).below hb3).below hb4).below hb5).below hb6).below hb7) (((((((q1.below hb1).below hb2).below hb3).below hb4).below hb5).below hb6).below hb7) (by decide) (by decide)).mono ?_
        rintro e w8 ⟨v8, rfl, ho8, hn8, hb8⟩
        have hr8 := ho8.rd
        go_wp2_with fail
        refine (add_b (((((hn3.below hb4).below hb5).below hb6).below hb7).below hb8) ((((hn4.below hb5).below hb6).below hb7).below hb8) (by decide) (by decide)).mono ?_
        rintro e w9 ⟨v9, rfl, hn9, hb9⟩
        go_wp2_with fail
        refine (is_yes (hn8.below hb9) (hr8.below hb9) hn9 (by decide) (by decide) (rfl)).mono ?_
        rintro e w10 ⟨rfl, hb10⟩
        go_wp2_with fail
        refine (normal_n ((((((((((q0.below hb1).below hb2).below hb3).below hb4).below hb5).below hb6).below hb7).below hb8).below hb9).below hb10) (by decide)).mono ?_
        rintro e w11 ⟨v11, rfl, ho11, hn11, hb11⟩
        have hr11 := ho11.rd
        go_wp2_with fail
        refine (is_yes hn11 hr11 ((((((((hn3.below hb4).below hb5).below hb6).below hb7).below hb8).below hb9).below hb10).below hb11) (by decide) (by decide) (rfl)).mono ?_
        rintro e w12 ⟨rfl, hb12⟩
        go_wp2_with fail
        refine (isZero_n ((((((((((((q0.below hb1).below hb2).below hb3).below hb4).below hb5).below hb6).below hb7).below hb8).below hb9).below hb10).below hb11).below hb12)).mono ?_
        rw [EZ.out]
        rintro e w_ ⟨rfl, rfl⟩
        go_wp2_with fail
        refine (sub_b (((((((((hn3.below hb4).below hb5).below hb6).below hb7).below hb8).below hb9).below hb10).below hb11).below hb12) ((((((((hn4.below hb5).below hb6).below hb7).below hb8).below hb9).below hb10).below hb11).below hb12) (by decide) hle).mono ?_
        rintro e w13 ⟨v13, rfl, hn13, hb13⟩
        go_wp2_with fail
        refine (is_yes (((((((hn6.below hb7).below hb8).below hb9).below hb10).below hb11).below hb12).below hb13) (((((((hr6.below hb7).below hb8).below hb9).below hb10).below hb11).below hb12).below hb13) hn13 (by decide) (by decide) (rfl)).mono ?_
        rintro e w14 ⟨rfl, hb14⟩
        go_wp2_with fail
        have B_0 := below_then (Below.refl w.heap.size w) (Nat.le_refl _) hb1
        have B_1 := below_then B_0 B_0.size hb2
        have B_2 := below_then B_1 B_1.size hb3
        have B_3 := below_then B_2 B_2.size hb4
        have B_4 := below_then B_3 B_3.size hb5
        have B_5 := below_then B_4 B_4.size hb6
        have B_6 := below_then B_5 B_5.size hb7
        have B_7 := below_then B_6 B_6.size hb8
        have B_8 := below_then B_7 B_7.size hb9
        have B_9 := below_then B_8 B_8.size hb10
        have B_10 := below_then B_9 B_9.size hb11
        have B_11 := below_then B_10 B_10.size hb12
        have B_12 := below_then B_11 B_11.size hb13
        have B_13 := below_then B_12 B_12.size hb14
        go_ret
        exact ⟨rfl, B_13⟩
      · have EZ := Lib.hid (show isz a = false from isz_false hz)
        have hLz : 0 < (bt a).length := Nat.pos_of_ne_zero (fun h => hz (bt_len0.1 h))
        have hL0 : (((bt a).length : Int) == 0) = false := by rw [beq_eq_false_iff_ne]; omega
        go_enter Try.func9, Try.ntmps9
        go_wp2_with fail
        refine (awake_any _).mono ?_
        rintro e w1 ⟨rfl, hb1⟩
        go_wp2_with fail
        refine (HF.out _).mono ?_
        rintro e w2 ⟨rfl, hb2⟩
        go_wp2_with fail
        refine (of_b ((q0.below hb1).below hb2) (by decide)).mono ?_
        rintro e w3 ⟨v3, rfl, hn3, hb3⟩
        obtain ⟨XA, XC, rfl⟩ := hn3.shp
        generalize hLe : (bt a).length = LL at *
        clear hLe
        go_wp2_with fail
        refine (of_b (((q1.below hb1).below hb2).below hb3) (by decide)).mono ?_
        rintro e w4 ⟨v4, rfl, hn4, hb4⟩
        go_wp2_with fail
        refine (cmp_b (hn3.below hb4) hn4 (by decide) (by decide)).mono ?_
        rw [HCV.out]
        rintro e w5 ⟨rfl, hb5⟩
        go_wp2_with fail
        refine (sub_n (((((q0.below hb1).below hb2).below hb3).below hb4).below hb5) (((((q1.below hb1).below hb2).below hb3).below hb4).below hb5) (by decide) hle).mono ?_
        rintro e w6 ⟨v6, rfl, ho6, hn6, hb6⟩
        have hr6 := ho6.rd
        go_wp2_with fail
        refine (cmp_n ((((((q0.below hb1).below hb2).below hb3).below hb4).below hb5).below hb6) ((((((q1.below hb1).below hb2).below hb3).below hb4).below hb5).below hb6)).mono ?_
        rw [HCV.out]
        rintro e w7 ⟨rfl, hb7⟩
        go_wp2_with fail
        refine (add_n (((((((q0.below hb1).below hb2).below hb3).below hb4).below hb5).below hb6).below hb7) (((((((q1.below hb1).below hb2).below hb3).below hb4).below hb5).below hb6).below hb7) (by decide) (by decide)).mono ?_
        rintro e w8 ⟨v8, rfl, ho8, hn8, hb8⟩
        have hr8 := ho8.rd
        go_wp2_with fail
        refine (add_b (((((hn3.below hb4).below hb5).below hb6).below hb7).below hb8) ((((hn4.below hb5).below hb6).below hb7).below hb8) (by decide) (by decide)).mono ?_
        rintro e w9 ⟨v9, rfl, hn9, hb9⟩
        go_wp2_with fail
        refine (is_yes (hn8.below hb9) (hr8.below hb9) hn9 (by decide) (by decide) (rfl)).mono ?_
        rintro e w10 ⟨rfl, hb10⟩
        go_wp2_with fail
        refine (normal_n ((((((((((q0.below hb1).below hb2).below hb3).below hb4).below hb5).below hb6).below hb7).below hb8).below hb9).below hb10) (by decide)).mono ?_
        rintro e w11 ⟨v11, rfl, ho11, hn11, hb11⟩
        have hr11 := ho11.rd
        go_wp2_with fail
        refine (is_yes hn11 hr11 ((((((((hn3.below hb4).below hb5).below hb6).below hb7).below hb8).below hb9).below hb10).below hb11) (by decide) (by decide) (rfl)).mono ?_
        rintro e w12 ⟨rfl, hb12⟩
        go_wp2_with fail
        refine (isZero_n ((((((((((((q0.below hb1).below hb2).below hb3).below hb4).below hb5).below hb6).below hb7).below hb8).below hb9).below hb10).below hb11).below hb12)).mono ?_
        rw [EZ.out]
        rintro e w_ ⟨rfl, rfl⟩
        go_wp2_with fail
        refine (sub_b (((((((((hn3.below hb4).below hb5).below hb6).below hb7).below hb8).below hb9).below hb10).below hb11).below hb12) ((((((((hn4.below hb5).below hb6).below hb7).below hb8).below hb9).below hb10).below hb11).below hb12) (by decide) hle).mono ?_
        rintro e w13 ⟨v13, rfl, hn13, hb13⟩
        go_wp2_with fail
        refine (is_yes (((((((hn6.below hb7).below hb8).below hb9).below hb10).below hb11).below hb12).below hb13) (((((((hr6.below hb7).below hb8).below hb9).below hb10).below hb11).below hb12).below hb13) hn13 (by decide) (by decide) (rfl)).mono ?_
        rintro e w14 ⟨rfl, hb14⟩
        go_wp2_with fail
        have B_0 := below_then (Below.refl w.heap.size w) (Nat.le_refl _) hb1
        have B_1 := below_then B_0 B_0.size hb2
        have B_2 := below_then B_1 B_1.size hb3
        have B_3 := below_then B_2 B_2.size hb4
        have B_4 := below_then B_3 B_3.size hb5
        have B_5 := below_then B_4 B_4.size hb6
        have B_6 := below_then B_5 B_5.size hb7
        have B_7 := below_then B_6 B_6.size hb8
        have B_8 := below_then B_7 B_7.size hb9
        have B_9 := below_then B_8 B_8.size hb10
        have B_10 := below_then B_9 B_9.size hb11
        have B_11 := below_then B_10 B_10.size hb12
        have B_12 := below_then B_11 B_11.size hb13
        have B_13 := below_then B_12 B_12.size hb14
        go_ret
        exact ⟨rfl, B_13⟩
    · have hcv : cmpv a b < 0 := by rw [cmpv_lt (by omega)]; omega
      have hcr := cmpv_range a b
      generalize hcq : cmpv a b = cv at *
      have HCV := Lib.hid hcq
      clear hcq
      by_cases hz : a = 0
      · have EZ := Lib.hid (show isz a = true from isz_true hz)
        have hLz : (bt a).length = 0 := bt_len0.2 hz
        go_enter Try.func9, Try.ntmps9
        go_wp2_with fail
        refine (awake_any _).mono ?_
        rintro e w1 ⟨rfl, hb1⟩
        go_wp2_with fail
        refine (HF.out _).mono ?_
        rintro e w2 ⟨rfl, hb2⟩
        go_wp2_with fail
        refine (of_b ((q0.below hb1).below hb2) (by decide)).mono ?_
        rintro e w3 ⟨v3, rfl, hn3, hb3⟩
        obtain ⟨XA, XC, rfl⟩ := hn3.shp
        generalize hLe : (bt a).length = LL at *
        clear hLe
        subst hLz
        go_wp2_with fail
        refine (of_b (((q1.below hb1).below hb2).below hb3) (by decide)).mono ?_
        rintro e w4 ⟨v4, rfl, hn4, hb4⟩
        go_wp2_with fail
        refine (cmp_b (hn3.below hb4) hn4 (by decide) (by decide)).mono ?_
        rw [HCV.out]
        rintro e w5 ⟨rfl, hb5⟩
        go_wp2_with fail
        refine (sub_no (((((q0.below hb1).below hb2).below hb3).below hb4).below hb5) (((((q1.below hb1).below hb2).below hb3).below hb4).below hb5) (by omega)).mono ?_
        rintro e w6 ⟨rfl, hb6⟩
        go_wp2_with fail
        refine (cmp_n ((((((q0.below hb1).below hb2).below hb3).below hb4).below hb5).below hb6) ((((((q1.below hb1).below hb2).below hb3).below hb4).below hb5).below hb6)).mono ?_
        rw [HCV.out]
        rintro e w7 ⟨rfl, hb7⟩
        go_wp2_with fail
        refine (add_n (((((((q0.below hb1).below hb2).below hb3).below hb4).below hb5).below hb6).below hb7) (((((((q1.below hb1).below hb2).below hb3).below hb4).below hb5).below hb6).below hb7) (by decide) (by decide)).mono ?_
        rintro e w8 ⟨v8, rfl, ho8, hn8, hb8⟩
        have hr8 := ho8.rd
        go_wp2_with fail
        refine (add_b (((((hn3.below hb4).below hb5).below hb6).below hb7).below hb8) ((((hn4.below hb5).below hb6).below hb7).below hb8) (by decide) (by decide)).mono ?_
        rintro e w9 ⟨v9, rfl, hn9, hb9⟩
        go_wp2_with fail
        refine (is_yes (hn8.below hb9) (hr8.below hb9) hn9 (by decide) (by decide) (rfl)).mono ?_
        rintro e w10 ⟨rfl, hb10⟩
        go_wp2_with fail
        refine (normal_n ((((((((((q0.below hb1).below hb2).below hb3).below hb4).below hb5).below hb6).below hb7).below hb8).below hb9).below hb10) (by decide)).mono ?_
        rintro e w11 ⟨v11, rfl, ho11, hn11, hb11⟩
        have hr11 := ho11.rd
        go_wp2_with fail
        refine (is_yes hn11 hr11 ((((((((hn3.below hb4).below hb5).below hb6).below hb7).below hb8).below hb9).below hb10).below hb11) (by decide) (by decide) (rfl)).mono ?_
        rintro e w12 ⟨rfl, hb12⟩
        go_wp2_with fail
        refine (isZero_n ((((((((((((q0.below hb1).below hb2).below hb3).below hb4).below hb5).below hb6).below hb7).below hb8).below hb9).below hb10).below hb11).below hb12)).mono ?_
        rw [EZ.out]
        rintro e w_ ⟨rfl, rfl⟩
        go_wp2_with fail
        have B_0 := below_then (Below.refl w.heap.size w) (Nat.le_refl _) hb1
        have B_1 := below_then B_0 B_0.size hb2
        have B_2 := below_then B_1 B_1.size hb3
        have B_3 := below_then B_2 B_2.size hb4
        have B_4 := below_then B_3 B_3.size hb5
        have B_5 := below_then B_4 B_4.size hb6
        have B_6 := below_then B_5 B_5.size hb7
        have B_7 := below_then B_6 B_6.size hb8
        have B_8 := below_then B_7 B_7.size hb9
        have B_9 := below_then B_8 B_8.size hb10
        have B_10 := below_then B_9 B_9.size hb11
        have B_11 := below_then B_10 B_10.size hb12
        go_ret
        exact ⟨rfl, B_11⟩
      · have EZ := Lib.hid (show isz a = false from isz_false hz)
        have hLz : 0 < (bt a).length := Nat.pos_of_ne_zero (fun h => hz (bt_len0.1 h))
        have hL0 : (((bt a).length : Int) == 0) = false := by rw [beq_eq_false_iff_ne]; omega
        go_enter Try.func9, Try.ntmps9
        go_wp2_with fail
        refine (awake_any _).mono ?_
        rintro e w1 ⟨rfl, hb1⟩
        go_wp2_with fail
        refine (HF.out _).mono ?_
        rintro e w2 ⟨rfl, hb2⟩
        go_wp2_with fail
        refine (of_b ((q0.below hb1).below hb2) (by decide)).mono ?_
        rintro e w3 ⟨v3, rfl, hn3, hb3⟩
        obtain ⟨XA, XC, rfl⟩ := hn3.shp
        generalize hLe : (bt a).length = LL at *
        clear hLe
        go_wp2_with fail
        refine (of_b (((q1.below hb1).below hb2).below hb3) (by decide)).mono ?_
        rintro e w4 ⟨v4, rfl, hn4, hb4⟩
        go_wp2_with fail
        refine (cmp_b (hn3.below hb4) hn4 (by decide) (by decide)).mono ?_
        rw [HCV.out]
        rintro e w5 ⟨rfl, hb5⟩
        go_wp2_with fail
        refine (sub_no (((((q0.below hb1).below hb2).below hb3).below hb4).below hb5) (((((q1.below hb1).below hb2).below hb3).below hb4).below hb5) (by omega)).mono ?_
        rintro e w6 ⟨rfl, hb6⟩
        go_wp2_with fail
        refine (cmp_n ((((((q0.below hb1).below hb2).below hb3).below hb4).below hb5).below hb6) ((((((q1.below hb1).below hb2).below hb3).below hb4).below hb5).below hb6)).mono ?_
        rw [HCV.out]
        rintro e w7 ⟨rfl, hb7⟩
        go_wp2_with fail
        refine (add_n (((((((q0.below hb1).below hb2).below hb3).below hb4).below hb5).below hb6).below hb7) (((((((q1.below hb1).below hb2).below hb3).below hb4).below hb5).below hb6).below hb7) (by decide) (by decide)).mono ?_
        rintro e w8 ⟨v8, rfl, ho8, hn8, hb8⟩
        have hr8 := ho8.rd
        go_wp2_with fail
        refine (add_b (((((hn3.below hb4).below hb5).below hb6).below hb7).below hb8) ((((hn4.below hb5).below hb6).below hb7).below hb8) (by decide) (by decide)).mono ?_
        rintro e w9 ⟨v9, rfl, hn9, hb9⟩
        go_wp2_with fail
        refine (is_yes (hn8.below hb9) (hr8.below hb9) hn9 (by decide) (by decide) (rfl)).mono ?_
        rintro e w10 ⟨rfl, hb10⟩
        go_wp2_with fail
        refine (normal_n ((((((((((q0.below hb1).below hb2).below hb3).below hb4).below hb5).below hb6).below hb7).below hb8).below hb9).below hb10) (by decide)).mono ?_
        rintro e w11 ⟨v11, rfl, ho11, hn11, hb11⟩
        have hr11 := ho11.rd
        go_wp2_with fail
        refine (is_yes hn11 hr11 ((((((((hn3.below hb4).below hb5).below hb6).below hb7).below hb8).below hb9).below hb10).below hb11) (by decide) (by decide) (rfl)).mono ?_
        rintro e w12 ⟨rfl, hb12⟩
        go_wp2_with fail
        refine (isZero_n ((((((((((((q0.below hb1).below hb2).below hb3).below hb4).below hb5).below hb6).below hb7).below hb8).below hb9).below hb10).below hb11).below hb12)).mono ?_
        rw [EZ.out]
        rintro e w_ ⟨rfl, rfl⟩
        go_wp2_with fail
        have B_0 := below_then (Below.refl w.heap.size w) (Nat.le_refl _) hb1
        have B_1 := below_then B_0 B_0.size hb2
        have B_2 := below_then B_1 B_1.size hb3
        have B_3 := below_then B_2 B_2.size hb4
        have B_4 := below_then B_3 B_3.size hb5
        have B_5 := below_then B_4 B_4.size hb6
        have B_6 := below_then B_5 B_5.size hb7
        have B_7 := below_then B_6 B_6.size hb8
        have B_8 := below_then B_7 B_7.size hb9
        have B_9 := below_then B_8 B_8.size hb10
        have B_10 := below_then B_9 B_9.size hb11
        have B_11 := below_then B_10 B_10.size hb12
        go_ret
        exact ⟨rfl, B_11⟩
  · have HF := Lib.hid (fun W => few2 (T := 22) 30 s0 s1 W false (by simp; omega))
    clear h0 h1 hall
    obtain ⟨A0, c0, rfl⟩ := s0
    obtain ⟨A1, c1, rfl⟩ := s1
    generalize l0.length = k0 at *
    generalize l1.length = k1 at *
    go_enter Try.func9, Try.ntmps9
    go_wp2_with fail
    refine (awake_any _).mono ?_
    rintro e w1 ⟨rfl, hb1⟩
    go_wp2_with fail
    refine (HF.out _).mono ?_
    rintro e w2 ⟨rfl, hb2⟩
    go_wp2_with fail
    refine (awake_any _).mono ?_
    rintro e w3 ⟨rfl, hb3⟩
    go_wp2_with fail
    have B_0 := below_then (Below.refl w.heap.size w) (Nat.le_refl _) hb1
    have B_1 := below_then B_0 B_0.size hb2
    have B_2 := below_then B_1 B_1.size hb3
    go_ret
    exact ⟨rfl, B_2⟩
end Go.Proofs.Ytmfkabebhbecgaa.Adds
