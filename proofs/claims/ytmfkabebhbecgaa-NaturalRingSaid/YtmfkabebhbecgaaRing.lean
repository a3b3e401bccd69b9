/- The law NaturalRing returns true for every three slices of digits and leaves what lay in memory as it was. Condition: the slices read as digits (a row's arguments do). -/
import Derived.Test.YtmfkabebhbecgaaNum
namespace Go.Proofs.Ytmfkabebhbecgaa.Ring
open Go.RowKit Go.Proofs.Ytmfkabebhbecgaa.Dig Go.Proofs.Ytmfkabebhbecgaa.N Go.Proofs.YtmfkabebhbecgaaW.PrintWords Go.Proofs.YtmfkabebhbecgaaW.PrintLast Go.Proofs.YtmfkabebhbecgaaW.PrintMore
set_option linter.unusedVariables false

set_option maxHeartbeats 2000000 in
theorem law_any {v0 v1 v2 : Value} {l0 l1 l2 : List Int} {w : World} (h0 : Rd w v0 l0) (h1 : Rd w v1 l1) (h2 : Rd w v2 l2) :
    Calls Try.prog 7 #[v0, v1, v2] w fun e w' => e = .returned (.bool true) ∧ Below w.heap.size w w' := by
  have s0 := h0.shp
  have s1 := h1.shp
  have s2 := h2.shp
  by_cases hall : l0.length ≤ 8 ∧ l1.length ≤ 8 ∧ l2.length ≤ 8
  · obtain ⟨b0, b1, b2⟩ := hall
    have q0 := Num.of_rd h0 b0
    have q1 := Num.of_rd h1 b1
    have q2 := Num.of_rd h2 b2
    have HF := Lib.hid (fun W => few3 (T := 22) 8 s0 s1 s2 W true (by simp; omega))
    clear h0 h1 h2 b0 b1 b2
    obtain ⟨A0, c0, rfl⟩ := s0
    obtain ⟨A1, c1, rfl⟩ := s1
    obtain ⟨A2, c2, rfl⟩ := s2
    generalize nv l0 = a at *
    generalize nv l1 = b at *
    generalize nv l2 = c at *
    generalize l0.length = k0 at *
    generalize l1.length = k1 at *
    generalize l2.length = k2 at *
    go_enter Try.func7, Try.ntmps7
    go_wp2_with fail
    refine (awake_any _).mono ?_
    rintro e w1 ⟨rfl, hb1⟩
    go_wp2_with fail
    refine (HF.out _).mono ?_
    rintro e w2 ⟨rfl, hb2⟩
    go_wp2_with fail
    refine (add_n ((q1.below hb1).below hb2) ((q2.below hb1).below hb2) (by decide) (by decide)).mono ?_
    rintro e w3 ⟨v3, rfl, ho3, hn3, hb3⟩
    go_wp2_with fail
    refine (mul_n (((q0.below hb1).below hb2).below hb3) hn3 (by decide) (by decide)).mono ?_
    rintro e w4 ⟨v4, rfl, ho4, hn4, hb4⟩
    go_wp2_with fail
    refine (mul_n ((((q0.below hb1).below hb2).below hb3).below hb4) ((((q1.below hb1).below hb2).below hb3).below hb4) (by decide) (by decide)).mono ?_
    rintro e w5 ⟨v5, rfl, ho5, hn5, hb5⟩
    go_wp2_with fail
    refine (mul_n (((((q0.below hb1).below hb2).below hb3).below hb4).below hb5) (((((q2.below hb1).below hb2).below hb3).below hb4).below hb5) (by decide) (by decide)).mono ?_
    rintro e w6 ⟨v6, rfl, ho6, hn6, hb6⟩
    go_wp2_with fail
    refine (add_n (hn5.below hb6) hn6 (by decide) (by decide)).mono ?_
    rintro e w7 ⟨v7, rfl, ho7, hn7, hb7⟩
    go_wp2_with fail
    refine (cmp_eq (((hn4.below hb5).below hb6).below hb7) hn7 (Nat.mul_add _ _ _)).mono ?_
    rintro e w8 ⟨rfl, hb8⟩
    go_wp2_with fail
    refine (add_n ((((((((q0.below hb1).below hb2).below hb3).below hb4).below hb5).below hb6).below hb7).below hb8) ((((((((q1.below hb1).below hb2).below hb3).below hb4).below hb5).below hb6).below hb7).below hb8) (by decide) (by decide)).mono ?_
    rintro e w9 ⟨v9, rfl, ho9, hn9, hb9⟩
    go_wp2_with fail
    refine (add_n (((((((((q1.below hb1).below hb2).below hb3).below hb4).below hb5).below hb6).below hb7).below hb8).below hb9) (((((((((q0.below hb1).below hb2).below hb3).below hb4).below hb5).below hb6).below hb7).below hb8).below hb9) (by decide) (by decide)).mono ?_
    rintro e w10 ⟨v10, rfl, ho10, hn10, hb10⟩
    go_wp2_with fail
    refine (cmp_eq (hn9.below hb10) hn10 (Nat.add_comm _ _)).mono ?_
    rintro e w11 ⟨rfl, hb11⟩
    go_wp2_with fail
    refine (mul_n (((((((((((q0.below hb1).below hb2).below hb3).below hb4).below hb5).below hb6).below hb7).below hb8).below hb9).below hb10).below hb11) (((((((((((q1.below hb1).below hb2).below hb3).below hb4).below hb5).below hb6).below hb7).below hb8).below hb9).below hb10).below hb11) (by decide) (by decide)).mono ?_
    rintro e w12 ⟨v12, rfl, ho12, hn12, hb12⟩
    go_wp2_with fail
    refine (mul_n ((((((((((((q1.below hb1).below hb2).below hb3).below hb4).below hb5).below hb6).below hb7).below hb8).below hb9).below hb10).below hb11).below hb12) ((((((((((((q0.below hb1).below hb2).below hb3).below hb4).below hb5).below hb6).below hb7).below hb8).below hb9).below hb10).below hb11).below hb12) (by decide) (by decide)).mono ?_
    rintro e w13 ⟨v13, rfl, ho13, hn13, hb13⟩
    go_wp2_with fail
    refine (cmp_eq (hn12.below hb13) hn13 (Nat.mul_comm _ _)).mono ?_
    rintro e w14 ⟨rfl, hb14⟩
    go_wp2_with fail
    refine (mul_n ((((((((((((((q1.below hb1).below hb2).below hb3).below hb4).below hb5).below hb6).below hb7).below hb8).below hb9).below hb10).below hb11).below hb12).below hb13).below hb14) ((((((((((((((q2.below hb1).below hb2).below hb3).below hb4).below hb5).below hb6).below hb7).below hb8).below hb9).below hb10).below hb11).below hb12).below hb13).below hb14) (by decide) (by decide)).mono ?_
    rintro e w15 ⟨v15, rfl, ho15, hn15, hb15⟩
    go_wp2_with fail
    refine (mul_n (((((((((((((((q0.below hb1).below hb2).below hb3).below hb4).below hb5).below hb6).below hb7).below hb8).below hb9).below hb10).below hb11).below hb12).below hb13).below hb14).below hb15) hn15 (by decide) (by decide)).mono ?_
    rintro e w16 ⟨v16, rfl, ho16, hn16, hb16⟩
    go_wp2_with fail
    refine (mul_n ((((((((((((((((q0.below hb1).below hb2).below hb3).below hb4).below hb5).below hb6).below hb7).below hb8).below hb9).below hb10).below hb11).below hb12).below hb13).below hb14).below hb15).below hb16) ((((((((((((((((q1.below hb1).below hb2).below hb3).below hb4).below hb5).below hb6).below hb7).below hb8).below hb9).below hb10).below hb11).below hb12).below hb13).below hb14).below hb15).below hb16) (by decide) (by decide)).mono ?_
    rintro e w17 ⟨v17, rfl, ho17, hn17, hb17⟩
    go_wp2_with fail
    refine (mul_n hn17 (((((((((((((((((q2.below hb1).below hb2).below hb3).below hb4).below hb5).below hb6).below hb7).below hb8).below hb9).below hb10).below hb11).below hb12).below hb13).below hb14).below hb15).below hb16).below hb17) (by decide) (by decide)).mono ?_
    rintro e w18 ⟨v18, rfl, ho18, hn18, hb18⟩
    go_wp2_with fail
    refine (cmp_eq ((hn16.below hb17).below hb18) hn18 ((Nat.mul_assoc _ _ _).symm)).mono ?_
    rintro e w19 ⟨rfl, hb19⟩
    go_wp2_with fail
    refine (add_n (((((((((((((((((((q1.below hb1).below hb2).below hb3).below hb4).below hb5).below hb6).below hb7).below hb8).below hb9).below hb10).below hb11).below hb12).below hb13).below hb14).below hb15).below hb16).below hb17).below hb18).below hb19) (((((((((((((((((((q2.below hb1).below hb2).below hb3).below hb4).below hb5).below hb6).below hb7).below hb8).below hb9).below hb10).below hb11).below hb12).below hb13).below hb14).below hb15).below hb16).below hb17).below hb18).below hb19) (by decide) (by decide)).mono ?_
    rintro e w20 ⟨v20, rfl, ho20, hn20, hb20⟩
    go_wp2_with fail
    refine (add_n ((((((((((((((((((((q0.below hb1).below hb2).below hb3).below hb4).below hb5).below hb6).below hb7).below hb8).below hb9).below hb10).below hb11).below hb12).below hb13).below hb14).below hb15).below hb16).below hb17).below hb18).below hb19).below hb20) hn20 (by decide) (by decide)).mono ?_
    rintro e w21 ⟨v21, rfl, ho21, hn21, hb21⟩
    go_wp2_with fail
    refine (add_n (((((((((((((((((((((q0.below hb1).below hb2).below hb3).below hb4).below hb5).below hb6).below hb7).below hb8).below hb9).below hb10).below hb11).below hb12).below hb13).below hb14).below hb15).below hb16).below hb17).below hb18).below hb19).below hb20).below hb21) (((((((((((((((((((((q1.below hb1).below hb2).below hb3).below hb4).below hb5).below hb6).below hb7).below hb8).below hb9).below hb10).below hb11).below hb12).below hb13).below hb14).below hb15).below hb16).below hb17).below hb18).below hb19).below hb20).below hb21) (by decide) (by decide)).mono ?_
    rintro e w22 ⟨v22, rfl, ho22, hn22, hb22⟩
    go_wp2_with fail
    refine (add_n hn22 ((((((((((((((((((((((q2.below hb1).below hb2).below hb3).below hb4).below hb5).below hb6).below hb7).below hb8).below hb9).below hb10).below hb11).below hb12).below hb13).below hb14).below hb15).below hb16).below hb17).below hb18).below hb19).below hb20).below hb21).below hb22) (by decide) (by decide)).mono ?_
    rintro e w23 ⟨v23, rfl, ho23, hn23, hb23⟩
    go_wp2_with fail
    refine (cmp_eq ((hn21.below hb22).below hb23) hn23 ((Nat.add_assoc _ _ _).symm)).mono ?_
    rintro e w24 ⟨rfl, hb24⟩
    go_wp2_with fail
    have B_0 := below_then (Below.refl w.heap.size w) (Nat.le_refl _) hb1
    have B_1 := below_then B_0 B_0.size hb2
    have B_2 := below_then B_1 B_1.size hb3
    have B_3 := below_then B_2 B_2.size hb4
    have B_4 := below_then B_3 B_3.size hb5
    have B_5 := below_then B_4 B_4.size hb6
    have B_6 := below_then B_5 B_5.size hb7
    have B_7 := below_then B_6 B_6.size hb8
    have B_8 := below_then B_7 B_7.size hb9
    have B_9 := below_then B_8 B_8.size hb10
    have B_10 := below_then B_9 B_9.size hb11
    have B_11 := below_then B_10 B_10.size hb12
    have B_12 := below_then B_11 B_11.size hb13
    have B_13 := below_then B_12 B_12.size hb14
    have B_14 := below_then B_13 B_13.size hb15
    have B_15 := below_then B_14 B_14.size hb16
    have B_16 := below_then B_15 B_15.size hb17
    have B_17 := below_then B_16 B_16.size hb18
    have B_18 := below_then B_17 B_17.size hb19
    have B_19 := below_then B_18 B_18.size hb20
    have B_20 := below_then B_19 B_19.size hb21
    have B_21 := below_then B_20 B_20.size hb22
    have B_22 := below_then B_21 B_21.size hb23
    have B_23 := below_then B_22 B_22.size hb24
    go_ret
    exact ⟨rfl, B_23⟩
  · have HF := Lib.hid (fun W => few3 (T := 22) 8 s0 s1 s2 W false (by simp; omega))
    clear h0 h1 h2 hall
    obtain ⟨A0, c0, rfl⟩ := s0
    obtain ⟨A1, c1, rfl⟩ := s1
    obtain ⟨A2, c2, rfl⟩ := s2
    generalize l0.length = k0 at *
    generalize l1.length = k1 at *
    generalize l2.length = k2 at *
    go_enter Try.func7, Try.ntmps7
    go_wp2_with fail
    refine (awake_any _).mono ?_
    rintro e w1 ⟨rfl, hb1⟩
    go_wp2_with fail
    refine (HF.out _).mono ?_
    rintro e w2 ⟨rfl, hb2⟩
    go_wp2_with fail
    refine (awake_any _).mono ?_
    rintro e w3 ⟨rfl, hb3⟩
    go_wp2_with fail
    have B_0 := below_then (Below.refl w.heap.size w) (Nat.le_refl _) hb1
    have B_1 := below_then B_0 B_0.size hb2
    have B_2 := below_then B_1 B_1.size hb3
    go_ret
    exact ⟨rfl, B_2⟩
end Go.Proofs.Ytmfkabebhbecgaa.Ring
