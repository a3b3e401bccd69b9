/- The law NaturalMuls returns true for all its arguments and leaves what lay in memory as it was. Condition: slices read as digits, numbers are in their types' ranges (a row's arguments are). -/
import Derived.Test.YtmfkabebhbecgaaNum2
import Derived.Test.YtmfkabebhbecgaaL1
import Derived.Test.YtmfkabebhbecgaaR9
namespace Go.Proofs.Ytmfkabebhbecgaa.Muls
open Go.RowKit Go.Proofs.Ytmfkabebhbecgaa.Dig Go.Proofs.Ytmfkabebhbecgaa.N Go.Proofs.YtmfkabebhbecgaaW.PrintWords Go.Proofs.YtmfkabebhbecgaaW.PrintLast Go.Proofs.YtmfkabebhbecgaaW.PrintMore
attribute [local go_sem] max2_int min2_int
set_option linter.unusedVariables false


set_option maxRecDepth 100000 in
set_option maxHeartbeats 4000000 in
theorem law_any {v0 v1 : Value} {l0 l1 : List Int} {w : World} (m c : Nat) (h0 : Rd w v0 l0) (h1 : Rd w v1 l1) (hm : m ≤ 4294967295) (hc : c ≤ 4294967295) :
    Calls Try.prog 3 #[v0, v1, .agg #[.int .u32 m, .int .u32 c]] w fun e w' => e = .returned (.bool true) ∧ Below w.heap.size w w' := by
  have s0 := h0.shp
  have s1 := h1.shp
  by_cases hall : l0.length ≤ 12 ∧ l1.length ≤ 12
  · obtain ⟨b0, b1⟩ := hall
    have q0 := Num.of_rd h0 b0
    have q1 := Num.of_rd h1 b1
    have HF := Lib.hid (fun W => few2 (T := 22) 12 s0 s1 W true (by simp; omega))
    clear h0 b0 h1 b1
    obtain ⟨A0, c0, rfl⟩ := s0
    obtain ⟨A1, c1, rfl⟩ := s1
    generalize nv l0 = a at *
    generalize nv l1 = b at *
    generalize l0.length = k0 at *
    generalize l1.length = k1 at *
    go_enter Try.func3, Try.ntmps3
    have c0_ : (w.alloc (.cells #[.int .u32 m, .int .u32 c] 24)).cell? ⟨w.heap.size, 0, none⟩ = some (.int .u32 m) := by simp [World.cell?_alloc_at]
    have c1_ : (w.alloc (.cells #[.int .u32 m, .int .u32 c] 24)).cell? ⟨w.heap.size, 1, none⟩ = some (.int .u32 c) := by simp [World.cell?_alloc_at]
    go_wp2_with fail
    go_quiet (fail)
    go_wp2_with fail
    refine (awake_any _).mono ?_
    rintro e w1 ⟨rfl, hb0⟩
    have hb1 := below_then (pw_below_drewN (below_alloc (Below.refl w.heap.size w) _) _) (by simp) hb0
    clear hb0 c0_ c1_
    go_wp2_with fail
    refine (HF.out _).mono ?_
    rintro e w2 ⟨rfl, hb2⟩
    go_wp2_with fail
    refine (of_b ((q0.below hb1).below hb2) (by decide)).mono ?_
    rintro e w3 ⟨v3, rfl, hn3, hb3⟩
    go_wp2_with fail
    refine (of_b (((q1.below hb1).below hb2).below hb3) (by decide)).mono ?_
    rintro e w4 ⟨v4, rfl, hn4, hb4⟩
    go_wp2_with fail
    refine (of_b (lit1 _ m hm) (by decide)).mono ?_
    rintro e w5 ⟨v5, rfl, hn5, hb5⟩
    go_wp2_with fail
    refine (mul_b (((hn3.below hb4).below (below_alloc (Below.refl w4.heap.size w4) (.cells #[.int .u32 m] 23))).below hb5) hn5 (by decide) (by decide)).mono ?_
    rintro e w6 ⟨v6, rfl, hn6, hb6⟩
    go_wp2_with fail
    refine (of_b (lit1 _ c hc) (by decide)).mono ?_
    rintro e w7 ⟨v7, rfl, hn7, hb7⟩
    go_wp2_with fail
    refine (add_b ((hn6.below (below_alloc (Below.refl w6.heap.size w6) (.cells #[.int .u32 c] 23))).below hb7) hn7 (by decide) (by decide)).mono ?_
    rintro e w8 ⟨v8, rfl, hn8, hb8⟩
    go_wp2_with fail
    refine (mul_n ((((((((((q0.below hb1).below hb2).below hb3).below hb4).below (below_alloc (Below.refl w4.heap.size w4) (.cells #[.int .u32 m] 23))).below hb5).below hb6).below (below_alloc (Below.refl w6.heap.size w6) (.cells #[.int .u32 c] 23))).below hb7).below hb8) ((((((((((q1.below hb1).below hb2).below hb3).below hb4).below (below_alloc (Below.refl w4.heap.size w4) (.cells #[.int .u32 m] 23))).below hb5).below hb6).below (below_alloc (Below.refl w6.heap.size w6) (.cells #[.int .u32 c] 23))).below hb7).below hb8) (by decide) (by decide)).mono ?_
    rintro e w9 ⟨v9, rfl, ho9, hn9, hb9⟩
    have hr9 := ho9.rd
    go_wp2_with fail
    refine (mul_b ((((((((hn3.below hb4).below (below_alloc (Below.refl w4.heap.size w4) (.cells #[.int .u32 m] 23))).below hb5).below hb6).below (below_alloc (Below.refl w6.heap.size w6) (.cells #[.int .u32 c] 23))).below hb7).below hb8).below hb9) (((((((hn4.below (below_alloc (Below.refl w4.heap.size w4) (.cells #[.int .u32 m] 23))).below hb5).below hb6).below (below_alloc (Below.refl w6.heap.size w6) (.cells #[.int .u32 c] 23))).below hb7).below hb8).below hb9) (by decide) (by decide)).mono ?_
    rintro e w10 ⟨v10, rfl, hn10, hb10⟩
    go_wp2_with fail
    refine (is_yes (hn9.below hb10) (hr9.below hb10) hn10 (by decide) (by decide) (rfl)).mono ?_
    rintro e w11 ⟨rfl, hb11⟩
    go_wp2_with fail
    refine (mulAdd_n (((((((((((((q0.below hb1).below hb2).below hb3).below hb4).below (below_alloc (Below.refl w4.heap.size w4) (.cells #[.int .u32 m] 23))).below hb5).below hb6).below (below_alloc (Below.refl w6.heap.size w6) (.cells #[.int .u32 c] 23))).below hb7).below hb8).below hb9).below hb10).below hb11) (by decide) m c hm hc).mono ?_
    rintro e w12 ⟨v12, rfl, ho12, hn12, hb12⟩
    have hr12 := ho12.rd
    go_wp2_with fail
    refine (is_yes hn12 hr12 ((((hn8.below hb9).below hb10).below hb11).below hb12) (by decide) (by decide) (rfl)).mono ?_
    rintro e w13 ⟨rfl, hb13⟩
    go_wp2_with fail
    have B_0 := below_then (Below.refl w.heap.size w) (Nat.le_refl _) hb1
    have B_1 := below_then B_0 B_0.size hb2
    have B_2 := below_then B_1 B_1.size hb3
    have B_3 := below_then B_2 B_2.size hb4
    have B_4 := below_then B_3 B_3.size (below_alloc (Below.refl w4.heap.size w4) (.cells #[.int .u32 m] 23))
    have B_5 := below_then B_4 B_4.size hb5
    have B_6 := below_then B_5 B_5.size hb6
    have B_7 := below_then B_6 B_6.size (below_alloc (Below.refl w6.heap.size w6) (.cells #[.int .u32 c] 23))
    have B_8 := below_then B_7 B_7.size hb7
    have B_9 := below_then B_8 B_8.size hb8
    have B_10 := below_then B_9 B_9.size hb9
    have B_11 := below_then B_10 B_10.size hb10
    have B_12 := below_then B_11 B_11.size hb11
    have B_13 := below_then B_12 B_12.size hb12
    have B_14 := below_then B_13 B_13.size hb13
    go_ret
    exact ⟨rfl, B_14⟩
  · have HF := Lib.hid (fun W => few2 (T := 22) 12 s0 s1 W false (by simp; omega))
    clear h0 h1 hall
    obtain ⟨A0, c0, rfl⟩ := s0
    obtain ⟨A1, c1, rfl⟩ := s1
    generalize l0.length = k0 at *
    generalize l1.length = k1 at *
    go_enter Try.func3, Try.ntmps3
    have c0_ : (w.alloc (.cells #[.int .u32 m, .int .u32 c] 24)).cell? ⟨w.heap.size, 0, none⟩ = some (.int .u32 m) := by simp [World.cell?_alloc_at]
    have c1_ : (w.alloc (.cells #[.int .u32 m, .int .u32 c] 24)).cell? ⟨w.heap.size, 1, none⟩ = some (.int .u32 c) := by simp [World.cell?_alloc_at]
    go_wp2_with fail
    go_quiet (fail)
    go_wp2_with fail
    refine (awake_any _).mono ?_
    rintro e w1 ⟨rfl, hb0⟩
    have hb1 := below_then (pw_below_drewN (below_alloc (Below.refl w.heap.size w) _) _) (by simp) hb0
    clear hb0 c0_ c1_
    go_wp2_with fail
    refine (HF.out _).mono ?_
    rintro e w2 ⟨rfl, hb2⟩
    go_wp2_with fail
    refine (awake_any _).mono ?_
    rintro e w3 ⟨rfl, hb3⟩
    go_wp2_with fail
    have B_0 := below_then (Below.refl w.heap.size w) (Nat.le_refl _) hb1
    have B_1 := below_then B_0 B_0.size hb2
    have B_2 := below_then B_1 B_1.size hb3
    go_ret
    exact ⟨rfl, B_2⟩
end Go.Proofs.Ytmfkabebhbecgaa.Muls
