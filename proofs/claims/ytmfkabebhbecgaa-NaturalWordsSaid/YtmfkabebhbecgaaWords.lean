/- The law NaturalWords returns true for all its arguments and leaves what lay in memory as it was. Condition: slices read as digits, numbers are in their types' ranges (a row's arguments are). -/
import Derived.Test.YtmfkabebhbecgaaNum2
import Derived.Test.YtmfkabebhbecgaaL1
import Derived.Test.YtmfkabebhbecgaaR9
namespace Go.Proofs.Ytmfkabebhbecgaa.Words
open Go.RowKit Go.Proofs.Ytmfkabebhbecgaa.Dig Go.Proofs.Ytmfkabebhbecgaa.N Go.Proofs.YtmfkabebhbecgaaW.PrintWords Go.Proofs.YtmfkabebhbecgaaW.PrintLast Go.Proofs.YtmfkabebhbecgaaW.PrintMore
attribute [local go_sem] max2_int min2_int
set_option linter.unusedVariables false


set_option maxRecDepth 100000 in
set_option maxHeartbeats 4000000 in
theorem law_any {v0 : Value} {l0 : List Int} {w : World} (n : Nat) (h0 : Rd w v0 l0) (hn : n ≤ 18446744073709551615) :
    Calls Try.prog 4 #[.int .u64 n, v0] w fun e w' => e = .returned (.bool true) ∧ Below w.heap.size w w' := by
  obtain ⟨x, hx⟩ : ∃ x : Nat, (n : Int) % 4294967296 = x := ⟨n % 4294967296, by omega⟩
  obtain ⟨y, hy⟩ : ∃ y : Nat, (n : Int) / 4294967296 = y := ⟨n / 4294967296, by omega⟩
  have hx1 : x ≤ 4294967295 := by omega
  have hy1 : y ≤ 4294967295 := by omega
  have HXY := Lib.hid (show x + 4294967296 * y = n by omega)

  have s0 := h0.shp
  by_cases hall : l0.length ≤ 20
  · have b0 := hall
    have q0 := Num.of_rd h0 b0
    have HF := Lib.hid (fun W => few1 (T := 22) 20 s0 W true (by simp; omega))
    clear h0 b0
    obtain ⟨A0, c0, rfl⟩ := s0
    generalize nv l0 = a at *
    generalize l0.length = k0 at *
    by_cases ha : a < 18446744073709551616
    · have E3 := Lib.hid (show u64v a = a from if_pos ha)
      have E4 := Lib.hid (show u64ok a = true from decide_eq_true ha)
      have hL : (bt a).length ≤ 64 := (bt_len 64 a).2 ha
      have hLd : decide (((bt a).length : Int) ≤ 64) = true := decide_eq_true (by omega)
      have E1 := Lib.hid (show u64v n = n from if_pos (by omega))
      have E2 := Lib.hid (show u64ok n = true from decide_eq_true (by omega))
      go_enter Try.func4, Try.ntmps4
      go_wp2_with fail
      refine (awake_any _).mono ?_
      rintro e w1 ⟨rfl, hb1⟩
      go_wp2_with fail
      refine (HF.out _).mono ?_
      rintro e w2 ⟨rfl, hb2⟩
      go_wp2_with fail
      refine (of_n n hn _).mono ?_
      rintro e w3 ⟨v3, rfl, ho3, hn3, hb3⟩
      have hr3 := ho3.rd
      go_wp2_with fail
      refine (uint64_n hn3).mono ?_
      rw [E1.out, E2.out]
      rintro e w4 ⟨rfl, hb4⟩
      go_wp2_with fail
      refine (uint64_n ((((q0.below hb1).below hb2).below hb3).below hb4)).mono ?_
      rw [E3.out, E4.out]
      rintro e w5 ⟨rfl, hb5⟩
      go_wp2_with fail
      refine (of_b (((((q0.below hb1).below hb2).below hb3).below hb4).below hb5) (by decide)).mono ?_
      rintro e w6 ⟨v6, rfl, hn6, hb6⟩
      obtain ⟨XA, XC, rfl⟩ := hn6.shp
      generalize hLe : (bt a).length = LL at *
      clear hLe
      go_wp2_with fail
      refine (of_n n hn _).mono ?_
      rintro e w7 ⟨v7, rfl, ho7, hn7, hb7⟩
      have hr7 := ho7.rd
      go_wp2_with fail
      refine (of_b (lit2 _ x y hx1 hy1) (by decide)).mono ?_
      rw [HXY.out]
      rintro e w8 ⟨v8, rfl, hn8, hb8⟩
      go_wp2_with fail
      refine (is_yes ((hn7.below (below_alloc (Below.refl w7.heap.size w7) (.cells #[.int .u32 x, .int .u32 y] 23))).below hb8) ((hr7.below (below_alloc (Below.refl w7.heap.size w7) (.cells #[.int .u32 x, .int .u32 y] 23))).below hb8) hn8 (by decide) (by decide) (rfl)).mono ?_
      rintro e w9 ⟨rfl, hb9⟩
      go_wp2_with fail
      refine (of_n a (by omega) _).mono ?_
      rintro e w10 ⟨v10, rfl, ho10, hn10, hb10⟩
      have hr10 := ho10.rd
      go_wp2_with fail
      refine (is_yes hn10 hr10 (((((hn6.below hb7).below (below_alloc (Below.refl w7.heap.size w7) (.cells #[.int .u32 x, .int .u32 y] 23))).below hb8).below hb9).below hb10) (by decide) (by decide) (rfl)).mono ?_
      rintro e w11 ⟨rfl, hb11⟩
      go_wp2_with fail
      have B_0 := below_then (Below.refl w.heap.size w) (Nat.le_refl _) hb1
      have B_1 := below_then B_0 B_0.size hb2
      have B_2 := below_then B_1 B_1.size hb3
      have B_3 := below_then B_2 B_2.size hb4
      have B_4 := below_then B_3 B_3.size hb5
      have B_5 := below_then B_4 B_4.size hb6
      have B_6 := below_then B_5 B_5.size hb7
      have B_7 := below_then B_6 B_6.size (below_alloc (Below.refl w7.heap.size w7) (.cells #[.int .u32 x, .int .u32 y] 23))
      have B_8 := below_then B_7 B_7.size hb8
      have B_9 := below_then B_8 B_8.size hb9
      have B_10 := below_then B_9 B_9.size hb10
      have B_11 := below_then B_10 B_10.size hb11
      go_ret
      exact ⟨rfl, B_11⟩
    · have E3 := Lib.hid (show u64v a = 0 from if_neg ha)
      have E4 := Lib.hid (show u64ok a = false from decide_eq_false ha)
      have hL : 64 < (bt a).length := Nat.lt_of_not_le (fun h => ha ((bt_len 64 a).1 h))
      have hLd : decide (((bt a).length : Int) ≤ 64) = false := decide_eq_false (by omega)
      have E1 := Lib.hid (show u64v n = n from if_pos (by omega))
      have E2 := Lib.hid (show u64ok n = true from decide_eq_true (by omega))
      go_enter Try.func4, Try.ntmps4
      go_wp2_with fail
      refine (awake_any _).mono ?_
      rintro e w1 ⟨rfl, hb1⟩
      go_wp2_with fail
      refine (HF.out _).mono ?_
      rintro e w2 ⟨rfl, hb2⟩
      go_wp2_with fail
      refine (of_n n hn _).mono ?_
      rintro e w3 ⟨v3, rfl, ho3, hn3, hb3⟩
      have hr3 := ho3.rd
      go_wp2_with fail
      refine (uint64_n hn3).mono ?_
      rw [E1.out, E2.out]
      rintro e w4 ⟨rfl, hb4⟩
      go_wp2_with fail
      refine (uint64_n ((((q0.below hb1).below hb2).below hb3).below hb4)).mono ?_
      rw [E3.out, E4.out]
      rintro e w5 ⟨rfl, hb5⟩
      go_wp2_with fail
      refine (of_b (((((q0.below hb1).below hb2).below hb3).below hb4).below hb5) (by decide)).mono ?_
      rintro e w6 ⟨v6, rfl, hn6, hb6⟩
      obtain ⟨XA, XC, rfl⟩ := hn6.shp
      generalize hLe : (bt a).length = LL at *
      clear hLe
      go_wp2_with fail
      refine (of_n n hn _).mono ?_
      rintro e w7 ⟨v7, rfl, ho7, hn7, hb7⟩
      have hr7 := ho7.rd
      go_wp2_with fail
      refine (of_b (lit2 _ x y hx1 hy1) (by decide)).mono ?_
      rw [HXY.out]
      rintro e w8 ⟨v8, rfl, hn8, hb8⟩
      go_wp2_with fail
      refine (is_yes ((hn7.below (below_alloc (Below.refl w7.heap.size w7) (.cells #[.int .u32 x, .int .u32 y] 23))).below hb8) ((hr7.below (below_alloc (Below.refl w7.heap.size w7) (.cells #[.int .u32 x, .int .u32 y] 23))).below hb8) hn8 (by decide) (by decide) (rfl)).mono ?_
      rintro e w9 ⟨rfl, hb9⟩
      go_wp2_with fail
      have B_0 := below_then (Below.refl w.heap.size w) (Nat.le_refl _) hb1
      have B_1 := below_then B_0 B_0.size hb2
      have B_2 := below_then B_1 B_1.size hb3
      have B_3 := below_then B_2 B_2.size hb4
      have B_4 := below_then B_3 B_3.size hb5
      have B_5 := below_then B_4 B_4.size hb6
      have B_6 := below_then B_5 B_5.size hb7
      have B_7 := below_then B_6 B_6.size (below_alloc (Below.refl w7.heap.size w7) (.cells #[.int .u32 x, .int .u32 y] 23))
      have B_8 := below_then B_7 B_7.size hb8
      have B_9 := below_then B_8 B_8.size hb9
      go_ret
      exact ⟨rfl, B_9⟩
  · have HF := Lib.hid (fun W => few1 (T := 22) 20 s0 W false (by simp; omega))
    clear h0 hall
    obtain ⟨A0, c0, rfl⟩ := s0
    generalize l0.length = k0 at *
    go_enter Try.func4, Try.ntmps4
    go_wp2_with fail
    refine (awake_any _).mono ?_
    rintro e w1 ⟨rfl, hb1⟩
    go_wp2_with fail
    refine (HF.out _).mono ?_
    rintro e w2 ⟨rfl, hb2⟩
    go_wp2_with fail
    refine (awake_any _).mono ?_
    rintro e w3 ⟨rfl, hb3⟩
    go_wp2_with fail
    have B_0 := below_then (Below.refl w.heap.size w) (Nat.le_refl _) hb1
    have B_1 := below_then B_0 B_0.size hb2
    have B_2 := below_then B_1 B_1.size hb3
    go_ret
    exact ⟨rfl, B_2⟩
end Go.Proofs.Ytmfkabebhbecgaa.Words
