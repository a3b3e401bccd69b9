/- The law IntegerWords returns true for all its arguments and leaves what lay in memory as it was. Condition: the slices read as digits (a row's arguments do). -/
import Derived.Test.YthadkjekagfjfaaI8
import Derived.Test.YthadkjekagfjfaaI9
namespace Go.Proofs.Ythadkjekagfjfaa.IWords
open Go.RowKit Go.Proofs.Ythadkjekagfjfaa.Dig Go.Proofs.Ythadkjekagfjfaa.N Go.Proofs.YthadkjekagfjfaaW.PrintWords Go.Proofs.YthadkjekagfjfaaW.PrintLast Go.Proofs.YthadkjekagfjfaaW.PrintMore
attribute [local go_sem] max2_int min2_int
set_option linter.unusedVariables false

theorem bitlit1 (W : World) : BN (W.alloc (.cells #[.int .i64 1] 3)) (.slice (some ⟨W.heap.size, 0, none⟩) 1 1) 1 1 := by
  have h : BlkI (W.alloc (.cells (arrI [1]) 3)) W.heap.size [1] := BlkI.new W _
  have e : bt 1 = [1] := by decide
  refine ⟨?_, by rw [e]; exact Nat.le_refl _⟩
  have := h.rd (by simp)
  unfold Bt
  rw [e]
  exact this
theorem cmpb_as {w : World} {v1 v2 : Value} {n m i j : Nat} {r : Int} (h1 : BN w v1 n i) (h2 : BN w v2 m j) (hi : i ≤ 34359738368) (hj : j ≤ 34359738368) (hr : Hid (cmpv n m = r)) :
    Calls Try.prog 27 #[v1, v2] w fun e w' => e = .returned (.int .i64 r) ∧ Below w.heap.size w w' := by
  rw [← hr.out]; exact cmp_b h1 h2 hi hj
theorem lenS {n : Nat} (h : n < 9223372036854775808) : (bt n).length < 64 := by
  have e : (2 : Nat) ^ 63 = 9223372036854775808 := by decide
  have := (bt_len 63 n).2 (by rw [e]; exact h)
  omega
theorem lenB {n : Nat} (h : 18446744073709551616 ≤ n) : 64 < (bt n).length := by
  have e : (2 : Nat) ^ 64 = 18446744073709551616 := by decide
  refine Nat.lt_of_not_le fun h1 => ?_
  have := (bt_len 64 n).1 h1
  rw [e] at this
  omega
theorem len64 {n : Nat} (h1 : 9223372036854775808 ≤ n) (h2 : n < 18446744073709551616) : (bt n).length = 64 := by
  have e : (2 : Nat) ^ 64 = 18446744073709551616 := by decide
  have a := (bt_len 64 n).2 (by rw [e]; exact h2)
  have b : ¬ (bt n).length ≤ 63 := fun h => by
    have c := (bt_len 63 n).1 h
    have : (2 : Nat) ^ 63 = 9223372036854775808 := by decide
    omega
  omega
set_option maxRecDepth 100000 in
set_option maxHeartbeats 10000000 in
theorem law_any {w : World} (n m : Int) {ba : Bool} {Aa : Option Addr} {ma ca : Nat} {za : Int} (qa : ZI w ba (.slice Aa ma ca) za ma) (hn : -9223372036854775808 ≤ n ∧ n ≤ 9223372036854775807) (hm : -9223372036854775808 ≤ m ∧ m ≤ 9223372036854775807) :
    Calls Try.prog 5 #[.int .i64 n, .int .i64 m, .agg #[.bool ba, .slice Aa ma ca]] w fun e w' => e = .returned (.bool true) ∧ Below w.heap.size w w' := by
  by_cases ha : ma ≤ 20
  · replace qa := qa.more ha
    have HF : Hid (true = (decide ((ma : Int) ≤ 20) && decide ((ma : Int) ≤ 20) && decide ((ma : Int) ≤ 20))) := Lib.hid (by simp; omega)
    have HN1 : Hid (n = i64v n) := Lib.hid (by unfold i64v; rw [show i64ok n = true from decide_eq_true hn]; rfl)
    have HN2 : Hid (true = i64ok n) := Lib.hid (show i64ok n = true from decide_eq_true hn).symm
    obtain ⟨r, hr⟩ : ∃ r, r = zcmp n m := ⟨_, rfl⟩
    have HR := Lib.hid hr
    have hdr : decide (r < 0) = decide (n < m) := by rw [hr, decide_eq_decide]; unfold zcmp; (repeat' split) <;> omega
    clear hr ha
    rcases Classical.em (za.natAbs < 9223372036854775808) with hcase | hcase1
    · skip
      have HW : Hid (za = i64v za) := Lib.hid (by unfold i64v; rw [show i64ok za = true from decide_eq_true (by omega)]; rfl)
      have HO : Hid (true = i64ok za) := Lib.hid (show i64ok za = true from decide_eq_true (by omega)).symm
      have hz1 := Lib.hid (show -9223372036854775808 ≤ za by omega)
      have hz2 := Lib.hid (show za ≤ 9223372036854775807 by omega)
      have HL : Hid ((bt za.natAbs).length < 64) := Lib.hid (lenS (by omega))
      have HS : Hid (True) := Lib.hid (by trivial)
      clear hcase
      have bxa := Box.new w 25 (.bool ba) (.slice Aa ma ca)
      go_enter Try.func5, Try.ntmps5
      go_wp2_with fail
      refine (lawake _).mono ?_
      rintro e w1 ⟨rfl, hb1⟩
      have HB1 := below_alloc (Below.refl w.heap.size w) (.cells #[.bool ba, .slice Aa ma ca] 25)
      have HB2 := below_then HB1 HB1.size hb1
      have k2 := (bxa.below hb1)
      have k2a := k2.c0
      have k2b := k2.c1
      go_wp2_with fail
      refine (lfew_as 20 HF).mono ?_
      rintro e w3 ⟨rfl, hb3⟩
      have HB3 := below_then HB2 HB2.size hb3
      clear k2a k2b
      have k4 := (k2.below hb3)
      have k4a := k4.c0
      have k4b := k4.c1
      go_wp2_with fail
      refine (of_as n hn.1 hn.2).mono ?_
      rintro e w5 ⟨b5, A5, m5, c5, rfl, q5, hb5⟩
      have HB4 := below_then HB3 HB3.size hb5
      clear k4a k4b
      have k6 := (k4.below hb5)
      have k6a := k6.c0
      have k6b := k6.c1
      go_wp2_with fail
      refine (int64_as q5.zi HN1 HN2).mono ?_
      rintro e w7 ⟨rfl, hb7⟩
      have HB5 := below_then HB4 HB4.size hb7
      clear k6a k6b
      have k8 := (k6.below hb7)
      have k8a := k8.c0
      have k8b := k8.c1
      go_wp2_with fail
      refine (int64_as (((((qa.alloc (.cells #[.bool ba, .slice Aa ma ca] 25)).below hb1).below hb3).below hb5).below hb7) HW HO).mono ?_
      rintro e w9 ⟨rfl, hb9⟩
      have HB6 := below_then HB5 HB5.size hb9
      clear k8a k8b
      have k10 := (k8.below hb9)
      have k10a := k10.c0
      have k10b := k10.c1
      go_wp2_with fail
      refine (of_as n hn.1 hn.2).mono ?_
      rintro e w11 ⟨b11, A11, m11, c11, rfl, q11, hb11⟩
      have HB7 := below_then HB6 HB6.size hb11
      clear k10a k10b
      have k12 := (k10.below hb11)
      have k12a := k12.c0
      have k12b := k12.c1
      go_wp2_with fail
      refine (of_as m hm.1 hm.2).mono ?_
      rintro e w13 ⟨b13, A13, m13, c13, rfl, q13, hb13⟩
      have HB8 := below_then HB7 HB7.size hb13
      clear k12a k12b
      have k14 := (k12.below hb13)
      have k14a := k14.c0
      have k14b := k14.c1
      go_wp2_with fail
      refine (cmp_as (q11.below hb13).zi q13.zi HR).mono ?_
      rintro e w15 ⟨rfl, hb15⟩
      have HB9 := below_then HB8 HB8.size hb15
      clear k14a k14b
      have k16 := (k14.below hb15)
      have k16a := k16.c0
      have k16b := k16.c1
      go_wp2_with fail
      refine (lof_as (((((((((qa.alloc (.cells #[.bool ba, .slice Aa ma ca] 25)).below hb1).below hb3).below hb5).below hb7).below hb9).below hb11).below hb13).below hb15) (by decide)).mono ?_
      rintro e w17 ⟨p17, A17, m17, c17, rfl, q17, hb17⟩
      have HB10 := below_then HB9 HB9.size hb17
      have hm1 : m17 < 64 := by rw [q17.2.len]; exact HL.out
      have hb1_ : ((m17 : Int) == 64) = false := by rw [beq_eq_false_iff_ne]; omega
      have hb2_ : decide ((m17 : Int) < 64) = true := decide_eq_true (by omega)
      clear hm1
      go_wp2_with fail
      have xb := Box.new w17 30 (.int .i64 p17) (.slice A17 m17 c17)
      have HB11 := below_alloc HB10 (.cells #[.int .i64 p17, .slice A17 m17 c17] 30)
      have f18 := (q17.alloc (.cells #[.int .i64 p17, .slice A17 m17 c17] 30))
      have f19 := (((((((((((qa.alloc (.cells #[.bool ba, .slice Aa ma ca] 25)).below hb1).below hb3).below hb5).below hb7).below hb9).below hb11).below hb13).below hb15).below hb17).alloc (.cells #[.int .i64 p17, .slice A17 m17 c17] 30))
      clear k16a k16b
      have k20 := ((k16.below hb17).alloc (.cells #[.int .i64 p17, .slice A17 m17 c17] 30))
      have k20a := k20.c0
      have k20b := k20.c1
      have k21 := xb
      have k21a := k21.c0
      have k21b := k21.c1
      generalize hW_ : (w17.alloc (.cells #[.int .i64 p17, .slice A17 m17 c17] 30)) = W22 at *
      clear hW_
      go_wp2_with fail
      go_quiet (fail)
      go_wp2_with fail
      (first | (go_region_held (fun w' => w'.cell? ⟨w.heap.size, 0, none⟩ = some (.bool ba) ∧ w'.cell? ⟨w.heap.size, 1, none⟩ = some (.slice Aa ma ca) ∧ w'.cell? ⟨w17.heap.size, 0, none⟩ = some (.int .i64 p17) ∧ w'.cell? ⟨w17.heap.size, 1, none⟩ = some (.slice A17 m17 c17))
        (first | assumption | go_keep | ((try dsimp only); (repeat' apply And.intro); all_goals go_keep))
        (first
          | (have _ck := hb23; go_at_call 28; refine (same_yes q23.zi (((f19.drewN _).drewN 1).below hb23) rfl).mono ?_; rintro e w24 ⟨rfl, hb24⟩; have HS24 := keep4 (by assumption) hb24)
          | (go_at_call 25; refine (of_as za hz1.out hz2.out).mono ?_; rintro e w23 ⟨b23, A23, m23, c23, rfl, q23, hb23⟩; have HS23 := keep4 (by assumption) hb23))) | fail)
      clear k20a k20b k21a k21b
      clear HS23 HS24
      have HB12 := below_then (below_drew1 (pw_below_drewN HB11 _)) (below_drew1 (pw_below_drewN HB11 _)).size hb23
      have HB13 := below_then HB12 HB12.size hb24
      go_wp2_with fail
      go_ret
      exact ⟨rfl, HB13⟩
    · rcases Classical.em (za = -9223372036854775808) with hcase | hcase2
      · skip
        have HW : Hid (za = i64v za) := Lib.hid (by unfold i64v; rw [show i64ok za = true from decide_eq_true (by omega)]; rfl)
        have HO : Hid (true = i64ok za) := Lib.hid (show i64ok za = true from decide_eq_true (by omega)).symm
        have HC : Hid (cmpv za.natAbs (1 * 2 ^ 63) = 0) := Lib.hid (by rw [show (1 : Nat) * 2 ^ 63 = 9223372036854775808 by decide]; unfold cmpv; (repeat' split) <;> omega)
        have hz1 := Lib.hid (show -9223372036854775808 ≤ za by omega)
        have hz2 := Lib.hid (show za ≤ 9223372036854775807 by omega)
        have HL : Hid ((bt za.natAbs).length = 64) := Lib.hid (len64 (by omega) (by omega))
        have HS : Hid (sgn za = -1) := Lib.hid (by exact sgn_m.2 (by omega))
        clear hcase
        have bxa := Box.new w 25 (.bool ba) (.slice Aa ma ca)
        go_enter Try.func5, Try.ntmps5
        go_wp2_with fail
        refine (lawake _).mono ?_
        rintro e w1 ⟨rfl, hb1⟩
        have HB1 := below_alloc (Below.refl w.heap.size w) (.cells #[.bool ba, .slice Aa ma ca] 25)
        have HB2 := below_then HB1 HB1.size hb1
        have k2 := (bxa.below hb1)
        have k2a := k2.c0
        have k2b := k2.c1
        go_wp2_with fail
        refine (lfew_as 20 HF).mono ?_
        rintro e w3 ⟨rfl, hb3⟩
        have HB3 := below_then HB2 HB2.size hb3
        clear k2a k2b
        have k4 := (k2.below hb3)
        have k4a := k4.c0
        have k4b := k4.c1
        go_wp2_with fail
        refine (of_as n hn.1 hn.2).mono ?_
        rintro e w5 ⟨b5, A5, m5, c5, rfl, q5, hb5⟩
        have HB4 := below_then HB3 HB3.size hb5
        clear k4a k4b
        have k6 := (k4.below hb5)
        have k6a := k6.c0
        have k6b := k6.c1
        go_wp2_with fail
        refine (int64_as q5.zi HN1 HN2).mono ?_
        rintro e w7 ⟨rfl, hb7⟩
        have HB5 := below_then HB4 HB4.size hb7
        clear k6a k6b
        have k8 := (k6.below hb7)
        have k8a := k8.c0
        have k8b := k8.c1
        go_wp2_with fail
        refine (int64_as (((((qa.alloc (.cells #[.bool ba, .slice Aa ma ca] 25)).below hb1).below hb3).below hb5).below hb7) HW HO).mono ?_
        rintro e w9 ⟨rfl, hb9⟩
        have HB6 := below_then HB5 HB5.size hb9
        clear k8a k8b
        have k10 := (k8.below hb9)
        have k10a := k10.c0
        have k10b := k10.c1
        go_wp2_with fail
        refine (of_as n hn.1 hn.2).mono ?_
        rintro e w11 ⟨b11, A11, m11, c11, rfl, q11, hb11⟩
        have HB7 := below_then HB6 HB6.size hb11
        clear k10a k10b
        have k12 := (k10.below hb11)
        have k12a := k12.c0
        have k12b := k12.c1
        go_wp2_with fail
        refine (of_as m hm.1 hm.2).mono ?_
        rintro e w13 ⟨b13, A13, m13, c13, rfl, q13, hb13⟩
        have HB8 := below_then HB7 HB7.size hb13
        clear k12a k12b
        have k14 := (k12.below hb13)
        have k14a := k14.c0
        have k14b := k14.c1
        go_wp2_with fail
        refine (cmp_as (q11.below hb13).zi q13.zi HR).mono ?_
        rintro e w15 ⟨rfl, hb15⟩
        have HB9 := below_then HB8 HB8.size hb15
        clear k14a k14b
        have k16 := (k14.below hb15)
        have k16a := k16.c0
        have k16b := k16.c1
        go_wp2_with fail
        refine (lof_as (((((((((qa.alloc (.cells #[.bool ba, .slice Aa ma ca] 25)).below hb1).below hb3).below hb5).below hb7).below hb9).below hb11).below hb13).below hb15) (by decide)).mono ?_
        rintro e w17 ⟨p17, A17, m17, c17, rfl, q17, hb17⟩
        have HB10 := below_then HB9 HB9.size hb17
        obtain rfl : m17 = 64 := by rw [q17.2.len]; exact HL.out
        obtain rfl : p17 = -1 := q17.1.trans HS.out
        go_wp2_with fail
        have xb := Box.new w17 30 (.int .i64 (-1)) (.slice A17 64 c17)
        have HB11 := below_alloc HB10 (.cells #[.int .i64 (-1), .slice A17 64 c17] 30)
        have f18 := (q17.alloc (.cells #[.int .i64 (-1), .slice A17 64 c17] 30))
        have f19 := (((((((((((qa.alloc (.cells #[.bool ba, .slice Aa ma ca] 25)).below hb1).below hb3).below hb5).below hb7).below hb9).below hb11).below hb13).below hb15).below hb17).alloc (.cells #[.int .i64 (-1), .slice A17 64 c17] 30))
        clear k16a k16b
        have k20 := ((k16.below hb17).alloc (.cells #[.int .i64 (-1), .slice A17 64 c17] 30))
        have k20a := k20.c0
        have k20b := k20.c1
        have k21 := xb
        have k21a := k21.c0
        have k21b := k21.c1
        generalize hW_ : (w17.alloc (.cells #[.int .i64 (-1), .slice A17 64 c17] 30)) = W22 at *
        clear hW_
        go_wp2_with fail
        (first | (go_region_held3 (fun w' => w'.cell? ⟨w.heap.size, 0, none⟩ = some (.bool ba) ∧ w'.cell? ⟨w.heap.size, 1, none⟩ = some (.slice Aa ma ca) ∧ w'.cell? ⟨w17.heap.size, 0, none⟩ = some (.int .i64 (-1)) ∧ w'.cell? ⟨w17.heap.size, 1, none⟩ = some (.slice A17 64 c17))
          (first | assumption | go_keep | ((try dsimp only); (repeat' apply And.intro); all_goals go_keep))
          (first
            | (have _ck := hb23; go_at_call 27; refine (cmpb_as (((f18.drewN 1).alloc (.cells #[.int .i64 1] 3)).below hb23).2 q23 (by decide) (by decide) HC).mono ?_; rintro e w24 ⟨rfl, hb24⟩; have HS24 := keep4 (by assumption) hb24)
            | (go_at_call 15; refine (up_as (bitlit1 (W22.drewN 1)) (by decide) 63 (Lib.hid (rfl : (63 : Int) = ((63 : Nat) : Int))) (by omega)).mono ?_; rintro e w23 ⟨v23, rfl, q23, hb23⟩; have HS23 := keep4 (by assumption) hb23))) | fail)
        clear k20a k20b k21a k21b
        clear HS23 HS24
        have HB12 := below_drew1 HB11
        have HB13 := below_alloc HB12 (.cells #[.int .i64 1] 3)
        have HB14 := below_then HB13 HB13.size hb23
        have HB15 := below_then HB14 HB14.size hb24
        have k25 := ((((k20.drewN 1).alloc (.cells #[.int .i64 1] 3)).below hb23).below hb24)
        have k25a := k25.c0
        have k25b := k25.c1
        have k26 := ((((k21.drewN 1).alloc (.cells #[.int .i64 1] 3)).below hb23).below hb24)
        have k26a := k26.c0
        have k26b := k26.c1
        go_wp2_with fail
        (first | (go_region_held (fun w' => w'.cell? ⟨w.heap.size, 0, none⟩ = some (.bool ba) ∧ w'.cell? ⟨w.heap.size, 1, none⟩ = some (.slice Aa ma ca) ∧ w'.cell? ⟨w17.heap.size, 0, none⟩ = some (.int .i64 (-1)) ∧ w'.cell? ⟨w17.heap.size, 1, none⟩ = some (.slice A17 64 c17))
          (first | assumption | go_keep | ((try dsimp only); (repeat' apply And.intro); all_goals go_keep))
          (first
            | (have _ck := hb27; go_at_call 28; refine (same_yes q27.zi ((((((f19.drewN 1).alloc (.cells #[.int .i64 1] 3)).below hb23).below hb24).drewN 1).below hb27) rfl).mono ?_; rintro e w28 ⟨rfl, hb28⟩; have HS28 := keep4 (by assumption) hb28)
            | (go_at_call 25; refine (of_as za hz1.out hz2.out).mono ?_; rintro e w27 ⟨b27, A27, m27, c27, rfl, q27, hb27⟩; have HS27 := keep4 (by assumption) hb27))) | fail)
        clear k25a k25b k26a k26b
        clear HS27 HS28
        have HB16 := below_drew1 HB15
        have HB17 := below_then HB16 HB16.size hb27
        have HB18 := below_then HB17 HB17.size hb28
        go_wp2_with fail
        go_ret
        exact ⟨rfl, HB18⟩
      · rcases Classical.em (za < 0 ∧ za.natAbs < 18446744073709551616) with hcase | hcase3
        · skip
          have HW : Hid ((0 : Int) = i64v za) := Lib.hid (by unfold i64v; rw [show i64ok za = false from decide_eq_false (by omega)]; rfl)
          have HO : Hid (false = i64ok za) := Lib.hid (show i64ok za = false from decide_eq_false (by omega)).symm
          have HC : Hid (cmpv za.natAbs (1 * 2 ^ 63) = 1) := Lib.hid (by rw [show (1 : Nat) * 2 ^ 63 = 9223372036854775808 by decide]; unfold cmpv; (repeat' split) <;> omega)
          have HL : Hid ((bt za.natAbs).length = 64) := Lib.hid (len64 (by omega) (by omega))
          have HS : Hid (sgn za = -1) := Lib.hid (by exact sgn_m.2 (by omega))
          clear hcase
          have bxa := Box.new w 25 (.bool ba) (.slice Aa ma ca)
          go_enter Try.func5, Try.ntmps5
          go_wp2_with fail
          refine (lawake _).mono ?_
          rintro e w1 ⟨rfl, hb1⟩
          have HB1 := below_alloc (Below.refl w.heap.size w) (.cells #[.bool ba, .slice Aa ma ca] 25)
          have HB2 := below_then HB1 HB1.size hb1
          have k2 := (bxa.below hb1)
          have k2a := k2.c0
          have k2b := k2.c1
          go_wp2_with fail
          refine (lfew_as 20 HF).mono ?_
          rintro e w3 ⟨rfl, hb3⟩
          have HB3 := below_then HB2 HB2.size hb3
          clear k2a k2b
          have k4 := (k2.below hb3)
          have k4a := k4.c0
          have k4b := k4.c1
          go_wp2_with fail
          refine (of_as n hn.1 hn.2).mono ?_
          rintro e w5 ⟨b5, A5, m5, c5, rfl, q5, hb5⟩
          have HB4 := below_then HB3 HB3.size hb5
          clear k4a k4b
          have k6 := (k4.below hb5)
          have k6a := k6.c0
          have k6b := k6.c1
          go_wp2_with fail
          refine (int64_as q5.zi HN1 HN2).mono ?_
          rintro e w7 ⟨rfl, hb7⟩
          have HB5 := below_then HB4 HB4.size hb7
          clear k6a k6b
          have k8 := (k6.below hb7)
          have k8a := k8.c0
          have k8b := k8.c1
          go_wp2_with fail
          refine (int64_as (((((qa.alloc (.cells #[.bool ba, .slice Aa ma ca] 25)).below hb1).below hb3).below hb5).below hb7) HW HO).mono ?_
          rintro e w9 ⟨rfl, hb9⟩
          have HB6 := below_then HB5 HB5.size hb9
          clear k8a k8b
          have k10 := (k8.below hb9)
          have k10a := k10.c0
          have k10b := k10.c1
          go_wp2_with fail
          refine (of_as n hn.1 hn.2).mono ?_
          rintro e w11 ⟨b11, A11, m11, c11, rfl, q11, hb11⟩
          have HB7 := below_then HB6 HB6.size hb11
          clear k10a k10b
          have k12 := (k10.below hb11)
          have k12a := k12.c0
          have k12b := k12.c1
          go_wp2_with fail
          refine (of_as m hm.1 hm.2).mono ?_
          rintro e w13 ⟨b13, A13, m13, c13, rfl, q13, hb13⟩
          have HB8 := below_then HB7 HB7.size hb13
          clear k12a k12b
          have k14 := (k12.below hb13)
          have k14a := k14.c0
          have k14b := k14.c1
          go_wp2_with fail
          refine (cmp_as (q11.below hb13).zi q13.zi HR).mono ?_
          rintro e w15 ⟨rfl, hb15⟩
          have HB9 := below_then HB8 HB8.size hb15
          clear k14a k14b
          have k16 := (k14.below hb15)
          have k16a := k16.c0
          have k16b := k16.c1
          go_wp2_with fail
          refine (lof_as (((((((((qa.alloc (.cells #[.bool ba, .slice Aa ma ca] 25)).below hb1).below hb3).below hb5).below hb7).below hb9).below hb11).below hb13).below hb15) (by decide)).mono ?_
          rintro e w17 ⟨p17, A17, m17, c17, rfl, q17, hb17⟩
          have HB10 := below_then HB9 HB9.size hb17
          obtain rfl : m17 = 64 := by rw [q17.2.len]; exact HL.out
          obtain rfl : p17 = -1 := q17.1.trans HS.out
          go_wp2_with fail
          have xb := Box.new w17 30 (.int .i64 (-1)) (.slice A17 64 c17)
          have HB11 := below_alloc HB10 (.cells #[.int .i64 (-1), .slice A17 64 c17] 30)
          have f18 := (q17.alloc (.cells #[.int .i64 (-1), .slice A17 64 c17] 30))
          have f19 := (((((((((((qa.alloc (.cells #[.bool ba, .slice Aa ma ca] 25)).below hb1).below hb3).below hb5).below hb7).below hb9).below hb11).below hb13).below hb15).below hb17).alloc (.cells #[.int .i64 (-1), .slice A17 64 c17] 30))
          clear k16a k16b
          have k20 := ((k16.below hb17).alloc (.cells #[.int .i64 (-1), .slice A17 64 c17] 30))
          have k20a := k20.c0
          have k20b := k20.c1
          have k21 := xb
          have k21a := k21.c0
          have k21b := k21.c1
          generalize hW_ : (w17.alloc (.cells #[.int .i64 (-1), .slice A17 64 c17] 30)) = W22 at *
          clear hW_
          go_wp2_with fail
          (first | (go_region_held3 (fun w' => w'.cell? ⟨w.heap.size, 0, none⟩ = some (.bool ba) ∧ w'.cell? ⟨w.heap.size, 1, none⟩ = some (.slice Aa ma ca) ∧ w'.cell? ⟨w17.heap.size, 0, none⟩ = some (.int .i64 (-1)) ∧ w'.cell? ⟨w17.heap.size, 1, none⟩ = some (.slice A17 64 c17))
            (first | assumption | go_keep | ((try dsimp only); (repeat' apply And.intro); all_goals go_keep))
            (first
              | (have _ck := hb23; go_at_call 27; refine (cmpb_as (((f18.drewN 1).alloc (.cells #[.int .i64 1] 3)).below hb23).2 q23 (by decide) (by decide) HC).mono ?_; rintro e w24 ⟨rfl, hb24⟩; have HS24 := keep4 (by assumption) hb24)
              | (go_at_call 15; refine (up_as (bitlit1 (W22.drewN 1)) (by decide) 63 (Lib.hid (rfl : (63 : Int) = ((63 : Nat) : Int))) (by omega)).mono ?_; rintro e w23 ⟨v23, rfl, q23, hb23⟩; have HS23 := keep4 (by assumption) hb23))) | fail)
          clear k20a k20b k21a k21b
          clear HS23 HS24
          have HB12 := below_drew1 HB11
          have HB13 := below_alloc HB12 (.cells #[.int .i64 1] 3)
          have HB14 := below_then HB13 HB13.size hb23
          have HB15 := below_then HB14 HB14.size hb24
          have k25 := ((((k20.drewN 1).alloc (.cells #[.int .i64 1] 3)).below hb23).below hb24)
          have k25a := k25.c0
          have k25b := k25.c1
          have k26 := ((((k21.drewN 1).alloc (.cells #[.int .i64 1] 3)).below hb23).below hb24)
          have k26a := k26.c0
          have k26b := k26.c1
          go_wp2_with fail
          go_quiet (fail)
          go_wp2_with fail
          go_ret
          exact ⟨rfl, (pw_below_drewN HB15 _)⟩
        · rcases Classical.em (za.natAbs < 18446744073709551616) with hcase | hcase4
          · skip
            have HW : Hid ((0 : Int) = i64v za) := Lib.hid (by unfold i64v; rw [show i64ok za = false from decide_eq_false (by omega)]; rfl)
            have HO : Hid (false = i64ok za) := Lib.hid (show i64ok za = false from decide_eq_false (by omega)).symm
            have HL : Hid ((bt za.natAbs).length = 64) := Lib.hid (len64 (by omega) (by omega))
            have HS : Hid (True) := Lib.hid (by trivial)
            have HP : Hid (sgn za = 1) := Lib.hid (sgn_p.2 (by omega))
            clear hcase
            have bxa := Box.new w 25 (.bool ba) (.slice Aa ma ca)
            go_enter Try.func5, Try.ntmps5
            go_wp2_with fail
            refine (lawake _).mono ?_
            rintro e w1 ⟨rfl, hb1⟩
            have HB1 := below_alloc (Below.refl w.heap.size w) (.cells #[.bool ba, .slice Aa ma ca] 25)
            have HB2 := below_then HB1 HB1.size hb1
            have k2 := (bxa.below hb1)
            have k2a := k2.c0
            have k2b := k2.c1
            go_wp2_with fail
            refine (lfew_as 20 HF).mono ?_
            rintro e w3 ⟨rfl, hb3⟩
            have HB3 := below_then HB2 HB2.size hb3
            clear k2a k2b
            have k4 := (k2.below hb3)
            have k4a := k4.c0
            have k4b := k4.c1
            go_wp2_with fail
            refine (of_as n hn.1 hn.2).mono ?_
            rintro e w5 ⟨b5, A5, m5, c5, rfl, q5, hb5⟩
            have HB4 := below_then HB3 HB3.size hb5
            clear k4a k4b
            have k6 := (k4.below hb5)
            have k6a := k6.c0
            have k6b := k6.c1
            go_wp2_with fail
            refine (int64_as q5.zi HN1 HN2).mono ?_
            rintro e w7 ⟨rfl, hb7⟩
            have HB5 := below_then HB4 HB4.size hb7
            clear k6a k6b
            have k8 := (k6.below hb7)
            have k8a := k8.c0
            have k8b := k8.c1
            go_wp2_with fail
            refine (int64_as (((((qa.alloc (.cells #[.bool ba, .slice Aa ma ca] 25)).below hb1).below hb3).below hb5).below hb7) HW HO).mono ?_
            rintro e w9 ⟨rfl, hb9⟩
            have HB6 := below_then HB5 HB5.size hb9
            clear k8a k8b
            have k10 := (k8.below hb9)
            have k10a := k10.c0
            have k10b := k10.c1
            go_wp2_with fail
            refine (of_as n hn.1 hn.2).mono ?_
            rintro e w11 ⟨b11, A11, m11, c11, rfl, q11, hb11⟩
            have HB7 := below_then HB6 HB6.size hb11
            clear k10a k10b
            have k12 := (k10.below hb11)
            have k12a := k12.c0
            have k12b := k12.c1
            go_wp2_with fail
            refine (of_as m hm.1 hm.2).mono ?_
            rintro e w13 ⟨b13, A13, m13, c13, rfl, q13, hb13⟩
            have HB8 := below_then HB7 HB7.size hb13
            clear k12a k12b
            have k14 := (k12.below hb13)
            have k14a := k14.c0
            have k14b := k14.c1
            go_wp2_with fail
            refine (cmp_as (q11.below hb13).zi q13.zi HR).mono ?_
            rintro e w15 ⟨rfl, hb15⟩
            have HB9 := below_then HB8 HB8.size hb15
            clear k14a k14b
            have k16 := (k14.below hb15)
            have k16a := k16.c0
            have k16b := k16.c1
            go_wp2_with fail
            refine (lof_as (((((((((qa.alloc (.cells #[.bool ba, .slice Aa ma ca] 25)).below hb1).below hb3).below hb5).below hb7).below hb9).below hb11).below hb13).below hb15) (by decide)).mono ?_
            rintro e w17 ⟨p17, A17, m17, c17, rfl, q17, hb17⟩
            have HB10 := below_then HB9 HB9.size hb17
            obtain rfl : m17 = 64 := by rw [q17.2.len]; exact HL.out
            obtain rfl : p17 = 1 := q17.1.trans HP.out
            go_wp2_with fail
            have xb := Box.new w17 30 (.int .i64 1) (.slice A17 64 c17)
            have HB11 := below_alloc HB10 (.cells #[.int .i64 1, .slice A17 64 c17] 30)
            have f18 := (q17.alloc (.cells #[.int .i64 1, .slice A17 64 c17] 30))
            have f19 := (((((((((((qa.alloc (.cells #[.bool ba, .slice Aa ma ca] 25)).below hb1).below hb3).below hb5).below hb7).below hb9).below hb11).below hb13).below hb15).below hb17).alloc (.cells #[.int .i64 1, .slice A17 64 c17] 30))
            clear k16a k16b
            have k20 := ((k16.below hb17).alloc (.cells #[.int .i64 1, .slice A17 64 c17] 30))
            have k20a := k20.c0
            have k20b := k20.c1
            have k21 := xb
            have k21a := k21.c0
            have k21b := k21.c1
            generalize hW_ : (w17.alloc (.cells #[.int .i64 1, .slice A17 64 c17] 30)) = W22 at *
            clear hW_
            go_wp2_with fail
            go_quiet (fail)
            go_wp2_with fail
            go_quiet (fail)
            go_wp2_with fail
            go_ret
            exact ⟨rfl, (pw_below_drewN (pw_below_drewN HB11 _) _)⟩
          · have hcase := hcase4
            have HW : Hid ((0 : Int) = i64v za) := Lib.hid (by unfold i64v; rw [show i64ok za = false from decide_eq_false (by omega)]; rfl)
            have HO : Hid (false = i64ok za) := Lib.hid (show i64ok za = false from decide_eq_false (by omega)).symm
            have HL : Hid (64 < (bt za.natAbs).length) := Lib.hid (lenB (by omega))
            have HS : Hid (True) := Lib.hid (by trivial)
            clear hcase
            have bxa := Box.new w 25 (.bool ba) (.slice Aa ma ca)
            go_enter Try.func5, Try.ntmps5
            go_wp2_with fail
            refine (lawake _).mono ?_
            rintro e w1 ⟨rfl, hb1⟩
            have HB1 := below_alloc (Below.refl w.heap.size w) (.cells #[.bool ba, .slice Aa ma ca] 25)
            have HB2 := below_then HB1 HB1.size hb1
            have k2 := (bxa.below hb1)
            have k2a := k2.c0
            have k2b := k2.c1
            go_wp2_with fail
            refine (lfew_as 20 HF).mono ?_
            rintro e w3 ⟨rfl, hb3⟩
            have HB3 := below_then HB2 HB2.size hb3
            clear k2a k2b
            have k4 := (k2.below hb3)
            have k4a := k4.c0
            have k4b := k4.c1
            go_wp2_with fail
            refine (of_as n hn.1 hn.2).mono ?_
            rintro e w5 ⟨b5, A5, m5, c5, rfl, q5, hb5⟩
            have HB4 := below_then HB3 HB3.size hb5
            clear k4a k4b
            have k6 := (k4.below hb5)
            have k6a := k6.c0
            have k6b := k6.c1
            go_wp2_with fail
            refine (int64_as q5.zi HN1 HN2).mono ?_
            rintro e w7 ⟨rfl, hb7⟩
            have HB5 := below_then HB4 HB4.size hb7
            clear k6a k6b
            have k8 := (k6.below hb7)
            have k8a := k8.c0
            have k8b := k8.c1
            go_wp2_with fail
            refine (int64_as (((((qa.alloc (.cells #[.bool ba, .slice Aa ma ca] 25)).below hb1).below hb3).below hb5).below hb7) HW HO).mono ?_
            rintro e w9 ⟨rfl, hb9⟩
            have HB6 := below_then HB5 HB5.size hb9
            clear k8a k8b
            have k10 := (k8.below hb9)
            have k10a := k10.c0
            have k10b := k10.c1
            go_wp2_with fail
            refine (of_as n hn.1 hn.2).mono ?_
            rintro e w11 ⟨b11, A11, m11, c11, rfl, q11, hb11⟩
            have HB7 := below_then HB6 HB6.size hb11
            clear k10a k10b
            have k12 := (k10.below hb11)
            have k12a := k12.c0
            have k12b := k12.c1
            go_wp2_with fail
            refine (of_as m hm.1 hm.2).mono ?_
            rintro e w13 ⟨b13, A13, m13, c13, rfl, q13, hb13⟩
            have HB8 := below_then HB7 HB7.size hb13
            clear k12a k12b
            have k14 := (k12.below hb13)
            have k14a := k14.c0
            have k14b := k14.c1
            go_wp2_with fail
            refine (cmp_as (q11.below hb13).zi q13.zi HR).mono ?_
            rintro e w15 ⟨rfl, hb15⟩
            have HB9 := below_then HB8 HB8.size hb15
            clear k14a k14b
            have k16 := (k14.below hb15)
            have k16a := k16.c0
            have k16b := k16.c1
            go_wp2_with fail
            refine (lof_as (((((((((qa.alloc (.cells #[.bool ba, .slice Aa ma ca] 25)).below hb1).below hb3).below hb5).below hb7).below hb9).below hb11).below hb13).below hb15) (by decide)).mono ?_
            rintro e w17 ⟨p17, A17, m17, c17, rfl, q17, hb17⟩
            have HB10 := below_then HB9 HB9.size hb17
            have hm1 : 64 < m17 := by rw [q17.2.len]; exact HL.out
            have hb1_ : ((m17 : Int) == 64) = false := by rw [beq_eq_false_iff_ne]; omega
            have hb2_ : decide ((m17 : Int) < 64) = false := decide_eq_false (by omega)
            clear hm1
            go_wp2_with fail
            have xb := Box.new w17 30 (.int .i64 p17) (.slice A17 m17 c17)
            have HB11 := below_alloc HB10 (.cells #[.int .i64 p17, .slice A17 m17 c17] 30)
            have f18 := (q17.alloc (.cells #[.int .i64 p17, .slice A17 m17 c17] 30))
            have f19 := (((((((((((qa.alloc (.cells #[.bool ba, .slice Aa ma ca] 25)).below hb1).below hb3).below hb5).below hb7).below hb9).below hb11).below hb13).below hb15).below hb17).alloc (.cells #[.int .i64 p17, .slice A17 m17 c17] 30))
            clear k16a k16b
            have k20 := ((k16.below hb17).alloc (.cells #[.int .i64 p17, .slice A17 m17 c17] 30))
            have k20a := k20.c0
            have k20b := k20.c1
            have k21 := xb
            have k21a := k21.c0
            have k21b := k21.c1
            generalize hW_ : (w17.alloc (.cells #[.int .i64 p17, .slice A17 m17 c17] 30)) = W22 at *
            clear hW_
            go_wp2_with fail
            go_quiet (fail)
            go_wp2_with fail
            go_quiet (fail)
            go_wp2_with fail
            go_ret
            exact ⟨rfl, (pw_below_drewN (pw_below_drewN HB11 _) _)⟩
  · skip
    have HF : Hid (false = (decide ((ma : Int) ≤ 20) && decide ((ma : Int) ≤ 20) && decide ((ma : Int) ≤ 20))) := Lib.hid (by simp; omega)
    have bxa := Box.new w 25 (.bool ba) (.slice Aa ma ca)
    go_enter Try.func5, Try.ntmps5
    go_wp2_with fail
    refine (lawake _).mono ?_
    rintro e w1 ⟨rfl, hb1⟩
    have HB1 := below_alloc (Below.refl w.heap.size w) (.cells #[.bool ba, .slice Aa ma ca] 25)
    have HB2 := below_then HB1 HB1.size hb1
    have k2 := (bxa.below hb1)
    have k2a := k2.c0
    have k2b := k2.c1
    go_wp2_with fail
    refine (lfew_as 20 HF).mono ?_
    rintro e w3 ⟨rfl, hb3⟩
    have HB3 := below_then HB2 HB2.size hb3
    clear k2a k2b
    have k4 := (k2.below hb3)
    have k4a := k4.c0
    have k4b := k4.c1
    go_wp2_with fail
    refine (lawake _).mono ?_
    rintro e w5 ⟨rfl, hb5⟩
    have HB4 := below_then HB3 HB3.size hb5
    go_wp2_with fail
    go_ret
    exact ⟨rfl, HB4⟩
end Go.Proofs.Ythadkjekagfjfaa.IWords
