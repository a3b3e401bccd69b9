/- The law IntegerMuls returns true for all its arguments and leaves what lay in memory as it was. Condition: the slices read as digits (a row's arguments do). -/
import Derived.Test.YthadkjekagfjfaaI8
import Derived.Test.YthadkjekagfjfaaR9
import Derived.Test.YthadkjekagfjfaaNum2
namespace Go.Proofs.Ythadkjekagfjfaa.IMuls
open Go.RowKit Go.Proofs.Ythadkjekagfjfaa.Dig Go.Proofs.Ythadkjekagfjfaa.N Go.Proofs.YthadkjekagfjfaaW.PrintWords Go.Proofs.YthadkjekagfjfaaW.PrintLast Go.Proofs.YthadkjekagfjfaaW.PrintMore
attribute [local go_sem] max2_int min2_int
set_option linter.unusedVariables false

set_option maxRecDepth 100000 in
set_option maxHeartbeats 1000000 in
theorem law_any {w : World} (n : Int) {ba : Bool} {Aa : Option Addr} {ma ca : Nat} {za : Int} (qa : ZI w ba (.slice Aa ma ca) za ma) {bb : Bool} {Ab : Option Addr} {mb cb : Nat} {zb : Int} (qb : ZI w bb (.slice Ab mb cb) zb mb) (hn : -9223372036854775808 ≤ n ∧ n ≤ 9223372036854775807) :
    Calls Try.prog 3 #[.agg #[.bool ba, .slice Aa ma ca], .agg #[.bool bb, .slice Ab mb cb], .int .i64 n] w fun e w' => e = .returned (.bool true) ∧ Below w.heap.size w w' := by
  by_cases hall : (ma ≤ 10 ∧ mb ≤ 10) ∧ n ≤ 2000
  · obtain ⟨⟨ha, hb⟩, hn2⟩ := hall
    obtain ⟨k, hk1, hk2, hk3⟩ : ∃ k : Nat, max n 0 = (k : Int) ∧ shc n = k ∧ k ≤ 2000 := ⟨n.toNat, by omega, by unfold shc; split <;> (try split) <;> omega, by omega⟩
    have HK1 := Lib.hid hk1
    have HK2 := Lib.hid hk2
    clear hk1 hk2
    obtain ⟨zm, hzm⟩ : ∃ t : Int, t = za * zb := ⟨_, rfl⟩
    have Hzm := Lib.hid hzm
    clear hzm
    obtain ⟨zu, hzu⟩ : ∃ t : Int, t = za * (2 ^ k : Nat) := ⟨_, rfl⟩
    have Hzu := Lib.hid hzu
    clear hzu
    have HU : Hid (zu = za * (2 ^ shc n : Nat)) := Lib.hid (by rw [HK2.out]; exact Hzu.out)
    have HF : Hid (true = (decide ((ma : Int) ≤ 10) && decide ((mb : Int) ≤ 10) && decide ((ma : Int) ≤ 10))) := Lib.hid (by simp; omega)
    replace qa := qa.more ha
    replace qb := qb.more hb
    have bxa := Box.new w 25 (.bool ba) (.slice Aa ma ca)
    have bxb := Box.new1 w (.cells #[.bool ba, .slice Aa ma ca] 25) 25 (.bool bb) (.slice Ab mb cb)
    go_enter Try.func3, Try.ntmps3
    go_wp2_with fail
    refine (lawake _).mono ?_
    rintro e w1 ⟨rfl, hb1⟩
    have HB1 := below_alloc (Below.refl w.heap.size w) (.cells #[.bool ba, .slice Aa ma ca] 25)
    have HB2 := below_alloc HB1 (.cells #[.bool bb, .slice Ab mb cb] 25)
    have HB3 := below_then HB2 HB2.size hb1
    have k2 := ((bxa.alloc (.cells #[.bool bb, .slice Ab mb cb] 25)).below hb1)
    have k2a := k2.c0
    have k2b := k2.c1
    have k3 := (bxb.below hb1)
    have k3a := k3.c0
    have k3b := k3.c1
    go_wp2_with fail
    refine (lfew_as 10 HF).mono ?_
    rintro e w4 ⟨rfl, hb4⟩
    have HB4 := below_then HB3 HB3.size hb4
    clear k2a k2b k3a k3b
    have k5 := (k2.below hb4)
    have k5a := k5.c0
    have k5b := k5.c1
    have k6 := (k3.below hb4)
    have k6a := k6.c0
    have k6b := k6.c1
    go_wp2_with fail
    refine (lof_as ((((qa.alloc (.cells #[.bool ba, .slice Aa ma ca] 25)).alloc (.cells #[.bool bb, .slice Ab mb cb] 25)).below hb1).below hb4) (by decide)).mono ?_
    rintro e w7 ⟨p7, A7, m7, c7, rfl, q7, hb7⟩
    have HB5 := below_then HB4 HB4.size hb7
    go_upto_region 4 with fail
    have x8 := Box.new w7 30 (.int .i64 p7) (.slice A7 m7 c7)
    have HB6 := below_alloc HB5 (.cells #[.int .i64 p7, .slice A7 m7 c7] 30)
    have qx := (q7.alloc (.cells #[.int .i64 p7, .slice A7 m7 c7] 30))
    have qa1 := ((((((qa.alloc (.cells #[.bool ba, .slice Aa ma ca] 25)).alloc (.cells #[.bool bb, .slice Ab mb cb] 25)).below hb1).below hb4).below hb7).alloc (.cells #[.int .i64 p7, .slice A7 m7 c7] 30))
    have qb1 := ((((((qb.alloc (.cells #[.bool ba, .slice Aa ma ca] 25)).alloc (.cells #[.bool bb, .slice Ab mb cb] 25)).below hb1).below hb4).below hb7).alloc (.cells #[.int .i64 p7, .slice A7 m7 c7] 30))
    clear k5a k5b k6a k6b
    have k9 := ((k5.below hb7).alloc (.cells #[.int .i64 p7, .slice A7 m7 c7] 30))
    have k9a := k9.c0
    have k9b := k9.c1
    have k10 := ((k6.below hb7).alloc (.cells #[.int .i64 p7, .slice A7 m7 c7] 30))
    have k10a := k10.c0
    have k10b := k10.c1
    have k11 := x8
    have k11a := k11.c0
    have k11b := k11.c1
    generalize hW : (w7.alloc (.cells #[.int .i64 p7, .slice A7 m7 c7] 30)) = W at *
    clear hW
    have HU2 : Hid (zu = sg (decide (p7 < 0)) (za.natAbs * 2 ^ k)) := Lib.hid (by rw [qx.1, sg_dec]; exact Hzu.out)
    have qx2 := qx.2
    go_cut [8] (fun s_ wx => LetR W wx s_ zu (32 * 10 + k))
    case first =>
      have hSW : W.cell? ⟨w.heap.size, 0, none⟩ = some (.bool ba) ∧ W.cell? ⟨w.heap.size, 1, none⟩ = some (.slice Aa ma ca) ∧ W.cell? ⟨(w.heap.size + 1), 0, none⟩ = some (.bool bb) ∧ W.cell? ⟨(w.heap.size + 1), 1, none⟩ = some (.slice Ab mb cb) ∧ W.cell? ⟨w7.heap.size, 0, none⟩ = some (.int .i64 p7) ∧ W.cell? ⟨w7.heap.size, 1, none⟩ = some (.slice A7 m7 c7) := ⟨k9a, k9b, k10a, k10b, k11a, k11b⟩
      (first | (go_region_held3 (fun w' => w'.cell? ⟨w.heap.size, 0, none⟩ = some (.bool ba) ∧ w'.cell? ⟨w.heap.size, 1, none⟩ = some (.slice Aa ma ca) ∧ w'.cell? ⟨(w.heap.size + 1), 0, none⟩ = some (.bool bb) ∧ w'.cell? ⟨(w.heap.size + 1), 1, none⟩ = some (.slice Ab mb cb) ∧ w'.cell? ⟨w7.heap.size, 0, none⟩ = some (.int .i64 p7) ∧ w'.cell? ⟨w7.heap.size, 1, none⟩ = some (.slice A7 m7 c7))
        (first | assumption | exact keep6 hSW ((HN13.setCell (by first | exact Nat.le_refl _ | exact HN12.size | exact HN13.size) _).setCell (by first | exact Nat.le_refl _ | exact HN12.size | exact HN13.size) _) | go_keep | ((try dsimp only); (repeat' apply And.intro); all_goals go_keep))
        (first
          | (have _ck := hb12; go_at_call 14; refine (rmake_as _ (by first | exact q12 | exact q12.alloc _) HU2).mono ?_; rintro e w13 ⟨p13, A13, m13, c13, rfl, q13, hb13⟩; have HS13 := keep6 (by assumption) hb13; have hn13 : Below w12.heap.size w12 w13 := (by first | exact hb13 | exact below_of_alloc hb13); (try have nb := nb.then_ hn13); (try have nb : Box w13 30 w12.heap.size (.int .i64 0) (.slice none 0 0) := (Box.new w12 _ _ _).then_ hb13); have HN13 := below_then HN12 HN12.size hn13; (try obtain ⟨r0_, r1_, r2_, r3_⟩ := nb.rdyA))
          | (go_at_call 15; refine (up_as (by first | exact (qx2.drewN 1) | exact (qx2.drewN 1).alloc _) (by decide) k HK1 (by omega)).mono ?_; rintro e w12 ⟨v12, rfl, q12, hb12⟩; have HS12 := keep6 (by assumption) hb12; have hn12 : Below W.heap.size W w12 := (by first | exact below_of_drewN hb12 | exact below_of_drewN_alloc hb12); (try have nb : Box w12 30 W.heap.size (.int .i64 0) (.slice none 0 0) := (Box.new (W.drewN 1) _ _ _).then_ hb12); have HN12 := hn12))) | fail)
      all_goals
        go_wp2_with fail
        go_meet
        first | exact LetR.last q13 HN13 | exact LetR.put nb q13 (by first | exact Nat.le_refl _ | exact HN12.size | exact HN13.size) HN13
    case rest =>
      obtain ⟨g14, p14, A14, m14, c14, rfl, x14, q14, hb14⟩ := hcut
      clear k9a k9b k10a k10b k11a k11b
      have HB7 := below_then HB6 HB6.size hb14
      have k15 := (k9.below hb14)
      have k15a := k15.c0
      have k15b := k15.c1
      have k16 := (k10.below hb14)
      have k16a := k16.c0
      have k16b := k16.c1
      have k17 := (k11.below hb14)
      have k17a := k17.c0
      have k17b := k17.c1
      have k18 := x14
      have k18a := k18.c0
      have k18b := k18.c1
      go_wp2_with fail
      (first | (go_region_held3 (fun w' => w'.cell? ⟨w.heap.size, 0, none⟩ = some (.bool ba) ∧ w'.cell? ⟨w.heap.size, 1, none⟩ = some (.slice Aa ma ca) ∧ w'.cell? ⟨(w.heap.size + 1), 0, none⟩ = some (.bool bb) ∧ w'.cell? ⟨(w.heap.size + 1), 1, none⟩ = some (.slice Ab mb cb) ∧ w'.cell? ⟨w7.heap.size, 0, none⟩ = some (.int .i64 p7) ∧ w'.cell? ⟨w7.heap.size, 1, none⟩ = some (.slice A7 m7 c7) ∧ w'.cell? ⟨g14, 0, none⟩ = some (.int .i64 p14) ∧ w'.cell? ⟨g14, 1, none⟩ = some (.slice A14 m14 c14))
        (first | assumption | go_keep | ((try dsimp only); (repeat' apply And.intro); all_goals go_keep))
        (first
          | (have _ck := hb23; go_at_call 16; refine (lis_as q23 ((((((q14.drewN 1).below hb19).below hb20).below hb21).below hb22).below hb23) (by decide) (by omega) rfl).mono ?_; rintro e w24 ⟨rfl, hb24⟩; have HS24 := keep8 (by assumption) hb24)
          | (have _ck := hb22; go_at_call 19; refine (shl_as ((((((qa1.below hb14).drewN 1).below hb19).below hb20).below hb21).below hb22) (by decide) n 63 (by rw [HK2.out]; omega) HU).mono ?_; rintro e w23 ⟨b23, A23, m23, c23, rfl, q23, hb23⟩; have HS23 := keep8 (by assumption) hb23)
          | (have _ck := hb21; go_at_call 16; refine (lis_as ((q19.below hb20).below hb21) q21 (by decide) (by decide) rfl).mono ?_; rintro e w22 ⟨rfl, hb22⟩; have HS22 := keep8 (by assumption) hb22)
          | (have _ck := hb20; go_at_call 18; refine (rmul_as ((((qx.below hb14).drewN 1).below hb19).below hb20) q20 (by decide) (by decide) Hzm).mono ?_; rintro e w21 ⟨p21, A21, m21, c21, rfl, q21, hb21⟩; have HS21 := keep8 (by assumption) hb21)
          | (have _ck := hb19; go_at_call 13; refine (lof_as (((qb1.below hb14).drewN 1).below hb19) (by decide)).mono ?_; rintro e w20 ⟨p20, A20, m20, c20, rfl, q20, hb20⟩; have HS20 := keep8 (by assumption) hb20)
          | (go_at_call 17; refine (mul_as ((qa1.below hb14).drewN 1) ((qb1.below hb14).drewN 1) (by decide) (by decide) Hzm).mono ?_; rintro e w19 ⟨b19, A19, m19, c19, rfl, q19, hb19⟩; have HS19 := keep8 (by assumption) hb19))) | fail)
      clear k15a k15b k16a k16b k17a k17b k18a k18b
      clear HS19 HS20 HS21 HS22 HS23 HS24
      have HB8 := below_drew1 HB7
      have HB9 := below_then HB8 HB8.size hb19
      have HB10 := below_then HB9 HB9.size hb20
      have HB11 := below_then HB10 HB10.size hb21
      have HB12 := below_then HB11 HB11.size hb22
      have HB13 := below_then HB12 HB12.size hb23
      have HB14 := below_then HB13 HB13.size hb24
      go_wp2_with fail
      go_ret
      exact ⟨rfl, HB14⟩
  · by_cases hf : ma ≤ 10 ∧ mb ≤ 10
    · have hn3 : 2000 < n := by omega
      clear hall
      have HF : Hid (true = (decide ((ma : Int) ≤ 10) && decide ((mb : Int) ≤ 10) && decide ((ma : Int) ≤ 10))) := Lib.hid (by simp; omega)
      have bxa := Box.new w 25 (.bool ba) (.slice Aa ma ca)
      have bxb := Box.new1 w (.cells #[.bool ba, .slice Aa ma ca] 25) 25 (.bool bb) (.slice Ab mb cb)
      go_enter Try.func3, Try.ntmps3
      go_wp2_with fail
      refine (lawake _).mono ?_
      rintro e w1 ⟨rfl, hb1⟩
      have HB1 := below_alloc (Below.refl w.heap.size w) (.cells #[.bool ba, .slice Aa ma ca] 25)
      have HB2 := below_alloc HB1 (.cells #[.bool bb, .slice Ab mb cb] 25)
      have HB3 := below_then HB2 HB2.size hb1
      have k2 := ((bxa.alloc (.cells #[.bool bb, .slice Ab mb cb] 25)).below hb1)
      have k2a := k2.c0
      have k2b := k2.c1
      have k3 := (bxb.below hb1)
      have k3a := k3.c0
      have k3b := k3.c1
      go_wp2_with fail
      refine (lfew_as 10 HF).mono ?_
      rintro e w4 ⟨rfl, hb4⟩
      have HB4 := below_then HB3 HB3.size hb4
      clear k2a k2b k3a k3b
      have k5 := (k2.below hb4)
      have k5a := k5.c0
      have k5b := k5.c1
      have k6 := (k3.below hb4)
      have k6a := k6.c0
      have k6b := k6.c1
      go_wp2_with fail
      refine (lawake _).mono ?_
      rintro e w7 ⟨rfl, hb7⟩
      have HB5 := below_then HB4 HB4.size hb7
      go_wp2_with fail
      go_ret
      exact ⟨rfl, HB5⟩
    · clear hall
      have HF : Hid (false = (decide ((ma : Int) ≤ 10) && decide ((mb : Int) ≤ 10) && decide ((ma : Int) ≤ 10))) := Lib.hid (by simp; omega)
      have bxa := Box.new w 25 (.bool ba) (.slice Aa ma ca)
      have bxb := Box.new1 w (.cells #[.bool ba, .slice Aa ma ca] 25) 25 (.bool bb) (.slice Ab mb cb)
      go_enter Try.func3, Try.ntmps3
      go_wp2_with fail
      refine (lawake _).mono ?_
      rintro e w1 ⟨rfl, hb1⟩
      have HB1 := below_alloc (Below.refl w.heap.size w) (.cells #[.bool ba, .slice Aa ma ca] 25)
      have HB2 := below_alloc HB1 (.cells #[.bool bb, .slice Ab mb cb] 25)
      have HB3 := below_then HB2 HB2.size hb1
      have k2 := ((bxa.alloc (.cells #[.bool bb, .slice Ab mb cb] 25)).below hb1)
      have k2a := k2.c0
      have k2b := k2.c1
      have k3 := (bxb.below hb1)
      have k3a := k3.c0
      have k3b := k3.c1
      go_wp2_with fail
      refine (lfew_as 10 HF).mono ?_
      rintro e w4 ⟨rfl, hb4⟩
      have HB4 := below_then HB3 HB3.size hb4
      clear k2a k2b k3a k3b
      have k5 := (k2.below hb4)
      have k5a := k5.c0
      have k5b := k5.c1
      have k6 := (k3.below hb4)
      have k6a := k6.c0
      have k6b := k6.c1
      go_wp2_with fail
      refine (lawake _).mono ?_
      rintro e w7 ⟨rfl, hb7⟩
      have HB5 := below_then HB4 HB4.size hb7
      go_wp2_with fail
      go_ret
      exact ⟨rfl, HB5⟩
end Go.Proofs.Ythadkjekagfjfaa.IMuls
