/- The law IntegerRing returns true for all its arguments and leaves what lay in memory as it was. Condition: the slices read as digits (a row's arguments do). -/
import Derived.Test.YthadkjekagfjfaaI8
namespace Go.Proofs.Ythadkjekagfjfaa.IRing
open Go.RowKit Go.Proofs.Ythadkjekagfjfaa.Dig Go.Proofs.Ythadkjekagfjfaa.N Go.Proofs.YthadkjekagfjfaaW.PrintWords Go.Proofs.YthadkjekagfjfaaW.PrintLast Go.Proofs.YthadkjekagfjfaaW.PrintMore
attribute [local go_sem] max2_int min2_int
set_option linter.unusedVariables false

set_option maxRecDepth 100000 in
set_option maxHeartbeats 10000000 in
theorem law_any {w : World} {ba : Bool} {Aa : Option Addr} {ma ca : Nat} {za : Int} (qa : ZI w ba (.slice Aa ma ca) za ma) {bb : Bool} {Ab : Option Addr} {mb cb : Nat} {zb : Int} (qb : ZI w bb (.slice Ab mb cb) zb mb) {bc : Bool} {Ac : Option Addr} {mc cc : Nat} {zc : Int} (qc : ZI w bc (.slice Ac mc cc) zc mc) :
    Calls Try.prog 7 #[.agg #[.bool ba, .slice Aa ma ca], .agg #[.bool bb, .slice Ab mb cb], .agg #[.bool bc, .slice Ac mc cc]] w fun e w' => e = .returned (.bool true) ∧ Below w.heap.size w w' := by
  by_cases hall : ma ≤ 6 ∧ mb ≤ 6 ∧ mc ≤ 6
  · obtain ⟨ha, hb, hc⟩ := hall
    have HF : Hid (true = (decide ((ma : Int) ≤ 6) && decide ((mb : Int) ≤ 6) && decide ((mc : Int) ≤ 6))) := Lib.hid (by simp; omega)
    replace qa := qa.more ha
    replace qb := qb.more hb
    replace qc := qc.more hc
    obtain ⟨s1, hs1⟩ : ∃ t : Int, t = zb + zc := ⟨_, rfl⟩
    have Hs1 := Lib.hid hs1
    clear hs1
    obtain ⟨l1, hl1⟩ : ∃ t : Int, t = za * s1 := ⟨_, rfl⟩
    have Hl1 := Lib.hid hl1
    clear hl1
    obtain ⟨p1, hp1⟩ : ∃ t : Int, t = za * zb := ⟨_, rfl⟩
    have Hp1 := Lib.hid hp1
    clear hp1
    obtain ⟨p2, hp2⟩ : ∃ t : Int, t = za * zc := ⟨_, rfl⟩
    have Hp2 := Lib.hid hp2
    clear hp2
    obtain ⟨r1, hr1⟩ : ∃ t : Int, t = p1 + p2 := ⟨_, rfl⟩
    have Hr1 := Lib.hid hr1
    clear hr1
    obtain ⟨s2, hs2⟩ : ∃ t : Int, t = za + zb := ⟨_, rfl⟩
    have Hs2 := Lib.hid hs2
    clear hs2
    obtain ⟨s3, hs3⟩ : ∃ t : Int, t = zb + za := ⟨_, rfl⟩
    have Hs3 := Lib.hid hs3
    clear hs3
    obtain ⟨p3, hp3⟩ : ∃ t : Int, t = zb * za := ⟨_, rfl⟩
    have Hp3 := Lib.hid hp3
    clear hp3
    obtain ⟨s4, hs4⟩ : ∃ t : Int, t = za + s1 := ⟨_, rfl⟩
    have Hs4 := Lib.hid hs4
    clear hs4
    obtain ⟨s5, hs5⟩ : ∃ t : Int, t = s2 + zc := ⟨_, rfl⟩
    have Hs5 := Lib.hid hs5
    clear hs5
    obtain ⟨p4, hp4⟩ : ∃ t : Int, t = zb * zc := ⟨_, rfl⟩
    have Hp4 := Lib.hid hp4
    clear hp4
    obtain ⟨p5, hp5⟩ : ∃ t : Int, t = za * p4 := ⟨_, rfl⟩
    have Hp5 := Lib.hid hp5
    clear hp5
    obtain ⟨p6, hp6⟩ : ∃ t : Int, t = p1 * zc := ⟨_, rfl⟩
    have Hp6 := Lib.hid hp6
    clear hp6
    obtain ⟨o1, ho1⟩ : ∃ t : Int, t = za * 1 := ⟨_, rfl⟩
    have Ho1 := Lib.hid ho1
    clear ho1
    obtain ⟨o2, ho2⟩ : ∃ t : Int, t = za + 0 := ⟨_, rfl⟩
    have Ho2 := Lib.hid ho2
    clear ho2
    obtain ⟨o3, ho3⟩ : ∃ t : Int, t = za - za := ⟨_, rfl⟩
    have Ho3 := Lib.hid ho3
    clear ho3
    have E1 : Hid (l1 = r1) := Lib.hid (by rw [Hl1.out, Hs1.out, Hr1.out, Hp1.out, Hp2.out]; exact Int.mul_add _ _ _)
    have E2 : Hid (s2 = s3) := Lib.hid (by rw [Hs2.out, Hs3.out]; exact Int.add_comm _ _)
    have E3 : Hid (p1 = p3) := Lib.hid (by rw [Hp1.out, Hp3.out]; exact Int.mul_comm _ _)
    have E4 : Hid (s4 = s5) := Lib.hid (by rw [Hs4.out, Hs1.out, Hs5.out, Hs2.out]; exact (Int.add_assoc _ _ _).symm)
    have E5 : Hid (p5 = p6) := Lib.hid (by rw [Hp5.out, Hp4.out, Hp6.out, Hp1.out]; exact (Int.mul_assoc _ _ _).symm)
    have E6 : Hid (o1 = za) := Lib.hid (by rw [Ho1.out]; exact Int.mul_one _)
    have E7 : Hid (o2 = za) := Lib.hid (by rw [Ho2.out]; exact Int.add_zero _)
    have E8 : Hid (o3 = (0 : Int)) := Lib.hid (by rw [Ho3.out]; exact Int.sub_self _)
    have bxa := Box.new w 25 (.bool ba) (.slice Aa ma ca)
    have bxb := Box.new1 w (.cells #[.bool ba, .slice Aa ma ca] 25) 25 (.bool bb) (.slice Ab mb cb)
    have bxc := Box.new2 w (.cells #[.bool ba, .slice Aa ma ca] 25) (.cells #[.bool bb, .slice Ab mb cb] 25) 25 (.bool bc) (.slice Ac mc cc)
    go_enter Try.func7, Try.ntmps7
    go_wp2_with fail
    refine (lawake _).mono ?_
    rintro e w1 ⟨rfl, hb1⟩
    have HB1 := below_alloc (Below.refl w.heap.size w) (.cells #[.bool ba, .slice Aa ma ca] 25)
    have HB2 := below_alloc HB1 (.cells #[.bool bb, .slice Ab mb cb] 25)
    have HB3 := below_alloc HB2 (.cells #[.bool bc, .slice Ac mc cc] 25)
    have HB4 := below_then HB3 HB3.size hb1
    have k2 := (((bxa.alloc (.cells #[.bool bb, .slice Ab mb cb] 25)).alloc (.cells #[.bool bc, .slice Ac mc cc] 25)).below hb1)
    have k2a := k2.c0
    have k2b := k2.c1
    have k3 := ((bxb.alloc (.cells #[.bool bc, .slice Ac mc cc] 25)).below hb1)
    have k3a := k3.c0
    have k3b := k3.c1
    have k4 := (bxc.below hb1)
    have k4a := k4.c0
    have k4b := k4.c1
    go_wp2_with fail
    refine (lfew_as 6 HF).mono ?_
    rintro e w5 ⟨rfl, hb5⟩
    have HB5 := below_then HB4 HB4.size hb5
    clear k2a k2b k3a k3b k4a k4b
    have k6 := (k2.below hb5)
    have k6a := k6.c0
    have k6b := k6.c1
    have k7 := (k3.below hb5)
    have k7a := k7.c0
    have k7b := k7.c1
    have k8 := (k4.below hb5)
    have k8a := k8.c0
    have k8b := k8.c1
    go_upto_region 3 with fail
    go_cut [7] (fun s_ wx => LetI w5 wx s_ l1 (6 + (max 6 6 + 1)))
    case first =>
      have hSW : w5.cell? ⟨w.heap.size, 0, none⟩ = some (.bool ba) ∧ w5.cell? ⟨w.heap.size, 1, none⟩ = some (.slice Aa ma ca) ∧ w5.cell? ⟨(w.heap.size + 1), 0, none⟩ = some (.bool bb) ∧ w5.cell? ⟨(w.heap.size + 1), 1, none⟩ = some (.slice Ab mb cb) ∧ w5.cell? ⟨(w.heap.size + 2), 0, none⟩ = some (.bool bc) ∧ w5.cell? ⟨(w.heap.size + 2), 1, none⟩ = some (.slice Ac mc cc) := ⟨k6a, k6b, k7a, k7b, k8a, k8b⟩
      (first | (go_region_held3 (fun w' => w'.cell? ⟨w.heap.size, 0, none⟩ = some (.bool ba) ∧ w'.cell? ⟨w.heap.size, 1, none⟩ = some (.slice Aa ma ca) ∧ w'.cell? ⟨(w.heap.size + 1), 0, none⟩ = some (.bool bb) ∧ w'.cell? ⟨(w.heap.size + 1), 1, none⟩ = some (.slice Ab mb cb) ∧ w'.cell? ⟨(w.heap.size + 2), 0, none⟩ = some (.bool bc) ∧ w'.cell? ⟨(w.heap.size + 2), 1, none⟩ = some (.slice Ac mc cc))
        (first | assumption | exact keep6 hSW ((HN10.setCell (by first | exact Nat.le_refl _ | exact HN9.size | exact HN10.size) _).setCell (by first | exact Nat.le_refl _ | exact HN9.size | exact HN10.size) _) | go_keep | ((try dsimp only); (repeat' apply And.intro); all_goals go_keep))
        (first
          | (have _ck := hb9; go_at_call 17; refine (mul_as (by first | exact ((((((qa.alloc (.cells #[.bool ba, .slice Aa ma ca] 25)).alloc (.cells #[.bool bb, .slice Ab mb cb] 25)).alloc (.cells #[.bool bc, .slice Ac mc cc] 25)).below hb1).below hb5).below hn9) | exact ((((((qa.alloc (.cells #[.bool ba, .slice Aa ma ca] 25)).alloc (.cells #[.bool bb, .slice Ab mb cb] 25)).alloc (.cells #[.bool bc, .slice Ac mc cc] 25)).below hb1).below hb5).below hn9).alloc _) (ZC.zi (by first | exact q9 | exact q9.alloc _)) (by decide) (by decide) Hl1).mono ?_; rintro e w10 ⟨b10, A10, m10, c10, rfl, q10, hb10⟩; have HS10 := keep6 (by assumption) hb10; have hn10 : Below w9.heap.size w9 w10 := (by first | exact hb10 | exact below_of_alloc hb10); (try have nb := nb.then_ hn10); (try have nb : Box w10 25 w9.heap.size (.bool false) (.slice none 0 0) := (Box.new w9 _ _ _).then_ hb10); have HN10 := below_then HN9 HN9.size hn10; (try obtain ⟨r0_, r1_, r2_, r3_⟩ := nb.rdyA))
          | (go_at_call 29; refine (add_as (by first | exact ((((((qb.alloc (.cells #[.bool ba, .slice Aa ma ca] 25)).alloc (.cells #[.bool bb, .slice Ab mb cb] 25)).alloc (.cells #[.bool bc, .slice Ac mc cc] 25)).below hb1).below hb5).drewN 1) | exact ((((((qb.alloc (.cells #[.bool ba, .slice Aa ma ca] 25)).alloc (.cells #[.bool bb, .slice Ab mb cb] 25)).alloc (.cells #[.bool bc, .slice Ac mc cc] 25)).below hb1).below hb5).drewN 1).alloc _) (by first | exact ((((((qc.alloc (.cells #[.bool ba, .slice Aa ma ca] 25)).alloc (.cells #[.bool bb, .slice Ab mb cb] 25)).alloc (.cells #[.bool bc, .slice Ac mc cc] 25)).below hb1).below hb5).drewN 1) | exact ((((((qc.alloc (.cells #[.bool ba, .slice Aa ma ca] 25)).alloc (.cells #[.bool bb, .slice Ab mb cb] 25)).alloc (.cells #[.bool bc, .slice Ac mc cc] 25)).below hb1).below hb5).drewN 1).alloc _) (by decide) (by decide) Hs1).mono ?_; rintro e w9 ⟨b9, A9, m9, c9, rfl, q9, hb9⟩; have HS9 := keep6 (by assumption) hb9; have hn9 : Below w5.heap.size w5 w9 := (by first | exact below_of_drewN hb9 | exact below_of_drewN_alloc hb9); (try have nb : Box w9 25 w5.heap.size (.bool false) (.slice none 0 0) := (Box.new (w5.drewN 1) _ _ _).then_ hb9); have HN9 := hn9))) | fail)
      all_goals
        go_wp2_with fail
        go_meet
        first | exact LetI.last q10 HN10 | exact LetI.put nb q10 (by first | exact Nat.le_refl _ | exact HN9.size | exact HN10.size) HN10
    case rest =>
      obtain ⟨g11, b11, A11, m11, c11, rfl, x11, q11, hb11⟩ := hcut
      clear k6a k6b k7a k7b k8a k8b
      have HB6 := below_then HB5 HB5.size hb11
      have k12 := (k6.below hb11)
      have k12a := k12.c0
      have k12b := k12.c1
      have k13 := (k7.below hb11)
      have k13a := k13.c0
      have k13b := k13.c1
      have k14 := (k8.below hb11)
      have k14a := k14.c0
      have k14b := k14.c1
      have k15 := x11
      have k15a := k15.c0
      have k15b := k15.c1
      go_upto_region 4 with fail
      go_cut [8] (fun s_ wx => LetI wc wx s_ r1 (max (6 + 6) (6 + 6) + 1))
      case first =>
        have hSW : wc.cell? ⟨w.heap.size, 0, none⟩ = some (.bool ba) ∧ wc.cell? ⟨w.heap.size, 1, none⟩ = some (.slice Aa ma ca) ∧ wc.cell? ⟨(w.heap.size + 1), 0, none⟩ = some (.bool bb) ∧ wc.cell? ⟨(w.heap.size + 1), 1, none⟩ = some (.slice Ab mb cb) ∧ wc.cell? ⟨(w.heap.size + 2), 0, none⟩ = some (.bool bc) ∧ wc.cell? ⟨(w.heap.size + 2), 1, none⟩ = some (.slice Ac mc cc) ∧ wc.cell? ⟨g11, 0, none⟩ = some (.bool b11) ∧ wc.cell? ⟨g11, 1, none⟩ = some (.slice A11 m11 c11) := ⟨k12a, k12b, k13a, k13b, k14a, k14b, k15a, k15b⟩
        (first | (go_region_held3 (fun w' => w'.cell? ⟨w.heap.size, 0, none⟩ = some (.bool ba) ∧ w'.cell? ⟨w.heap.size, 1, none⟩ = some (.slice Aa ma ca) ∧ w'.cell? ⟨(w.heap.size + 1), 0, none⟩ = some (.bool bb) ∧ w'.cell? ⟨(w.heap.size + 1), 1, none⟩ = some (.slice Ab mb cb) ∧ w'.cell? ⟨(w.heap.size + 2), 0, none⟩ = some (.bool bc) ∧ w'.cell? ⟨(w.heap.size + 2), 1, none⟩ = some (.slice Ac mc cc) ∧ w'.cell? ⟨g11, 0, none⟩ = some (.bool b11) ∧ w'.cell? ⟨g11, 1, none⟩ = some (.slice A11 m11 c11))
          (first | assumption | exact keep8 hSW ((HN18.setCell (by first | exact Nat.le_refl _ | exact HN16.size | exact HN17.size | exact HN18.size) _).setCell (by first | exact Nat.le_refl _ | exact HN16.size | exact HN17.size | exact HN18.size) _) | go_keep | ((try dsimp only); (repeat' apply And.intro); all_goals go_keep))
          (first
            | (have _ck := hb17; go_at_call 29; refine (add_as (ZC.zi (by first | exact (q16.below hn17) | exact (q16.below hn17).alloc _)) (ZC.zi (by first | exact q17 | exact q17.alloc _)) (by decide) (by decide) Hr1).mono ?_; rintro e w18 ⟨b18, A18, m18, c18, rfl, q18, hb18⟩; have HS18 := keep8 (by assumption) hb18; have hn18 : Below w17.heap.size w17 w18 := (by first | exact hb18 | exact below_of_alloc hb18); (try have nb := nb.then_ hn18); (try have nb : Box w18 25 w17.heap.size (.bool false) (.slice none 0 0) := (Box.new w17 _ _ _).then_ hb18); have HN18 := below_then HN17 HN17.size hn18; (try obtain ⟨r0_, r1_, r2_, r3_⟩ := nb.rdyA))
            | (have _ck := hb16; go_at_call 17; refine (mul_as (by first | exact (((((((qa.alloc (.cells #[.bool ba, .slice Aa ma ca] 25)).alloc (.cells #[.bool bb, .slice Ab mb cb] 25)).alloc (.cells #[.bool bc, .slice Ac mc cc] 25)).below hb1).below hb5).below hb11).below hn16) | exact (((((((qa.alloc (.cells #[.bool ba, .slice Aa ma ca] 25)).alloc (.cells #[.bool bb, .slice Ab mb cb] 25)).alloc (.cells #[.bool bc, .slice Ac mc cc] 25)).below hb1).below hb5).below hb11).below hn16).alloc _) (by first | exact (((((((qc.alloc (.cells #[.bool ba, .slice Aa ma ca] 25)).alloc (.cells #[.bool bb, .slice Ab mb cb] 25)).alloc (.cells #[.bool bc, .slice Ac mc cc] 25)).below hb1).below hb5).below hb11).below hn16) | exact (((((((qc.alloc (.cells #[.bool ba, .slice Aa ma ca] 25)).alloc (.cells #[.bool bb, .slice Ab mb cb] 25)).alloc (.cells #[.bool bc, .slice Ac mc cc] 25)).below hb1).below hb5).below hb11).below hn16).alloc _) (by decide) (by decide) Hp2).mono ?_; rintro e w17 ⟨b17, A17, m17, c17, rfl, q17, hb17⟩; have HS17 := keep8 (by assumption) hb17; have hn17 : Below w16.heap.size w16 w17 := (by first | exact hb17 | exact below_of_alloc hb17); (try have nb := nb.then_ hn17); (try have nb : Box w17 25 w16.heap.size (.bool false) (.slice none 0 0) := (Box.new w16 _ _ _).then_ hb17); have HN17 := below_then HN16 HN16.size hn17)
            | (go_at_call 17; refine (mul_as (by first | exact (((((((qa.alloc (.cells #[.bool ba, .slice Aa ma ca] 25)).alloc (.cells #[.bool bb, .slice Ab mb cb] 25)).alloc (.cells #[.bool bc, .slice Ac mc cc] 25)).below hb1).below hb5).below hb11).drewN 1) | exact (((((((qa.alloc (.cells #[.bool ba, .slice Aa ma ca] 25)).alloc (.cells #[.bool bb, .slice Ab mb cb] 25)).alloc (.cells #[.bool bc, .slice Ac mc cc] 25)).below hb1).below hb5).below hb11).drewN 1).alloc _) (by first | exact (((((((qb.alloc (.cells #[.bool ba, .slice Aa ma ca] 25)).alloc (.cells #[.bool bb, .slice Ab mb cb] 25)).alloc (.cells #[.bool bc, .slice Ac mc cc] 25)).below hb1).below hb5).below hb11).drewN 1) | exact (((((((qb.alloc (.cells #[.bool ba, .slice Aa ma ca] 25)).alloc (.cells #[.bool bb, .slice Ab mb cb] 25)).alloc (.cells #[.bool bc, .slice Ac mc cc] 25)).below hb1).below hb5).below hb11).drewN 1).alloc _) (by decide) (by decide) Hp1).mono ?_; rintro e w16 ⟨b16, A16, m16, c16, rfl, q16, hb16⟩; have HS16 := keep8 (by assumption) hb16; have hn16 : Below wc.heap.size wc w16 := (by first | exact below_of_drewN hb16 | exact below_of_drewN_alloc hb16); (try have nb : Box w16 25 wc.heap.size (.bool false) (.slice none 0 0) := (Box.new (wc.drewN 1) _ _ _).then_ hb16); have HN16 := hn16))) | fail)
        all_goals
          go_wp2_with fail
          go_meet
          first | exact LetI.last q18 HN18 | exact LetI.put nb q18 (by first | exact Nat.le_refl _ | exact HN16.size | exact HN17.size | exact HN18.size) HN18
      case rest =>
        obtain ⟨g19, b19, A19, m19, c19, rfl, x19, q19, hb19⟩ := hcut
        clear k12a k12b k13a k13b k14a k14b k15a k15b
        have HB7 := below_then HB6 HB6.size hb19
        have k20 := (k12.below hb19)
        have k20a := k20.c0
        have k20b := k20.c1
        have k21 := (k13.below hb19)
        have k21a := k21.c0
        have k21b := k21.c1
        have k22 := (k14.below hb19)
        have k22a := k22.c0
        have k22b := k22.c1
        have k23 := (k15.below hb19)
        have k23a := k23.c0
        have k23b := k23.c1
        have k24 := x19
        have k24a := k24.c0
        have k24b := k24.c1
        go_wp2_with fail
        refine (of_as 1 (by decide) (by decide)).mono ?_
        rintro e w25 ⟨b25, A25, m25, c25, rfl, q25, hb25⟩
        have HB8 := below_then HB7 HB7.size hb25
        clear k20a k20b k21a k21b k22a k22b k23a k23b k24a k24b
        have k26 := (k20.below hb25)
        have k26a := k26.c0
        have k26b := k26.c1
        have k27 := (k21.below hb25)
        have k27a := k27.c0
        have k27b := k27.c1
        have k28 := (k22.below hb25)
        have k28a := k28.c0
        have k28b := k28.c1
        have k29 := (k23.below hb25)
        have k29a := k29.c0
        have k29b := k29.c1
        have k30 := (k24.below hb25)
        have k30a := k30.c0
        have k30b := k30.c1
        go_wp2_with fail
        refine (of_as 0 (by decide) (by decide)).mono ?_
        rintro e w31 ⟨b31, A31, m31, c31, rfl, q31, hb31⟩
        have HB9 := below_then HB8 HB8.size hb31
        go_wp2_with fail
        have xone := Box.new w31 25 (.bool b25) (.slice A25 m25 c25)
        have xzero := Box.new1 w31 (.cells #[.bool b25, .slice A25 m25 c25] 25) 25 (.bool b31) (.slice A31 m31 c31)
        have HB10 := below_alloc HB9 (.cells #[.bool b25, .slice A25 m25 c25] 25)
        have HB11 := below_alloc HB10 (.cells #[.bool b31, .slice A31 m31 c31] 25)
        have f32 := (((((((((((qa.alloc (.cells #[.bool ba, .slice Aa ma ca] 25)).alloc (.cells #[.bool bb, .slice Ab mb cb] 25)).alloc (.cells #[.bool bc, .slice Ac mc cc] 25)).below hb1).below hb5).below hb11).below hb19).below hb25).below hb31).alloc (.cells #[.bool b25, .slice A25 m25 c25] 25)).alloc (.cells #[.bool b31, .slice A31 m31 c31] 25))
        have f33 := (((((((((((qb.alloc (.cells #[.bool ba, .slice Aa ma ca] 25)).alloc (.cells #[.bool bb, .slice Ab mb cb] 25)).alloc (.cells #[.bool bc, .slice Ac mc cc] 25)).below hb1).below hb5).below hb11).below hb19).below hb25).below hb31).alloc (.cells #[.bool b25, .slice A25 m25 c25] 25)).alloc (.cells #[.bool b31, .slice A31 m31 c31] 25))
        have f34 := (((((((((((qc.alloc (.cells #[.bool ba, .slice Aa ma ca] 25)).alloc (.cells #[.bool bb, .slice Ab mb cb] 25)).alloc (.cells #[.bool bc, .slice Ac mc cc] 25)).below hb1).below hb5).below hb11).below hb19).below hb25).below hb31).alloc (.cells #[.bool b25, .slice A25 m25 c25] 25)).alloc (.cells #[.bool b31, .slice A31 m31 c31] 25))
        have f35 := (((((q11.below hb19).below hb25).below hb31).alloc (.cells #[.bool b25, .slice A25 m25 c25] 25)).alloc (.cells #[.bool b31, .slice A31 m31 c31] 25))
        have f36 := ((((q19.below hb25).below hb31).alloc (.cells #[.bool b25, .slice A25 m25 c25] 25)).alloc (.cells #[.bool b31, .slice A31 m31 c31] 25))
        have f37 := (((q25.below hb31).alloc (.cells #[.bool b25, .slice A25 m25 c25] 25)).alloc (.cells #[.bool b31, .slice A31 m31 c31] 25))
        have f38 := ((q31.alloc (.cells #[.bool b25, .slice A25 m25 c25] 25)).alloc (.cells #[.bool b31, .slice A31 m31 c31] 25))
        clear k26a k26b k27a k27b k28a k28b k29a k29b k30a k30b
        have k39 := (((k26.below hb31).alloc (.cells #[.bool b25, .slice A25 m25 c25] 25)).alloc (.cells #[.bool b31, .slice A31 m31 c31] 25))
        have k39a := k39.c0
        have k39b := k39.c1
        have k40 := (((k27.below hb31).alloc (.cells #[.bool b25, .slice A25 m25 c25] 25)).alloc (.cells #[.bool b31, .slice A31 m31 c31] 25))
        have k40a := k40.c0
        have k40b := k40.c1
        have k41 := (((k28.below hb31).alloc (.cells #[.bool b25, .slice A25 m25 c25] 25)).alloc (.cells #[.bool b31, .slice A31 m31 c31] 25))
        have k41a := k41.c0
        have k41b := k41.c1
        have k42 := (((k29.below hb31).alloc (.cells #[.bool b25, .slice A25 m25 c25] 25)).alloc (.cells #[.bool b31, .slice A31 m31 c31] 25))
        have k42a := k42.c0
        have k42b := k42.c1
        have k43 := (((k30.below hb31).alloc (.cells #[.bool b25, .slice A25 m25 c25] 25)).alloc (.cells #[.bool b31, .slice A31 m31 c31] 25))
        have k43a := k43.c0
        have k43b := k43.c1
        have k44 := (xone.alloc (.cells #[.bool b31, .slice A31 m31 c31] 25))
        have k44a := k44.c0
        have k44b := k44.c1
        have k45 := xzero
        have k45a := k45.c0
        have k45b := k45.c1
        generalize hW_ : ((w31.alloc (.cells #[.bool b25, .slice A25 m25 c25] 25)).alloc (.cells #[.bool b31, .slice A31 m31 c31] 25)) = W46 at *
        clear hW_
        go_wp2_with fail
        simp only [List.append_eq, List.cons_append, List.nil_append]
        (first | (go_region_held3 (fun w' => w'.cell? ⟨w.heap.size, 0, none⟩ = some (.bool ba) ∧ w'.cell? ⟨w.heap.size, 1, none⟩ = some (.slice Aa ma ca) ∧ w'.cell? ⟨(w.heap.size + 1), 0, none⟩ = some (.bool bb) ∧ w'.cell? ⟨(w.heap.size + 1), 1, none⟩ = some (.slice Ab mb cb) ∧ w'.cell? ⟨(w.heap.size + 2), 0, none⟩ = some (.bool bc) ∧ w'.cell? ⟨(w.heap.size + 2), 1, none⟩ = some (.slice Ac mc cc) ∧ w'.cell? ⟨g11, 0, none⟩ = some (.bool b11) ∧ w'.cell? ⟨g11, 1, none⟩ = some (.slice A11 m11 c11) ∧ w'.cell? ⟨g19, 0, none⟩ = some (.bool b19) ∧ w'.cell? ⟨g19, 1, none⟩ = some (.slice A19 m19 c19) ∧ w'.cell? ⟨w31.heap.size, 0, none⟩ = some (.bool b25) ∧ w'.cell? ⟨w31.heap.size, 1, none⟩ = some (.slice A25 m25 c25) ∧ w'.cell? ⟨(w31.heap.size + 1), 0, none⟩ = some (.bool b31) ∧ w'.cell? ⟨(w31.heap.size + 1), 1, none⟩ = some (.slice A31 m31 c31))
          (first | assumption | go_keep | ((try dsimp only); (repeat' apply And.intro); all_goals go_keep))
          (first
            | (have _ck := hb68; go_at_call 28; refine (same_yes q68.zi (((((((((((((((((((((((f38.drewN 1).below hb47).below hb48).below hb49).below hb50).below hb51).below hb52).below hb53).below hb54).below hb55).below hb56).below hb57).below hb58).below hb59).below hb60).below hb61).below hb62).below hb63).below hb64).below hb65).below hb66).below hb67).below hb68).zi E8.out).mono ?_; rintro e w69 ⟨rfl, hb69⟩; have HS69 := keep14 (by assumption) hb69)
            | (have _ck := hb67; go_at_call 31; refine (sub_as ((((((((((((((((((((((f32.drewN 1).below hb47).below hb48).below hb49).below hb50).below hb51).below hb52).below hb53).below hb54).below hb55).below hb56).below hb57).below hb58).below hb59).below hb60).below hb61).below hb62).below hb63).below hb64).below hb65).below hb66).below hb67) ((((((((((((((((((((((f32.drewN 1).below hb47).below hb48).below hb49).below hb50).below hb51).below hb52).below hb53).below hb54).below hb55).below hb56).below hb57).below hb58).below hb59).below hb60).below hb61).below hb62).below hb63).below hb64).below hb65).below hb66).below hb67) (by decide) (by decide) Ho3).mono ?_; rintro e w68 ⟨b68, A68, m68, c68, rfl, q68, hb68⟩; have HS68 := keep14 (by assumption) hb68)
            | (have _ck := hb66; go_at_call 28; refine (same_yes q66.zi (((((((((((((((((((((f32.drewN 1).below hb47).below hb48).below hb49).below hb50).below hb51).below hb52).below hb53).below hb54).below hb55).below hb56).below hb57).below hb58).below hb59).below hb60).below hb61).below hb62).below hb63).below hb64).below hb65).below hb66) E7.out).mono ?_; rintro e w67 ⟨rfl, hb67⟩; have HS67 := keep14 (by assumption) hb67)
            | (have _ck := hb65; go_at_call 29; refine (add_as ((((((((((((((((((((f32.drewN 1).below hb47).below hb48).below hb49).below hb50).below hb51).below hb52).below hb53).below hb54).below hb55).below hb56).below hb57).below hb58).below hb59).below hb60).below hb61).below hb62).below hb63).below hb64).below hb65) ((((((((((((((((((((f38.drewN 1).below hb47).below hb48).below hb49).below hb50).below hb51).below hb52).below hb53).below hb54).below hb55).below hb56).below hb57).below hb58).below hb59).below hb60).below hb61).below hb62).below hb63).below hb64).below hb65).zi (by decide) (by decide) Ho2).mono ?_; rintro e w66 ⟨b66, A66, m66, c66, rfl, q66, hb66⟩; have HS66 := keep14 (by assumption) hb66)
            | (have _ck := hb64; go_at_call 28; refine (same_yes q64.zi (((((((((((((((((((f32.drewN 1).below hb47).below hb48).below hb49).below hb50).below hb51).below hb52).below hb53).below hb54).below hb55).below hb56).below hb57).below hb58).below hb59).below hb60).below hb61).below hb62).below hb63).below hb64) E6.out).mono ?_; rintro e w65 ⟨rfl, hb65⟩; have HS65 := keep14 (by assumption) hb65)
            | (have _ck := hb63; go_at_call 17; refine (mul_as ((((((((((((((((((f32.drewN 1).below hb47).below hb48).below hb49).below hb50).below hb51).below hb52).below hb53).below hb54).below hb55).below hb56).below hb57).below hb58).below hb59).below hb60).below hb61).below hb62).below hb63) ((((((((((((((((((f37.drewN 1).below hb47).below hb48).below hb49).below hb50).below hb51).below hb52).below hb53).below hb54).below hb55).below hb56).below hb57).below hb58).below hb59).below hb60).below hb61).below hb62).below hb63).zi (by decide) (by decide) Ho1).mono ?_; rintro e w64 ⟨b64, A64, m64, c64, rfl, q64, hb64⟩; have HS64 := keep14 (by assumption) hb64)
            | (have _ck := hb62; go_at_call 28; refine (same_yes ((q60.below hb61).below hb62).zi q62.zi E5.out).mono ?_; rintro e w63 ⟨rfl, hb63⟩; have HS63 := keep14 (by assumption) hb63)
            | (have _ck := hb61; go_at_call 17; refine (mul_as q61.zi ((((((((((((((((f34.drewN 1).below hb47).below hb48).below hb49).below hb50).below hb51).below hb52).below hb53).below hb54).below hb55).below hb56).below hb57).below hb58).below hb59).below hb60).below hb61) (by decide) (by decide) Hp6).mono ?_; rintro e w62 ⟨b62, A62, m62, c62, rfl, q62, hb62⟩; have HS62 := keep14 (by assumption) hb62)
            | (have _ck := hb60; go_at_call 17; refine (mul_as (((((((((((((((f32.drewN 1).below hb47).below hb48).below hb49).below hb50).below hb51).below hb52).below hb53).below hb54).below hb55).below hb56).below hb57).below hb58).below hb59).below hb60) (((((((((((((((f33.drewN 1).below hb47).below hb48).below hb49).below hb50).below hb51).below hb52).below hb53).below hb54).below hb55).below hb56).below hb57).below hb58).below hb59).below hb60) (by decide) (by decide) Hp1).mono ?_; rintro e w61 ⟨b61, A61, m61, c61, rfl, q61, hb61⟩; have HS61 := keep14 (by assumption) hb61)
            | (have _ck := hb59; go_at_call 17; refine (mul_as ((((((((((((((f32.drewN 1).below hb47).below hb48).below hb49).below hb50).below hb51).below hb52).below hb53).below hb54).below hb55).below hb56).below hb57).below hb58).below hb59) q59.zi (by decide) (by decide) Hp5).mono ?_; rintro e w60 ⟨b60, A60, m60, c60, rfl, q60, hb60⟩; have HS60 := keep14 (by assumption) hb60)
            | (have _ck := hb58; go_at_call 17; refine (mul_as (((((((((((((f33.drewN 1).below hb47).below hb48).below hb49).below hb50).below hb51).below hb52).below hb53).below hb54).below hb55).below hb56).below hb57).below hb58) (((((((((((((f34.drewN 1).below hb47).below hb48).below hb49).below hb50).below hb51).below hb52).below hb53).below hb54).below hb55).below hb56).below hb57).below hb58) (by decide) (by decide) Hp4).mono ?_; rintro e w59 ⟨b59, A59, m59, c59, rfl, q59, hb59⟩; have HS59 := keep14 (by assumption) hb59)
            | (have _ck := hb57; go_at_call 28; refine (same_yes ((q55.below hb56).below hb57).zi q57.zi E4.out).mono ?_; rintro e w58 ⟨rfl, hb58⟩; have HS58 := keep14 (by assumption) hb58)
            | (have _ck := hb56; go_at_call 29; refine (add_as q56.zi (((((((((((f34.drewN 1).below hb47).below hb48).below hb49).below hb50).below hb51).below hb52).below hb53).below hb54).below hb55).below hb56) (by decide) (by decide) Hs5).mono ?_; rintro e w57 ⟨b57, A57, m57, c57, rfl, q57, hb57⟩; have HS57 := keep14 (by assumption) hb57)
            | (have _ck := hb55; go_at_call 29; refine (add_as ((((((((((f32.drewN 1).below hb47).below hb48).below hb49).below hb50).below hb51).below hb52).below hb53).below hb54).below hb55) ((((((((((f33.drewN 1).below hb47).below hb48).below hb49).below hb50).below hb51).below hb52).below hb53).below hb54).below hb55) (by decide) (by decide) Hs2).mono ?_; rintro e w56 ⟨b56, A56, m56, c56, rfl, q56, hb56⟩; have HS56 := keep14 (by assumption) hb56)
            | (have _ck := hb54; go_at_call 29; refine (add_as (((((((((f32.drewN 1).below hb47).below hb48).below hb49).below hb50).below hb51).below hb52).below hb53).below hb54) q54.zi (by decide) (by decide) Hs4).mono ?_; rintro e w55 ⟨b55, A55, m55, c55, rfl, q55, hb55⟩; have HS55 := keep14 (by assumption) hb55)
            | (have _ck := hb53; go_at_call 29; refine (add_as ((((((((f33.drewN 1).below hb47).below hb48).below hb49).below hb50).below hb51).below hb52).below hb53) ((((((((f34.drewN 1).below hb47).below hb48).below hb49).below hb50).below hb51).below hb52).below hb53) (by decide) (by decide) Hs1).mono ?_; rintro e w54 ⟨b54, A54, m54, c54, rfl, q54, hb54⟩; have HS54 := keep14 (by assumption) hb54)
            | (have _ck := hb52; go_at_call 28; refine (same_yes (q51.below hb52).zi q52.zi E3.out).mono ?_; rintro e w53 ⟨rfl, hb53⟩; have HS53 := keep14 (by assumption) hb53)
            | (have _ck := hb51; go_at_call 17; refine (mul_as ((((((f33.drewN 1).below hb47).below hb48).below hb49).below hb50).below hb51) ((((((f32.drewN 1).below hb47).below hb48).below hb49).below hb50).below hb51) (by decide) (by decide) Hp3).mono ?_; rintro e w52 ⟨b52, A52, m52, c52, rfl, q52, hb52⟩; have HS52 := keep14 (by assumption) hb52)
            | (have _ck := hb50; go_at_call 17; refine (mul_as (((((f32.drewN 1).below hb47).below hb48).below hb49).below hb50) (((((f33.drewN 1).below hb47).below hb48).below hb49).below hb50) (by decide) (by decide) Hp1).mono ?_; rintro e w51 ⟨b51, A51, m51, c51, rfl, q51, hb51⟩; have HS51 := keep14 (by assumption) hb51)
            | (have _ck := hb49; go_at_call 28; refine (same_yes (q48.below hb49).zi q49.zi E2.out).mono ?_; rintro e w50 ⟨rfl, hb50⟩; have HS50 := keep14 (by assumption) hb50)
            | (have _ck := hb48; go_at_call 29; refine (add_as (((f33.drewN 1).below hb47).below hb48) (((f32.drewN 1).below hb47).below hb48) (by decide) (by decide) Hs3).mono ?_; rintro e w49 ⟨b49, A49, m49, c49, rfl, q49, hb49⟩; have HS49 := keep14 (by assumption) hb49)
            | (have _ck := hb47; go_at_call 29; refine (add_as ((f32.drewN 1).below hb47) ((f33.drewN 1).below hb47) (by decide) (by decide) Hs2).mono ?_; rintro e w48 ⟨b48, A48, m48, c48, rfl, q48, hb48⟩; have HS48 := keep14 (by assumption) hb48)
            | (go_at_call 28; refine (same_yes (f35.drewN 1).zi (f36.drewN 1).zi E1.out).mono ?_; rintro e w47 ⟨rfl, hb47⟩; have HS47 := keep14 (by assumption) hb47))) | fail)
        clear k39a k39b k40a k40b k41a k41b k42a k42b k43a k43b k44a k44b k45a k45b
        clear HS47 HS48 HS49 HS50 HS51 HS52 HS53 HS54 HS55 HS56 HS57 HS58 HS59 HS60 HS61 HS62 HS63 HS64 HS65 HS66 HS67 HS68 HS69
        have HB12 := below_drew1 HB11
        have HB13 := below_then HB12 HB12.size hb47
        have HB14 := below_then HB13 HB13.size hb48
        have HB15 := below_then HB14 HB14.size hb49
        have HB16 := below_then HB15 HB15.size hb50
        have HB17 := below_then HB16 HB16.size hb51
        have HB18 := below_then HB17 HB17.size hb52
        have HB19 := below_then HB18 HB18.size hb53
        have HB20 := below_then HB19 HB19.size hb54
        have HB21 := below_then HB20 HB20.size hb55
        have HB22 := below_then HB21 HB21.size hb56
        have HB23 := below_then HB22 HB22.size hb57
        have HB24 := below_then HB23 HB23.size hb58
        have HB25 := below_then HB24 HB24.size hb59
        have HB26 := below_then HB25 HB25.size hb60
        have HB27 := below_then HB26 HB26.size hb61
        have HB28 := below_then HB27 HB27.size hb62
        have HB29 := below_then HB28 HB28.size hb63
        have HB30 := below_then HB29 HB29.size hb64
        have HB31 := below_then HB30 HB30.size hb65
        have HB32 := below_then HB31 HB31.size hb66
        have HB33 := below_then HB32 HB32.size hb67
        have HB34 := below_then HB33 HB33.size hb68
        have HB35 := below_then HB34 HB34.size hb69
        go_wp2_with fail
        go_ret
        exact ⟨rfl, HB35⟩
  · skip
    have HF : Hid (false = (decide ((ma : Int) ≤ 6) && decide ((mb : Int) ≤ 6) && decide ((mc : Int) ≤ 6))) := Lib.hid (by simp; omega)
    have bxa := Box.new w 25 (.bool ba) (.slice Aa ma ca)
    have bxb := Box.new1 w (.cells #[.bool ba, .slice Aa ma ca] 25) 25 (.bool bb) (.slice Ab mb cb)
    have bxc := Box.new2 w (.cells #[.bool ba, .slice Aa ma ca] 25) (.cells #[.bool bb, .slice Ab mb cb] 25) 25 (.bool bc) (.slice Ac mc cc)
    go_enter Try.func7, Try.ntmps7
    go_wp2_with fail
    refine (lawake _).mono ?_
    rintro e w1 ⟨rfl, hb1⟩
    have HB1 := below_alloc (Below.refl w.heap.size w) (.cells #[.bool ba, .slice Aa ma ca] 25)
    have HB2 := below_alloc HB1 (.cells #[.bool bb, .slice Ab mb cb] 25)
    have HB3 := below_alloc HB2 (.cells #[.bool bc, .slice Ac mc cc] 25)
    have HB4 := below_then HB3 HB3.size hb1
    have k2 := (((bxa.alloc (.cells #[.bool bb, .slice Ab mb cb] 25)).alloc (.cells #[.bool bc, .slice Ac mc cc] 25)).below hb1)
    have k2a := k2.c0
    have k2b := k2.c1
    have k3 := ((bxb.alloc (.cells #[.bool bc, .slice Ac mc cc] 25)).below hb1)
    have k3a := k3.c0
    have k3b := k3.c1
    have k4 := (bxc.below hb1)
    have k4a := k4.c0
    have k4b := k4.c1
    go_wp2_with fail
    refine (lfew_as 6 HF).mono ?_
    rintro e w5 ⟨rfl, hb5⟩
    have HB5 := below_then HB4 HB4.size hb5
    clear k2a k2b k3a k3b k4a k4b
    have k6 := (k2.below hb5)
    have k6a := k6.c0
    have k6b := k6.c1
    have k7 := (k3.below hb5)
    have k7a := k7.c0
    have k7b := k7.c1
    have k8 := (k4.below hb5)
    have k8a := k8.c0
    have k8b := k8.c1
    go_wp2_with fail
    refine (lawake _).mono ?_
    rintro e w9 ⟨rfl, hb9⟩
    have HB6 := below_then HB5 HB5.size hb9
    go_wp2_with fail
    go_ret
    exact ⟨rfl, HB6⟩
end Go.Proofs.Ythadkjekagfjfaa.IRing
