/- The law IntegerForms returns true for all its arguments and leaves what lay in memory as it was. Condition: the slices read as digits (a row's arguments do). -/
import Derived.Test.YthadkjekagfjfaaI7
namespace Go.Proofs.Ythadkjekagfjfaa.IForms
open Go.RowKit Go.Proofs.Ythadkjekagfjfaa.Dig Go.Proofs.Ythadkjekagfjfaa.N Go.Proofs.YthadkjekagfjfaaW.PrintWords Go.Proofs.YthadkjekagfjfaaW.PrintLast Go.Proofs.YthadkjekagfjfaaW.PrintMore
attribute [local go_sem] max2_int min2_int
set_option linter.unusedVariables false

set_option maxRecDepth 100000 in
set_option maxHeartbeats 1000000 in
theorem law_any {w : World} {ba : Bool} {Aa : Option Addr} {ma ca : Nat} {za : Int} (qa : ZI w ba (.slice Aa ma ca) za ma) :
    Calls Try.prog 4 #[.agg #[.bool ba, .slice Aa ma ca]] w fun e w' => e = .returned (.bool true) ∧ Below w.heap.size w w' := by
  by_cases ha : ma ≤ 20
  · skip
    have HF : Hid (true = (decide ((ma : Int) ≤ 20) && decide ((ma : Int) ≤ 20) && decide ((ma : Int) ≤ 20))) := Lib.hid (by simp; omega)
    replace qa := qa.more ha
    have hzs := Lib.hid (show sg ba za.natAbs = za from qa.1)
    have HZ1 : Hid (za = sg ba za.natAbs) := Lib.hid hzs.out.symm
    by_cases h0 : za.natAbs = 0
    · have H0 := Lib.hid h0
      clear h0
      obtain ⟨od, hod⟩ : ∃ od, od = oddb za.natAbs := ⟨_, rfl⟩
      have HO := Lib.hid hod
      obtain rfl : od = false := by rw [hod]; unfold oddb; rw [H0.out]; rfl
      clear hod
      have bxa := Box.new w 25 (.bool ba) (.slice Aa ma ca)
      go_enter Try.func4, Try.ntmps4
      go_wp2_with fail
      refine (lawake _).mono ?_
      rintro e w1 ⟨rfl, hb1⟩
      have HB3 := (below_then (below_alloc (Below.refl w.heap.size w) (.cells #[.bool ba, .slice Aa ma ca] 25)) ((below_alloc (Below.refl w.heap.size w) (.cells #[.bool ba, .slice Aa ma ca] 25))).size hb1)
      have k2 := (bxa.below hb1)
      have k2a := k2.c0
      have k2b := k2.c1
      go_wp2_with fail
      refine (lfew_as 20 HF).mono ?_
      rintro e w3 ⟨rfl, hb3⟩
      have HB6 := (below_then HB3 (HB3).size hb3)
      clear k2a k2b
      have k4 := (k2.below hb3)
      have k4a := k4.c0
      have k4b := k4.c1
      go_wp2_with fail
      refine (lof_as (((qa.alloc (.cells #[.bool ba, .slice Aa ma ca] 25)).below hb1).below hb3) (by decide)).mono ?_
      rintro e w5 ⟨p5, A5, m5, c5, rfl, q5, hb5⟩
      have HB9 := (below_then HB6 (HB6).size hb5)
      obtain rfl : m5 = 0 := by rw [q5.2.len, bt_len0]; exact H0.out
      have HB : Hid ((0 : Int) = (bl za.natAbs : Nat)) := Lib.hid (by rw [H0.out]; rfl)
      go_wp2_with fail
      have x6 := Box.new w5 30 (.int .i64 p5) (.slice A5 0 c5)
      have HB11 := (below_alloc HB9 (.cells #[.int .i64 p5, .slice A5 0 c5] 30))
      have qx := (q5.alloc (.cells #[.int .i64 p5, .slice A5 0 c5] 30))
      have qa1 := (((((qa.alloc (.cells #[.bool ba, .slice Aa ma ca] 25)).below hb1).below hb3).below hb5).alloc (.cells #[.int .i64 p5, .slice A5 0 c5] 30))
      clear k4a k4b
      have k7 := ((k4.below hb5).alloc (.cells #[.int .i64 p5, .slice A5 0 c5] 30))
      have k7a := k7.c0
      have k7b := k7.c1
      have k8 := x6
      have k8a := k8.c0
      have k8b := k8.c1
      generalize hW : (w5.alloc (.cells #[.int .i64 p5, .slice A5 0 c5] 30)) = W at *
      clear hW
      go_wp2_with fail
      go_region_held3 (fun w' => w'.cell? ⟨w.heap.size, 0, none⟩ = some (.bool ba) ∧ w'.cell? ⟨w.heap.size, 1, none⟩ = some (.slice Aa ma ca) ∧ w'.cell? ⟨w5.heap.size, 0, none⟩ = some (.int .i64 p5) ∧ w'.cell? ⟨w5.heap.size, 1, none⟩ = some (.slice A5 0 c5))
        (first | assumption | go_keep | ((try dsimp only); (repeat' apply And.intro); all_goals go_keep))
        (first
          | (have _ck := hb13; go_at_call 23; refine (odd_as ((((((qa1.drewN 1).below hb9).below hb10).below hb11).below hb12).below hb13) (by decide) HO).mono ?_; rintro e w14 ⟨rfl, hb14⟩; have HS14 := keep4 (by assumption) hb14)
          | (have _ck := hb12; go_at_call 22; refine (bitLen_as (((((qa1.drewN 1).below hb9).below hb10).below hb11).below hb12) (by decide) HB).mono ?_; rintro e w13 ⟨rfl, hb13⟩; have HS13 := keep4 (by assumption) hb13)
          | (have _ck := hb11; go_at_call 16; refine (lis_as q11 ((((qx.drewN 1).below hb9).below hb10).below hb11) (by decide) (by decide) rfl).mono ?_; rintro e w12 ⟨rfl, hb12⟩; have HS12 := keep4 (by assumption) hb12)
          | (have _ck := hb10; go_at_call 21; refine (normal_as (z := za) (((qa1.drewN 1).below hb9).below hb10) (by decide) (Lib.hid rfl)).mono ?_; rintro e w11 ⟨b11, A11, m11, c11, rfl, q11, hb11⟩; have HS11 := keep4 (by assumption) hb11)
          | (have _ck := hb9; go_at_call 16; refine (lis_as q9 ((qx.drewN 1).below hb9) (by decide) (by decide) rfl).mono ?_; rintro e w10 ⟨rfl, hb10⟩; have HS10 := keep4 (by assumption) hb10)
          | (go_at_call 20; refine (from_as ba (qa1.drewN 1).2 (by decide) HZ1).mono ?_; rintro e w9 ⟨b9, A9, m9, c9, rfl, q9, hb9⟩; have HS9 := keep4 (by assumption) hb9))
      clear k7a k7b k8a k8b
      clear HS9 HS10 HS11 HS12 HS13 HS14
      have HB26 := (below_then (below_then (below_then (below_then (below_then (below_then (below_drew1 HB11) ((below_drew1 HB11)).size hb9) ((below_then (below_drew1 HB11) ((below_drew1 HB11)).size hb9)).size hb10) ((below_then (below_then (below_drew1 HB11) ((below_drew1 HB11)).size hb9) ((below_then (below_drew1 HB11) ((below_drew1 HB11)).size hb9)).size hb10)).size hb11) ((below_then (below_then (below_then (below_drew1 HB11) ((below_drew1 HB11)).size hb9) ((below_then (below_drew1 HB11) ((below_drew1 HB11)).size hb9)).size hb10) ((below_then (below_then (below_drew1 HB11) ((below_drew1 HB11)).size hb9) ((below_then (below_drew1 HB11) ((below_drew1 HB11)).size hb9)).size hb10)).size hb11)).size hb12) ((below_then (below_then (below_then (below_then (below_drew1 HB11) ((below_drew1 HB11)).size hb9) ((below_then (below_drew1 HB11) ((below_drew1 HB11)).size hb9)).size hb10) ((below_then (below_then (below_drew1 HB11) ((below_drew1 HB11)).size hb9) ((below_then (below_drew1 HB11) ((below_drew1 HB11)).size hb9)).size hb10)).size hb11) ((below_then (below_then (below_then (below_drew1 HB11) ((below_drew1 HB11)).size hb9) ((below_then (below_drew1 HB11) ((below_drew1 HB11)).size hb9)).size hb10) ((below_then (below_then (below_drew1 HB11) ((below_drew1 HB11)).size hb9) ((below_then (below_drew1 HB11) ((below_drew1 HB11)).size hb9)).size hb10)).size hb11)).size hb12)).size hb13) ((below_then (below_then (below_then (below_then (below_then (below_drew1 HB11) ((below_drew1 HB11)).size hb9) ((below_then (below_drew1 HB11) ((below_drew1 HB11)).size hb9)).size hb10) ((below_then (below_then (below_drew1 HB11) ((below_drew1 HB11)).size hb9) ((below_then (below_drew1 HB11) ((below_drew1 HB11)).size hb9)).size hb10)).size hb11) ((below_then (below_then (below_then (below_drew1 HB11) ((below_drew1 HB11)).size hb9) ((below_then (below_drew1 HB11) ((below_drew1 HB11)).size hb9)).size hb10) ((below_then (below_then (below_drew1 HB11) ((below_drew1 HB11)).size hb9) ((below_then (below_drew1 HB11) ((below_drew1 HB11)).size hb9)).size hb10)).size hb11)).size hb12) ((below_then (below_then (below_then (below_then (below_drew1 HB11) ((below_drew1 HB11)).size hb9) ((below_then (below_drew1 HB11) ((below_drew1 HB11)).size hb9)).size hb10) ((below_then (below_then (below_drew1 HB11) ((below_drew1 HB11)).size hb9) ((below_then (below_drew1 HB11) ((below_drew1 HB11)).size hb9)).size hb10)).size hb11) ((below_then (below_then (below_then (below_drew1 HB11) ((below_drew1 HB11)).size hb9) ((below_then (below_drew1 HB11) ((below_drew1 HB11)).size hb9)).size hb10) ((below_then (below_then (below_drew1 HB11) ((below_drew1 HB11)).size hb9) ((below_then (below_drew1 HB11) ((below_drew1 HB11)).size hb9)).size hb10)).size hb11)).size hb12)).size hb13)).size hb14)
      go_wp2_with fail
      go_ret
      exact ⟨rfl, HB26⟩
    · have H0 := Lib.hid h0
      clear h0
      obtain ⟨r, hr⟩ : ∃ r : Nat, r = za.natAbs % 2 := ⟨_, rfl⟩
      have HR := Lib.hid hr
      clear hr
      obtain ⟨od, hod⟩ : ∃ od, od = oddb za.natAbs := ⟨_, rfl⟩
      have HO := Lib.hid hod
      have hro : ((r : Int) == 1) = od := by rw [hod, HR.out]; unfold oddb; rw [Bool.eq_iff_iff, decide_eq_true_iff, beq_iff_eq]; omega
      clear hod
      have bxa := Box.new w 25 (.bool ba) (.slice Aa ma ca)
      go_enter Try.func4, Try.ntmps4
      go_wp2_with fail
      refine (lawake _).mono ?_
      rintro e w1 ⟨rfl, hb1⟩
      have HB3 := (below_then (below_alloc (Below.refl w.heap.size w) (.cells #[.bool ba, .slice Aa ma ca] 25)) ((below_alloc (Below.refl w.heap.size w) (.cells #[.bool ba, .slice Aa ma ca] 25))).size hb1)
      have k2 := (bxa.below hb1)
      have k2a := k2.c0
      have k2b := k2.c1
      go_wp2_with fail
      refine (lfew_as 20 HF).mono ?_
      rintro e w3 ⟨rfl, hb3⟩
      have HB6 := (below_then HB3 (HB3).size hb3)
      clear k2a k2b
      have k4 := (k2.below hb3)
      have k4a := k4.c0
      have k4b := k4.c1
      go_wp2_with fail
      refine (lof_as (((qa.alloc (.cells #[.bool ba, .slice Aa ma ca] 25)).below hb1).below hb3) (by decide)).mono ?_
      rintro e w5 ⟨p5, A5, m5, c5, rfl, q5, hb5⟩
      have HB9 := (below_then HB6 (HB6).size hb5)
      have hm : 0 < m5 := by rw [q5.2.len]; exact Nat.pos_of_ne_zero fun h => H0.out (bt_len0.1 h)
      have hmi : decide ((0 : Int) < (m5 : Int)) = true := decide_eq_true (by omega)
      have HB : Hid ((m5 : Int) = (bl za.natAbs : Nat)) := Lib.hid (by rw [q5.2.len]; rfl)
      obtain ⟨ad, hA, hc⟩ := q5.2.bit0 hm
      rw [← HR.out] at hc
      obtain rfl := hA
      have hcr : ∀ o, (w5.alloc o).cell? ad = some (.int .i64 (r : Int)) := fun o => pw_cell_below (below_alloc (Below.refl _ _) o) hc
      clear hc
      go_wp2_with fail
      have x6 := Box.new w5 30 (.int .i64 p5) (.slice (some ad) m5 c5)
      have HB11 := (below_alloc HB9 (.cells #[.int .i64 p5, .slice (some ad) m5 c5] 30))
      have qx := (q5.alloc (.cells #[.int .i64 p5, .slice (some ad) m5 c5] 30))
      have qa1 := (((((qa.alloc (.cells #[.bool ba, .slice Aa ma ca] 25)).below hb1).below hb3).below hb5).alloc (.cells #[.int .i64 p5, .slice (some ad) m5 c5] 30))
      clear k4a k4b
      have k7 := ((k4.below hb5).alloc (.cells #[.int .i64 p5, .slice (some ad) m5 c5] 30))
      have k7a := k7.c0
      have k7b := k7.c1
      have k8 := x6
      have k8a := k8.c0
      have k8b := k8.c1
      clear hcr hm hmi
      generalize hW : (w5.alloc (.cells #[.int .i64 p5, .slice (some ad) m5 c5] 30)) = W at *
      clear hW
      go_wp2_with fail
      go_region_held3 (fun w' => w'.cell? ⟨w.heap.size, 0, none⟩ = some (.bool ba) ∧ w'.cell? ⟨w.heap.size, 1, none⟩ = some (.slice Aa ma ca) ∧ w'.cell? ⟨w5.heap.size, 0, none⟩ = some (.int .i64 p5) ∧ w'.cell? ⟨w5.heap.size, 1, none⟩ = some (.slice (some ad) m5 c5))
        (first | assumption | go_keep | ((try dsimp only); (repeat' apply And.intro); all_goals go_keep))
        (first
          | (have _ck := hb13; go_at_call 23; refine (odd_as ((((((qa1.drewN 1).below hb9).below hb10).below hb11).below hb12).below hb13) (by decide) HO).mono ?_; rintro e w14 ⟨rfl, hb14⟩; have HS14 := keep4 (by assumption) hb14)
          | (have _ck := hb12; go_at_call 22; refine (bitLen_as (((((qa1.drewN 1).below hb9).below hb10).below hb11).below hb12) (by decide) HB).mono ?_; rintro e w13 ⟨rfl, hb13⟩; have HS13 := keep4 (by assumption) hb13)
          | (have _ck := hb11; go_at_call 16; refine (lis_as q11 ((((qx.drewN 1).below hb9).below hb10).below hb11) (by decide) (by decide) rfl).mono ?_; rintro e w12 ⟨rfl, hb12⟩; have HS12 := keep4 (by assumption) hb12)
          | (have _ck := hb10; go_at_call 21; refine (normal_as (z := za) (((qa1.drewN 1).below hb9).below hb10) (by decide) (Lib.hid rfl)).mono ?_; rintro e w11 ⟨b11, A11, m11, c11, rfl, q11, hb11⟩; have HS11 := keep4 (by assumption) hb11)
          | (have _ck := hb9; go_at_call 16; refine (lis_as q9 ((qx.drewN 1).below hb9) (by decide) (by decide) rfl).mono ?_; rintro e w10 ⟨rfl, hb10⟩; have HS10 := keep4 (by assumption) hb10)
          | (go_at_call 20; refine (from_as ba (qa1.drewN 1).2 (by decide) HZ1).mono ?_; rintro e w9 ⟨b9, A9, m9, c9, rfl, q9, hb9⟩; have HS9 := keep4 (by assumption) hb9))
      clear k7a k7b k8a k8b
      clear HS9 HS10 HS11 HS12 HS13 HS14
      have HB26 := (below_then (below_then (below_then (below_then (below_then (below_then (below_drew1 HB11) ((below_drew1 HB11)).size hb9) ((below_then (below_drew1 HB11) ((below_drew1 HB11)).size hb9)).size hb10) ((below_then (below_then (below_drew1 HB11) ((below_drew1 HB11)).size hb9) ((below_then (below_drew1 HB11) ((below_drew1 HB11)).size hb9)).size hb10)).size hb11) ((below_then (below_then (below_then (below_drew1 HB11) ((below_drew1 HB11)).size hb9) ((below_then (below_drew1 HB11) ((below_drew1 HB11)).size hb9)).size hb10) ((below_then (below_then (below_drew1 HB11) ((below_drew1 HB11)).size hb9) ((below_then (below_drew1 HB11) ((below_drew1 HB11)).size hb9)).size hb10)).size hb11)).size hb12) ((below_then (below_then (below_then (below_then (below_drew1 HB11) ((below_drew1 HB11)).size hb9) ((below_then (below_drew1 HB11) ((below_drew1 HB11)).size hb9)).size hb10) ((below_then (below_then (below_drew1 HB11) ((below_drew1 HB11)).size hb9) ((below_then (below_drew1 HB11) ((below_drew1 HB11)).size hb9)).size hb10)).size hb11) ((below_then (below_then (below_then (below_drew1 HB11) ((below_drew1 HB11)).size hb9) ((below_then (below_drew1 HB11) ((below_drew1 HB11)).size hb9)).size hb10) ((below_then (below_then (below_drew1 HB11) ((below_drew1 HB11)).size hb9) ((below_then (below_drew1 HB11) ((below_drew1 HB11)).size hb9)).size hb10)).size hb11)).size hb12)).size hb13) ((below_then (below_then (below_then (below_then (below_then (below_drew1 HB11) ((below_drew1 HB11)).size hb9) ((below_then (below_drew1 HB11) ((below_drew1 HB11)).size hb9)).size hb10) ((below_then (below_then (below_drew1 HB11) ((below_drew1 HB11)).size hb9) ((below_then (below_drew1 HB11) ((below_drew1 HB11)).size hb9)).size hb10)).size hb11) ((below_then (below_then (below_then (below_drew1 HB11) ((below_drew1 HB11)).size hb9) ((below_then (below_drew1 HB11) ((below_drew1 HB11)).size hb9)).size hb10) ((below_then (below_then (below_drew1 HB11) ((below_drew1 HB11)).size hb9) ((below_then (below_drew1 HB11) ((below_drew1 HB11)).size hb9)).size hb10)).size hb11)).size hb12) ((below_then (below_then (below_then (below_then (below_drew1 HB11) ((below_drew1 HB11)).size hb9) ((below_then (below_drew1 HB11) ((below_drew1 HB11)).size hb9)).size hb10) ((below_then (below_then (below_drew1 HB11) ((below_drew1 HB11)).size hb9) ((below_then (below_drew1 HB11) ((below_drew1 HB11)).size hb9)).size hb10)).size hb11) ((below_then (below_then (below_then (below_drew1 HB11) ((below_drew1 HB11)).size hb9) ((below_then (below_drew1 HB11) ((below_drew1 HB11)).size hb9)).size hb10) ((below_then (below_then (below_drew1 HB11) ((below_drew1 HB11)).size hb9) ((below_then (below_drew1 HB11) ((below_drew1 HB11)).size hb9)).size hb10)).size hb11)).size hb12)).size hb13)).size hb14)
      go_wp2_with fail
      go_ret
      exact ⟨rfl, HB26⟩
  · skip
    have HF : Hid (false = (decide ((ma : Int) ≤ 20) && decide ((ma : Int) ≤ 20) && decide ((ma : Int) ≤ 20))) := Lib.hid (by simp; omega)
    have bxa := Box.new w 25 (.bool ba) (.slice Aa ma ca)
    go_enter Try.func4, Try.ntmps4
    go_wp2_with fail
    refine (lawake _).mono ?_
    rintro e w1 ⟨rfl, hb1⟩
    have HB3 := (below_then (below_alloc (Below.refl w.heap.size w) (.cells #[.bool ba, .slice Aa ma ca] 25)) ((below_alloc (Below.refl w.heap.size w) (.cells #[.bool ba, .slice Aa ma ca] 25))).size hb1)
    have k2 := (bxa.below hb1)
    have k2a := k2.c0
    have k2b := k2.c1
    go_wp2_with fail
    refine (lfew_as 20 HF).mono ?_
    rintro e w3 ⟨rfl, hb3⟩
    have HB6 := (below_then HB3 (HB3).size hb3)
    clear k2a k2b
    have k4 := (k2.below hb3)
    have k4a := k4.c0
    have k4b := k4.c1
    go_wp2_with fail
    refine (lawake _).mono ?_
    rintro e w5 ⟨rfl, hb5⟩
    have HB9 := (below_then HB6 (HB6).size hb5)
    go_wp2_with fail
    go_ret
    exact ⟨rfl, HB9⟩
end Go.Proofs.Ythadkjekagfjfaa.IForms
