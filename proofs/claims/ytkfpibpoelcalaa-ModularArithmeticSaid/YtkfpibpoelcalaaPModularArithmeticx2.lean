-- PRINTED BY print.sh 35421559b90ae4d0a3588c463048766b98c2df88dd9212a6774a882060cdf62d: not written by this session
import Derived.Test.YtkfpibpoelcalaaPModularArithmeticx0
import Derived.Test.YtkfpibpoelcalaaPModularArithmeticx1
namespace Go.Proofs.Ytkfpibpoelcalaa.PModularArithmetic
open Go.RowKit Go.Proofs.YtkfpibpoelcalaaW.PrintWords Go.Proofs.YtkfpibpoelcalaaW.PrintLast Go.Proofs.YtkfpibpoelcalaaW.PrintMore
attribute [local go_sem] max2_int min2_int max_two min_two max_three min_three max_four min_four   -- for this text's walks alone
set_option linter.unusedVariables false
set_option linter.unusedSimpArgs false

/-! ### modular_Sub: function 20 -/
def modular_Sub.f (a0 : Int) (a1 : Int) (a2 : Int) : Option (Int) := (modular_wide.f a2).bind fun t118 => (if t118 = 0 then (none) else (some ((Int.tmod (IntKind.u64.wrap ((IntKind.u64.wrap ((Int.tmod (IntKind.u64.wrap (a0)) t118) + t118)) - (Int.tmod (IntKind.u64.wrap (a1)) t118))) t118) % 4294967296)))
set_option maxHeartbeats 8000000 in
set_option maxRecDepth 100000 in
theorem modular_Sub.calls (a0 : Int) (a1 : Int) (a2 : Int) (r : Int) (w : World) (h : modular_Sub.f a0 a1 a2 = some r) :
    Calls Try.prog 20 #[.int .u32 a0, .int .u32 a1, .int .u32 a2] w fun e w' => e = .returned (.int .u32 r) ∧ Below w.heap.size w w' := by
  have HB := Aside0.mk (Below.refl w.heap.size w)
  have H : ((modular_wide.f a2).bind fun t118 => (if t118 = 0 then (none) else (some ((Int.tmod (IntKind.u64.wrap ((IntKind.u64.wrap ((Int.tmod (IntKind.u64.wrap (a0)) t118) + t118)) - (Int.tmod (IntKind.u64.wrap (a1)) t118))) t118) % 4294967296)))) = some r := h
  clear h
  replace H := Option.bind_eq_some_iff.mp H
  obtain ⟨t118, A40, H⟩ := H
  replace H : (if t118 = 0 then (none) else (some ((Int.tmod (IntKind.u64.wrap ((IntKind.u64.wrap ((Int.tmod (IntKind.u64.wrap (a0)) t118) + t118)) - (Int.tmod (IntKind.u64.wrap (a1)) t118))) t118) % 4294967296))) = some r := H
  have A4 := Aside0.mk A40
  clear A40
  by_cases c5 : t118 = 0
  · rw [if_pos c5] at H
    exact absurd H (by simp)
  · rw [if_neg c5] at H
    have c5b0 : (t118 == 0) = false := beq_eq_false_iff_ne.mpr c5
    have c5b1 : (t118 != 0) = true := bne_iff_ne.mpr c5
    obtain rfl := Option.some.inj H
    go_enter Try.func20, Try.ntmps20
    go_wp2_with (first | (go_at_call 24; (with_reducible refine (modular_wide.calls a2 t118 _ A4.out).mono ?_); rintro e w6 ⟨rfl, hb⟩; have n0_ := Aside0.mk (below_step (by repeat (first | (with_reducible first | exact HB.out | apply below_alloc | apply pw_below_drewN | apply below_drew1) | exact HB.out)) hb); clear HB; have HB := n0_; clear n0_; (try clear hb); (try clear hb2); (try clear hk); (try clear hi)))
    repeat (go_quiet (first | (go_at_call 24; (with_reducible refine (modular_wide.calls a2 t118 _ A4.out).mono ?_); rintro e w6 ⟨rfl, hb⟩; have n0_ := Aside0.mk (below_step (by repeat (first | (with_reducible first | exact HB.out | apply below_alloc | apply pw_below_drewN | apply below_drew1) | exact HB.out)) hb); clear HB; have HB := n0_; clear n0_; (try clear hb); (try clear hb2); (try clear hk); (try clear hi))); try go_wp2_with (first | (go_at_call 24; (with_reducible refine (modular_wide.calls a2 t118 _ A4.out).mono ?_); rintro e w6 ⟨rfl, hb⟩; have n0_ := Aside0.mk (below_step (by repeat (first | (with_reducible first | exact HB.out | apply below_alloc | apply pw_below_drewN | apply below_drew1) | exact HB.out)) hb); clear HB; have HB := n0_; clear n0_; (try clear hb); (try clear hb2); (try clear hk); (try clear hi))))
    go_ret
    exact ⟨by first | rfl | (simp [errW_none, errW_some] <;> rfl) | (simp [*, errW_none, errW_some] <;> rfl), by repeat (first | (with_reducible first | exact HB.out | apply below_alloc | apply pw_below_drewN | apply below_drew1) | exact HB.out)⟩

/-! ### modular_Neg: function 21 -/
def modular_Neg.f (a0 : Int) (a1 : Int) : Option (Int) := (modular_Sub.f 0 a0 a1).bind fun t119 => (some t119)
set_option maxHeartbeats 8000000 in
set_option maxRecDepth 100000 in
theorem modular_Neg.calls (a0 : Int) (a1 : Int) (r : Int) (w : World) (h : modular_Neg.f a0 a1 = some r) :
    Calls Try.prog 21 #[.int .u32 a0, .int .u32 a1] w fun e w' => e = .returned (.int .u32 r) ∧ Below w.heap.size w w' := by
  have HB := Aside0.mk (Below.refl w.heap.size w)
  have H : ((modular_Sub.f 0 a0 a1).bind fun t119 => (some t119)) = some r := h
  clear h
  replace H := Option.bind_eq_some_iff.mp H
  obtain ⟨t119, A30, H⟩ := H
  replace H : (some t119) = some r := H
  have A3 := Aside0.mk A30
  clear A30
  obtain rfl := Option.some.inj H
  go_enter Try.func21, Try.ntmps21
  go_wp2_with (first | ((with_reducible refine gate_callee (f := 20) rfl ?_); refine goesL_ (some 7) rfl rfl Try.func20 (by kernel_rfl) rfl #[.int .u32 0, .int .u32 a0, .int .u32 a1] rfl (by (try simp only [List.map_toArray, List.map_cons, List.map_nil]); first | done | rfl | (simp only [List.length_drop, List.length_take]; rfl)) ?_; (with_reducible refine (modular_Sub.calls 0 a0 a1 t119 _ A3.out).mono ?_); rintro e w4 ⟨rfl, hb⟩; refine ⟨_, rfl, ?_⟩; have n0_ := Aside0.mk (below_step (by repeat (first | (with_reducible first | exact HB.out | apply below_alloc | apply pw_below_drewN | apply below_drew1) | exact HB.out)) hb); clear HB; have HB := n0_; clear n0_; (try clear hb); (try clear hb2); (try clear hk); (try clear hi)))
  go_ret
  exact ⟨by first | rfl | (simp [errW_none, errW_some] <;> rfl) | (simp [*, errW_none, errW_some] <;> rfl), by repeat (first | (with_reducible first | exact HB.out | apply below_alloc | apply pw_below_drewN | apply below_drew1) | exact HB.out)⟩

end Go.Proofs.Ytkfpibpoelcalaa.PModularArithmetic
