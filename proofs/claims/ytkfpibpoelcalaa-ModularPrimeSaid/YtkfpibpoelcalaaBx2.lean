/- Written by a program of this session out of Lean's print of the loaded functions: for each Go function a Lean function, and the proof that the call answers so, whatever the world. -/
import Derived.Test.YtkfpibpoelcalaaBx0
import Derived.Test.YtkfpibpoelcalaaBx1
namespace Go.Proofs.Ytkfpibpoelcalaa.B
open Go.RowKit Go.Proofs.YtkfpibpoelcalaaW.PrintWords Go.Proofs.YtkfpibpoelcalaaW.PrintLast Go.Proofs.YtkfpibpoelcalaaW.PrintMore
attribute [local go_sem] max2_int min2_int max_two min_two max_three min_three max_four min_four   -- for this text's walks alone
set_option linter.unusedVariables false
set_option linter.unusedSimpArgs false

/-! ### cylinderref07_Power: function 12 -/
def cylinderref07_Power.l0 : Nat → Int → Int → Int → Int → Int → Option (Int)
  | 0, _, _, _, _, _ => none
  | k + 1, x0, x1, x7, x8, x9 => if x9 < x1 then (if x7 = 0 then (none) else (cylinderref07_Power.l0 k x0 x1 x7 (Int.tmod (IntKind.u64.wrap (x8 * (Int.tmod (IntKind.u64.wrap (x0)) x7))) x7) (wrap64 (x9 + 1)))) else (some ((x8) % 4294967296))
def cylinderref07_Power.f (k : Nat) (a0 : Int) (a1 : Int) (a2 : Int) : Option (Int) := (cylinderref07_Modulus.f a2).bind fun t117 => (if t117 = 0 then (none) else (cylinderref07_Power.l0 k a0 a1 t117 ((1 : Int) % t117) 0))
theorem cylinderref07_Power.mono_l : ∀ k, (∀ y0 y1 y2 y3 y4, LeO (cylinderref07_Power.l0 k y0 y1 y2 y3 y4) (cylinderref07_Power.l0 (k + 1) y0 y1 y2 y3 y4))
  | 0 => fun _ _ _ _ _ r h => by simp [cylinderref07_Power.l0] at h
  | k + 1 => by
    have ih0 := cylinderref07_Power.mono_l k
    · intro y0 y1 y2 y3 y4
      unfold cylinderref07_Power.l0
      repeat' first
      | (with_reducible exact ih0 _ _ _ _ _)
      | (with_reducible exact LeO.refl _)
      | (with_reducible exact LeO.none _)
      | (with_reducible refine LeO.ite ?_ ?_)
      | (with_reducible refine LeO.bind ?_ (fun _ => ?_))
      | exact ih0 _ _ _ _ _
      | exact LeO.none _
      | refine LeO.ite ?_ ?_
      | refine LeO.bind ?_ (fun _ => ?_)
theorem cylinderref07_Power.mono : ∀ a0 a1 a2 k, LeO (cylinderref07_Power.f k a0 a1 a2) (cylinderref07_Power.f (k + 1) a0 a1 a2) := by
  intro a0 a1 a2 k
  have ih0 := cylinderref07_Power.mono_l k
  unfold cylinderref07_Power.f
  repeat' first
      | (with_reducible exact ih0 _ _ _ _ _)
      | (with_reducible exact LeO.refl _)
      | (with_reducible exact LeO.none _)
      | (with_reducible refine LeO.ite ?_ ?_)
      | (with_reducible refine LeO.bind ?_ (fun _ => ?_))
      | exact ih0 _ _ _ _ _
      | exact LeO.none _
      | refine LeO.ite ?_ ?_
      | refine LeO.bind ?_ (fun _ => ?_)
set_option maxHeartbeats 8000000 in
set_option maxRecDepth 100000 in
theorem cylinderref07_Power.calls (k : Nat) (a0 : Int) (a1 : Int) (a2 : Int) (r : Int) (w : World) (h : cylinderref07_Power.f k a0 a1 a2 = some r) :
    Calls Try.prog 12 #[.int .u32 a0, .int .i64 a1, .int .u32 a2] w fun e w' => e = .returned (.int .u32 r) ∧ Drawn0 w w' := by
  have H : ((cylinderref07_Modulus.f a2).bind fun t117 => (if t117 = 0 then (none) else (cylinderref07_Power.l0 k a0 a1 t117 ((1 : Int) % t117) 0))) = some r := h
  clear h
  replace H := Option.bind_eq_some_iff.mp H
  obtain ⟨t117, A40, H⟩ := H
  replace H : (if t117 = 0 then (none) else (cylinderref07_Power.l0 k a0 a1 t117 ((1 : Int) % t117) 0)) = some r := H
  have A4 := Aside0.mk A40
  clear A40
  by_cases c5 : t117 = 0
  · rw [if_pos c5] at H
    exact absurd H (by simp)
  · rw [if_neg c5] at H
    have c5b0 : (t117 == 0) = false := beq_eq_false_iff_ne.mpr c5
    have c5b1 : (t117 != 0) = true := bne_iff_ne.mpr c5
    have H' := Aside0.mk H
    clear H
    go_enter Try.func12, Try.ntmps12
    go_wp2_with (first | ((with_reducible refine gate_callee (f := 14) rfl ?_); refine goesL_ (some 11) rfl rfl Try.func14 (by kernel_rfl) rfl #[.int .u32 a2] rfl (by (try simp only [List.map_toArray, List.map_cons, List.map_nil]); first | done | rfl | (simp only [List.length_drop, List.length_take]; rfl)) ?_; (with_reducible refine (cylinderref07_Modulus.calls a2 t117 _ A4.out).mono ?_); rintro e w' ⟨rfl, ⟨nd, rfl⟩⟩; refine ⟨_, rfl, ?_⟩))
    go_loopg [8, 9] k (fun kq v8 v9 w' => ∃ (x8_1 : Int) (x9_1 : Int), v8 = .int .u64 x8_1 ∧ v9 = .int .i64 x9_1 ∧ Aside0 (cylinderref07_Power.l0 kq a0 a1 t117 x8_1 x9_1 = some r) ∧ Aside0 (kq ≤ k) ∧ Drawn0 w w')
    case atStart => exact ⟨((1 : Int) % t117), (0), (by first | rfl | (simp; done) | (simp [*]; done)), (by first | rfl | (simp; done) | (simp [*]; done)), H', ⟨Nat.le_refl _⟩, by repeat (first | exact Drawn0.refl _ | apply Drawn0.step)⟩
    case round =>
      clear H'
      try clear c1
      try clear p2
      try clear c5
      try clear c5b0
      try clear c5b1
      obtain ⟨x8_1, x9_1, rfl, rfl, HA, HK1, ⟨m1, rfl⟩⟩ := hrel
      cases gk with
      | zero => exact absurd HA.out (by simp [cylinderref07_Power.l0])
      | succ k1 =>
        have H := HA.out
        clear HA
        simp only [cylinderref07_Power.l0] at H
        by_cases c6 : x9_1 < a1
        · rw [if_pos c6] at H
          have c6b0 : decide (x9_1 < a1) = true := decide_eq_true c6
          clear c6
          by_cases c7 : t117 = 0
          · rw [if_pos c7] at H
            exact absurd H (by simp)
          · rw [if_neg c7] at H
            have c7b0 : (t117 == 0) = false := beq_eq_false_iff_ne.mpr c7
            have c7b1 : (t117 != 0) = true := bne_iff_ne.mpr c7
            have H' := Aside0.mk H
            clear H
            go_wp2
            go_roundg k1
            case measure => have := HK1.out; omega
            case rel => exact ⟨(Int.tmod (IntKind.u64.wrap (x8_1 * (Int.tmod (IntKind.u64.wrap (a0)) t117))) t117), (wrap64 (x9_1 + 1)), (by first | rfl | (simp; done) | (simp [*]; done)), (by first | rfl | (simp; done) | (simp [*]; done)), H', ⟨by have := HK1.out; omega⟩, by repeat (first | exact Drawn0.refl _ | apply Drawn0.step)⟩
        · rw [if_neg c6] at H
          have c6b0 : decide (x9_1 < a1) = false := decide_eq_false c6
          clear c6
          obtain rfl := Option.some.inj H
          go_wp2
          go_ret
          exact ⟨by first | rfl | (simp; done) | (simp [*]; done), by repeat (first | exact Drawn0.refl _ | apply Drawn0.step)⟩

/-! ### cylinderref07_Gcd: function 16 -/
def cylinderref07_Gcd.l0 : Nat → Int → Int → Option (Int)
  | 0, _, _ => none
  | k + 1, x0, x1 => if x1 = 0 then (some x0) else (cylinderref07_Gcd.l0 k x1 (Int.tmod x0 x1))
def cylinderref07_Gcd.f (k : Nat) (a0 : Int) (a1 : Int) : Option (Int) := cylinderref07_Gcd.l0 k a0 a1
theorem cylinderref07_Gcd.mono_l : ∀ k, (∀ y0 y1, LeO (cylinderref07_Gcd.l0 k y0 y1) (cylinderref07_Gcd.l0 (k + 1) y0 y1))
  | 0 => fun _ _ r h => by simp [cylinderref07_Gcd.l0] at h
  | k + 1 => by
    have ih0 := cylinderref07_Gcd.mono_l k
    · intro y0 y1
      unfold cylinderref07_Gcd.l0
      repeat' first
      | (with_reducible exact ih0 _ _)
      | (with_reducible exact LeO.refl _)
      | (with_reducible exact LeO.none _)
      | (with_reducible refine LeO.ite ?_ ?_)
      | (with_reducible refine LeO.bind ?_ (fun _ => ?_))
      | exact ih0 _ _
      | exact LeO.none _
      | refine LeO.ite ?_ ?_
      | refine LeO.bind ?_ (fun _ => ?_)
theorem cylinderref07_Gcd.mono : ∀ a0 a1 k, LeO (cylinderref07_Gcd.f k a0 a1) (cylinderref07_Gcd.f (k + 1) a0 a1) := by
  intro a0 a1 k
  have ih0 := cylinderref07_Gcd.mono_l k
  unfold cylinderref07_Gcd.f
  repeat' first
      | (with_reducible exact ih0 _ _)
      | (with_reducible exact LeO.refl _)
      | (with_reducible exact LeO.none _)
      | (with_reducible refine LeO.ite ?_ ?_)
      | (with_reducible refine LeO.bind ?_ (fun _ => ?_))
      | exact ih0 _ _
      | exact LeO.none _
      | refine LeO.ite ?_ ?_
      | refine LeO.bind ?_ (fun _ => ?_)
set_option maxHeartbeats 8000000 in
set_option maxRecDepth 100000 in
theorem cylinderref07_Gcd.calls (k : Nat) (a0 : Int) (a1 : Int) (r : Int) (w : World) (h : cylinderref07_Gcd.f k a0 a1 = some r) :
    Calls Try.prog 16 #[.int .u64 a0, .int .u64 a1] w fun e w' => e = .returned (.int .u64 r) ∧ Drawn0 w w' := by
  have H : (cylinderref07_Gcd.l0 k a0 a1) = some r := h
  clear h
  have H' := Aside0.mk H
  clear H
  go_enter Try.func16, Try.ntmps16
  go_wp2
  go_loopg [0, 1] k (fun kq v0 v1 w' => ∃ (x0_1 : Int) (x1_1 : Int), v0 = .int .u64 x0_1 ∧ v1 = .int .u64 x1_1 ∧ Aside0 (cylinderref07_Gcd.l0 kq x0_1 x1_1 = some r) ∧ Aside0 (kq ≤ k) ∧ Drawn0 w w')
  case atStart => exact ⟨(a0), (a1), (by first | rfl | (simp; done) | (simp [*]; done)), (by first | rfl | (simp; done) | (simp [*]; done)), H', ⟨Nat.le_refl _⟩, by repeat (first | exact Drawn0.refl _ | apply Drawn0.step)⟩
  case round =>
    clear H'
    try clear c1
    try clear p2
    obtain ⟨x0_1, x1_1, rfl, rfl, HA, HK1, ⟨m1, rfl⟩⟩ := hrel
    cases gk with
    | zero => exact absurd HA.out (by simp [cylinderref07_Gcd.l0])
    | succ k1 =>
      have H := HA.out
      clear HA
      simp only [cylinderref07_Gcd.l0] at H
      by_cases c3 : x1_1 = 0
      · rw [if_pos c3] at H
        have c3b0 : (x1_1 == 0) = true := beq_iff_eq.mpr c3
        have c3b1 : (x1_1 != 0) = false := bne_eq_false_iff_eq.mpr c3
        clear c3
        obtain rfl := Option.some.inj H
        go_wp2
        go_ret
        exact ⟨by first | rfl | (simp; done) | (simp [*]; done), by repeat (first | exact Drawn0.refl _ | apply Drawn0.step)⟩
      · rw [if_neg c3] at H
        have c3b0 : (x1_1 == 0) = false := beq_eq_false_iff_ne.mpr c3
        have c3b1 : (x1_1 != 0) = true := bne_iff_ne.mpr c3
        have H' := Aside0.mk H
        clear H
        go_wp2
        go_roundg k1
        case measure => have := HK1.out; omega
        case rel => exact ⟨(x1_1), (Int.tmod x0_1 x1_1), (by first | rfl | (simp; done) | (simp [*]; done)), (by first | rfl | (simp; done) | (simp [*]; done)), H', ⟨by have := HK1.out; omega⟩, by repeat (first | exact Drawn0.refl _ | apply Drawn0.step)⟩

/-! ### cylinderref07_IsPrime: function 18 -/
def cylinderref07_IsPrime.l0 : Nat → Int → Int → Option (Bool)
  | 0, _, _ => none
  | k + 1, x0, x3 => if (IntKind.u64.wrap (x3 * x3)) ≤ (IntKind.u64.wrap (x0)) then (if x3 = 0 then (none) else (if (Int.tmod (IntKind.u64.wrap (x0)) x3) = 0 then (some false) else (cylinderref07_IsPrime.l0 k x0 (IntKind.u64.wrap (x3 + 1))))) else (some true)
def cylinderref07_IsPrime.f (k : Nat) (a0 : Int) : Option (Bool) := if a0 < 2 then (some false) else (cylinderref07_IsPrime.l0 k a0 2)
theorem cylinderref07_IsPrime.mono_l : ∀ k, (∀ y0 y1, LeO (cylinderref07_IsPrime.l0 k y0 y1) (cylinderref07_IsPrime.l0 (k + 1) y0 y1))
  | 0 => fun _ _ r h => by simp [cylinderref07_IsPrime.l0] at h
  | k + 1 => by
    have ih0 := cylinderref07_IsPrime.mono_l k
    · intro y0 y1
      unfold cylinderref07_IsPrime.l0
      repeat' first
      | (with_reducible exact ih0 _ _)
      | (with_reducible exact LeO.refl _)
      | (with_reducible exact LeO.none _)
      | (with_reducible refine LeO.ite ?_ ?_)
      | (with_reducible refine LeO.bind ?_ (fun _ => ?_))
      | exact ih0 _ _
      | exact LeO.none _
      | refine LeO.ite ?_ ?_
      | refine LeO.bind ?_ (fun _ => ?_)
theorem cylinderref07_IsPrime.mono : ∀ a0 k, LeO (cylinderref07_IsPrime.f k a0) (cylinderref07_IsPrime.f (k + 1) a0) := by
  intro a0 k
  have ih0 := cylinderref07_IsPrime.mono_l k
  unfold cylinderref07_IsPrime.f
  repeat' first
      | (with_reducible exact ih0 _ _)
      | (with_reducible exact LeO.refl _)
      | (with_reducible exact LeO.none _)
      | (with_reducible refine LeO.ite ?_ ?_)
      | (with_reducible refine LeO.bind ?_ (fun _ => ?_))
      | exact ih0 _ _
      | exact LeO.none _
      | refine LeO.ite ?_ ?_
      | refine LeO.bind ?_ (fun _ => ?_)
set_option maxHeartbeats 8000000 in
set_option maxRecDepth 100000 in
theorem cylinderref07_IsPrime.calls (k : Nat) (a0 : Int) (r : Bool) (w : World) (h : cylinderref07_IsPrime.f k a0 = some r) :
    Calls Try.prog 18 #[.int .u32 a0] w fun e w' => e = .returned (.bool r) ∧ Drawn0 w w' := by
  have H : (if a0 < 2 then (some false) else (cylinderref07_IsPrime.l0 k a0 2)) = some r := h
  clear h
  by_cases c2 : a0 < 2
  · rw [if_pos c2] at H
    have c2b0 : decide (a0 < 2) = true := decide_eq_true c2
    clear c2
    obtain rfl := Option.some.inj H
    go_enter Try.func18, Try.ntmps18
    go_wp2
    go_ret
    exact ⟨by first | rfl | (simp; done) | (simp [*]; done), by repeat (first | exact Drawn0.refl _ | apply Drawn0.step)⟩
  · rw [if_neg c2] at H
    have c2b0 : decide (a0 < 2) = false := decide_eq_false c2
    clear c2
    have H' := Aside0.mk H
    clear H
    go_enter Try.func18, Try.ntmps18
    go_wp2
    go_loopg [3] k (fun kq v3 w' => ∃ (x3_1 : Int), v3 = .int .u64 x3_1 ∧ Aside0 (cylinderref07_IsPrime.l0 kq a0 x3_1 = some r) ∧ Aside0 (kq ≤ k) ∧ Drawn0 w w')
    case atStart => exact ⟨(2), (by first | rfl | (simp; done) | (simp [*]; done)), H', ⟨Nat.le_refl _⟩, by repeat (first | exact Drawn0.refl _ | apply Drawn0.step)⟩
    case round =>
      clear H'
      try clear c1
      try clear c2
      try clear c2b0
      try clear p2
      obtain ⟨x3_1, rfl, HA, HK1, ⟨m1, rfl⟩⟩ := hrel
      cases gk with
      | zero => exact absurd HA.out (by simp [cylinderref07_IsPrime.l0])
      | succ k1 =>
        have H := HA.out
        clear HA
        simp only [cylinderref07_IsPrime.l0] at H
        by_cases c3 : (IntKind.u64.wrap (x3_1 * x3_1)) ≤ (IntKind.u64.wrap (a0))
        · rw [if_pos c3] at H
          have c3b0 : decide ((IntKind.u64.wrap (x3_1 * x3_1)) ≤ (IntKind.u64.wrap (a0))) = true := decide_eq_true c3
          clear c3
          by_cases c4 : x3_1 = 0
          · rw [if_pos c4] at H
            exact absurd H (by simp)
          · rw [if_neg c4] at H
            have c4b0 : (x3_1 == 0) = false := beq_eq_false_iff_ne.mpr c4
            have c4b1 : (x3_1 != 0) = true := bne_iff_ne.mpr c4
            by_cases c5 : (Int.tmod (IntKind.u64.wrap (a0)) x3_1) = 0
            · rw [if_pos c5] at H
              have c5b0 : ((Int.tmod (IntKind.u64.wrap (a0)) x3_1) == 0) = true := beq_iff_eq.mpr c5
              have c5b1 : ((Int.tmod (IntKind.u64.wrap (a0)) x3_1) != 0) = false := bne_eq_false_iff_eq.mpr c5
              clear c5
              obtain rfl := Option.some.inj H
              go_wp2
              go_ret
              exact ⟨by first | rfl | (simp; done) | (simp [*]; done), by repeat (first | exact Drawn0.refl _ | apply Drawn0.step)⟩
            · rw [if_neg c5] at H
              have c5b0 : ((Int.tmod (IntKind.u64.wrap (a0)) x3_1) == 0) = false := beq_eq_false_iff_ne.mpr c5
              have c5b1 : ((Int.tmod (IntKind.u64.wrap (a0)) x3_1) != 0) = true := bne_iff_ne.mpr c5
              have H' := Aside0.mk H
              clear H
              go_wp2
              go_roundg k1
              case measure => have := HK1.out; omega
              case rel => exact ⟨(IntKind.u64.wrap (x3_1 + 1)), (by first | rfl | (simp; done) | (simp [*]; done)), H', ⟨by have := HK1.out; omega⟩, by repeat (first | exact Drawn0.refl _ | apply Drawn0.step)⟩
        · rw [if_neg c3] at H
          have c3b0 : decide ((IntKind.u64.wrap (x3_1 * x3_1)) ≤ (IntKind.u64.wrap (a0))) = false := decide_eq_false c3
          clear c3
          obtain rfl := Option.some.inj H
          go_wp2
          go_ret
          exact ⟨by first | rfl | (simp; done) | (simp [*]; done), by repeat (first | exact Drawn0.refl _ | apply Drawn0.step)⟩

/-! ### modular_Add: function 19 -/
def modular_Add.f (a0 : Int) (a1 : Int) (a2 : Int) : Option (Int) := (modular_wide.f a2).bind fun t118 => (if t118 = 0 then (none) else (some ((Int.tmod (IntKind.u64.wrap ((IntKind.u64.wrap (a0)) + (IntKind.u64.wrap (a1)))) t118) % 4294967296)))
set_option maxHeartbeats 8000000 in
set_option maxRecDepth 100000 in
theorem modular_Add.calls (a0 : Int) (a1 : Int) (a2 : Int) (r : Int) (w : World) (h : modular_Add.f a0 a1 a2 = some r) :
    Calls Try.prog 19 #[.int .u32 a0, .int .u32 a1, .int .u32 a2] w fun e w' => e = .returned (.int .u32 r) ∧ Below w.heap.size w w' := by
  have HB := Aside0.mk (Below.refl w.heap.size w)
  have H : ((modular_wide.f a2).bind fun t118 => (if t118 = 0 then (none) else (some ((Int.tmod (IntKind.u64.wrap ((IntKind.u64.wrap (a0)) + (IntKind.u64.wrap (a1)))) t118) % 4294967296)))) = some r := h
  clear h
  replace H := Option.bind_eq_some_iff.mp H
  obtain ⟨t118, A40, H⟩ := H
  replace H : (if t118 = 0 then (none) else (some ((Int.tmod (IntKind.u64.wrap ((IntKind.u64.wrap (a0)) + (IntKind.u64.wrap (a1)))) t118) % 4294967296))) = some r := H
  have A4 := Aside0.mk A40
  clear A40
  by_cases c5 : t118 = 0
  · rw [if_pos c5] at H
    exact absurd H (by simp)
  · rw [if_neg c5] at H
    have c5b0 : (t118 == 0) = false := beq_eq_false_iff_ne.mpr c5
    have c5b1 : (t118 != 0) = true := bne_iff_ne.mpr c5
    obtain rfl := Option.some.inj H
    go_enter Try.func19, Try.ntmps19
    go_wp2_with (first | ((with_reducible refine gate_callee (f := 24) rfl ?_); refine goesL_ (some 13) rfl rfl Try.func24 (by kernel_rfl) rfl #[.int .u32 a2] rfl (by (try simp only [List.map_toArray, List.map_cons, List.map_nil]); first | done | rfl | (simp only [List.length_drop, List.length_take]; rfl)) ?_; (with_reducible refine (modular_wide.calls a2 t118 _ A4.out).mono ?_); rintro e w6 ⟨rfl, hb⟩; refine ⟨_, rfl, ?_⟩; have n0_ := Aside0.mk (below_step (by repeat (first | (with_reducible first | exact HB.out | apply below_alloc | apply pw_below_drewN | apply below_drew1) | exact HB.out)) hb); clear HB; have HB := n0_; clear n0_; (try clear hb); (try clear hb2); (try clear hk); (try clear hi)))
    go_ret
    exact ⟨by first | rfl | (simp [errW_none, errW_some] <;> rfl) | (simp [*, errW_none, errW_some] <;> rfl), by repeat (first | (with_reducible first | exact HB.out | apply below_alloc | apply pw_below_drewN | apply below_drew1) | exact HB.out)⟩

/-! ### modular_Sub: function 20 -/
def modular_Sub.f (a0 : Int) (a1 : Int) (a2 : Int) : Option (Int) := (modular_wide.f a2).bind fun t119 => (if t119 = 0 then (none) else (some ((Int.tmod (IntKind.u64.wrap ((IntKind.u64.wrap ((Int.tmod (IntKind.u64.wrap (a0)) t119) + t119)) - (Int.tmod (IntKind.u64.wrap (a1)) t119))) t119) % 4294967296)))
set_option maxHeartbeats 8000000 in
set_option maxRecDepth 100000 in
theorem modular_Sub.calls (a0 : Int) (a1 : Int) (a2 : Int) (r : Int) (w : World) (h : modular_Sub.f a0 a1 a2 = some r) :
    Calls Try.prog 20 #[.int .u32 a0, .int .u32 a1, .int .u32 a2] w fun e w' => e = .returned (.int .u32 r) ∧ Below w.heap.size w w' := by
  have HB := Aside0.mk (Below.refl w.heap.size w)
  have H : ((modular_wide.f a2).bind fun t119 => (if t119 = 0 then (none) else (some ((Int.tmod (IntKind.u64.wrap ((IntKind.u64.wrap ((Int.tmod (IntKind.u64.wrap (a0)) t119) + t119)) - (Int.tmod (IntKind.u64.wrap (a1)) t119))) t119) % 4294967296)))) = some r := h
  clear h
  replace H := Option.bind_eq_some_iff.mp H
  obtain ⟨t119, A40, H⟩ := H
  replace H : (if t119 = 0 then (none) else (some ((Int.tmod (IntKind.u64.wrap ((IntKind.u64.wrap ((Int.tmod (IntKind.u64.wrap (a0)) t119) + t119)) - (Int.tmod (IntKind.u64.wrap (a1)) t119))) t119) % 4294967296))) = some r := H
  have A4 := Aside0.mk A40
  clear A40
  by_cases c5 : t119 = 0
  · rw [if_pos c5] at H
    exact absurd H (by simp)
  · rw [if_neg c5] at H
    have c5b0 : (t119 == 0) = false := beq_eq_false_iff_ne.mpr c5
    have c5b1 : (t119 != 0) = true := bne_iff_ne.mpr c5
    obtain rfl := Option.some.inj H
    go_enter Try.func20, Try.ntmps20
    go_wp2_with (first | (go_at_call 24; (with_reducible refine (modular_wide.calls a2 t119 _ A4.out).mono ?_); rintro e w6 ⟨rfl, hb⟩; have n0_ := Aside0.mk (below_step (by repeat (first | (with_reducible first | exact HB.out | apply below_alloc | apply pw_below_drewN | apply below_drew1) | exact HB.out)) hb); clear HB; have HB := n0_; clear n0_; (try clear hb); (try clear hb2); (try clear hk); (try clear hi)))
    repeat (go_quiet (first | (go_at_call 24; (with_reducible refine (modular_wide.calls a2 t119 _ A4.out).mono ?_); rintro e w6 ⟨rfl, hb⟩; have n0_ := Aside0.mk (below_step (by repeat (first | (with_reducible first | exact HB.out | apply below_alloc | apply pw_below_drewN | apply below_drew1) | exact HB.out)) hb); clear HB; have HB := n0_; clear n0_; (try clear hb); (try clear hb2); (try clear hk); (try clear hi))); try go_wp2_with (first | (go_at_call 24; (with_reducible refine (modular_wide.calls a2 t119 _ A4.out).mono ?_); rintro e w6 ⟨rfl, hb⟩; have n0_ := Aside0.mk (below_step (by repeat (first | (with_reducible first | exact HB.out | apply below_alloc | apply pw_below_drewN | apply below_drew1) | exact HB.out)) hb); clear HB; have HB := n0_; clear n0_; (try clear hb); (try clear hb2); (try clear hk); (try clear hi))))
    go_ret
    exact ⟨by first | rfl | (simp [errW_none, errW_some] <;> rfl) | (simp [*, errW_none, errW_some] <;> rfl), by repeat (first | (with_reducible first | exact HB.out | apply below_alloc | apply pw_below_drewN | apply below_drew1) | exact HB.out)⟩

/-! ### modular_Neg: function 21 -/
def modular_Neg.f (a0 : Int) (a1 : Int) : Option (Int) := (modular_Sub.f 0 a0 a1).bind fun t120 => (some t120)
set_option maxHeartbeats 8000000 in
set_option maxRecDepth 100000 in
theorem modular_Neg.calls (a0 : Int) (a1 : Int) (r : Int) (w : World) (h : modular_Neg.f a0 a1 = some r) :
    Calls Try.prog 21 #[.int .u32 a0, .int .u32 a1] w fun e w' => e = .returned (.int .u32 r) ∧ Below w.heap.size w w' := by
  have HB := Aside0.mk (Below.refl w.heap.size w)
  have H : ((modular_Sub.f 0 a0 a1).bind fun t120 => (some t120)) = some r := h
  clear h
  replace H := Option.bind_eq_some_iff.mp H
  obtain ⟨t120, A30, H⟩ := H
  replace H : (some t120) = some r := H
  have A3 := Aside0.mk A30
  clear A30
  obtain rfl := Option.some.inj H
  go_enter Try.func21, Try.ntmps21
  go_wp2_with (first | ((with_reducible refine gate_callee (f := 20) rfl ?_); refine goesL_ (some 7) rfl rfl Try.func20 (by kernel_rfl) rfl #[.int .u32 0, .int .u32 a0, .int .u32 a1] rfl (by (try simp only [List.map_toArray, List.map_cons, List.map_nil]); first | done | rfl | (simp only [List.length_drop, List.length_take]; rfl)) ?_; (with_reducible refine (modular_Sub.calls 0 a0 a1 t120 _ A3.out).mono ?_); rintro e w4 ⟨rfl, hb⟩; refine ⟨_, rfl, ?_⟩; have n0_ := Aside0.mk (below_step (by repeat (first | (with_reducible first | exact HB.out | apply below_alloc | apply pw_below_drewN | apply below_drew1) | exact HB.out)) hb); clear HB; have HB := n0_; clear n0_; (try clear hb); (try clear hb2); (try clear hk); (try clear hi)))
  go_ret
  exact ⟨by first | rfl | (simp [errW_none, errW_some] <;> rfl) | (simp [*, errW_none, errW_some] <;> rfl), by repeat (first | (with_reducible first | exact HB.out | apply below_alloc | apply pw_below_drewN | apply below_drew1) | exact HB.out)⟩

end Go.Proofs.Ytkfpibpoelcalaa.B
