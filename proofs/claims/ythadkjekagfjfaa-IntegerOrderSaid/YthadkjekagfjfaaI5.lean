/- Package cylinderref02 as walks: what Cmp, Add and Mul return. Conditions stand at each theorem. -/
import Derived.Test.YthadkjekagfjfaaI4
namespace Go.Proofs.Ythadkjekagfjfaa.N
open Go.RowKit Go.Proofs.Ythadkjekagfjfaa.Dig Go.Proofs.YthadkjekagfjfaaW.PrintWords Go.Proofs.YthadkjekagfjfaaW.PrintLast Go.Proofs.YthadkjekagfjfaaW.PrintMore
set_option linter.unusedVariables false
set_option linter.unusedSimpArgs false

set_option maxHeartbeats 1000000 in
theorem cmp_mm {x y : Int} {u v : Value} {K L : Nat} {w : World} (h : BN w u x.natAbs K) (h' : BN w v y.natAbs L) (hK : K ≤ 1073741824) (hL : L ≤ 1073741824) (hp : sgn x = (-1)) (hq : sgn y = (-1)) :
    Calls Try.prog 33 #[.agg #[.int .i64 (-1), u], .agg #[.int .i64 (-1), v]] w fun e w' => e = .returned (.int .i64 (zcmp x y)) ∧ Below w.heap.size w w' := by
  have hz : IntKind.i64.wrap (-cmpv x.natAbs y.natAbs) = zcmp x y := by
    have h1 := sgn_m.1 hp
    have h2 := sgn_m.1 hq
    have hw : ∀ t : Int, -1 ≤ t → t ≤ 1 → IntKind.i64.wrap t = t := fun t h1 h2 => by unfold IntKind.wrap; simp [IntKind.signed, IntKind.bits]; omega
    have hr := cmpv_range x.natAbs y.natAbs
    rw [hw _ (by omega) (by omega)]
    (try unfold cmpv)
    unfold zcmp
    (repeat' split) <;> omega
  generalize hc : cmpv x.natAbs y.natAbs = cv at *
  have HC := Lib.hid hc
  have HZ := Lib.hid hz
  clear hc hz
  obtain ⟨As, ms, cs, rfl⟩ := h.slc
  obtain ⟨At, mt, ct, rfl⟩ := h'.slc
  have hn := Lib.hid ((h.alloc (.cells #[.int .i64 (-1), .slice As ms cs] 30)).alloc (.cells #[.int .i64 (-1), .slice At mt ct] 30))
  have hn' := Lib.hid ((h'.alloc (.cells #[.int .i64 (-1), .slice As ms cs] 30)).alloc (.cells #[.int .i64 (-1), .slice At mt ct] 30))
  have hbx := ((Box.new w 30 (.int .i64 (-1)) (.slice As ms cs)).alloc (.cells #[.int .i64 (-1), .slice At mt ct] 30))
  have hby := (Box.new1 w (.cells #[.int .i64 (-1), .slice As ms cs] 30) 30 (.int .i64 (-1)) (.slice At mt ct))
  have hbel := (below_alloc (below_alloc (Below.refl w.heap.size w) (.cells #[.int .i64 (-1), .slice As ms cs] 30)) (.cells #[.int .i64 (-1), .slice At mt ct] 30))
  have HP := Lib.hid hp
  have HQ := Lib.hid hq
  clear h h' hp hq
  go_enter Try.func33, Try.ntmps33
  go_wp2_with fail
  generalize ((w.alloc (.cells #[.int .i64 (-1), .slice As ms cs] 30)).alloc (.cells #[.int .i64 (-1), .slice At mt ct] 30)) = W at *
  have c0 := hbx.c0
  have c1 := hbx.c1
  have c2 := hby.c0
  have c3 := hby.c1
  go_wp2_with fail
  go_region_held3 (fun w' => w'.cell? ⟨w.heap.size, 0, none⟩ = some (.int .i64 (-1)) ∧ w'.cell? ⟨w.heap.size, 1, none⟩ = some (.slice As ms cs) ∧ w'.cell? ⟨w.heap.size + 1, 0, none⟩ = some (.int .i64 (-1)) ∧ w'.cell? ⟨w.heap.size + 1, 1, none⟩ = some (.slice At mt ct))
    (first | go_keep | exact ⟨by assumption, by assumption, by assumption, by assumption⟩ | ((try dsimp only); (repeat' apply And.intro); all_goals go_keep))
    (first
      | (go_at_call 27; refine (cmp_b (hn.out.drewN _) (hn'.out.drewN _) (by omega) (by omega)).mono ?_; rw [HC.out]; rintro e w1 ⟨rfl, hb1⟩; have x1 := hbx.drew.then_ hb1; have z1 := hby.drew.then_ hb1; have d0 := x1.c0; have d1 := x1.c1; have d2 := z1.c0; have d3 := z1.c1; have B1 := below_then (below_drew1 hbel) hbel.size hb1))
  clear c0 c1 c2 c3 d0 d1 d2 d3
  go_wp2_with fail
  go_ret
  exact ⟨ret_int HZ.out, B1⟩

set_option maxHeartbeats 1000000 in
theorem cmp_mz {x y : Int} {u v : Value} {K L : Nat} {w : World} (h : BN w u x.natAbs K) (h' : BN w v y.natAbs L) (hK : K ≤ 1073741824) (hL : L ≤ 1073741824) (hp : sgn x = (-1)) (hq : sgn y = 0) :
    Calls Try.prog 33 #[.agg #[.int .i64 (-1), u], .agg #[.int .i64 0, v]] w fun e w' => e = .returned (.int .i64 (zcmp x y)) ∧ Below w.heap.size w w' := by
  have hz : zcmp x y = (-1) := by
    have h1 := sgn_m.1 hp
    have h2 := sgn_0.1 hq
    unfold zcmp
    (repeat' split) <;> omega
  rw [hz]
  clear hz
  obtain ⟨As, ms, cs, rfl⟩ := h.slc
  obtain ⟨At, mt, ct, rfl⟩ := h'.slc
  have hn := Lib.hid ((h.alloc (.cells #[.int .i64 (-1), .slice As ms cs] 30)).alloc (.cells #[.int .i64 0, .slice At mt ct] 30))
  have hn' := Lib.hid ((h'.alloc (.cells #[.int .i64 (-1), .slice As ms cs] 30)).alloc (.cells #[.int .i64 0, .slice At mt ct] 30))
  have hbx := ((Box.new w 30 (.int .i64 (-1)) (.slice As ms cs)).alloc (.cells #[.int .i64 0, .slice At mt ct] 30))
  have hby := (Box.new1 w (.cells #[.int .i64 (-1), .slice As ms cs] 30) 30 (.int .i64 0) (.slice At mt ct))
  have hbel := (below_alloc (below_alloc (Below.refl w.heap.size w) (.cells #[.int .i64 (-1), .slice As ms cs] 30)) (.cells #[.int .i64 0, .slice At mt ct] 30))
  have HP := Lib.hid hp
  have HQ := Lib.hid hq
  clear h h' hp hq
  go_enter Try.func33, Try.ntmps33
  go_wp2_with fail
  generalize ((w.alloc (.cells #[.int .i64 (-1), .slice As ms cs] 30)).alloc (.cells #[.int .i64 0, .slice At mt ct] 30)) = W at *
  have c0 := hbx.c0
  have c1 := hbx.c1
  have c2 := hby.c0
  have c3 := hby.c1
  clear c0 c1 c2 c3
  have c0 := hbx.c0
  have c2 := hby.c0
  go_wp2_with fail
  go_ret
  exact ⟨rfl, hbel⟩

set_option maxHeartbeats 1000000 in
theorem cmp_mp {x y : Int} {u v : Value} {K L : Nat} {w : World} (h : BN w u x.natAbs K) (h' : BN w v y.natAbs L) (hK : K ≤ 1073741824) (hL : L ≤ 1073741824) (hp : sgn x = (-1)) (hq : sgn y = 1) :
    Calls Try.prog 33 #[.agg #[.int .i64 (-1), u], .agg #[.int .i64 1, v]] w fun e w' => e = .returned (.int .i64 (zcmp x y)) ∧ Below w.heap.size w w' := by
  have hz : zcmp x y = (-1) := by
    have h1 := sgn_m.1 hp
    have h2 := sgn_p.1 hq
    unfold zcmp
    (repeat' split) <;> omega
  rw [hz]
  clear hz
  obtain ⟨As, ms, cs, rfl⟩ := h.slc
  obtain ⟨At, mt, ct, rfl⟩ := h'.slc
  have hn := Lib.hid ((h.alloc (.cells #[.int .i64 (-1), .slice As ms cs] 30)).alloc (.cells #[.int .i64 1, .slice At mt ct] 30))
  have hn' := Lib.hid ((h'.alloc (.cells #[.int .i64 (-1), .slice As ms cs] 30)).alloc (.cells #[.int .i64 1, .slice At mt ct] 30))
  have hbx := ((Box.new w 30 (.int .i64 (-1)) (.slice As ms cs)).alloc (.cells #[.int .i64 1, .slice At mt ct] 30))
  have hby := (Box.new1 w (.cells #[.int .i64 (-1), .slice As ms cs] 30) 30 (.int .i64 1) (.slice At mt ct))
  have hbel := (below_alloc (below_alloc (Below.refl w.heap.size w) (.cells #[.int .i64 (-1), .slice As ms cs] 30)) (.cells #[.int .i64 1, .slice At mt ct] 30))
  have HP := Lib.hid hp
  have HQ := Lib.hid hq
  clear h h' hp hq
  go_enter Try.func33, Try.ntmps33
  go_wp2_with fail
  generalize ((w.alloc (.cells #[.int .i64 (-1), .slice As ms cs] 30)).alloc (.cells #[.int .i64 1, .slice At mt ct] 30)) = W at *
  have c0 := hbx.c0
  have c1 := hbx.c1
  have c2 := hby.c0
  have c3 := hby.c1
  clear c0 c1 c2 c3
  have c0 := hbx.c0
  have c2 := hby.c0
  go_wp2_with fail
  go_ret
  exact ⟨rfl, hbel⟩

set_option maxHeartbeats 1000000 in
theorem cmp_zm {x y : Int} {u v : Value} {K L : Nat} {w : World} (h : BN w u x.natAbs K) (h' : BN w v y.natAbs L) (hK : K ≤ 1073741824) (hL : L ≤ 1073741824) (hp : sgn x = 0) (hq : sgn y = (-1)) :
    Calls Try.prog 33 #[.agg #[.int .i64 0, u], .agg #[.int .i64 (-1), v]] w fun e w' => e = .returned (.int .i64 (zcmp x y)) ∧ Below w.heap.size w w' := by
  have hz : zcmp x y = 1 := by
    have h1 := sgn_0.1 hp
    have h2 := sgn_m.1 hq
    unfold zcmp
    (repeat' split) <;> omega
  rw [hz]
  clear hz
  obtain ⟨As, ms, cs, rfl⟩ := h.slc
  obtain ⟨At, mt, ct, rfl⟩ := h'.slc
  have hn := Lib.hid ((h.alloc (.cells #[.int .i64 0, .slice As ms cs] 30)).alloc (.cells #[.int .i64 (-1), .slice At mt ct] 30))
  have hn' := Lib.hid ((h'.alloc (.cells #[.int .i64 0, .slice As ms cs] 30)).alloc (.cells #[.int .i64 (-1), .slice At mt ct] 30))
  have hbx := ((Box.new w 30 (.int .i64 0) (.slice As ms cs)).alloc (.cells #[.int .i64 (-1), .slice At mt ct] 30))
  have hby := (Box.new1 w (.cells #[.int .i64 0, .slice As ms cs] 30) 30 (.int .i64 (-1)) (.slice At mt ct))
  have hbel := (below_alloc (below_alloc (Below.refl w.heap.size w) (.cells #[.int .i64 0, .slice As ms cs] 30)) (.cells #[.int .i64 (-1), .slice At mt ct] 30))
  have HP := Lib.hid hp
  have HQ := Lib.hid hq
  clear h h' hp hq
  go_enter Try.func33, Try.ntmps33
  go_wp2_with fail
  generalize ((w.alloc (.cells #[.int .i64 0, .slice As ms cs] 30)).alloc (.cells #[.int .i64 (-1), .slice At mt ct] 30)) = W at *
  have c0 := hbx.c0
  have c1 := hbx.c1
  have c2 := hby.c0
  have c3 := hby.c1
  clear c0 c1 c2 c3
  have c0 := hbx.c0
  have c2 := hby.c0
  go_wp2_with fail
  go_ret
  exact ⟨rfl, hbel⟩

set_option maxHeartbeats 1000000 in
theorem cmp_zz {x y : Int} {u v : Value} {K L : Nat} {w : World} (h : BN w u x.natAbs K) (h' : BN w v y.natAbs L) (hK : K ≤ 1073741824) (hL : L ≤ 1073741824) (hp : sgn x = 0) (hq : sgn y = 0) :
    Calls Try.prog 33 #[.agg #[.int .i64 0, u], .agg #[.int .i64 0, v]] w fun e w' => e = .returned (.int .i64 (zcmp x y)) ∧ Below w.heap.size w w' := by
  have hz : IntKind.i64.wrap (0) = zcmp x y := by
    have h1 := sgn_0.1 hp
    have h2 := sgn_0.1 hq
    have hw : ∀ t : Int, -1 ≤ t → t ≤ 1 → IntKind.i64.wrap t = t := fun t h1 h2 => by unfold IntKind.wrap; simp [IntKind.signed, IntKind.bits]; omega
    have hr := cmpv_range x.natAbs y.natAbs
    rw [hw _ (by omega) (by omega)]
    (try unfold cmpv)
    unfold zcmp
    (repeat' split) <;> omega
  generalize hc : cmpv x.natAbs y.natAbs = cv at *
  have HC := Lib.hid hc
  have HZ := Lib.hid hz
  clear hc hz
  obtain ⟨As, ms, cs, rfl⟩ := h.slc
  obtain ⟨At, mt, ct, rfl⟩ := h'.slc
  have hn := Lib.hid ((h.alloc (.cells #[.int .i64 0, .slice As ms cs] 30)).alloc (.cells #[.int .i64 0, .slice At mt ct] 30))
  have hn' := Lib.hid ((h'.alloc (.cells #[.int .i64 0, .slice As ms cs] 30)).alloc (.cells #[.int .i64 0, .slice At mt ct] 30))
  have hbx := ((Box.new w 30 (.int .i64 0) (.slice As ms cs)).alloc (.cells #[.int .i64 0, .slice At mt ct] 30))
  have hby := (Box.new1 w (.cells #[.int .i64 0, .slice As ms cs] 30) 30 (.int .i64 0) (.slice At mt ct))
  have hbel := (below_alloc (below_alloc (Below.refl w.heap.size w) (.cells #[.int .i64 0, .slice As ms cs] 30)) (.cells #[.int .i64 0, .slice At mt ct] 30))
  have HP := Lib.hid hp
  have HQ := Lib.hid hq
  clear h h' hp hq
  go_enter Try.func33, Try.ntmps33
  go_wp2_with fail
  generalize ((w.alloc (.cells #[.int .i64 0, .slice As ms cs] 30)).alloc (.cells #[.int .i64 0, .slice At mt ct] 30)) = W at *
  have c0 := hbx.c0
  have c1 := hbx.c1
  have c2 := hby.c0
  have c3 := hby.c1
  go_wp2_with fail
  go_region_held3 (fun w' => w'.cell? ⟨w.heap.size, 0, none⟩ = some (.int .i64 0) ∧ w'.cell? ⟨w.heap.size, 1, none⟩ = some (.slice As ms cs) ∧ w'.cell? ⟨w.heap.size + 1, 0, none⟩ = some (.int .i64 0) ∧ w'.cell? ⟨w.heap.size + 1, 1, none⟩ = some (.slice At mt ct))
    (first | go_keep | exact ⟨by assumption, by assumption, by assumption, by assumption⟩ | ((try dsimp only); (repeat' apply And.intro); all_goals go_keep))
    (first
      | (go_at_call 27; refine (cmp_b (hn.out.drewN _) (hn'.out.drewN _) (by omega) (by omega)).mono ?_; rw [HC.out]; rintro e w1 ⟨rfl, hb1⟩; have x1 := hbx.drew.then_ hb1; have z1 := hby.drew.then_ hb1; have d0 := x1.c0; have d1 := x1.c1; have d2 := z1.c0; have d3 := z1.c1; have B1 := below_then (below_drew1 hbel) hbel.size hb1))
  clear c0 c1 c2 c3 d0 d1 d2 d3
  go_wp2_with fail
  go_ret
  exact ⟨ret_int HZ.out, B1⟩

set_option maxHeartbeats 1000000 in
theorem cmp_zp {x y : Int} {u v : Value} {K L : Nat} {w : World} (h : BN w u x.natAbs K) (h' : BN w v y.natAbs L) (hK : K ≤ 1073741824) (hL : L ≤ 1073741824) (hp : sgn x = 0) (hq : sgn y = 1) :
    Calls Try.prog 33 #[.agg #[.int .i64 0, u], .agg #[.int .i64 1, v]] w fun e w' => e = .returned (.int .i64 (zcmp x y)) ∧ Below w.heap.size w w' := by
  have hz : zcmp x y = (-1) := by
    have h1 := sgn_0.1 hp
    have h2 := sgn_p.1 hq
    unfold zcmp
    (repeat' split) <;> omega
  rw [hz]
  clear hz
  obtain ⟨As, ms, cs, rfl⟩ := h.slc
  obtain ⟨At, mt, ct, rfl⟩ := h'.slc
  have hn := Lib.hid ((h.alloc (.cells #[.int .i64 0, .slice As ms cs] 30)).alloc (.cells #[.int .i64 1, .slice At mt ct] 30))
  have hn' := Lib.hid ((h'.alloc (.cells #[.int .i64 0, .slice As ms cs] 30)).alloc (.cells #[.int .i64 1, .slice At mt ct] 30))
  have hbx := ((Box.new w 30 (.int .i64 0) (.slice As ms cs)).alloc (.cells #[.int .i64 1, .slice At mt ct] 30))
  have hby := (Box.new1 w (.cells #[.int .i64 0, .slice As ms cs] 30) 30 (.int .i64 1) (.slice At mt ct))
  have hbel := (below_alloc (below_alloc (Below.refl w.heap.size w) (.cells #[.int .i64 0, .slice As ms cs] 30)) (.cells #[.int .i64 1, .slice At mt ct] 30))
  have HP := Lib.hid hp
  have HQ := Lib.hid hq
  clear h h' hp hq
  go_enter Try.func33, Try.ntmps33
  go_wp2_with fail
  generalize ((w.alloc (.cells #[.int .i64 0, .slice As ms cs] 30)).alloc (.cells #[.int .i64 1, .slice At mt ct] 30)) = W at *
  have c0 := hbx.c0
  have c1 := hbx.c1
  have c2 := hby.c0
  have c3 := hby.c1
  clear c0 c1 c2 c3
  have c0 := hbx.c0
  have c2 := hby.c0
  go_wp2_with fail
  go_ret
  exact ⟨rfl, hbel⟩

set_option maxHeartbeats 1000000 in
theorem cmp_pm {x y : Int} {u v : Value} {K L : Nat} {w : World} (h : BN w u x.natAbs K) (h' : BN w v y.natAbs L) (hK : K ≤ 1073741824) (hL : L ≤ 1073741824) (hp : sgn x = 1) (hq : sgn y = (-1)) :
    Calls Try.prog 33 #[.agg #[.int .i64 1, u], .agg #[.int .i64 (-1), v]] w fun e w' => e = .returned (.int .i64 (zcmp x y)) ∧ Below w.heap.size w w' := by
  have hz : zcmp x y = 1 := by
    have h1 := sgn_p.1 hp
    have h2 := sgn_m.1 hq
    unfold zcmp
    (repeat' split) <;> omega
  rw [hz]
  clear hz
  obtain ⟨As, ms, cs, rfl⟩ := h.slc
  obtain ⟨At, mt, ct, rfl⟩ := h'.slc
  have hn := Lib.hid ((h.alloc (.cells #[.int .i64 1, .slice As ms cs] 30)).alloc (.cells #[.int .i64 (-1), .slice At mt ct] 30))
  have hn' := Lib.hid ((h'.alloc (.cells #[.int .i64 1, .slice As ms cs] 30)).alloc (.cells #[.int .i64 (-1), .slice At mt ct] 30))
  have hbx := ((Box.new w 30 (.int .i64 1) (.slice As ms cs)).alloc (.cells #[.int .i64 (-1), .slice At mt ct] 30))
  have hby := (Box.new1 w (.cells #[.int .i64 1, .slice As ms cs] 30) 30 (.int .i64 (-1)) (.slice At mt ct))
  have hbel := (below_alloc (below_alloc (Below.refl w.heap.size w) (.cells #[.int .i64 1, .slice As ms cs] 30)) (.cells #[.int .i64 (-1), .slice At mt ct] 30))
  have HP := Lib.hid hp
  have HQ := Lib.hid hq
  clear h h' hp hq
  go_enter Try.func33, Try.ntmps33
  go_wp2_with fail
  generalize ((w.alloc (.cells #[.int .i64 1, .slice As ms cs] 30)).alloc (.cells #[.int .i64 (-1), .slice At mt ct] 30)) = W at *
  have c0 := hbx.c0
  have c1 := hbx.c1
  have c2 := hby.c0
  have c3 := hby.c1
  clear c0 c1 c2 c3
  have c0 := hbx.c0
  have c2 := hby.c0
  go_wp2_with fail
  go_ret
  exact ⟨rfl, hbel⟩

set_option maxHeartbeats 1000000 in
theorem cmp_pz {x y : Int} {u v : Value} {K L : Nat} {w : World} (h : BN w u x.natAbs K) (h' : BN w v y.natAbs L) (hK : K ≤ 1073741824) (hL : L ≤ 1073741824) (hp : sgn x = 1) (hq : sgn y = 0) :
    Calls Try.prog 33 #[.agg #[.int .i64 1, u], .agg #[.int .i64 0, v]] w fun e w' => e = .returned (.int .i64 (zcmp x y)) ∧ Below w.heap.size w w' := by
  have hz : zcmp x y = 1 := by
    have h1 := sgn_p.1 hp
    have h2 := sgn_0.1 hq
    unfold zcmp
    (repeat' split) <;> omega
  rw [hz]
  clear hz
  obtain ⟨As, ms, cs, rfl⟩ := h.slc
  obtain ⟨At, mt, ct, rfl⟩ := h'.slc
  have hn := Lib.hid ((h.alloc (.cells #[.int .i64 1, .slice As ms cs] 30)).alloc (.cells #[.int .i64 0, .slice At mt ct] 30))
  have hn' := Lib.hid ((h'.alloc (.cells #[.int .i64 1, .slice As ms cs] 30)).alloc (.cells #[.int .i64 0, .slice At mt ct] 30))
  have hbx := ((Box.new w 30 (.int .i64 1) (.slice As ms cs)).alloc (.cells #[.int .i64 0, .slice At mt ct] 30))
  have hby := (Box.new1 w (.cells #[.int .i64 1, .slice As ms cs] 30) 30 (.int .i64 0) (.slice At mt ct))
  have hbel := (below_alloc (below_alloc (Below.refl w.heap.size w) (.cells #[.int .i64 1, .slice As ms cs] 30)) (.cells #[.int .i64 0, .slice At mt ct] 30))
  have HP := Lib.hid hp
  have HQ := Lib.hid hq
  clear h h' hp hq
  go_enter Try.func33, Try.ntmps33
  go_wp2_with fail
  generalize ((w.alloc (.cells #[.int .i64 1, .slice As ms cs] 30)).alloc (.cells #[.int .i64 0, .slice At mt ct] 30)) = W at *
  have c0 := hbx.c0
  have c1 := hbx.c1
  have c2 := hby.c0
  have c3 := hby.c1
  clear c0 c1 c2 c3
  have c0 := hbx.c0
  have c2 := hby.c0
  go_wp2_with fail
  go_ret
  exact ⟨rfl, hbel⟩

set_option maxHeartbeats 1000000 in
theorem cmp_pp {x y : Int} {u v : Value} {K L : Nat} {w : World} (h : BN w u x.natAbs K) (h' : BN w v y.natAbs L) (hK : K ≤ 1073741824) (hL : L ≤ 1073741824) (hp : sgn x = 1) (hq : sgn y = 1) :
    Calls Try.prog 33 #[.agg #[.int .i64 1, u], .agg #[.int .i64 1, v]] w fun e w' => e = .returned (.int .i64 (zcmp x y)) ∧ Below w.heap.size w w' := by
  have hz : IntKind.i64.wrap (cmpv x.natAbs y.natAbs) = zcmp x y := by
    have h1 := sgn_p.1 hp
    have h2 := sgn_p.1 hq
    have hw : ∀ t : Int, -1 ≤ t → t ≤ 1 → IntKind.i64.wrap t = t := fun t h1 h2 => by unfold IntKind.wrap; simp [IntKind.signed, IntKind.bits]; omega
    have hr := cmpv_range x.natAbs y.natAbs
    rw [hw _ (by omega) (by omega)]
    (try unfold cmpv)
    unfold zcmp
    (repeat' split) <;> omega
  generalize hc : cmpv x.natAbs y.natAbs = cv at *
  have HC := Lib.hid hc
  have HZ := Lib.hid hz
  clear hc hz
  obtain ⟨As, ms, cs, rfl⟩ := h.slc
  obtain ⟨At, mt, ct, rfl⟩ := h'.slc
  have hn := Lib.hid ((h.alloc (.cells #[.int .i64 1, .slice As ms cs] 30)).alloc (.cells #[.int .i64 1, .slice At mt ct] 30))
  have hn' := Lib.hid ((h'.alloc (.cells #[.int .i64 1, .slice As ms cs] 30)).alloc (.cells #[.int .i64 1, .slice At mt ct] 30))
  have hbx := ((Box.new w 30 (.int .i64 1) (.slice As ms cs)).alloc (.cells #[.int .i64 1, .slice At mt ct] 30))
  have hby := (Box.new1 w (.cells #[.int .i64 1, .slice As ms cs] 30) 30 (.int .i64 1) (.slice At mt ct))
  have hbel := (below_alloc (below_alloc (Below.refl w.heap.size w) (.cells #[.int .i64 1, .slice As ms cs] 30)) (.cells #[.int .i64 1, .slice At mt ct] 30))
  have HP := Lib.hid hp
  have HQ := Lib.hid hq
  clear h h' hp hq
  go_enter Try.func33, Try.ntmps33
  go_wp2_with fail
  generalize ((w.alloc (.cells #[.int .i64 1, .slice As ms cs] 30)).alloc (.cells #[.int .i64 1, .slice At mt ct] 30)) = W at *
  have c0 := hbx.c0
  have c1 := hbx.c1
  have c2 := hby.c0
  have c3 := hby.c1
  go_wp2_with fail
  go_region_held3 (fun w' => w'.cell? ⟨w.heap.size, 0, none⟩ = some (.int .i64 1) ∧ w'.cell? ⟨w.heap.size, 1, none⟩ = some (.slice As ms cs) ∧ w'.cell? ⟨w.heap.size + 1, 0, none⟩ = some (.int .i64 1) ∧ w'.cell? ⟨w.heap.size + 1, 1, none⟩ = some (.slice At mt ct))
    (first | go_keep | exact ⟨by assumption, by assumption, by assumption, by assumption⟩ | ((try dsimp only); (repeat' apply And.intro); all_goals go_keep))
    (first
      | (go_at_call 27; refine (cmp_b (hn.out.drewN _) (hn'.out.drewN _) (by omega) (by omega)).mono ?_; rw [HC.out]; rintro e w1 ⟨rfl, hb1⟩; have x1 := hbx.drew.then_ hb1; have z1 := hby.drew.then_ hb1; have d0 := x1.c0; have d1 := x1.c1; have d2 := z1.c0; have d3 := z1.c1; have B1 := below_then (below_drew1 hbel) hbel.size hb1))
  clear c0 c1 c2 c3 d0 d1 d2 d3
  go_wp2_with fail
  go_ret
  exact ⟨ret_int HZ.out, B1⟩

set_option maxHeartbeats 1000000 in
theorem mul_mm {x y : Int} {u v : Value} {K L : Nat} {w : World} (h : BN w u x.natAbs K) (h' : BN w v y.natAbs L) (hK : K ≤ 1073741824) (hL : L ≤ 1073741824) (hp : sgn x = (-1)) (hq : sgn y = (-1)) :
    Calls Try.prog 18 #[.agg #[.int .i64 (-1), u], .agg #[.int .i64 (-1), v]] w (MadeZB w (sg false (x.natAbs * y.natAbs)) (K + L)) := by
  obtain ⟨As, ms, cs, rfl⟩ := h.slc
  obtain ⟨At, mt, ct, rfl⟩ := h'.slc
  have hn := Lib.hid (((h.alloc (.cells #[.int .i64 (-1), .slice As ms cs] 30)).alloc (.cells #[.int .i64 (-1), .slice At mt ct] 30)).alloc (.cells #[.int .i64 0, .slice none 0 0] 30))
  have hn' := Lib.hid (((h'.alloc (.cells #[.int .i64 (-1), .slice As ms cs] 30)).alloc (.cells #[.int .i64 (-1), .slice At mt ct] 30)).alloc (.cells #[.int .i64 0, .slice none 0 0] 30))
  have hbx := (((Box.new w 30 (.int .i64 (-1)) (.slice As ms cs)).alloc (.cells #[.int .i64 (-1), .slice At mt ct] 30)).alloc (.cells #[.int .i64 0, .slice none 0 0] 30))
  have hby := ((Box.new1 w (.cells #[.int .i64 (-1), .slice As ms cs] 30) 30 (.int .i64 (-1)) (.slice At mt ct)).alloc (.cells #[.int .i64 0, .slice none 0 0] 30))
  have hres := Box.new2 w (.cells #[.int .i64 (-1), .slice As ms cs] 30) (.cells #[.int .i64 (-1), .slice At mt ct] 30) 30 (.int .i64 0) (.slice none 0 0)
  have hbel := (below_alloc (below_alloc (below_alloc (Below.refl w.heap.size w) (.cells #[.int .i64 (-1), .slice As ms cs] 30)) (.cells #[.int .i64 (-1), .slice At mt ct] 30)) (.cells #[.int .i64 0, .slice none 0 0] 30))
  have HP := Lib.hid hp
  have HQ := Lib.hid hq
  clear h h' hp hq
  go_enter Try.func18, Try.ntmps18
  go_wp2_with fail
  generalize (((w.alloc (.cells #[.int .i64 (-1), .slice As ms cs] 30)).alloc (.cells #[.int .i64 (-1), .slice At mt ct] 30)).alloc (.cells #[.int .i64 0, .slice none 0 0] 30)) = W at *
  have c0 := hbx.c0
  have c1 := hbx.c1
  have c2 := hby.c0
  have c3 := hby.c1
  have hne1 : w.heap.size ≠ w.heap.size + 1 + 1 := by omega
  have hne2 := hne1.symm
  go_region_held3 (fun w' => w'.cell? ⟨w.heap.size, 0, none⟩ = some (.int .i64 (-1)) ∧ w'.cell? ⟨w.heap.size, 1, none⟩ = some (.slice As ms cs) ∧ w'.cell? ⟨w.heap.size + 1, 0, none⟩ = some (.int .i64 (-1)) ∧ w'.cell? ⟨w.heap.size + 1, 1, none⟩ = some (.slice At mt ct))
    (first | go_keep | exact ⟨by assumption, by assumption, by assumption, by assumption⟩ | ((try dsimp only); (repeat' apply And.intro); all_goals go_keep))
    (first
      | (go_at_call 47; refine (mul_b (hn.out.drewN _) (hn'.out.drewN _) (by omega) (by omega)).mono ?_; rintro e w1 ⟨v1, rfl, hn1, hb1⟩; have x1 := hbx.drew.then_ hb1; have y1 := hres.drew.then_ hb1; have d0 := x1.c0; have d1 := x1.c1; have z1 := hby.drew.then_ hb1; have d2 := z1.c0; have d3 := z1.c1; have B1 := below_then (below_drew1 hbel) hbel.size hb1)
      | (go_at_call 14; refine (make_b false hn1).mono ?_; rintro e w2 ⟨v2, rfl, hn2, hb2⟩; have x2 := x1.then_ hb2; have y2 := y1.then_ hb2; have e0 := x2.c0; have e1 := x2.c1; have z2 := z1.then_ hb2; have e2 := z2.c0; have e3 := z2.c1; have B2 := below_then B1 B1.size hb2; obtain ⟨A, m, c, rfl⟩ := BN.slc hn2; obtain ⟨p0, p1, p2, p3⟩ := y2.rdy (.int .i64 (sgn (sg false (x.natAbs * y.natAbs))))))
  go_wp2_with fail
  refine bodyPost_ret (results_cell_row rfl _ _ (w.heap.size + 2) 30 _ (0, 0) _ rfl ((y2.set0 _).set1 _) Try.underlying30 rfl (by kernel_rfl)) rfl ?_
  exact MadeZB.put hn2 y2 (by omega) B2

set_option maxHeartbeats 1000000 in
theorem mul_mz {x y : Int} {u v : Value} {K L : Nat} {w : World} (h : BN w u x.natAbs K) (h' : BN w v y.natAbs L) (hK : K ≤ 1073741824) (hL : L ≤ 1073741824) (hp : sgn x = (-1)) (hq : sgn y = 0) :
    Calls Try.prog 18 #[.agg #[.int .i64 (-1), u], .agg #[.int .i64 0, v]] w (MadeZB w (sg false (x.natAbs * y.natAbs)) (K + L)) := by
  obtain ⟨As, ms, cs, rfl⟩ := h.slc
  obtain ⟨At, mt, ct, rfl⟩ := h'.slc
  have hn := Lib.hid (((h.alloc (.cells #[.int .i64 (-1), .slice As ms cs] 30)).alloc (.cells #[.int .i64 0, .slice At mt ct] 30)).alloc (.cells #[.int .i64 0, .slice none 0 0] 30))
  have hn' := Lib.hid (((h'.alloc (.cells #[.int .i64 (-1), .slice As ms cs] 30)).alloc (.cells #[.int .i64 0, .slice At mt ct] 30)).alloc (.cells #[.int .i64 0, .slice none 0 0] 30))
  have hbx := (((Box.new w 30 (.int .i64 (-1)) (.slice As ms cs)).alloc (.cells #[.int .i64 0, .slice At mt ct] 30)).alloc (.cells #[.int .i64 0, .slice none 0 0] 30))
  have hby := ((Box.new1 w (.cells #[.int .i64 (-1), .slice As ms cs] 30) 30 (.int .i64 0) (.slice At mt ct)).alloc (.cells #[.int .i64 0, .slice none 0 0] 30))
  have hres := Box.new2 w (.cells #[.int .i64 (-1), .slice As ms cs] 30) (.cells #[.int .i64 0, .slice At mt ct] 30) 30 (.int .i64 0) (.slice none 0 0)
  have hbel := (below_alloc (below_alloc (below_alloc (Below.refl w.heap.size w) (.cells #[.int .i64 (-1), .slice As ms cs] 30)) (.cells #[.int .i64 0, .slice At mt ct] 30)) (.cells #[.int .i64 0, .slice none 0 0] 30))
  have HP := Lib.hid hp
  have HQ := Lib.hid hq
  clear h h' hp hq
  go_enter Try.func18, Try.ntmps18
  go_wp2_with fail
  generalize (((w.alloc (.cells #[.int .i64 (-1), .slice As ms cs] 30)).alloc (.cells #[.int .i64 0, .slice At mt ct] 30)).alloc (.cells #[.int .i64 0, .slice none 0 0] 30)) = W at *
  have c0 := hbx.c0
  have c1 := hbx.c1
  have c2 := hby.c0
  have c3 := hby.c1
  have hne1 : w.heap.size ≠ w.heap.size + 1 + 1 := by omega
  have hne2 := hne1.symm
  go_region_held3 (fun w' => w'.cell? ⟨w.heap.size, 0, none⟩ = some (.int .i64 (-1)) ∧ w'.cell? ⟨w.heap.size, 1, none⟩ = some (.slice As ms cs) ∧ w'.cell? ⟨w.heap.size + 1, 0, none⟩ = some (.int .i64 0) ∧ w'.cell? ⟨w.heap.size + 1, 1, none⟩ = some (.slice At mt ct))
    (first | go_keep | exact ⟨by assumption, by assumption, by assumption, by assumption⟩ | ((try dsimp only); (repeat' apply And.intro); all_goals go_keep))
    (first
      | (go_at_call 47; refine (mul_b (hn.out.drewN _) (hn'.out.drewN _) (by omega) (by omega)).mono ?_; rintro e w1 ⟨v1, rfl, hn1, hb1⟩; have x1 := hbx.drew.then_ hb1; have y1 := hres.drew.then_ hb1; have d0 := x1.c0; have d1 := x1.c1; have z1 := hby.drew.then_ hb1; have d2 := z1.c0; have d3 := z1.c1; have B1 := below_then (below_drew1 hbel) hbel.size hb1)
      | (go_at_call 14; refine (make_b false hn1).mono ?_; rintro e w2 ⟨v2, rfl, hn2, hb2⟩; have x2 := x1.then_ hb2; have y2 := y1.then_ hb2; have e0 := x2.c0; have e1 := x2.c1; have z2 := z1.then_ hb2; have e2 := z2.c0; have e3 := z2.c1; have B2 := below_then B1 B1.size hb2; obtain ⟨A, m, c, rfl⟩ := BN.slc hn2; obtain ⟨p0, p1, p2, p3⟩ := y2.rdy (.int .i64 (sgn (sg false (x.natAbs * y.natAbs))))))
  go_wp2_with fail
  refine bodyPost_ret (results_cell_row rfl _ _ (w.heap.size + 2) 30 _ (0, 0) _ rfl ((y2.set0 _).set1 _) Try.underlying30 rfl (by kernel_rfl)) rfl ?_
  exact MadeZB.put hn2 y2 (by omega) B2

set_option maxHeartbeats 1000000 in
theorem mul_mp {x y : Int} {u v : Value} {K L : Nat} {w : World} (h : BN w u x.natAbs K) (h' : BN w v y.natAbs L) (hK : K ≤ 1073741824) (hL : L ≤ 1073741824) (hp : sgn x = (-1)) (hq : sgn y = 1) :
    Calls Try.prog 18 #[.agg #[.int .i64 (-1), u], .agg #[.int .i64 1, v]] w (MadeZB w (sg true (x.natAbs * y.natAbs)) (K + L)) := by
  obtain ⟨As, ms, cs, rfl⟩ := h.slc
  obtain ⟨At, mt, ct, rfl⟩ := h'.slc
  have hn := Lib.hid (((h.alloc (.cells #[.int .i64 (-1), .slice As ms cs] 30)).alloc (.cells #[.int .i64 1, .slice At mt ct] 30)).alloc (.cells #[.int .i64 0, .slice none 0 0] 30))
  have hn' := Lib.hid (((h'.alloc (.cells #[.int .i64 (-1), .slice As ms cs] 30)).alloc (.cells #[.int .i64 1, .slice At mt ct] 30)).alloc (.cells #[.int .i64 0, .slice none 0 0] 30))
  have hbx := (((Box.new w 30 (.int .i64 (-1)) (.slice As ms cs)).alloc (.cells #[.int .i64 1, .slice At mt ct] 30)).alloc (.cells #[.int .i64 0, .slice none 0 0] 30))
  have hby := ((Box.new1 w (.cells #[.int .i64 (-1), .slice As ms cs] 30) 30 (.int .i64 1) (.slice At mt ct)).alloc (.cells #[.int .i64 0, .slice none 0 0] 30))
  have hres := Box.new2 w (.cells #[.int .i64 (-1), .slice As ms cs] 30) (.cells #[.int .i64 1, .slice At mt ct] 30) 30 (.int .i64 0) (.slice none 0 0)
  have hbel := (below_alloc (below_alloc (below_alloc (Below.refl w.heap.size w) (.cells #[.int .i64 (-1), .slice As ms cs] 30)) (.cells #[.int .i64 1, .slice At mt ct] 30)) (.cells #[.int .i64 0, .slice none 0 0] 30))
  have HP := Lib.hid hp
  have HQ := Lib.hid hq
  clear h h' hp hq
  go_enter Try.func18, Try.ntmps18
  go_wp2_with fail
  generalize (((w.alloc (.cells #[.int .i64 (-1), .slice As ms cs] 30)).alloc (.cells #[.int .i64 1, .slice At mt ct] 30)).alloc (.cells #[.int .i64 0, .slice none 0 0] 30)) = W at *
  have c0 := hbx.c0
  have c1 := hbx.c1
  have c2 := hby.c0
  have c3 := hby.c1
  have hne1 : w.heap.size ≠ w.heap.size + 1 + 1 := by omega
  have hne2 := hne1.symm
  go_region_held3 (fun w' => w'.cell? ⟨w.heap.size, 0, none⟩ = some (.int .i64 (-1)) ∧ w'.cell? ⟨w.heap.size, 1, none⟩ = some (.slice As ms cs) ∧ w'.cell? ⟨w.heap.size + 1, 0, none⟩ = some (.int .i64 1) ∧ w'.cell? ⟨w.heap.size + 1, 1, none⟩ = some (.slice At mt ct))
    (first | go_keep | exact ⟨by assumption, by assumption, by assumption, by assumption⟩ | ((try dsimp only); (repeat' apply And.intro); all_goals go_keep))
    (first
      | (go_at_call 47; refine (mul_b (hn.out.drewN _) (hn'.out.drewN _) (by omega) (by omega)).mono ?_; rintro e w1 ⟨v1, rfl, hn1, hb1⟩; have x1 := hbx.drew.then_ hb1; have y1 := hres.drew.then_ hb1; have d0 := x1.c0; have d1 := x1.c1; have z1 := hby.drew.then_ hb1; have d2 := z1.c0; have d3 := z1.c1; have B1 := below_then (below_drew1 hbel) hbel.size hb1)
      | (go_at_call 14; refine (make_b true hn1).mono ?_; rintro e w2 ⟨v2, rfl, hn2, hb2⟩; have x2 := x1.then_ hb2; have y2 := y1.then_ hb2; have e0 := x2.c0; have e1 := x2.c1; have z2 := z1.then_ hb2; have e2 := z2.c0; have e3 := z2.c1; have B2 := below_then B1 B1.size hb2; obtain ⟨A, m, c, rfl⟩ := BN.slc hn2; obtain ⟨p0, p1, p2, p3⟩ := y2.rdy (.int .i64 (sgn (sg true (x.natAbs * y.natAbs))))))
  go_wp2_with fail
  refine bodyPost_ret (results_cell_row rfl _ _ (w.heap.size + 2) 30 _ (0, 0) _ rfl ((y2.set0 _).set1 _) Try.underlying30 rfl (by kernel_rfl)) rfl ?_
  exact MadeZB.put hn2 y2 (by omega) B2

set_option maxHeartbeats 1000000 in
theorem mul_zm {x y : Int} {u v : Value} {K L : Nat} {w : World} (h : BN w u x.natAbs K) (h' : BN w v y.natAbs L) (hK : K ≤ 1073741824) (hL : L ≤ 1073741824) (hp : sgn x = 0) (hq : sgn y = (-1)) :
    Calls Try.prog 18 #[.agg #[.int .i64 0, u], .agg #[.int .i64 (-1), v]] w (MadeZB w (sg false (x.natAbs * y.natAbs)) (K + L)) := by
  obtain ⟨As, ms, cs, rfl⟩ := h.slc
  obtain ⟨At, mt, ct, rfl⟩ := h'.slc
  have hn := Lib.hid (((h.alloc (.cells #[.int .i64 0, .slice As ms cs] 30)).alloc (.cells #[.int .i64 (-1), .slice At mt ct] 30)).alloc (.cells #[.int .i64 0, .slice none 0 0] 30))
  have hn' := Lib.hid (((h'.alloc (.cells #[.int .i64 0, .slice As ms cs] 30)).alloc (.cells #[.int .i64 (-1), .slice At mt ct] 30)).alloc (.cells #[.int .i64 0, .slice none 0 0] 30))
  have hbx := (((Box.new w 30 (.int .i64 0) (.slice As ms cs)).alloc (.cells #[.int .i64 (-1), .slice At mt ct] 30)).alloc (.cells #[.int .i64 0, .slice none 0 0] 30))
  have hby := ((Box.new1 w (.cells #[.int .i64 0, .slice As ms cs] 30) 30 (.int .i64 (-1)) (.slice At mt ct)).alloc (.cells #[.int .i64 0, .slice none 0 0] 30))
  have hres := Box.new2 w (.cells #[.int .i64 0, .slice As ms cs] 30) (.cells #[.int .i64 (-1), .slice At mt ct] 30) 30 (.int .i64 0) (.slice none 0 0)
  have hbel := (below_alloc (below_alloc (below_alloc (Below.refl w.heap.size w) (.cells #[.int .i64 0, .slice As ms cs] 30)) (.cells #[.int .i64 (-1), .slice At mt ct] 30)) (.cells #[.int .i64 0, .slice none 0 0] 30))
  have HP := Lib.hid hp
  have HQ := Lib.hid hq
  clear h h' hp hq
  go_enter Try.func18, Try.ntmps18
  go_wp2_with fail
  generalize (((w.alloc (.cells #[.int .i64 0, .slice As ms cs] 30)).alloc (.cells #[.int .i64 (-1), .slice At mt ct] 30)).alloc (.cells #[.int .i64 0, .slice none 0 0] 30)) = W at *
  have c0 := hbx.c0
  have c1 := hbx.c1
  have c2 := hby.c0
  have c3 := hby.c1
  have hne1 : w.heap.size ≠ w.heap.size + 1 + 1 := by omega
  have hne2 := hne1.symm
  go_region_held3 (fun w' => w'.cell? ⟨w.heap.size, 0, none⟩ = some (.int .i64 0) ∧ w'.cell? ⟨w.heap.size, 1, none⟩ = some (.slice As ms cs) ∧ w'.cell? ⟨w.heap.size + 1, 0, none⟩ = some (.int .i64 (-1)) ∧ w'.cell? ⟨w.heap.size + 1, 1, none⟩ = some (.slice At mt ct))
    (first | go_keep | exact ⟨by assumption, by assumption, by assumption, by assumption⟩ | ((try dsimp only); (repeat' apply And.intro); all_goals go_keep))
    (first
      | (go_at_call 47; refine (mul_b (hn.out.drewN _) (hn'.out.drewN _) (by omega) (by omega)).mono ?_; rintro e w1 ⟨v1, rfl, hn1, hb1⟩; have x1 := hbx.drew.then_ hb1; have y1 := hres.drew.then_ hb1; have d0 := x1.c0; have d1 := x1.c1; have z1 := hby.drew.then_ hb1; have d2 := z1.c0; have d3 := z1.c1; have B1 := below_then (below_drew1 hbel) hbel.size hb1)
      | (go_at_call 14; refine (make_b false hn1).mono ?_; rintro e w2 ⟨v2, rfl, hn2, hb2⟩; have x2 := x1.then_ hb2; have y2 := y1.then_ hb2; have e0 := x2.c0; have e1 := x2.c1; have z2 := z1.then_ hb2; have e2 := z2.c0; have e3 := z2.c1; have B2 := below_then B1 B1.size hb2; obtain ⟨A, m, c, rfl⟩ := BN.slc hn2; obtain ⟨p0, p1, p2, p3⟩ := y2.rdy (.int .i64 (sgn (sg false (x.natAbs * y.natAbs))))))
  go_wp2_with fail
  refine bodyPost_ret (results_cell_row rfl _ _ (w.heap.size + 2) 30 _ (0, 0) _ rfl ((y2.set0 _).set1 _) Try.underlying30 rfl (by kernel_rfl)) rfl ?_
  exact MadeZB.put hn2 y2 (by omega) B2

set_option maxHeartbeats 1000000 in
theorem mul_zz {x y : Int} {u v : Value} {K L : Nat} {w : World} (h : BN w u x.natAbs K) (h' : BN w v y.natAbs L) (hK : K ≤ 1073741824) (hL : L ≤ 1073741824) (hp : sgn x = 0) (hq : sgn y = 0) :
    Calls Try.prog 18 #[.agg #[.int .i64 0, u], .agg #[.int .i64 0, v]] w (MadeZB w (sg false (x.natAbs * y.natAbs)) (K + L)) := by
  obtain ⟨As, ms, cs, rfl⟩ := h.slc
  obtain ⟨At, mt, ct, rfl⟩ := h'.slc
  have hn := Lib.hid (((h.alloc (.cells #[.int .i64 0, .slice As ms cs] 30)).alloc (.cells #[.int .i64 0, .slice At mt ct] 30)).alloc (.cells #[.int .i64 0, .slice none 0 0] 30))
  have hn' := Lib.hid (((h'.alloc (.cells #[.int .i64 0, .slice As ms cs] 30)).alloc (.cells #[.int .i64 0, .slice At mt ct] 30)).alloc (.cells #[.int .i64 0, .slice none 0 0] 30))
  have hbx := (((Box.new w 30 (.int .i64 0) (.slice As ms cs)).alloc (.cells #[.int .i64 0, .slice At mt ct] 30)).alloc (.cells #[.int .i64 0, .slice none 0 0] 30))
  have hby := ((Box.new1 w (.cells #[.int .i64 0, .slice As ms cs] 30) 30 (.int .i64 0) (.slice At mt ct)).alloc (.cells #[.int .i64 0, .slice none 0 0] 30))
  have hres := Box.new2 w (.cells #[.int .i64 0, .slice As ms cs] 30) (.cells #[.int .i64 0, .slice At mt ct] 30) 30 (.int .i64 0) (.slice none 0 0)
  have hbel := (below_alloc (below_alloc (below_alloc (Below.refl w.heap.size w) (.cells #[.int .i64 0, .slice As ms cs] 30)) (.cells #[.int .i64 0, .slice At mt ct] 30)) (.cells #[.int .i64 0, .slice none 0 0] 30))
  have HP := Lib.hid hp
  have HQ := Lib.hid hq
  clear h h' hp hq
  go_enter Try.func18, Try.ntmps18
  go_wp2_with fail
  generalize (((w.alloc (.cells #[.int .i64 0, .slice As ms cs] 30)).alloc (.cells #[.int .i64 0, .slice At mt ct] 30)).alloc (.cells #[.int .i64 0, .slice none 0 0] 30)) = W at *
  have c0 := hbx.c0
  have c1 := hbx.c1
  have c2 := hby.c0
  have c3 := hby.c1
  have hne1 : w.heap.size ≠ w.heap.size + 1 + 1 := by omega
  have hne2 := hne1.symm
  go_region_held3 (fun w' => w'.cell? ⟨w.heap.size, 0, none⟩ = some (.int .i64 0) ∧ w'.cell? ⟨w.heap.size, 1, none⟩ = some (.slice As ms cs) ∧ w'.cell? ⟨w.heap.size + 1, 0, none⟩ = some (.int .i64 0) ∧ w'.cell? ⟨w.heap.size + 1, 1, none⟩ = some (.slice At mt ct))
    (first | go_keep | exact ⟨by assumption, by assumption, by assumption, by assumption⟩ | ((try dsimp only); (repeat' apply And.intro); all_goals go_keep))
    (first
      | (go_at_call 47; refine (mul_b (hn.out.drewN _) (hn'.out.drewN _) (by omega) (by omega)).mono ?_; rintro e w1 ⟨v1, rfl, hn1, hb1⟩; have x1 := hbx.drew.then_ hb1; have y1 := hres.drew.then_ hb1; have d0 := x1.c0; have d1 := x1.c1; have z1 := hby.drew.then_ hb1; have d2 := z1.c0; have d3 := z1.c1; have B1 := below_then (below_drew1 hbel) hbel.size hb1)
      | (go_at_call 14; refine (make_b false hn1).mono ?_; rintro e w2 ⟨v2, rfl, hn2, hb2⟩; have x2 := x1.then_ hb2; have y2 := y1.then_ hb2; have e0 := x2.c0; have e1 := x2.c1; have z2 := z1.then_ hb2; have e2 := z2.c0; have e3 := z2.c1; have B2 := below_then B1 B1.size hb2; obtain ⟨A, m, c, rfl⟩ := BN.slc hn2; obtain ⟨p0, p1, p2, p3⟩ := y2.rdy (.int .i64 (sgn (sg false (x.natAbs * y.natAbs))))))
  go_wp2_with fail
  refine bodyPost_ret (results_cell_row rfl _ _ (w.heap.size + 2) 30 _ (0, 0) _ rfl ((y2.set0 _).set1 _) Try.underlying30 rfl (by kernel_rfl)) rfl ?_
  exact MadeZB.put hn2 y2 (by omega) B2

set_option maxHeartbeats 1000000 in
theorem mul_zp {x y : Int} {u v : Value} {K L : Nat} {w : World} (h : BN w u x.natAbs K) (h' : BN w v y.natAbs L) (hK : K ≤ 1073741824) (hL : L ≤ 1073741824) (hp : sgn x = 0) (hq : sgn y = 1) :
    Calls Try.prog 18 #[.agg #[.int .i64 0, u], .agg #[.int .i64 1, v]] w (MadeZB w (sg false (x.natAbs * y.natAbs)) (K + L)) := by
  obtain ⟨As, ms, cs, rfl⟩ := h.slc
  obtain ⟨At, mt, ct, rfl⟩ := h'.slc
  have hn := Lib.hid (((h.alloc (.cells #[.int .i64 0, .slice As ms cs] 30)).alloc (.cells #[.int .i64 1, .slice At mt ct] 30)).alloc (.cells #[.int .i64 0, .slice none 0 0] 30))
  have hn' := Lib.hid (((h'.alloc (.cells #[.int .i64 0, .slice As ms cs] 30)).alloc (.cells #[.int .i64 1, .slice At mt ct] 30)).alloc (.cells #[.int .i64 0, .slice none 0 0] 30))
  have hbx := (((Box.new w 30 (.int .i64 0) (.slice As ms cs)).alloc (.cells #[.int .i64 1, .slice At mt ct] 30)).alloc (.cells #[.int .i64 0, .slice none 0 0] 30))
  have hby := ((Box.new1 w (.cells #[.int .i64 0, .slice As ms cs] 30) 30 (.int .i64 1) (.slice At mt ct)).alloc (.cells #[.int .i64 0, .slice none 0 0] 30))
  have hres := Box.new2 w (.cells #[.int .i64 0, .slice As ms cs] 30) (.cells #[.int .i64 1, .slice At mt ct] 30) 30 (.int .i64 0) (.slice none 0 0)
  have hbel := (below_alloc (below_alloc (below_alloc (Below.refl w.heap.size w) (.cells #[.int .i64 0, .slice As ms cs] 30)) (.cells #[.int .i64 1, .slice At mt ct] 30)) (.cells #[.int .i64 0, .slice none 0 0] 30))
  have HP := Lib.hid hp
  have HQ := Lib.hid hq
  clear h h' hp hq
  go_enter Try.func18, Try.ntmps18
  go_wp2_with fail
  generalize (((w.alloc (.cells #[.int .i64 0, .slice As ms cs] 30)).alloc (.cells #[.int .i64 1, .slice At mt ct] 30)).alloc (.cells #[.int .i64 0, .slice none 0 0] 30)) = W at *
  have c0 := hbx.c0
  have c1 := hbx.c1
  have c2 := hby.c0
  have c3 := hby.c1
  have hne1 : w.heap.size ≠ w.heap.size + 1 + 1 := by omega
  have hne2 := hne1.symm
  go_region_held3 (fun w' => w'.cell? ⟨w.heap.size, 0, none⟩ = some (.int .i64 0) ∧ w'.cell? ⟨w.heap.size, 1, none⟩ = some (.slice As ms cs) ∧ w'.cell? ⟨w.heap.size + 1, 0, none⟩ = some (.int .i64 1) ∧ w'.cell? ⟨w.heap.size + 1, 1, none⟩ = some (.slice At mt ct))
    (first | go_keep | exact ⟨by assumption, by assumption, by assumption, by assumption⟩ | ((try dsimp only); (repeat' apply And.intro); all_goals go_keep))
    (first
      | (go_at_call 47; refine (mul_b (hn.out.drewN _) (hn'.out.drewN _) (by omega) (by omega)).mono ?_; rintro e w1 ⟨v1, rfl, hn1, hb1⟩; have x1 := hbx.drew.then_ hb1; have y1 := hres.drew.then_ hb1; have d0 := x1.c0; have d1 := x1.c1; have z1 := hby.drew.then_ hb1; have d2 := z1.c0; have d3 := z1.c1; have B1 := below_then (below_drew1 hbel) hbel.size hb1)
      | (go_at_call 14; refine (make_b false hn1).mono ?_; rintro e w2 ⟨v2, rfl, hn2, hb2⟩; have x2 := x1.then_ hb2; have y2 := y1.then_ hb2; have e0 := x2.c0; have e1 := x2.c1; have z2 := z1.then_ hb2; have e2 := z2.c0; have e3 := z2.c1; have B2 := below_then B1 B1.size hb2; obtain ⟨A, m, c, rfl⟩ := BN.slc hn2; obtain ⟨p0, p1, p2, p3⟩ := y2.rdy (.int .i64 (sgn (sg false (x.natAbs * y.natAbs))))))
  go_wp2_with fail
  refine bodyPost_ret (results_cell_row rfl _ _ (w.heap.size + 2) 30 _ (0, 0) _ rfl ((y2.set0 _).set1 _) Try.underlying30 rfl (by kernel_rfl)) rfl ?_
  exact MadeZB.put hn2 y2 (by omega) B2

set_option maxHeartbeats 1000000 in
theorem mul_pm {x y : Int} {u v : Value} {K L : Nat} {w : World} (h : BN w u x.natAbs K) (h' : BN w v y.natAbs L) (hK : K ≤ 1073741824) (hL : L ≤ 1073741824) (hp : sgn x = 1) (hq : sgn y = (-1)) :
    Calls Try.prog 18 #[.agg #[.int .i64 1, u], .agg #[.int .i64 (-1), v]] w (MadeZB w (sg true (x.natAbs * y.natAbs)) (K + L)) := by
  obtain ⟨As, ms, cs, rfl⟩ := h.slc
  obtain ⟨At, mt, ct, rfl⟩ := h'.slc
  have hn := Lib.hid (((h.alloc (.cells #[.int .i64 1, .slice As ms cs] 30)).alloc (.cells #[.int .i64 (-1), .slice At mt ct] 30)).alloc (.cells #[.int .i64 0, .slice none 0 0] 30))
  have hn' := Lib.hid (((h'.alloc (.cells #[.int .i64 1, .slice As ms cs] 30)).alloc (.cells #[.int .i64 (-1), .slice At mt ct] 30)).alloc (.cells #[.int .i64 0, .slice none 0 0] 30))
  have hbx := (((Box.new w 30 (.int .i64 1) (.slice As ms cs)).alloc (.cells #[.int .i64 (-1), .slice At mt ct] 30)).alloc (.cells #[.int .i64 0, .slice none 0 0] 30))
  have hby := ((Box.new1 w (.cells #[.int .i64 1, .slice As ms cs] 30) 30 (.int .i64 (-1)) (.slice At mt ct)).alloc (.cells #[.int .i64 0, .slice none 0 0] 30))
  have hres := Box.new2 w (.cells #[.int .i64 1, .slice As ms cs] 30) (.cells #[.int .i64 (-1), .slice At mt ct] 30) 30 (.int .i64 0) (.slice none 0 0)
  have hbel := (below_alloc (below_alloc (below_alloc (Below.refl w.heap.size w) (.cells #[.int .i64 1, .slice As ms cs] 30)) (.cells #[.int .i64 (-1), .slice At mt ct] 30)) (.cells #[.int .i64 0, .slice none 0 0] 30))
  have HP := Lib.hid hp
  have HQ := Lib.hid hq
  clear h h' hp hq
  go_enter Try.func18, Try.ntmps18
  go_wp2_with fail
  generalize (((w.alloc (.cells #[.int .i64 1, .slice As ms cs] 30)).alloc (.cells #[.int .i64 (-1), .slice At mt ct] 30)).alloc (.cells #[.int .i64 0, .slice none 0 0] 30)) = W at *
  have c0 := hbx.c0
  have c1 := hbx.c1
  have c2 := hby.c0
  have c3 := hby.c1
  have hne1 : w.heap.size ≠ w.heap.size + 1 + 1 := by omega
  have hne2 := hne1.symm
  go_region_held3 (fun w' => w'.cell? ⟨w.heap.size, 0, none⟩ = some (.int .i64 1) ∧ w'.cell? ⟨w.heap.size, 1, none⟩ = some (.slice As ms cs) ∧ w'.cell? ⟨w.heap.size + 1, 0, none⟩ = some (.int .i64 (-1)) ∧ w'.cell? ⟨w.heap.size + 1, 1, none⟩ = some (.slice At mt ct))
    (first | go_keep | exact ⟨by assumption, by assumption, by assumption, by assumption⟩ | ((try dsimp only); (repeat' apply And.intro); all_goals go_keep))
    (first
      | (go_at_call 47; refine (mul_b (hn.out.drewN _) (hn'.out.drewN _) (by omega) (by omega)).mono ?_; rintro e w1 ⟨v1, rfl, hn1, hb1⟩; have x1 := hbx.drew.then_ hb1; have y1 := hres.drew.then_ hb1; have d0 := x1.c0; have d1 := x1.c1; have z1 := hby.drew.then_ hb1; have d2 := z1.c0; have d3 := z1.c1; have B1 := below_then (below_drew1 hbel) hbel.size hb1)
      | (go_at_call 14; refine (make_b true hn1).mono ?_; rintro e w2 ⟨v2, rfl, hn2, hb2⟩; have x2 := x1.then_ hb2; have y2 := y1.then_ hb2; have e0 := x2.c0; have e1 := x2.c1; have z2 := z1.then_ hb2; have e2 := z2.c0; have e3 := z2.c1; have B2 := below_then B1 B1.size hb2; obtain ⟨A, m, c, rfl⟩ := BN.slc hn2; obtain ⟨p0, p1, p2, p3⟩ := y2.rdy (.int .i64 (sgn (sg true (x.natAbs * y.natAbs))))))
  go_wp2_with fail
  refine bodyPost_ret (results_cell_row rfl _ _ (w.heap.size + 2) 30 _ (0, 0) _ rfl ((y2.set0 _).set1 _) Try.underlying30 rfl (by kernel_rfl)) rfl ?_
  exact MadeZB.put hn2 y2 (by omega) B2

set_option maxHeartbeats 1000000 in
theorem mul_pz {x y : Int} {u v : Value} {K L : Nat} {w : World} (h : BN w u x.natAbs K) (h' : BN w v y.natAbs L) (hK : K ≤ 1073741824) (hL : L ≤ 1073741824) (hp : sgn x = 1) (hq : sgn y = 0) :
    Calls Try.prog 18 #[.agg #[.int .i64 1, u], .agg #[.int .i64 0, v]] w (MadeZB w (sg false (x.natAbs * y.natAbs)) (K + L)) := by
  obtain ⟨As, ms, cs, rfl⟩ := h.slc
  obtain ⟨At, mt, ct, rfl⟩ := h'.slc
  have hn := Lib.hid (((h.alloc (.cells #[.int .i64 1, .slice As ms cs] 30)).alloc (.cells #[.int .i64 0, .slice At mt ct] 30)).alloc (.cells #[.int .i64 0, .slice none 0 0] 30))
  have hn' := Lib.hid (((h'.alloc (.cells #[.int .i64 1, .slice As ms cs] 30)).alloc (.cells #[.int .i64 0, .slice At mt ct] 30)).alloc (.cells #[.int .i64 0, .slice none 0 0] 30))
  have hbx := (((Box.new w 30 (.int .i64 1) (.slice As ms cs)).alloc (.cells #[.int .i64 0, .slice At mt ct] 30)).alloc (.cells #[.int .i64 0, .slice none 0 0] 30))
  have hby := ((Box.new1 w (.cells #[.int .i64 1, .slice As ms cs] 30) 30 (.int .i64 0) (.slice At mt ct)).alloc (.cells #[.int .i64 0, .slice none 0 0] 30))
  have hres := Box.new2 w (.cells #[.int .i64 1, .slice As ms cs] 30) (.cells #[.int .i64 0, .slice At mt ct] 30) 30 (.int .i64 0) (.slice none 0 0)
  have hbel := (below_alloc (below_alloc (below_alloc (Below.refl w.heap.size w) (.cells #[.int .i64 1, .slice As ms cs] 30)) (.cells #[.int .i64 0, .slice At mt ct] 30)) (.cells #[.int .i64 0, .slice none 0 0] 30))
  have HP := Lib.hid hp
  have HQ := Lib.hid hq
  clear h h' hp hq
  go_enter Try.func18, Try.ntmps18
  go_wp2_with fail
  generalize (((w.alloc (.cells #[.int .i64 1, .slice As ms cs] 30)).alloc (.cells #[.int .i64 0, .slice At mt ct] 30)).alloc (.cells #[.int .i64 0, .slice none 0 0] 30)) = W at *
  have c0 := hbx.c0
  have c1 := hbx.c1
  have c2 := hby.c0
  have c3 := hby.c1
  have hne1 : w.heap.size ≠ w.heap.size + 1 + 1 := by omega
  have hne2 := hne1.symm
  go_region_held3 (fun w' => w'.cell? ⟨w.heap.size, 0, none⟩ = some (.int .i64 1) ∧ w'.cell? ⟨w.heap.size, 1, none⟩ = some (.slice As ms cs) ∧ w'.cell? ⟨w.heap.size + 1, 0, none⟩ = some (.int .i64 0) ∧ w'.cell? ⟨w.heap.size + 1, 1, none⟩ = some (.slice At mt ct))
    (first | go_keep | exact ⟨by assumption, by assumption, by assumption, by assumption⟩ | ((try dsimp only); (repeat' apply And.intro); all_goals go_keep))
    (first
      | (go_at_call 47; refine (mul_b (hn.out.drewN _) (hn'.out.drewN _) (by omega) (by omega)).mono ?_; rintro e w1 ⟨v1, rfl, hn1, hb1⟩; have x1 := hbx.drew.then_ hb1; have y1 := hres.drew.then_ hb1; have d0 := x1.c0; have d1 := x1.c1; have z1 := hby.drew.then_ hb1; have d2 := z1.c0; have d3 := z1.c1; have B1 := below_then (below_drew1 hbel) hbel.size hb1)
      | (go_at_call 14; refine (make_b false hn1).mono ?_; rintro e w2 ⟨v2, rfl, hn2, hb2⟩; have x2 := x1.then_ hb2; have y2 := y1.then_ hb2; have e0 := x2.c0; have e1 := x2.c1; have z2 := z1.then_ hb2; have e2 := z2.c0; have e3 := z2.c1; have B2 := below_then B1 B1.size hb2; obtain ⟨A, m, c, rfl⟩ := BN.slc hn2; obtain ⟨p0, p1, p2, p3⟩ := y2.rdy (.int .i64 (sgn (sg false (x.natAbs * y.natAbs))))))
  go_wp2_with fail
  refine bodyPost_ret (results_cell_row rfl _ _ (w.heap.size + 2) 30 _ (0, 0) _ rfl ((y2.set0 _).set1 _) Try.underlying30 rfl (by kernel_rfl)) rfl ?_
  exact MadeZB.put hn2 y2 (by omega) B2

set_option maxHeartbeats 1000000 in
theorem mul_pp {x y : Int} {u v : Value} {K L : Nat} {w : World} (h : BN w u x.natAbs K) (h' : BN w v y.natAbs L) (hK : K ≤ 1073741824) (hL : L ≤ 1073741824) (hp : sgn x = 1) (hq : sgn y = 1) :
    Calls Try.prog 18 #[.agg #[.int .i64 1, u], .agg #[.int .i64 1, v]] w (MadeZB w (sg false (x.natAbs * y.natAbs)) (K + L)) := by
  obtain ⟨As, ms, cs, rfl⟩ := h.slc
  obtain ⟨At, mt, ct, rfl⟩ := h'.slc
  have hn := Lib.hid (((h.alloc (.cells #[.int .i64 1, .slice As ms cs] 30)).alloc (.cells #[.int .i64 1, .slice At mt ct] 30)).alloc (.cells #[.int .i64 0, .slice none 0 0] 30))
  have hn' := Lib.hid (((h'.alloc (.cells #[.int .i64 1, .slice As ms cs] 30)).alloc (.cells #[.int .i64 1, .slice At mt ct] 30)).alloc (.cells #[.int .i64 0, .slice none 0 0] 30))
  have hbx := (((Box.new w 30 (.int .i64 1) (.slice As ms cs)).alloc (.cells #[.int .i64 1, .slice At mt ct] 30)).alloc (.cells #[.int .i64 0, .slice none 0 0] 30))
  have hby := ((Box.new1 w (.cells #[.int .i64 1, .slice As ms cs] 30) 30 (.int .i64 1) (.slice At mt ct)).alloc (.cells #[.int .i64 0, .slice none 0 0] 30))
  have hres := Box.new2 w (.cells #[.int .i64 1, .slice As ms cs] 30) (.cells #[.int .i64 1, .slice At mt ct] 30) 30 (.int .i64 0) (.slice none 0 0)
  have hbel := (below_alloc (below_alloc (below_alloc (Below.refl w.heap.size w) (.cells #[.int .i64 1, .slice As ms cs] 30)) (.cells #[.int .i64 1, .slice At mt ct] 30)) (.cells #[.int .i64 0, .slice none 0 0] 30))
  have HP := Lib.hid hp
  have HQ := Lib.hid hq
  clear h h' hp hq
  go_enter Try.func18, Try.ntmps18
  go_wp2_with fail
  generalize (((w.alloc (.cells #[.int .i64 1, .slice As ms cs] 30)).alloc (.cells #[.int .i64 1, .slice At mt ct] 30)).alloc (.cells #[.int .i64 0, .slice none 0 0] 30)) = W at *
  have c0 := hbx.c0
  have c1 := hbx.c1
  have c2 := hby.c0
  have c3 := hby.c1
  have hne1 : w.heap.size ≠ w.heap.size + 1 + 1 := by omega
  have hne2 := hne1.symm
  go_region_held3 (fun w' => w'.cell? ⟨w.heap.size, 0, none⟩ = some (.int .i64 1) ∧ w'.cell? ⟨w.heap.size, 1, none⟩ = some (.slice As ms cs) ∧ w'.cell? ⟨w.heap.size + 1, 0, none⟩ = some (.int .i64 1) ∧ w'.cell? ⟨w.heap.size + 1, 1, none⟩ = some (.slice At mt ct))
    (first | go_keep | exact ⟨by assumption, by assumption, by assumption, by assumption⟩ | ((try dsimp only); (repeat' apply And.intro); all_goals go_keep))
    (first
      | (go_at_call 47; refine (mul_b (hn.out.drewN _) (hn'.out.drewN _) (by omega) (by omega)).mono ?_; rintro e w1 ⟨v1, rfl, hn1, hb1⟩; have x1 := hbx.drew.then_ hb1; have y1 := hres.drew.then_ hb1; have d0 := x1.c0; have d1 := x1.c1; have z1 := hby.drew.then_ hb1; have d2 := z1.c0; have d3 := z1.c1; have B1 := below_then (below_drew1 hbel) hbel.size hb1)
      | (go_at_call 14; refine (make_b false hn1).mono ?_; rintro e w2 ⟨v2, rfl, hn2, hb2⟩; have x2 := x1.then_ hb2; have y2 := y1.then_ hb2; have e0 := x2.c0; have e1 := x2.c1; have z2 := z1.then_ hb2; have e2 := z2.c0; have e3 := z2.c1; have B2 := below_then B1 B1.size hb2; obtain ⟨A, m, c, rfl⟩ := BN.slc hn2; obtain ⟨p0, p1, p2, p3⟩ := y2.rdy (.int .i64 (sgn (sg false (x.natAbs * y.natAbs))))))
  go_wp2_with fail
  refine bodyPost_ret (results_cell_row rfl _ _ (w.heap.size + 2) 30 _ (0, 0) _ rfl ((y2.set0 _).set1 _) Try.underlying30 rfl (by kernel_rfl)) rfl ?_
  exact MadeZB.put hn2 y2 (by omega) B2

set_option maxHeartbeats 1000000 in
theorem add_mm {x y : Int} {u v : Value} {K L : Nat} {w : World} (h : BN w u x.natAbs K) (h' : BN w v y.natAbs L) (hK : K ≤ 1073741824) (hL : L ≤ 1073741824) (hp : sgn x = (-1)) (hq : sgn y = (-1)) :
    Calls Try.prog 34 #[.agg #[.int .i64 (-1), u], .agg #[.int .i64 (-1), v]] w (MadeZB w (sg true (x.natAbs + y.natAbs)) (max K L + 1)) := by
  obtain ⟨As, ms, cs, rfl⟩ := h.slc
  obtain ⟨At, mt, ct, rfl⟩ := h'.slc
  have hn := Lib.hid (((h.alloc (.cells #[.int .i64 (-1), .slice As ms cs] 30)).alloc (.cells #[.int .i64 (-1), .slice At mt ct] 30)).alloc (.cells #[.int .i64 0, .slice none 0 0] 30))
  have hn' := Lib.hid (((h'.alloc (.cells #[.int .i64 (-1), .slice As ms cs] 30)).alloc (.cells #[.int .i64 (-1), .slice At mt ct] 30)).alloc (.cells #[.int .i64 0, .slice none 0 0] 30))
  have hbx := (((Box.new w 30 (.int .i64 (-1)) (.slice As ms cs)).alloc (.cells #[.int .i64 (-1), .slice At mt ct] 30)).alloc (.cells #[.int .i64 0, .slice none 0 0] 30))
  have hby := ((Box.new1 w (.cells #[.int .i64 (-1), .slice As ms cs] 30) 30 (.int .i64 (-1)) (.slice At mt ct)).alloc (.cells #[.int .i64 0, .slice none 0 0] 30))
  have hres := Box.new2 w (.cells #[.int .i64 (-1), .slice As ms cs] 30) (.cells #[.int .i64 (-1), .slice At mt ct] 30) 30 (.int .i64 0) (.slice none 0 0)
  have hbel := (below_alloc (below_alloc (below_alloc (Below.refl w.heap.size w) (.cells #[.int .i64 (-1), .slice As ms cs] 30)) (.cells #[.int .i64 (-1), .slice At mt ct] 30)) (.cells #[.int .i64 0, .slice none 0 0] 30))
  have HP := Lib.hid hp
  have HQ := Lib.hid hq
  clear h h' hp hq
  go_enter Try.func34, Try.ntmps34
  go_wp2_with fail
  generalize (((w.alloc (.cells #[.int .i64 (-1), .slice As ms cs] 30)).alloc (.cells #[.int .i64 (-1), .slice At mt ct] 30)).alloc (.cells #[.int .i64 0, .slice none 0 0] 30)) = W at *
  have c0 := hbx.c0
  have c1 := hbx.c1
  have c2 := hby.c0
  have c3 := hby.c1
  have hne1 : w.heap.size ≠ w.heap.size + 1 + 1 := by omega
  have hne2 := hne1.symm
  go_wp2_with fail
  go_region_held3 (fun w' => w'.cell? ⟨w.heap.size, 0, none⟩ = some (.int .i64 (-1)) ∧ w'.cell? ⟨w.heap.size, 1, none⟩ = some (.slice As ms cs) ∧ w'.cell? ⟨w.heap.size + 1, 0, none⟩ = some (.int .i64 (-1)) ∧ w'.cell? ⟨w.heap.size + 1, 1, none⟩ = some (.slice At mt ct))
    (first | go_keep | exact ⟨by assumption, by assumption, by assumption, by assumption⟩ | ((try dsimp only); (repeat' apply And.intro); all_goals go_keep))
    (first
      | (go_at_call 59; refine (add_b (hn.out.drewN _) (hn'.out.drewN _) (by omega) (by omega)).mono ?_; rintro e w1 ⟨v1, rfl, hn1, hb1⟩; have x1 := hbx.drew.then_ hb1; have y1 := hres.drew.then_ hb1; have d0 := x1.c0; have d1 := x1.c1; have z1 := hby.drew.then_ hb1; have d2 := z1.c0; have d3 := z1.c1; have B1 := below_then (below_drew1 hbel) hbel.size hb1)
      | (go_at_call 14; refine (make_b true hn1).mono ?_; rintro e w2 ⟨v2, rfl, hn2, hb2⟩; have x2 := x1.then_ hb2; have y2 := y1.then_ hb2; have e0 := x2.c0; have e1 := x2.c1; have z2 := z1.then_ hb2; have e2 := z2.c0; have e3 := z2.c1; have B2 := below_then B1 B1.size hb2; obtain ⟨A, m, c, rfl⟩ := BN.slc hn2; obtain ⟨p0, p1, p2, p3⟩ := y2.rdy (.int .i64 (sgn (sg true (x.natAbs + y.natAbs))))))
  go_wp2_with fail
  refine bodyPost_ret (results_cell_row rfl _ _ (w.heap.size + 2) 30 _ (0, 0) _ rfl ((y2.set0 _).set1 _) Try.underlying30 rfl (by kernel_rfl)) rfl ?_
  exact MadeZB.put hn2 y2 (by omega) B2

set_option maxHeartbeats 1000000 in
theorem add_mz {x y : Int} {u v : Value} {K L : Nat} {w : World} (h : BN w u x.natAbs K) (h' : BN w v y.natAbs L) (hK : K ≤ 1073741824) (hL : L ≤ 1073741824) (hp : sgn x = (-1)) (hq : sgn y = 0) :
    Calls Try.prog 34 #[.agg #[.int .i64 (-1), u], .agg #[.int .i64 0, v]] w (MadeZB w (sg true (x.natAbs + y.natAbs)) (max K L + 1)) := by
  obtain ⟨As, ms, cs, rfl⟩ := h.slc
  obtain ⟨At, mt, ct, rfl⟩ := h'.slc
  have hn := Lib.hid (((h.alloc (.cells #[.int .i64 (-1), .slice As ms cs] 30)).alloc (.cells #[.int .i64 0, .slice At mt ct] 30)).alloc (.cells #[.int .i64 0, .slice none 0 0] 30))
  have hn' := Lib.hid (((h'.alloc (.cells #[.int .i64 (-1), .slice As ms cs] 30)).alloc (.cells #[.int .i64 0, .slice At mt ct] 30)).alloc (.cells #[.int .i64 0, .slice none 0 0] 30))
  have hbx := (((Box.new w 30 (.int .i64 (-1)) (.slice As ms cs)).alloc (.cells #[.int .i64 0, .slice At mt ct] 30)).alloc (.cells #[.int .i64 0, .slice none 0 0] 30))
  have hby := ((Box.new1 w (.cells #[.int .i64 (-1), .slice As ms cs] 30) 30 (.int .i64 0) (.slice At mt ct)).alloc (.cells #[.int .i64 0, .slice none 0 0] 30))
  have hres := Box.new2 w (.cells #[.int .i64 (-1), .slice As ms cs] 30) (.cells #[.int .i64 0, .slice At mt ct] 30) 30 (.int .i64 0) (.slice none 0 0)
  have hbel := (below_alloc (below_alloc (below_alloc (Below.refl w.heap.size w) (.cells #[.int .i64 (-1), .slice As ms cs] 30)) (.cells #[.int .i64 0, .slice At mt ct] 30)) (.cells #[.int .i64 0, .slice none 0 0] 30))
  have HP := Lib.hid hp
  have HQ := Lib.hid hq
  clear h h' hp hq
  go_enter Try.func34, Try.ntmps34
  go_wp2_with fail
  generalize (((w.alloc (.cells #[.int .i64 (-1), .slice As ms cs] 30)).alloc (.cells #[.int .i64 0, .slice At mt ct] 30)).alloc (.cells #[.int .i64 0, .slice none 0 0] 30)) = W at *
  have c0 := hbx.c0
  have c1 := hbx.c1
  have c2 := hby.c0
  have c3 := hby.c1
  have hne1 : w.heap.size ≠ w.heap.size + 1 + 1 := by omega
  have hne2 := hne1.symm
  go_wp2_with fail
  go_region_held3 (fun w' => w'.cell? ⟨w.heap.size, 0, none⟩ = some (.int .i64 (-1)) ∧ w'.cell? ⟨w.heap.size, 1, none⟩ = some (.slice As ms cs) ∧ w'.cell? ⟨w.heap.size + 1, 0, none⟩ = some (.int .i64 0) ∧ w'.cell? ⟨w.heap.size + 1, 1, none⟩ = some (.slice At mt ct))
    (first | go_keep | exact ⟨by assumption, by assumption, by assumption, by assumption⟩ | ((try dsimp only); (repeat' apply And.intro); all_goals go_keep))
    (first
      | (go_at_call 59; refine (add_b (hn.out.drewN _) (hn'.out.drewN _) (by omega) (by omega)).mono ?_; rintro e w1 ⟨v1, rfl, hn1, hb1⟩; have x1 := hbx.drew.then_ hb1; have y1 := hres.drew.then_ hb1; have d0 := x1.c0; have d1 := x1.c1; have z1 := hby.drew.then_ hb1; have d2 := z1.c0; have d3 := z1.c1; have B1 := below_then (below_drew1 hbel) hbel.size hb1)
      | (go_at_call 14; refine (make_b true hn1).mono ?_; rintro e w2 ⟨v2, rfl, hn2, hb2⟩; have x2 := x1.then_ hb2; have y2 := y1.then_ hb2; have e0 := x2.c0; have e1 := x2.c1; have z2 := z1.then_ hb2; have e2 := z2.c0; have e3 := z2.c1; have B2 := below_then B1 B1.size hb2; obtain ⟨A, m, c, rfl⟩ := BN.slc hn2; obtain ⟨p0, p1, p2, p3⟩ := y2.rdy (.int .i64 (sgn (sg true (x.natAbs + y.natAbs))))))
  go_wp2_with fail
  refine bodyPost_ret (results_cell_row rfl _ _ (w.heap.size + 2) 30 _ (0, 0) _ rfl ((y2.set0 _).set1 _) Try.underlying30 rfl (by kernel_rfl)) rfl ?_
  exact MadeZB.put hn2 y2 (by omega) B2

set_option maxHeartbeats 1000000 in
theorem add_mp_ge {x y : Int} {u v : Value} {K L : Nat} {w : World} (h : BN w u x.natAbs K) (h' : BN w v y.natAbs L) (hK : K ≤ 1073741824) (hL : L ≤ 1073741824) (hp : sgn x = (-1)) (hq : sgn y = 1) (hle : y.natAbs ≤ x.natAbs) :
    Calls Try.prog 34 #[.agg #[.int .i64 (-1), u], .agg #[.int .i64 1, v]] w (MadeZB w (sg true (x.natAbs - y.natAbs)) K) := by
  obtain ⟨As, ms, cs, rfl⟩ := h.slc
  obtain ⟨At, mt, ct, rfl⟩ := h'.slc
  have hn := Lib.hid (((h.alloc (.cells #[.int .i64 (-1), .slice As ms cs] 30)).alloc (.cells #[.int .i64 1, .slice At mt ct] 30)).alloc (.cells #[.int .i64 0, .slice none 0 0] 30))
  have hn' := Lib.hid (((h'.alloc (.cells #[.int .i64 (-1), .slice As ms cs] 30)).alloc (.cells #[.int .i64 1, .slice At mt ct] 30)).alloc (.cells #[.int .i64 0, .slice none 0 0] 30))
  have hbx := (((Box.new w 30 (.int .i64 (-1)) (.slice As ms cs)).alloc (.cells #[.int .i64 1, .slice At mt ct] 30)).alloc (.cells #[.int .i64 0, .slice none 0 0] 30))
  have hby := ((Box.new1 w (.cells #[.int .i64 (-1), .slice As ms cs] 30) 30 (.int .i64 1) (.slice At mt ct)).alloc (.cells #[.int .i64 0, .slice none 0 0] 30))
  have hres := Box.new2 w (.cells #[.int .i64 (-1), .slice As ms cs] 30) (.cells #[.int .i64 1, .slice At mt ct] 30) 30 (.int .i64 0) (.slice none 0 0)
  have hbel := (below_alloc (below_alloc (below_alloc (Below.refl w.heap.size w) (.cells #[.int .i64 (-1), .slice As ms cs] 30)) (.cells #[.int .i64 1, .slice At mt ct] 30)) (.cells #[.int .i64 0, .slice none 0 0] 30))
  have HP := Lib.hid hp
  have HQ := Lib.hid hq
  clear h h' hp hq
  have hr := cmpv_range x.natAbs y.natAbs
  have hc : 0 ≤ cmpv x.natAbs y.natAbs := by unfold cmpv; (repeat' split) <;> omega
  generalize hcv : cmpv x.natAbs y.natAbs = cv at *
  have HC := Lib.hid hcv
  clear hcv
  go_enter Try.func34, Try.ntmps34
  go_wp2_with fail
  generalize (((w.alloc (.cells #[.int .i64 (-1), .slice As ms cs] 30)).alloc (.cells #[.int .i64 1, .slice At mt ct] 30)).alloc (.cells #[.int .i64 0, .slice none 0 0] 30)) = W at *
  have c0 := hbx.c0
  have c1 := hbx.c1
  have c2 := hby.c0
  have c3 := hby.c1
  have hne1 : w.heap.size ≠ w.heap.size + 1 + 1 := by omega
  have hne2 := hne1.symm
  go_wp2_with fail
  refine (cmp_b hn.out hn'.out (by omega) (by omega)).mono ?_
  rw [HC.out]
  rintro e w0 ⟨rfl, hb0⟩
  have x0 := hbx.then_ hb0
  have z0 := hby.then_ hb0
  have y0 := hres.then_ hb0
  have q0 := hn.out.below hb0
  have q0' := hn'.out.below hb0
  have B0 := below_then hbel hbel.size hb0
  clear c0 c1 c2 c3
  have c0 := x0.c0
  have c1 := x0.c1
  have c2 := z0.c0
  have c3 := z0.c1
  go_wp2_with fail
  go_region_held3 (fun w' => w'.cell? ⟨w.heap.size, 0, none⟩ = some (.int .i64 (-1)) ∧ w'.cell? ⟨w.heap.size, 1, none⟩ = some (.slice As ms cs) ∧ w'.cell? ⟨w.heap.size + 1, 0, none⟩ = some (.int .i64 1) ∧ w'.cell? ⟨w.heap.size + 1, 1, none⟩ = some (.slice At mt ct))
    (first | go_keep | exact ⟨by assumption, by assumption, by assumption, by assumption⟩ | ((try dsimp only); (repeat' apply And.intro); all_goals go_keep))
    (first
      | (go_at_call 60; refine (sub_b (q0.drewN _) (q0'.drewN _) (by omega) hle).mono ?_; rintro e w1 ⟨v1, rfl, hn1, hb1⟩; have x1 := x0.drew.then_ hb1; have y1 := y0.drew.then_ hb1; have d0 := x1.c0; have d1 := x1.c1; have z1 := z0.drew.then_ hb1; have d2 := z1.c0; have d3 := z1.c1; have B1 := below_then (below_drew1 B0) B0.size hb1)
      | (go_at_call 14; refine (make_b true hn1).mono ?_; rintro e w2 ⟨v2, rfl, hn2, hb2⟩; have x2 := x1.then_ hb2; have y2 := y1.then_ hb2; have e0 := x2.c0; have e1 := x2.c1; have z2 := z1.then_ hb2; have e2 := z2.c0; have e3 := z2.c1; have B2 := below_then B1 B1.size hb2; obtain ⟨A, m, c, rfl⟩ := BN.slc hn2; obtain ⟨p0, p1, p2, p3⟩ := y2.rdy (.int .i64 (sgn (sg true (x.natAbs - y.natAbs))))))
  go_wp2_with fail
  refine bodyPost_ret (results_cell_row rfl _ _ (w.heap.size + 2) 30 _ (0, 0) _ rfl ((y2.set0 _).set1 _) Try.underlying30 rfl (by kernel_rfl)) rfl ?_
  exact MadeZB.put hn2 y2 (by omega) B2

set_option maxHeartbeats 1000000 in
theorem add_mp_lt {x y : Int} {u v : Value} {K L : Nat} {w : World} (h : BN w u x.natAbs K) (h' : BN w v y.natAbs L) (hK : K ≤ 1073741824) (hL : L ≤ 1073741824) (hp : sgn x = (-1)) (hq : sgn y = 1) (hlt : x.natAbs < y.natAbs) :
    Calls Try.prog 34 #[.agg #[.int .i64 (-1), u], .agg #[.int .i64 1, v]] w (MadeZB w (sg false (y.natAbs - x.natAbs)) L) := by
  have hle := Nat.le_of_lt hlt
  obtain ⟨As, ms, cs, rfl⟩ := h.slc
  obtain ⟨At, mt, ct, rfl⟩ := h'.slc
  have hn := Lib.hid (((h.alloc (.cells #[.int .i64 (-1), .slice As ms cs] 30)).alloc (.cells #[.int .i64 1, .slice At mt ct] 30)).alloc (.cells #[.int .i64 0, .slice none 0 0] 30))
  have hn' := Lib.hid (((h'.alloc (.cells #[.int .i64 (-1), .slice As ms cs] 30)).alloc (.cells #[.int .i64 1, .slice At mt ct] 30)).alloc (.cells #[.int .i64 0, .slice none 0 0] 30))
  have hbx := (((Box.new w 30 (.int .i64 (-1)) (.slice As ms cs)).alloc (.cells #[.int .i64 1, .slice At mt ct] 30)).alloc (.cells #[.int .i64 0, .slice none 0 0] 30))
  have hby := ((Box.new1 w (.cells #[.int .i64 (-1), .slice As ms cs] 30) 30 (.int .i64 1) (.slice At mt ct)).alloc (.cells #[.int .i64 0, .slice none 0 0] 30))
  have hres := Box.new2 w (.cells #[.int .i64 (-1), .slice As ms cs] 30) (.cells #[.int .i64 1, .slice At mt ct] 30) 30 (.int .i64 0) (.slice none 0 0)
  have hbel := (below_alloc (below_alloc (below_alloc (Below.refl w.heap.size w) (.cells #[.int .i64 (-1), .slice As ms cs] 30)) (.cells #[.int .i64 1, .slice At mt ct] 30)) (.cells #[.int .i64 0, .slice none 0 0] 30))
  have HP := Lib.hid hp
  have HQ := Lib.hid hq
  clear h h' hp hq
  have hr := cmpv_range x.natAbs y.natAbs
  have hc : cmpv x.natAbs y.natAbs < 0 := by unfold cmpv; (repeat' split) <;> omega
  generalize hcv : cmpv x.natAbs y.natAbs = cv at *
  have HC := Lib.hid hcv
  clear hcv
  go_enter Try.func34, Try.ntmps34
  go_wp2_with fail
  generalize (((w.alloc (.cells #[.int .i64 (-1), .slice As ms cs] 30)).alloc (.cells #[.int .i64 1, .slice At mt ct] 30)).alloc (.cells #[.int .i64 0, .slice none 0 0] 30)) = W at *
  have c0 := hbx.c0
  have c1 := hbx.c1
  have c2 := hby.c0
  have c3 := hby.c1
  have hne1 : w.heap.size ≠ w.heap.size + 1 + 1 := by omega
  have hne2 := hne1.symm
  go_wp2_with fail
  refine (cmp_b hn.out hn'.out (by omega) (by omega)).mono ?_
  rw [HC.out]
  rintro e w0 ⟨rfl, hb0⟩
  have x0 := hbx.then_ hb0
  have z0 := hby.then_ hb0
  have y0 := hres.then_ hb0
  have q0 := hn.out.below hb0
  have q0' := hn'.out.below hb0
  have B0 := below_then hbel hbel.size hb0
  clear c0 c1 c2 c3
  have c0 := x0.c0
  have c1 := x0.c1
  have c2 := z0.c0
  have c3 := z0.c1
  go_wp2_with fail
  go_region_held3 (fun w' => w'.cell? ⟨w.heap.size, 0, none⟩ = some (.int .i64 (-1)) ∧ w'.cell? ⟨w.heap.size, 1, none⟩ = some (.slice As ms cs) ∧ w'.cell? ⟨w.heap.size + 1, 0, none⟩ = some (.int .i64 1) ∧ w'.cell? ⟨w.heap.size + 1, 1, none⟩ = some (.slice At mt ct))
    (first | go_keep | exact ⟨by assumption, by assumption, by assumption, by assumption⟩ | ((try dsimp only); (repeat' apply And.intro); all_goals go_keep))
    (first
      | (go_at_call 60; refine (sub_b (q0'.drewN _) (q0.drewN _) (by omega) hle).mono ?_; rintro e w1 ⟨v1, rfl, hn1, hb1⟩; have x1 := x0.drew.then_ hb1; have y1 := y0.drew.then_ hb1; have d0 := x1.c0; have d1 := x1.c1; have z1 := z0.drew.then_ hb1; have d2 := z1.c0; have d3 := z1.c1; have B1 := below_then (below_drew1 B0) B0.size hb1)
      | (go_at_call 14; refine (make_b false hn1).mono ?_; rintro e w2 ⟨v2, rfl, hn2, hb2⟩; have x2 := x1.then_ hb2; have y2 := y1.then_ hb2; have e0 := x2.c0; have e1 := x2.c1; have z2 := z1.then_ hb2; have e2 := z2.c0; have e3 := z2.c1; have B2 := below_then B1 B1.size hb2; obtain ⟨A, m, c, rfl⟩ := BN.slc hn2; obtain ⟨p0, p1, p2, p3⟩ := y2.rdy (.int .i64 (sgn (sg false (y.natAbs - x.natAbs))))))
  go_wp2_with fail
  refine bodyPost_ret (results_cell_row rfl _ _ (w.heap.size + 2) 30 _ (0, 0) _ rfl ((y2.set0 _).set1 _) Try.underlying30 rfl (by kernel_rfl)) rfl ?_
  exact MadeZB.put hn2 y2 (by omega) B2

set_option maxHeartbeats 1000000 in
theorem add_zm {x y : Int} {u v : Value} {K L : Nat} {w : World} (h : BN w u x.natAbs K) (h' : BN w v y.natAbs L) (hK : K ≤ 1073741824) (hL : L ≤ 1073741824) (hp : sgn x = 0) (hq : sgn y = (-1)) :
    Calls Try.prog 34 #[.agg #[.int .i64 0, u], .agg #[.int .i64 (-1), v]] w (MadeZB w (sg true (x.natAbs + y.natAbs)) (max K L + 1)) := by
  obtain ⟨As, ms, cs, rfl⟩ := h.slc
  obtain ⟨At, mt, ct, rfl⟩ := h'.slc
  have hn := Lib.hid (((h.alloc (.cells #[.int .i64 0, .slice As ms cs] 30)).alloc (.cells #[.int .i64 (-1), .slice At mt ct] 30)).alloc (.cells #[.int .i64 0, .slice none 0 0] 30))
  have hn' := Lib.hid (((h'.alloc (.cells #[.int .i64 0, .slice As ms cs] 30)).alloc (.cells #[.int .i64 (-1), .slice At mt ct] 30)).alloc (.cells #[.int .i64 0, .slice none 0 0] 30))
  have hbx := (((Box.new w 30 (.int .i64 0) (.slice As ms cs)).alloc (.cells #[.int .i64 (-1), .slice At mt ct] 30)).alloc (.cells #[.int .i64 0, .slice none 0 0] 30))
  have hby := ((Box.new1 w (.cells #[.int .i64 0, .slice As ms cs] 30) 30 (.int .i64 (-1)) (.slice At mt ct)).alloc (.cells #[.int .i64 0, .slice none 0 0] 30))
  have hres := Box.new2 w (.cells #[.int .i64 0, .slice As ms cs] 30) (.cells #[.int .i64 (-1), .slice At mt ct] 30) 30 (.int .i64 0) (.slice none 0 0)
  have hbel := (below_alloc (below_alloc (below_alloc (Below.refl w.heap.size w) (.cells #[.int .i64 0, .slice As ms cs] 30)) (.cells #[.int .i64 (-1), .slice At mt ct] 30)) (.cells #[.int .i64 0, .slice none 0 0] 30))
  have HP := Lib.hid hp
  have HQ := Lib.hid hq
  clear h h' hp hq
  go_enter Try.func34, Try.ntmps34
  go_wp2_with fail
  generalize (((w.alloc (.cells #[.int .i64 0, .slice As ms cs] 30)).alloc (.cells #[.int .i64 (-1), .slice At mt ct] 30)).alloc (.cells #[.int .i64 0, .slice none 0 0] 30)) = W at *
  have c0 := hbx.c0
  have c1 := hbx.c1
  have c2 := hby.c0
  have c3 := hby.c1
  have hne1 : w.heap.size ≠ w.heap.size + 1 + 1 := by omega
  have hne2 := hne1.symm
  go_wp2_with fail
  go_region_held3 (fun w' => w'.cell? ⟨w.heap.size, 0, none⟩ = some (.int .i64 0) ∧ w'.cell? ⟨w.heap.size, 1, none⟩ = some (.slice As ms cs) ∧ w'.cell? ⟨w.heap.size + 1, 0, none⟩ = some (.int .i64 (-1)) ∧ w'.cell? ⟨w.heap.size + 1, 1, none⟩ = some (.slice At mt ct))
    (first | go_keep | exact ⟨by assumption, by assumption, by assumption, by assumption⟩ | ((try dsimp only); (repeat' apply And.intro); all_goals go_keep))
    (first
      | (go_at_call 59; refine (add_b (hn.out.drewN _) (hn'.out.drewN _) (by omega) (by omega)).mono ?_; rintro e w1 ⟨v1, rfl, hn1, hb1⟩; have x1 := hbx.drew.then_ hb1; have y1 := hres.drew.then_ hb1; have d0 := x1.c0; have d1 := x1.c1; have z1 := hby.drew.then_ hb1; have d2 := z1.c0; have d3 := z1.c1; have B1 := below_then (below_drew1 hbel) hbel.size hb1)
      | (go_at_call 14; refine (make_b true hn1).mono ?_; rintro e w2 ⟨v2, rfl, hn2, hb2⟩; have x2 := x1.then_ hb2; have y2 := y1.then_ hb2; have e0 := x2.c0; have e1 := x2.c1; have z2 := z1.then_ hb2; have e2 := z2.c0; have e3 := z2.c1; have B2 := below_then B1 B1.size hb2; obtain ⟨A, m, c, rfl⟩ := BN.slc hn2; obtain ⟨p0, p1, p2, p3⟩ := y2.rdy (.int .i64 (sgn (sg true (x.natAbs + y.natAbs))))))
  go_wp2_with fail
  refine bodyPost_ret (results_cell_row rfl _ _ (w.heap.size + 2) 30 _ (0, 0) _ rfl ((y2.set0 _).set1 _) Try.underlying30 rfl (by kernel_rfl)) rfl ?_
  exact MadeZB.put hn2 y2 (by omega) B2

set_option maxHeartbeats 1000000 in
theorem add_zz {x y : Int} {u v : Value} {K L : Nat} {w : World} (h : BN w u x.natAbs K) (h' : BN w v y.natAbs L) (hK : K ≤ 1073741824) (hL : L ≤ 1073741824) (hp : sgn x = 0) (hq : sgn y = 0) :
    Calls Try.prog 34 #[.agg #[.int .i64 0, u], .agg #[.int .i64 0, v]] w (MadeZB w (sg false (x.natAbs + y.natAbs)) (max K L + 1)) := by
  obtain ⟨As, ms, cs, rfl⟩ := h.slc
  obtain ⟨At, mt, ct, rfl⟩ := h'.slc
  have hn := Lib.hid (((h.alloc (.cells #[.int .i64 0, .slice As ms cs] 30)).alloc (.cells #[.int .i64 0, .slice At mt ct] 30)).alloc (.cells #[.int .i64 0, .slice none 0 0] 30))
  have hn' := Lib.hid (((h'.alloc (.cells #[.int .i64 0, .slice As ms cs] 30)).alloc (.cells #[.int .i64 0, .slice At mt ct] 30)).alloc (.cells #[.int .i64 0, .slice none 0 0] 30))
  have hbx := (((Box.new w 30 (.int .i64 0) (.slice As ms cs)).alloc (.cells #[.int .i64 0, .slice At mt ct] 30)).alloc (.cells #[.int .i64 0, .slice none 0 0] 30))
  have hby := ((Box.new1 w (.cells #[.int .i64 0, .slice As ms cs] 30) 30 (.int .i64 0) (.slice At mt ct)).alloc (.cells #[.int .i64 0, .slice none 0 0] 30))
  have hres := Box.new2 w (.cells #[.int .i64 0, .slice As ms cs] 30) (.cells #[.int .i64 0, .slice At mt ct] 30) 30 (.int .i64 0) (.slice none 0 0)
  have hbel := (below_alloc (below_alloc (below_alloc (Below.refl w.heap.size w) (.cells #[.int .i64 0, .slice As ms cs] 30)) (.cells #[.int .i64 0, .slice At mt ct] 30)) (.cells #[.int .i64 0, .slice none 0 0] 30))
  have HP := Lib.hid hp
  have HQ := Lib.hid hq
  clear h h' hp hq
  go_enter Try.func34, Try.ntmps34
  go_wp2_with fail
  generalize (((w.alloc (.cells #[.int .i64 0, .slice As ms cs] 30)).alloc (.cells #[.int .i64 0, .slice At mt ct] 30)).alloc (.cells #[.int .i64 0, .slice none 0 0] 30)) = W at *
  have c0 := hbx.c0
  have c1 := hbx.c1
  have c2 := hby.c0
  have c3 := hby.c1
  have hne1 : w.heap.size ≠ w.heap.size + 1 + 1 := by omega
  have hne2 := hne1.symm
  go_wp2_with fail
  go_region_held3 (fun w' => w'.cell? ⟨w.heap.size, 0, none⟩ = some (.int .i64 0) ∧ w'.cell? ⟨w.heap.size, 1, none⟩ = some (.slice As ms cs) ∧ w'.cell? ⟨w.heap.size + 1, 0, none⟩ = some (.int .i64 0) ∧ w'.cell? ⟨w.heap.size + 1, 1, none⟩ = some (.slice At mt ct))
    (first | go_keep | exact ⟨by assumption, by assumption, by assumption, by assumption⟩ | ((try dsimp only); (repeat' apply And.intro); all_goals go_keep))
    (first
      | (go_at_call 59; refine (add_b (hn.out.drewN _) (hn'.out.drewN _) (by omega) (by omega)).mono ?_; rintro e w1 ⟨v1, rfl, hn1, hb1⟩; have x1 := hbx.drew.then_ hb1; have y1 := hres.drew.then_ hb1; have d0 := x1.c0; have d1 := x1.c1; have z1 := hby.drew.then_ hb1; have d2 := z1.c0; have d3 := z1.c1; have B1 := below_then (below_drew1 hbel) hbel.size hb1)
      | (go_at_call 14; refine (make_b false hn1).mono ?_; rintro e w2 ⟨v2, rfl, hn2, hb2⟩; have x2 := x1.then_ hb2; have y2 := y1.then_ hb2; have e0 := x2.c0; have e1 := x2.c1; have z2 := z1.then_ hb2; have e2 := z2.c0; have e3 := z2.c1; have B2 := below_then B1 B1.size hb2; obtain ⟨A, m, c, rfl⟩ := BN.slc hn2; obtain ⟨p0, p1, p2, p3⟩ := y2.rdy (.int .i64 (sgn (sg false (x.natAbs + y.natAbs))))))
  go_wp2_with fail
  refine bodyPost_ret (results_cell_row rfl _ _ (w.heap.size + 2) 30 _ (0, 0) _ rfl ((y2.set0 _).set1 _) Try.underlying30 rfl (by kernel_rfl)) rfl ?_
  exact MadeZB.put hn2 y2 (by omega) B2

set_option maxHeartbeats 1000000 in
theorem add_zp {x y : Int} {u v : Value} {K L : Nat} {w : World} (h : BN w u x.natAbs K) (h' : BN w v y.natAbs L) (hK : K ≤ 1073741824) (hL : L ≤ 1073741824) (hp : sgn x = 0) (hq : sgn y = 1) :
    Calls Try.prog 34 #[.agg #[.int .i64 0, u], .agg #[.int .i64 1, v]] w (MadeZB w (sg false (x.natAbs + y.natAbs)) (max K L + 1)) := by
  obtain ⟨As, ms, cs, rfl⟩ := h.slc
  obtain ⟨At, mt, ct, rfl⟩ := h'.slc
  have hn := Lib.hid (((h.alloc (.cells #[.int .i64 0, .slice As ms cs] 30)).alloc (.cells #[.int .i64 1, .slice At mt ct] 30)).alloc (.cells #[.int .i64 0, .slice none 0 0] 30))
  have hn' := Lib.hid (((h'.alloc (.cells #[.int .i64 0, .slice As ms cs] 30)).alloc (.cells #[.int .i64 1, .slice At mt ct] 30)).alloc (.cells #[.int .i64 0, .slice none 0 0] 30))
  have hbx := (((Box.new w 30 (.int .i64 0) (.slice As ms cs)).alloc (.cells #[.int .i64 1, .slice At mt ct] 30)).alloc (.cells #[.int .i64 0, .slice none 0 0] 30))
  have hby := ((Box.new1 w (.cells #[.int .i64 0, .slice As ms cs] 30) 30 (.int .i64 1) (.slice At mt ct)).alloc (.cells #[.int .i64 0, .slice none 0 0] 30))
  have hres := Box.new2 w (.cells #[.int .i64 0, .slice As ms cs] 30) (.cells #[.int .i64 1, .slice At mt ct] 30) 30 (.int .i64 0) (.slice none 0 0)
  have hbel := (below_alloc (below_alloc (below_alloc (Below.refl w.heap.size w) (.cells #[.int .i64 0, .slice As ms cs] 30)) (.cells #[.int .i64 1, .slice At mt ct] 30)) (.cells #[.int .i64 0, .slice none 0 0] 30))
  have HP := Lib.hid hp
  have HQ := Lib.hid hq
  clear h h' hp hq
  go_enter Try.func34, Try.ntmps34
  go_wp2_with fail
  generalize (((w.alloc (.cells #[.int .i64 0, .slice As ms cs] 30)).alloc (.cells #[.int .i64 1, .slice At mt ct] 30)).alloc (.cells #[.int .i64 0, .slice none 0 0] 30)) = W at *
  have c0 := hbx.c0
  have c1 := hbx.c1
  have c2 := hby.c0
  have c3 := hby.c1
  have hne1 : w.heap.size ≠ w.heap.size + 1 + 1 := by omega
  have hne2 := hne1.symm
  go_wp2_with fail
  go_region_held3 (fun w' => w'.cell? ⟨w.heap.size, 0, none⟩ = some (.int .i64 0) ∧ w'.cell? ⟨w.heap.size, 1, none⟩ = some (.slice As ms cs) ∧ w'.cell? ⟨w.heap.size + 1, 0, none⟩ = some (.int .i64 1) ∧ w'.cell? ⟨w.heap.size + 1, 1, none⟩ = some (.slice At mt ct))
    (first | go_keep | exact ⟨by assumption, by assumption, by assumption, by assumption⟩ | ((try dsimp only); (repeat' apply And.intro); all_goals go_keep))
    (first
      | (go_at_call 59; refine (add_b (hn.out.drewN _) (hn'.out.drewN _) (by omega) (by omega)).mono ?_; rintro e w1 ⟨v1, rfl, hn1, hb1⟩; have x1 := hbx.drew.then_ hb1; have y1 := hres.drew.then_ hb1; have d0 := x1.c0; have d1 := x1.c1; have z1 := hby.drew.then_ hb1; have d2 := z1.c0; have d3 := z1.c1; have B1 := below_then (below_drew1 hbel) hbel.size hb1)
      | (go_at_call 14; refine (make_b false hn1).mono ?_; rintro e w2 ⟨v2, rfl, hn2, hb2⟩; have x2 := x1.then_ hb2; have y2 := y1.then_ hb2; have e0 := x2.c0; have e1 := x2.c1; have z2 := z1.then_ hb2; have e2 := z2.c0; have e3 := z2.c1; have B2 := below_then B1 B1.size hb2; obtain ⟨A, m, c, rfl⟩ := BN.slc hn2; obtain ⟨p0, p1, p2, p3⟩ := y2.rdy (.int .i64 (sgn (sg false (x.natAbs + y.natAbs))))))
  go_wp2_with fail
  refine bodyPost_ret (results_cell_row rfl _ _ (w.heap.size + 2) 30 _ (0, 0) _ rfl ((y2.set0 _).set1 _) Try.underlying30 rfl (by kernel_rfl)) rfl ?_
  exact MadeZB.put hn2 y2 (by omega) B2

set_option maxHeartbeats 1000000 in
theorem add_pm_ge {x y : Int} {u v : Value} {K L : Nat} {w : World} (h : BN w u x.natAbs K) (h' : BN w v y.natAbs L) (hK : K ≤ 1073741824) (hL : L ≤ 1073741824) (hp : sgn x = 1) (hq : sgn y = (-1)) (hle : y.natAbs ≤ x.natAbs) :
    Calls Try.prog 34 #[.agg #[.int .i64 1, u], .agg #[.int .i64 (-1), v]] w (MadeZB w (sg false (x.natAbs - y.natAbs)) K) := by
  obtain ⟨As, ms, cs, rfl⟩ := h.slc
  obtain ⟨At, mt, ct, rfl⟩ := h'.slc
  have hn := Lib.hid (((h.alloc (.cells #[.int .i64 1, .slice As ms cs] 30)).alloc (.cells #[.int .i64 (-1), .slice At mt ct] 30)).alloc (.cells #[.int .i64 0, .slice none 0 0] 30))
  have hn' := Lib.hid (((h'.alloc (.cells #[.int .i64 1, .slice As ms cs] 30)).alloc (.cells #[.int .i64 (-1), .slice At mt ct] 30)).alloc (.cells #[.int .i64 0, .slice none 0 0] 30))
  have hbx := (((Box.new w 30 (.int .i64 1) (.slice As ms cs)).alloc (.cells #[.int .i64 (-1), .slice At mt ct] 30)).alloc (.cells #[.int .i64 0, .slice none 0 0] 30))
  have hby := ((Box.new1 w (.cells #[.int .i64 1, .slice As ms cs] 30) 30 (.int .i64 (-1)) (.slice At mt ct)).alloc (.cells #[.int .i64 0, .slice none 0 0] 30))
  have hres := Box.new2 w (.cells #[.int .i64 1, .slice As ms cs] 30) (.cells #[.int .i64 (-1), .slice At mt ct] 30) 30 (.int .i64 0) (.slice none 0 0)
  have hbel := (below_alloc (below_alloc (below_alloc (Below.refl w.heap.size w) (.cells #[.int .i64 1, .slice As ms cs] 30)) (.cells #[.int .i64 (-1), .slice At mt ct] 30)) (.cells #[.int .i64 0, .slice none 0 0] 30))
  have HP := Lib.hid hp
  have HQ := Lib.hid hq
  clear h h' hp hq
  have hr := cmpv_range x.natAbs y.natAbs
  have hc : 0 ≤ cmpv x.natAbs y.natAbs := by unfold cmpv; (repeat' split) <;> omega
  generalize hcv : cmpv x.natAbs y.natAbs = cv at *
  have HC := Lib.hid hcv
  clear hcv
  go_enter Try.func34, Try.ntmps34
  go_wp2_with fail
  generalize (((w.alloc (.cells #[.int .i64 1, .slice As ms cs] 30)).alloc (.cells #[.int .i64 (-1), .slice At mt ct] 30)).alloc (.cells #[.int .i64 0, .slice none 0 0] 30)) = W at *
  have c0 := hbx.c0
  have c1 := hbx.c1
  have c2 := hby.c0
  have c3 := hby.c1
  have hne1 : w.heap.size ≠ w.heap.size + 1 + 1 := by omega
  have hne2 := hne1.symm
  go_wp2_with fail
  refine (cmp_b hn.out hn'.out (by omega) (by omega)).mono ?_
  rw [HC.out]
  rintro e w0 ⟨rfl, hb0⟩
  have x0 := hbx.then_ hb0
  have z0 := hby.then_ hb0
  have y0 := hres.then_ hb0
  have q0 := hn.out.below hb0
  have q0' := hn'.out.below hb0
  have B0 := below_then hbel hbel.size hb0
  clear c0 c1 c2 c3
  have c0 := x0.c0
  have c1 := x0.c1
  have c2 := z0.c0
  have c3 := z0.c1
  go_wp2_with fail
  go_region_held3 (fun w' => w'.cell? ⟨w.heap.size, 0, none⟩ = some (.int .i64 1) ∧ w'.cell? ⟨w.heap.size, 1, none⟩ = some (.slice As ms cs) ∧ w'.cell? ⟨w.heap.size + 1, 0, none⟩ = some (.int .i64 (-1)) ∧ w'.cell? ⟨w.heap.size + 1, 1, none⟩ = some (.slice At mt ct))
    (first | go_keep | exact ⟨by assumption, by assumption, by assumption, by assumption⟩ | ((try dsimp only); (repeat' apply And.intro); all_goals go_keep))
    (first
      | (go_at_call 60; refine (sub_b (q0.drewN _) (q0'.drewN _) (by omega) hle).mono ?_; rintro e w1 ⟨v1, rfl, hn1, hb1⟩; have x1 := x0.drew.then_ hb1; have y1 := y0.drew.then_ hb1; have d0 := x1.c0; have d1 := x1.c1; have z1 := z0.drew.then_ hb1; have d2 := z1.c0; have d3 := z1.c1; have B1 := below_then (below_drew1 B0) B0.size hb1)
      | (go_at_call 14; refine (make_b false hn1).mono ?_; rintro e w2 ⟨v2, rfl, hn2, hb2⟩; have x2 := x1.then_ hb2; have y2 := y1.then_ hb2; have e0 := x2.c0; have e1 := x2.c1; have z2 := z1.then_ hb2; have e2 := z2.c0; have e3 := z2.c1; have B2 := below_then B1 B1.size hb2; obtain ⟨A, m, c, rfl⟩ := BN.slc hn2; obtain ⟨p0, p1, p2, p3⟩ := y2.rdy (.int .i64 (sgn (sg false (x.natAbs - y.natAbs))))))
  go_wp2_with fail
  refine bodyPost_ret (results_cell_row rfl _ _ (w.heap.size + 2) 30 _ (0, 0) _ rfl ((y2.set0 _).set1 _) Try.underlying30 rfl (by kernel_rfl)) rfl ?_
  exact MadeZB.put hn2 y2 (by omega) B2

set_option maxHeartbeats 1000000 in
theorem add_pm_lt {x y : Int} {u v : Value} {K L : Nat} {w : World} (h : BN w u x.natAbs K) (h' : BN w v y.natAbs L) (hK : K ≤ 1073741824) (hL : L ≤ 1073741824) (hp : sgn x = 1) (hq : sgn y = (-1)) (hlt : x.natAbs < y.natAbs) :
    Calls Try.prog 34 #[.agg #[.int .i64 1, u], .agg #[.int .i64 (-1), v]] w (MadeZB w (sg true (y.natAbs - x.natAbs)) L) := by
  have hle := Nat.le_of_lt hlt
  obtain ⟨As, ms, cs, rfl⟩ := h.slc
  obtain ⟨At, mt, ct, rfl⟩ := h'.slc
  have hn := Lib.hid (((h.alloc (.cells #[.int .i64 1, .slice As ms cs] 30)).alloc (.cells #[.int .i64 (-1), .slice At mt ct] 30)).alloc (.cells #[.int .i64 0, .slice none 0 0] 30))
  have hn' := Lib.hid (((h'.alloc (.cells #[.int .i64 1, .slice As ms cs] 30)).alloc (.cells #[.int .i64 (-1), .slice At mt ct] 30)).alloc (.cells #[.int .i64 0, .slice none 0 0] 30))
  have hbx := (((Box.new w 30 (.int .i64 1) (.slice As ms cs)).alloc (.cells #[.int .i64 (-1), .slice At mt ct] 30)).alloc (.cells #[.int .i64 0, .slice none 0 0] 30))
  have hby := ((Box.new1 w (.cells #[.int .i64 1, .slice As ms cs] 30) 30 (.int .i64 (-1)) (.slice At mt ct)).alloc (.cells #[.int .i64 0, .slice none 0 0] 30))
  have hres := Box.new2 w (.cells #[.int .i64 1, .slice As ms cs] 30) (.cells #[.int .i64 (-1), .slice At mt ct] 30) 30 (.int .i64 0) (.slice none 0 0)
  have hbel := (below_alloc (below_alloc (below_alloc (Below.refl w.heap.size w) (.cells #[.int .i64 1, .slice As ms cs] 30)) (.cells #[.int .i64 (-1), .slice At mt ct] 30)) (.cells #[.int .i64 0, .slice none 0 0] 30))
  have HP := Lib.hid hp
  have HQ := Lib.hid hq
  clear h h' hp hq
  have hr := cmpv_range x.natAbs y.natAbs
  have hc : cmpv x.natAbs y.natAbs < 0 := by unfold cmpv; (repeat' split) <;> omega
  generalize hcv : cmpv x.natAbs y.natAbs = cv at *
  have HC := Lib.hid hcv
  clear hcv
  go_enter Try.func34, Try.ntmps34
  go_wp2_with fail
  generalize (((w.alloc (.cells #[.int .i64 1, .slice As ms cs] 30)).alloc (.cells #[.int .i64 (-1), .slice At mt ct] 30)).alloc (.cells #[.int .i64 0, .slice none 0 0] 30)) = W at *
  have c0 := hbx.c0
  have c1 := hbx.c1
  have c2 := hby.c0
  have c3 := hby.c1
  have hne1 : w.heap.size ≠ w.heap.size + 1 + 1 := by omega
  have hne2 := hne1.symm
  go_wp2_with fail
  refine (cmp_b hn.out hn'.out (by omega) (by omega)).mono ?_
  rw [HC.out]
  rintro e w0 ⟨rfl, hb0⟩
  have x0 := hbx.then_ hb0
  have z0 := hby.then_ hb0
  have y0 := hres.then_ hb0
  have q0 := hn.out.below hb0
  have q0' := hn'.out.below hb0
  have B0 := below_then hbel hbel.size hb0
  clear c0 c1 c2 c3
  have c0 := x0.c0
  have c1 := x0.c1
  have c2 := z0.c0
  have c3 := z0.c1
  go_wp2_with fail
  go_region_held3 (fun w' => w'.cell? ⟨w.heap.size, 0, none⟩ = some (.int .i64 1) ∧ w'.cell? ⟨w.heap.size, 1, none⟩ = some (.slice As ms cs) ∧ w'.cell? ⟨w.heap.size + 1, 0, none⟩ = some (.int .i64 (-1)) ∧ w'.cell? ⟨w.heap.size + 1, 1, none⟩ = some (.slice At mt ct))
    (first | go_keep | exact ⟨by assumption, by assumption, by assumption, by assumption⟩ | ((try dsimp only); (repeat' apply And.intro); all_goals go_keep))
    (first
      | (go_at_call 60; refine (sub_b (q0'.drewN _) (q0.drewN _) (by omega) hle).mono ?_; rintro e w1 ⟨v1, rfl, hn1, hb1⟩; have x1 := x0.drew.then_ hb1; have y1 := y0.drew.then_ hb1; have d0 := x1.c0; have d1 := x1.c1; have z1 := z0.drew.then_ hb1; have d2 := z1.c0; have d3 := z1.c1; have B1 := below_then (below_drew1 B0) B0.size hb1)
      | (go_at_call 14; refine (make_b true hn1).mono ?_; rintro e w2 ⟨v2, rfl, hn2, hb2⟩; have x2 := x1.then_ hb2; have y2 := y1.then_ hb2; have e0 := x2.c0; have e1 := x2.c1; have z2 := z1.then_ hb2; have e2 := z2.c0; have e3 := z2.c1; have B2 := below_then B1 B1.size hb2; obtain ⟨A, m, c, rfl⟩ := BN.slc hn2; obtain ⟨p0, p1, p2, p3⟩ := y2.rdy (.int .i64 (sgn (sg true (y.natAbs - x.natAbs))))))
  go_wp2_with fail
  refine bodyPost_ret (results_cell_row rfl _ _ (w.heap.size + 2) 30 _ (0, 0) _ rfl ((y2.set0 _).set1 _) Try.underlying30 rfl (by kernel_rfl)) rfl ?_
  exact MadeZB.put hn2 y2 (by omega) B2

set_option maxHeartbeats 1000000 in
theorem add_pz {x y : Int} {u v : Value} {K L : Nat} {w : World} (h : BN w u x.natAbs K) (h' : BN w v y.natAbs L) (hK : K ≤ 1073741824) (hL : L ≤ 1073741824) (hp : sgn x = 1) (hq : sgn y = 0) :
    Calls Try.prog 34 #[.agg #[.int .i64 1, u], .agg #[.int .i64 0, v]] w (MadeZB w (sg false (x.natAbs + y.natAbs)) (max K L + 1)) := by
  obtain ⟨As, ms, cs, rfl⟩ := h.slc
  obtain ⟨At, mt, ct, rfl⟩ := h'.slc
  have hn := Lib.hid (((h.alloc (.cells #[.int .i64 1, .slice As ms cs] 30)).alloc (.cells #[.int .i64 0, .slice At mt ct] 30)).alloc (.cells #[.int .i64 0, .slice none 0 0] 30))
  have hn' := Lib.hid (((h'.alloc (.cells #[.int .i64 1, .slice As ms cs] 30)).alloc (.cells #[.int .i64 0, .slice At mt ct] 30)).alloc (.cells #[.int .i64 0, .slice none 0 0] 30))
  have hbx := (((Box.new w 30 (.int .i64 1) (.slice As ms cs)).alloc (.cells #[.int .i64 0, .slice At mt ct] 30)).alloc (.cells #[.int .i64 0, .slice none 0 0] 30))
  have hby := ((Box.new1 w (.cells #[.int .i64 1, .slice As ms cs] 30) 30 (.int .i64 0) (.slice At mt ct)).alloc (.cells #[.int .i64 0, .slice none 0 0] 30))
  have hres := Box.new2 w (.cells #[.int .i64 1, .slice As ms cs] 30) (.cells #[.int .i64 0, .slice At mt ct] 30) 30 (.int .i64 0) (.slice none 0 0)
  have hbel := (below_alloc (below_alloc (below_alloc (Below.refl w.heap.size w) (.cells #[.int .i64 1, .slice As ms cs] 30)) (.cells #[.int .i64 0, .slice At mt ct] 30)) (.cells #[.int .i64 0, .slice none 0 0] 30))
  have HP := Lib.hid hp
  have HQ := Lib.hid hq
  clear h h' hp hq
  go_enter Try.func34, Try.ntmps34
  go_wp2_with fail
  generalize (((w.alloc (.cells #[.int .i64 1, .slice As ms cs] 30)).alloc (.cells #[.int .i64 0, .slice At mt ct] 30)).alloc (.cells #[.int .i64 0, .slice none 0 0] 30)) = W at *
  have c0 := hbx.c0
  have c1 := hbx.c1
  have c2 := hby.c0
  have c3 := hby.c1
  have hne1 : w.heap.size ≠ w.heap.size + 1 + 1 := by omega
  have hne2 := hne1.symm
  go_wp2_with fail
  go_region_held3 (fun w' => w'.cell? ⟨w.heap.size, 0, none⟩ = some (.int .i64 1) ∧ w'.cell? ⟨w.heap.size, 1, none⟩ = some (.slice As ms cs) ∧ w'.cell? ⟨w.heap.size + 1, 0, none⟩ = some (.int .i64 0) ∧ w'.cell? ⟨w.heap.size + 1, 1, none⟩ = some (.slice At mt ct))
    (first | go_keep | exact ⟨by assumption, by assumption, by assumption, by assumption⟩ | ((try dsimp only); (repeat' apply And.intro); all_goals go_keep))
    (first
      | (go_at_call 59; refine (add_b (hn.out.drewN _) (hn'.out.drewN _) (by omega) (by omega)).mono ?_; rintro e w1 ⟨v1, rfl, hn1, hb1⟩; have x1 := hbx.drew.then_ hb1; have y1 := hres.drew.then_ hb1; have d0 := x1.c0; have d1 := x1.c1; have z1 := hby.drew.then_ hb1; have d2 := z1.c0; have d3 := z1.c1; have B1 := below_then (below_drew1 hbel) hbel.size hb1)
      | (go_at_call 14; refine (make_b false hn1).mono ?_; rintro e w2 ⟨v2, rfl, hn2, hb2⟩; have x2 := x1.then_ hb2; have y2 := y1.then_ hb2; have e0 := x2.c0; have e1 := x2.c1; have z2 := z1.then_ hb2; have e2 := z2.c0; have e3 := z2.c1; have B2 := below_then B1 B1.size hb2; obtain ⟨A, m, c, rfl⟩ := BN.slc hn2; obtain ⟨p0, p1, p2, p3⟩ := y2.rdy (.int .i64 (sgn (sg false (x.natAbs + y.natAbs))))))
  go_wp2_with fail
  refine bodyPost_ret (results_cell_row rfl _ _ (w.heap.size + 2) 30 _ (0, 0) _ rfl ((y2.set0 _).set1 _) Try.underlying30 rfl (by kernel_rfl)) rfl ?_
  exact MadeZB.put hn2 y2 (by omega) B2

set_option maxHeartbeats 1000000 in
theorem add_pp {x y : Int} {u v : Value} {K L : Nat} {w : World} (h : BN w u x.natAbs K) (h' : BN w v y.natAbs L) (hK : K ≤ 1073741824) (hL : L ≤ 1073741824) (hp : sgn x = 1) (hq : sgn y = 1) :
    Calls Try.prog 34 #[.agg #[.int .i64 1, u], .agg #[.int .i64 1, v]] w (MadeZB w (sg false (x.natAbs + y.natAbs)) (max K L + 1)) := by
  obtain ⟨As, ms, cs, rfl⟩ := h.slc
  obtain ⟨At, mt, ct, rfl⟩ := h'.slc
  have hn := Lib.hid (((h.alloc (.cells #[.int .i64 1, .slice As ms cs] 30)).alloc (.cells #[.int .i64 1, .slice At mt ct] 30)).alloc (.cells #[.int .i64 0, .slice none 0 0] 30))
  have hn' := Lib.hid (((h'.alloc (.cells #[.int .i64 1, .slice As ms cs] 30)).alloc (.cells #[.int .i64 1, .slice At mt ct] 30)).alloc (.cells #[.int .i64 0, .slice none 0 0] 30))
  have hbx := (((Box.new w 30 (.int .i64 1) (.slice As ms cs)).alloc (.cells #[.int .i64 1, .slice At mt ct] 30)).alloc (.cells #[.int .i64 0, .slice none 0 0] 30))
  have hby := ((Box.new1 w (.cells #[.int .i64 1, .slice As ms cs] 30) 30 (.int .i64 1) (.slice At mt ct)).alloc (.cells #[.int .i64 0, .slice none 0 0] 30))
  have hres := Box.new2 w (.cells #[.int .i64 1, .slice As ms cs] 30) (.cells #[.int .i64 1, .slice At mt ct] 30) 30 (.int .i64 0) (.slice none 0 0)
  have hbel := (below_alloc (below_alloc (below_alloc (Below.refl w.heap.size w) (.cells #[.int .i64 1, .slice As ms cs] 30)) (.cells #[.int .i64 1, .slice At mt ct] 30)) (.cells #[.int .i64 0, .slice none 0 0] 30))
  have HP := Lib.hid hp
  have HQ := Lib.hid hq
  clear h h' hp hq
  go_enter Try.func34, Try.ntmps34
  go_wp2_with fail
  generalize (((w.alloc (.cells #[.int .i64 1, .slice As ms cs] 30)).alloc (.cells #[.int .i64 1, .slice At mt ct] 30)).alloc (.cells #[.int .i64 0, .slice none 0 0] 30)) = W at *
  have c0 := hbx.c0
  have c1 := hbx.c1
  have c2 := hby.c0
  have c3 := hby.c1
  have hne1 : w.heap.size ≠ w.heap.size + 1 + 1 := by omega
  have hne2 := hne1.symm
  go_wp2_with fail
  go_region_held3 (fun w' => w'.cell? ⟨w.heap.size, 0, none⟩ = some (.int .i64 1) ∧ w'.cell? ⟨w.heap.size, 1, none⟩ = some (.slice As ms cs) ∧ w'.cell? ⟨w.heap.size + 1, 0, none⟩ = some (.int .i64 1) ∧ w'.cell? ⟨w.heap.size + 1, 1, none⟩ = some (.slice At mt ct))
    (first | go_keep | exact ⟨by assumption, by assumption, by assumption, by assumption⟩ | ((try dsimp only); (repeat' apply And.intro); all_goals go_keep))
    (first
      | (go_at_call 59; refine (add_b (hn.out.drewN _) (hn'.out.drewN _) (by omega) (by omega)).mono ?_; rintro e w1 ⟨v1, rfl, hn1, hb1⟩; have x1 := hbx.drew.then_ hb1; have y1 := hres.drew.then_ hb1; have d0 := x1.c0; have d1 := x1.c1; have z1 := hby.drew.then_ hb1; have d2 := z1.c0; have d3 := z1.c1; have B1 := below_then (below_drew1 hbel) hbel.size hb1)
      | (go_at_call 14; refine (make_b false hn1).mono ?_; rintro e w2 ⟨v2, rfl, hn2, hb2⟩; have x2 := x1.then_ hb2; have y2 := y1.then_ hb2; have e0 := x2.c0; have e1 := x2.c1; have z2 := z1.then_ hb2; have e2 := z2.c0; have e3 := z2.c1; have B2 := below_then B1 B1.size hb2; obtain ⟨A, m, c, rfl⟩ := BN.slc hn2; obtain ⟨p0, p1, p2, p3⟩ := y2.rdy (.int .i64 (sgn (sg false (x.natAbs + y.natAbs))))))
  go_wp2_with fail
  refine bodyPost_ret (results_cell_row rfl _ _ (w.heap.size + 2) 30 _ (0, 0) _ rfl ((y2.set0 _).set1 _) Try.underlying30 rfl (by kernel_rfl)) rfl ?_
  exact MadeZB.put hn2 y2 (by omega) B2

theorem MadeZB.more {w w' : World} {z : Int} {k k' : Nat} {e : Ending} (h : MadeZB w z k e w') (hk : k ≤ k') : MadeZB w z k' e w' := by
  obtain ⟨s, he, hn, hb⟩ := h
  exact ⟨s, he, hn.more hk, hb⟩
theorem sg_t (n : Nat) : sg true n = -(n : Int) := rfl
theorem sg_f (n : Nat) : sg false n = (n : Int) := rfl

theorem zcmp_b {x y : Int} {u v : Value} {K L : Nat} {w : World} (h : BN w u x.natAbs K) (h' : BN w v y.natAbs L) (hK : K ≤ 1073741824) (hL : L ≤ 1073741824) :
    Calls Try.prog 33 #[.agg #[.int .i64 (sgn x), u], .agg #[.int .i64 (sgn y), v]] w (fun e w' => e = .returned (.int .i64 (zcmp x y)) ∧ Below w.heap.size w w') := by
  rcases sgn_cases x with hp | hp | hp <;> rcases sgn_cases y with hq | hq | hq <;> rw [hp, hq]
  · exact cmp_mm h h' hK hL hp hq
  · exact cmp_mz h h' hK hL hp hq
  · exact cmp_mp h h' hK hL hp hq
  · exact cmp_zm h h' hK hL hp hq
  · exact cmp_zz h h' hK hL hp hq
  · exact cmp_zp h h' hK hL hp hq
  · exact cmp_pm h h' hK hL hp hq
  · exact cmp_pz h h' hK hL hp hq
  · exact cmp_pp h h' hK hL hp hq
theorem zmul_mm {x y : Int} (a : x < 0) (b : y < 0) : x * y = sg false (x.natAbs * y.natAbs) := by
  obtain ⟨i, rfl⟩ : ∃ i : Nat, x = -(i : Int) := ⟨x.natAbs, by omega⟩
  obtain ⟨j, rfl⟩ : ∃ j : Nat, y = -(j : Int) := ⟨y.natAbs, by omega⟩
  simp [sg, Int.neg_mul, Int.mul_neg]
theorem zmul_mz {x y : Int} (a : x < 0) (b : y = 0) : x * y = sg false (x.natAbs * y.natAbs) := by
  subst b; simp [sg]
theorem zmul_mp {x y : Int} (a : x < 0) (b : 0 < y) : x * y = sg true (x.natAbs * y.natAbs) := by
  obtain ⟨i, rfl⟩ : ∃ i : Nat, x = -(i : Int) := ⟨x.natAbs, by omega⟩
  obtain ⟨j, rfl⟩ : ∃ j : Nat, y = (j : Int) := ⟨y.natAbs, by omega⟩
  simp [sg, Int.neg_mul, Int.mul_neg]
theorem zmul_zm {x y : Int} (a : x = 0) (b : y < 0) : x * y = sg false (x.natAbs * y.natAbs) := by
  subst a; simp [sg]
theorem zmul_zz {x y : Int} (a : x = 0) (b : y = 0) : x * y = sg false (x.natAbs * y.natAbs) := by
  subst a; simp [sg]
theorem zmul_zp {x y : Int} (a : x = 0) (b : 0 < y) : x * y = sg false (x.natAbs * y.natAbs) := by
  subst a; simp [sg]
theorem zmul_pm {x y : Int} (a : 0 < x) (b : y < 0) : x * y = sg true (x.natAbs * y.natAbs) := by
  obtain ⟨i, rfl⟩ : ∃ i : Nat, x = (i : Int) := ⟨x.natAbs, by omega⟩
  obtain ⟨j, rfl⟩ : ∃ j : Nat, y = -(j : Int) := ⟨y.natAbs, by omega⟩
  simp [sg, Int.neg_mul, Int.mul_neg]
theorem zmul_pz {x y : Int} (a : 0 < x) (b : y = 0) : x * y = sg false (x.natAbs * y.natAbs) := by
  subst b; simp [sg]
theorem zmul_pp {x y : Int} (a : 0 < x) (b : 0 < y) : x * y = sg false (x.natAbs * y.natAbs) := by
  obtain ⟨i, rfl⟩ : ∃ i : Nat, x = (i : Int) := ⟨x.natAbs, by omega⟩
  obtain ⟨j, rfl⟩ : ∃ j : Nat, y = (j : Int) := ⟨y.natAbs, by omega⟩
  simp [sg, Int.neg_mul, Int.mul_neg]

theorem zmul_b {x y : Int} {u v : Value} {K L : Nat} {w : World} (h : BN w u x.natAbs K) (h' : BN w v y.natAbs L) (hK : K ≤ 1073741824) (hL : L ≤ 1073741824) :
    Calls Try.prog 18 #[.agg #[.int .i64 (sgn x), u], .agg #[.int .i64 (sgn y), v]] w (MadeZB w (x * y) (K + L)) := by
  rcases sgn_cases x with hp | hp | hp <;> rcases sgn_cases y with hq | hq | hq <;> rw [hp, hq]
  · have e : x * y = sg false (x.natAbs * y.natAbs) := by
      have a := sgn_m.1 hp
      have b := sgn_m.1 hq
      exact zmul_mm a b
    rw [e]
    exact mul_mm h h' hK hL hp hq
  · have e : x * y = sg false (x.natAbs * y.natAbs) := by
      have a := sgn_m.1 hp
      have b := sgn_0.1 hq
      exact zmul_mz a b
    rw [e]
    exact mul_mz h h' hK hL hp hq
  · have e : x * y = sg true (x.natAbs * y.natAbs) := by
      have a := sgn_m.1 hp
      have b := sgn_p.1 hq
      exact zmul_mp a b
    rw [e]
    exact mul_mp h h' hK hL hp hq
  · have e : x * y = sg false (x.natAbs * y.natAbs) := by
      have a := sgn_0.1 hp
      have b := sgn_m.1 hq
      exact zmul_zm a b
    rw [e]
    exact mul_zm h h' hK hL hp hq
  · have e : x * y = sg false (x.natAbs * y.natAbs) := by
      have a := sgn_0.1 hp
      have b := sgn_0.1 hq
      exact zmul_zz a b
    rw [e]
    exact mul_zz h h' hK hL hp hq
  · have e : x * y = sg false (x.natAbs * y.natAbs) := by
      have a := sgn_0.1 hp
      have b := sgn_p.1 hq
      exact zmul_zp a b
    rw [e]
    exact mul_zp h h' hK hL hp hq
  · have e : x * y = sg true (x.natAbs * y.natAbs) := by
      have a := sgn_p.1 hp
      have b := sgn_m.1 hq
      exact zmul_pm a b
    rw [e]
    exact mul_pm h h' hK hL hp hq
  · have e : x * y = sg false (x.natAbs * y.natAbs) := by
      have a := sgn_p.1 hp
      have b := sgn_0.1 hq
      exact zmul_pz a b
    rw [e]
    exact mul_pz h h' hK hL hp hq
  · have e : x * y = sg false (x.natAbs * y.natAbs) := by
      have a := sgn_p.1 hp
      have b := sgn_p.1 hq
      exact zmul_pp a b
    rw [e]
    exact mul_pp h h' hK hL hp hq

theorem zadd_b {x y : Int} {u v : Value} {K L : Nat} {w : World} (h : BN w u x.natAbs K) (h' : BN w v y.natAbs L) (hK : K ≤ 1073741824) (hL : L ≤ 1073741824) :
    Calls Try.prog 34 #[.agg #[.int .i64 (sgn x), u], .agg #[.int .i64 (sgn y), v]] w (MadeZB w (x + y) (max K L + 1)) := by
  rcases sgn_cases x with hp | hp | hp <;> rcases sgn_cases y with hq | hq | hq <;> rw [hp, hq]
  · have e : x + y = sg true (x.natAbs + y.natAbs) := by
      have a := sgn_m.1 hp
      have b := sgn_m.1 hq
      simp only [sg_t, sg_f]
      omega
    rw [e]
    exact add_mm h h' hK hL hp hq
  · have e : x + y = sg true (x.natAbs + y.natAbs) := by
      have a := sgn_m.1 hp
      have b := sgn_0.1 hq
      simp only [sg_t, sg_f]
      omega
    rw [e]
    exact add_mz h h' hK hL hp hq
  · have a := sgn_m.1 hp
    have b := sgn_p.1 hq
    rcases Nat.lt_or_ge x.natAbs y.natAbs with hlt | hge
    · have e : x + y = sg false (y.natAbs - x.natAbs) := by simp only [sg_t, sg_f]; omega
      rw [e]
      exact (add_mp_lt h h' hK hL hp hq hlt).mono fun _ _ hm => hm.more (by omega)
    · have e : x + y = sg true (x.natAbs - y.natAbs) := by simp only [sg_t, sg_f]; omega
      rw [e]
      exact (add_mp_ge h h' hK hL hp hq hge).mono fun _ _ hm => hm.more (by omega)
  · have e : x + y = sg true (x.natAbs + y.natAbs) := by
      have a := sgn_0.1 hp
      have b := sgn_m.1 hq
      simp only [sg_t, sg_f]
      omega
    rw [e]
    exact add_zm h h' hK hL hp hq
  · have e : x + y = sg false (x.natAbs + y.natAbs) := by
      have a := sgn_0.1 hp
      have b := sgn_0.1 hq
      simp only [sg_t, sg_f]
      omega
    rw [e]
    exact add_zz h h' hK hL hp hq
  · have e : x + y = sg false (x.natAbs + y.natAbs) := by
      have a := sgn_0.1 hp
      have b := sgn_p.1 hq
      simp only [sg_t, sg_f]
      omega
    rw [e]
    exact add_zp h h' hK hL hp hq
  · have a := sgn_p.1 hp
    have b := sgn_m.1 hq
    rcases Nat.lt_or_ge x.natAbs y.natAbs with hlt | hge
    · have e : x + y = sg true (y.natAbs - x.natAbs) := by simp only [sg_t, sg_f]; omega
      rw [e]
      exact (add_pm_lt h h' hK hL hp hq hlt).mono fun _ _ hm => hm.more (by omega)
    · have e : x + y = sg false (x.natAbs - y.natAbs) := by simp only [sg_t, sg_f]; omega
      rw [e]
      exact (add_pm_ge h h' hK hL hp hq hge).mono fun _ _ hm => hm.more (by omega)
  · have e : x + y = sg false (x.natAbs + y.natAbs) := by
      have a := sgn_p.1 hp
      have b := sgn_0.1 hq
      simp only [sg_t, sg_f]
      omega
    rw [e]
    exact add_pz h h' hK hL hp hq
  · have e : x + y = sg false (x.natAbs + y.natAbs) := by
      have a := sgn_p.1 hp
      have b := sgn_p.1 hq
      simp only [sg_t, sg_f]
      omega
    rw [e]
    exact add_pp h h' hK hL hp hq
end Go.Proofs.Ythadkjekagfjfaa.N
