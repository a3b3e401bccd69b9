/- Package integer as walks: Of, Sign, IsOdd, BitLen, Cmp, Same, Int64. Conditions stand at each theorem. -/
import Derived.Test.YthadkjekagfjfaaI2
import Derived.Test.YthadkjekagfjfaaR9
namespace Go.Proofs.Ythadkjekagfjfaa.N
open Go.RowKit Go.Proofs.Ythadkjekagfjfaa.Dig Go.Proofs.YthadkjekagfjfaaW.PrintWords Go.Proofs.YthadkjekagfjfaaW.PrintLast Go.Proofs.YthadkjekagfjfaaW.PrintMore
set_option linter.unusedVariables false

theorem ofZ_neg (m : Nat) (h0 : 0 < m) (h : m ≤ 9223372036854775808) (w : World) :
    Calls Try.prog 25 #[.int .i64 (-(m : Int))] w (MadeZ w (sg true m) 2) := by
  have hneg : -(m : Int) < 0 := by omega
  have E := u64_neg m h0 h
  go_enter Try.func25, Try.ntmps25
  go_wp2_with fail
  refine (of_n m (by omega) _).mono ?_
  rintro e w1 ⟨v1, rfl, ho1, hn1, hb1⟩
  have y1 := (Box.new w _ _ _).then_ hb1
  have B1 := below_then (below_alloc (Below.refl w.heap.size w) _) (by simp) hb1
  clear E
  go_wp2_with fail
  refine (made_z true ho1).mono ?_
  rintro e w2 ⟨rfl, hb2⟩
  have y2 := y1.then_ hb2
  have B2 := below_then B1 B1.size hb2
  have ho2 := ho1.below hb2
  have hn2 := hn1.below hb2
  obtain ⟨A, c, rfl⟩ := ho1.shp
  obtain ⟨p0, p1, p2, p3⟩ := y2.rdy (.bool (zneg (sg true m)))
  go_wp2_with fail
  refine bodyPost_ret (results_cell_row rfl _ _ w.heap.size 25 _ (0, 0) _ rfl ((y2.set0 _).set1 _) Try.underlying25 rfl (by kernel_rfl)) rfl ?_
  exact MadeZ.put (ho2.sg true) (by simp) (hn2.abs_lt true) y2 (by omega) B2
theorem ofZ_pos (m : Nat) (h : m ≤ 9223372036854775807) (w : World) :
    Calls Try.prog 25 #[.int .i64 m] w (MadeZ w (sg false m) 2) := by
  go_enter Try.func25, Try.ntmps25
  go_wp2_with fail
  refine (of_n m (by omega) _).mono ?_
  rintro e w1 ⟨v1, rfl, ho1, hn1, hb1⟩
  have y1 := (Box.new w _ _ _).then_ hb1
  have B1 := below_then (below_alloc (Below.refl w.heap.size w) _) (by simp) hb1
  go_wp2_with fail
  refine (made_z false ho1).mono ?_
  rintro e w2 ⟨rfl, hb2⟩
  have y2 := y1.then_ hb2
  have B2 := below_then B1 B1.size hb2
  have ho2 := ho1.below hb2
  have hn2 := hn1.below hb2
  obtain ⟨A, c, rfl⟩ := ho1.shp
  obtain ⟨p0, p1, p2, p3⟩ := y2.rdy (.bool (zneg (sg false m)))
  go_wp2_with fail
  refine bodyPost_ret (results_cell_row rfl _ _ w.heap.size 25 _ (0, 0) _ rfl ((y2.set0 _).set1 _) Try.underlying25 rfl (by kernel_rfl)) rfl ?_
  exact MadeZ.put (ho2.sg false) (by simp) (hn2.abs_lt false) y2 (by omega) B2
theorem of_z (z : Int) (h1 : -9223372036854775808 ≤ z) (h2 : z ≤ 9223372036854775807) (w : World) :
    Calls Try.prog 25 #[.int .i64 z] w (MadeZ w z 2) := by
  by_cases h : z < 0
  · obtain ⟨m, rfl⟩ : ∃ m : Nat, z = -(m : Int) := ⟨z.natAbs, by omega⟩
    have := ofZ_neg m (by omega) (by omega) w
    exact this
  · obtain ⟨m, rfl⟩ : ∃ m : Nat, z = (m : Int) := ⟨z.natAbs, by omega⟩
    exact ofZ_pos m (by omega) w

/-- The sign as Sign tells it. -/
def sgn (z : Int) : Int := if z = 0 then 0 else if z < 0 then -1 else 1
theorem isz_decide (n : Nat) : isz n = decide (n = 0) := rfl

set_option maxHeartbeats 400000 in
theorem sign_z (b : Bool) {s : Value} {n i : Nat} {w : World} (h : Num w s n i) :
    Calls Try.prog 30 #[.agg #[.bool b, s]] w fun e w' => e = .returned (.int .i64 (sgn (sg b n))) ∧ Below w.heap.size w w' := by
  obtain ⟨As, ms, cs, rfl, _⟩ := h.slc
  by_cases h0 : n = 0
  · have E := Lib.hid (isz_true h0)
    have e : sgn (sg b n) = 0 := by subst h0; cases b <;> rfl
    rw [e]
    clear h0 e
    go_enter Try.func30, Try.ntmps30
    go_wp2_with fail
    refine (isZero_n (h.alloc _)).mono ?_
    rw [E.out]
    rintro e w_ ⟨rfl, rfl⟩
    go_wp2_with fail
    go_ret
    exact ⟨rfl, below_alloc (Below.refl _ _) _⟩
  · have E := Lib.hid (isz_false h0)
    have e : sgn (sg b n) = cond b (-1) 1 := by
      cases b
      · have : ¬ ((n : Int) = 0) := by omega
        have : ¬ ((n : Int) < 0) := by omega
        simp [sgn, sg, *]
      · have : ¬ (-(n : Int) = 0) := by omega
        have : (-(n : Int) < 0) := by omega
        simp [sgn, sg, *]
    rw [e]
    clear h0 e
    cases b
    all_goals
      go_enter Try.func30, Try.ntmps30
      go_wp2_with fail
      refine (isZero_n (h.alloc _)).mono ?_
      rw [E.out]
      rintro e w_ ⟨rfl, rfl⟩
      go_wp2_with fail
      go_ret
      exact ⟨rfl, below_alloc (Below.refl _ _) _⟩

theorem bitLen_z (b : Bool) {s : Value} {n i : Nat} {w : World} (h : Num w s n i) (hi : i ≤ 8796093022208) :
    Calls Try.prog 22 #[.agg #[.bool b, s]] w fun e w' => e = .returned (.int .i64 (bl n : Nat)) ∧ Below w.heap.size w w' := by
  obtain ⟨As, ms, cs, rfl, _⟩ := h.slc
  go_enter Try.func22, Try.ntmps22
  go_wp2_with fail
  refine (bitLen_n (h.alloc _) hi).mono ?_
  rintro e w_ ⟨rfl, rfl⟩
  go_wp2_with fail
  go_ret
  exact ⟨rfl, below_alloc (Below.refl _ _) _⟩

/-- Is the absolute value odd? -/
def oddb (n : Nat) : Bool := decide (n % 2 = 1)
theorem isOdd_z (b : Bool) {s : Value} {n i : Nat} {w : World} (h : Num w s n i) (hi : i ≤ 8796093022208) :
    Calls Try.prog 23 #[.agg #[.bool b, s]] w fun e w' => e = .returned (.bool (oddb n)) ∧ Below w.heap.size w w' := by
  obtain ⟨As, ms, cs, rfl, _⟩ := h.slc
  have e0 : bitv n 0 = ((n % 2 : Nat) : Int) := by simp [bitv]
  have e1 : oddb n = (((n % 2 : Nat) : Int) == 1) := by
    unfold oddb
    rw [Bool.eq_iff_iff, decide_eq_true_iff, beq_iff_eq]
    omega
  have C := fun w' => bit_n (w := w') (v := .slice As ms cs) (n := n) (i := i)
  rw [e1]
  have hm := Nat.mod_lt n (show 2 > 0 by decide)
  have E := Lib.hid e0
  clear e0 e1 C
  generalize hx : n % 2 = x at *
  have HX := Lib.hid hx
  clear hx
  go_enter Try.func23, Try.ntmps23
  go_wp2_with fail
  refine (bit_n (h.alloc _) hi 0 (by decide)).mono ?_
  rw [E.out]
  rintro e w_ ⟨rfl, rfl⟩
  go_wp2_with fail
  go_ret
  exact ⟨rfl, below_alloc (Below.refl _ _) _⟩

/-- The order as Cmp tells it. -/
def zcmp (x y : Int) : Int := if x < y then -1 else if x = y then 0 else 1
theorem sgn_range (z : Int) : -1 ≤ sgn z ∧ sgn z ≤ 1 := by unfold sgn; split <;> (try split) <;> omega
theorem zcmp_of_sgn_lt {x y : Int} (h : sgn x < sgn y) : zcmp x y = -1 := by
  have : x < y := by unfold sgn at h; split at h <;> split at h <;> (try split at h) <;> (try split at h) <;> omega
  exact if_pos this
theorem zcmp_of_sgn_gt {x y : Int} (h : sgn y < sgn x) : zcmp x y = 1 := by
  have : y < x := by unfold sgn at h; split at h <;> split at h <;> (try split at h) <;> (try split at h) <;> omega
  unfold zcmp
  rw [if_neg (by omega), if_neg (by omega)]
theorem zcmp_neg {b b' : Bool} {n n' : Nat} (h : sgn (sg b n) = sgn (sg b' n')) (h0 : sgn (sg b n) < 0) : zcmp (sg b n) (sg b' n') = cmpv n' n := by
  cases b <;> cases b' <;> simp only [sg, cond_true, cond_false] at h h0 ⊢ <;> unfold sgn at h h0 <;> unfold zcmp cmpv <;> (repeat' split at h) <;> (repeat' split at h0) <;> (repeat' split) <;> omega
theorem zcmp_pos {b b' : Bool} {n n' : Nat} (h : sgn (sg b n) = sgn (sg b' n')) (h0 : 0 ≤ sgn (sg b n)) : zcmp (sg b n) (sg b' n') = cmpv n n' := by
  cases b <;> cases b' <;> simp only [sg, cond_true, cond_false] at h h0 ⊢ <;> unfold sgn at h h0 <;> unfold zcmp cmpv <;> (repeat' split at h) <;> (repeat' split at h0) <;> (repeat' split) <;> omega

theorem sign_as (b : Bool) {s : Value} {n i : Nat} {w : World} (h : Num w s n i) {p : Int} (hp : sgn (sg b n) = p) :
    Calls Try.prog 30 #[.agg #[.bool b, s]] w fun e w' => e = .returned (.int .i64 p) ∧ Below w.heap.size w w' := by
  subst hp; exact sign_z b h

set_option maxHeartbeats 400000 in
theorem cmp_gt (b b' : Bool) {s s' : Value} {n n' i i' : Nat} {w : World} (h : Num w s n i) (h' : Num w s' n' i') {p q : Int} (hp : sgn (sg b n) = p) (hq : sgn (sg b' n') = q) (hpq : q < p) :
    Calls Try.prog 26 #[.agg #[.bool b, s], .agg #[.bool b', s']] w fun e w' => e = .returned (.int .i64 1) ∧ Below w.heap.size w w' := by
  obtain ⟨As, ms, cs, rfl, _⟩ := h.slc
  obtain ⟨At, mt, ct, rfl, _⟩ := h'.slc
  have hn := Lib.hid ((h.alloc (.cells #[.bool b, .slice As ms cs] 25)).alloc (.cells #[.bool b', .slice At mt ct] 25))
  have hn' := Lib.hid ((h'.alloc (.cells #[.bool b, .slice As ms cs] 25)).alloc (.cells #[.bool b', .slice At mt ct] 25))
  have hbx := (Box.new w 25 (.bool b) (.slice As ms cs)).alloc (.cells #[.bool b', .slice At mt ct] 25)
  have hby := Box.new1 w (.cells #[.bool b, .slice As ms cs] 25) 25 (.bool b') (.slice At mt ct)
  have hbel := below_alloc (below_alloc (Below.refl w.heap.size w) (.cells #[.bool b, .slice As ms cs] 25)) (.cells #[.bool b', .slice At mt ct] 25)
  have HP := Lib.hid hp
  have HQ := Lib.hid hq
  clear h h' hp hq
  go_enter Try.func26, Try.ntmps26
  go_wp2_with fail
  generalize ((w.alloc (.cells #[.bool b, .slice As ms cs] 25)).alloc (.cells #[.bool b', .slice At mt ct] 25)) = W at *
  have c0 := hbx.c0
  have c1 := hbx.c1
  have c2 := hby.c0
  have c3 := hby.c1
  go_region_held3 (fun w' => w'.cell? ⟨w.heap.size, 0, none⟩ = some (.bool b) ∧ w'.cell? ⟨w.heap.size, 1, none⟩ = some (.slice As ms cs) ∧ w'.cell? ⟨w.heap.size + 1, 0, none⟩ = some (.bool b') ∧ w'.cell? ⟨w.heap.size + 1, 1, none⟩ = some (.slice At mt ct))
    (first | go_keep | exact ⟨by assumption, by assumption, by assumption, by assumption⟩)
    (first
      | (go_at_call 30; refine (sign_as b' q1' HQ.out).mono ?_; rintro e w2 ⟨rfl, hb2⟩; have x2 := x1.then_ hb2; have z2 := z1.then_ hb2; have e0 := x2.c0; have e1 := x2.c1; have e2 := z2.c0; have e3 := z2.c1; have B2 := below_then B1 B1.size hb2; have q2 := q1.below hb2; have q2' := q1'.below hb2)
      | (go_at_call 30; refine (sign_as b (hn.out.drewN _) HP.out).mono ?_; rintro e w1 ⟨rfl, hb1⟩; have x1 := hbx.drew.then_ hb1; have z1 := hby.drew.then_ hb1; have d0 := x1.c0; have d1 := x1.c1; have d2 := z1.c0; have d3 := z1.c1; have B1 := below_then (below_drew1 hbel) hbel.size hb1; have q1 := (hn.out.drewN 1).below hb1; have q1' := (hn'.out.drewN 1).below hb1))
  clear c0 c1 c2 c3 d0 d1 d2 d3
  go_wp2_with fail
  go_ret
  exact ⟨rfl, B2⟩

set_option maxHeartbeats 400000 in
theorem cmp_lt (b b' : Bool) {s s' : Value} {n n' i i' : Nat} {w : World} (h : Num w s n i) (h' : Num w s' n' i') {p q : Int} (hp : sgn (sg b n) = p) (hq : sgn (sg b' n') = q) (hpq : p < q) :
    Calls Try.prog 26 #[.agg #[.bool b, s], .agg #[.bool b', s']] w fun e w' => e = .returned (.int .i64 (-1)) ∧ Below w.heap.size w w' := by
  obtain ⟨As, ms, cs, rfl, _⟩ := h.slc
  obtain ⟨At, mt, ct, rfl, _⟩ := h'.slc
  have hn := Lib.hid ((h.alloc (.cells #[.bool b, .slice As ms cs] 25)).alloc (.cells #[.bool b', .slice At mt ct] 25))
  have hn' := Lib.hid ((h'.alloc (.cells #[.bool b, .slice As ms cs] 25)).alloc (.cells #[.bool b', .slice At mt ct] 25))
  have hbx := (Box.new w 25 (.bool b) (.slice As ms cs)).alloc (.cells #[.bool b', .slice At mt ct] 25)
  have hby := Box.new1 w (.cells #[.bool b, .slice As ms cs] 25) 25 (.bool b') (.slice At mt ct)
  have hbel := below_alloc (below_alloc (Below.refl w.heap.size w) (.cells #[.bool b, .slice As ms cs] 25)) (.cells #[.bool b', .slice At mt ct] 25)
  have HP := Lib.hid hp
  have HQ := Lib.hid hq
  clear h h' hp hq
  go_enter Try.func26, Try.ntmps26
  go_wp2_with fail
  generalize ((w.alloc (.cells #[.bool b, .slice As ms cs] 25)).alloc (.cells #[.bool b', .slice At mt ct] 25)) = W at *
  have c0 := hbx.c0
  have c1 := hbx.c1
  have c2 := hby.c0
  have c3 := hby.c1
  go_region_held3 (fun w' => w'.cell? ⟨w.heap.size, 0, none⟩ = some (.bool b) ∧ w'.cell? ⟨w.heap.size, 1, none⟩ = some (.slice As ms cs) ∧ w'.cell? ⟨w.heap.size + 1, 0, none⟩ = some (.bool b') ∧ w'.cell? ⟨w.heap.size + 1, 1, none⟩ = some (.slice At mt ct))
    (first | go_keep | exact ⟨by assumption, by assumption, by assumption, by assumption⟩)
    (first
      | (go_at_call 30; refine (sign_as b' q1' HQ.out).mono ?_; rintro e w2 ⟨rfl, hb2⟩; have x2 := x1.then_ hb2; have z2 := z1.then_ hb2; have e0 := x2.c0; have e1 := x2.c1; have e2 := z2.c0; have e3 := z2.c1; have B2 := below_then B1 B1.size hb2; have q2 := q1.below hb2; have q2' := q1'.below hb2)
      | (go_at_call 30; refine (sign_as b (hn.out.drewN _) HP.out).mono ?_; rintro e w1 ⟨rfl, hb1⟩; have x1 := hbx.drew.then_ hb1; have z1 := hby.drew.then_ hb1; have d0 := x1.c0; have d1 := x1.c1; have d2 := z1.c0; have d3 := z1.c1; have B1 := below_then (below_drew1 hbel) hbel.size hb1; have q1 := (hn.out.drewN 1).below hb1; have q1' := (hn'.out.drewN 1).below hb1))
  clear c0 c1 c2 c3 d0 d1 d2 d3
  go_wp2_with fail
  go_ret
  exact ⟨rfl, B2⟩

set_option maxHeartbeats 400000 in
theorem cmp_neg (b b' : Bool) {s s' : Value} {n n' i i' : Nat} {w : World} (h : Num w s n i) (h' : Num w s' n' i') {p q : Int} (hp : sgn (sg b n) = p) (hq : sgn (sg b' n') = q) (hpq : p = q) (h0 : p < 0) :
    Calls Try.prog 26 #[.agg #[.bool b, s], .agg #[.bool b', s']] w fun e w' => e = .returned (.int .i64 (cmpv n' n)) ∧ Below w.heap.size w w' := by
  obtain ⟨As, ms, cs, rfl, _⟩ := h.slc
  obtain ⟨At, mt, ct, rfl, _⟩ := h'.slc
  have hn := Lib.hid ((h.alloc (.cells #[.bool b, .slice As ms cs] 25)).alloc (.cells #[.bool b', .slice At mt ct] 25))
  have hn' := Lib.hid ((h'.alloc (.cells #[.bool b, .slice As ms cs] 25)).alloc (.cells #[.bool b', .slice At mt ct] 25))
  have hbx := (Box.new w 25 (.bool b) (.slice As ms cs)).alloc (.cells #[.bool b', .slice At mt ct] 25)
  have hby := Box.new1 w (.cells #[.bool b, .slice As ms cs] 25) 25 (.bool b') (.slice At mt ct)
  have hbel := below_alloc (below_alloc (Below.refl w.heap.size w) (.cells #[.bool b, .slice As ms cs] 25)) (.cells #[.bool b', .slice At mt ct] 25)
  have HP := Lib.hid hp
  have HQ := Lib.hid hq
  clear h h' hp hq
  subst hpq
  go_enter Try.func26, Try.ntmps26
  go_wp2_with fail
  generalize ((w.alloc (.cells #[.bool b, .slice As ms cs] 25)).alloc (.cells #[.bool b', .slice At mt ct] 25)) = W at *
  have c0 := hbx.c0
  have c1 := hbx.c1
  have c2 := hby.c0
  have c3 := hby.c1
  go_region_held3 (fun w' => w'.cell? ⟨w.heap.size, 0, none⟩ = some (.bool b) ∧ w'.cell? ⟨w.heap.size, 1, none⟩ = some (.slice As ms cs) ∧ w'.cell? ⟨w.heap.size + 1, 0, none⟩ = some (.bool b') ∧ w'.cell? ⟨w.heap.size + 1, 1, none⟩ = some (.slice At mt ct))
    (first | go_keep | exact ⟨by assumption, by assumption, by assumption, by assumption⟩)
    (first
      | (go_at_call 30; refine (sign_as b' q1' HQ.out).mono ?_; rintro e w2 ⟨rfl, hb2⟩; have x2 := x1.then_ hb2; have z2 := z1.then_ hb2; have e0 := x2.c0; have e1 := x2.c1; have e2 := z2.c0; have e3 := z2.c1; have B2 := below_then B1 B1.size hb2; have q2 := q1.below hb2; have q2' := q1'.below hb2)
      | (go_at_call 30; refine (sign_as b (hn.out.drewN _) HP.out).mono ?_; rintro e w1 ⟨rfl, hb1⟩; have x1 := hbx.drew.then_ hb1; have z1 := hby.drew.then_ hb1; have d0 := x1.c0; have d1 := x1.c1; have d2 := z1.c0; have d3 := z1.c1; have B1 := below_then (below_drew1 hbel) hbel.size hb1; have q1 := (hn.out.drewN 1).below hb1; have q1' := (hn'.out.drewN 1).below hb1))
  clear c0 c1 c2 c3 d0 d1 d2 d3
  go_wp2_with fail
  refine (cmp_n q2' q2).mono ?_
  rintro e w3 ⟨rfl, hb3⟩
  have B3 := below_then B2 B2.size hb3
  go_wp2_with fail
  go_ret
  exact ⟨rfl, B3⟩

set_option maxHeartbeats 400000 in
theorem cmp_pos (b b' : Bool) {s s' : Value} {n n' i i' : Nat} {w : World} (h : Num w s n i) (h' : Num w s' n' i') {p q : Int} (hp : sgn (sg b n) = p) (hq : sgn (sg b' n') = q) (hpq : p = q) (h0 : 0 ≤ p) :
    Calls Try.prog 26 #[.agg #[.bool b, s], .agg #[.bool b', s']] w fun e w' => e = .returned (.int .i64 (cmpv n n')) ∧ Below w.heap.size w w' := by
  obtain ⟨As, ms, cs, rfl, _⟩ := h.slc
  obtain ⟨At, mt, ct, rfl, _⟩ := h'.slc
  have hn := Lib.hid ((h.alloc (.cells #[.bool b, .slice As ms cs] 25)).alloc (.cells #[.bool b', .slice At mt ct] 25))
  have hn' := Lib.hid ((h'.alloc (.cells #[.bool b, .slice As ms cs] 25)).alloc (.cells #[.bool b', .slice At mt ct] 25))
  have hbx := (Box.new w 25 (.bool b) (.slice As ms cs)).alloc (.cells #[.bool b', .slice At mt ct] 25)
  have hby := Box.new1 w (.cells #[.bool b, .slice As ms cs] 25) 25 (.bool b') (.slice At mt ct)
  have hbel := below_alloc (below_alloc (Below.refl w.heap.size w) (.cells #[.bool b, .slice As ms cs] 25)) (.cells #[.bool b', .slice At mt ct] 25)
  have HP := Lib.hid hp
  have HQ := Lib.hid hq
  clear h h' hp hq
  subst hpq
  go_enter Try.func26, Try.ntmps26
  go_wp2_with fail
  generalize ((w.alloc (.cells #[.bool b, .slice As ms cs] 25)).alloc (.cells #[.bool b', .slice At mt ct] 25)) = W at *
  have c0 := hbx.c0
  have c1 := hbx.c1
  have c2 := hby.c0
  have c3 := hby.c1
  go_region_held3 (fun w' => w'.cell? ⟨w.heap.size, 0, none⟩ = some (.bool b) ∧ w'.cell? ⟨w.heap.size, 1, none⟩ = some (.slice As ms cs) ∧ w'.cell? ⟨w.heap.size + 1, 0, none⟩ = some (.bool b') ∧ w'.cell? ⟨w.heap.size + 1, 1, none⟩ = some (.slice At mt ct))
    (first | go_keep | exact ⟨by assumption, by assumption, by assumption, by assumption⟩)
    (first
      | (go_at_call 30; refine (sign_as b' q1' HQ.out).mono ?_; rintro e w2 ⟨rfl, hb2⟩; have x2 := x1.then_ hb2; have z2 := z1.then_ hb2; have e0 := x2.c0; have e1 := x2.c1; have e2 := z2.c0; have e3 := z2.c1; have B2 := below_then B1 B1.size hb2; have q2 := q1.below hb2; have q2' := q1'.below hb2)
      | (go_at_call 30; refine (sign_as b (hn.out.drewN _) HP.out).mono ?_; rintro e w1 ⟨rfl, hb1⟩; have x1 := hbx.drew.then_ hb1; have z1 := hby.drew.then_ hb1; have d0 := x1.c0; have d1 := x1.c1; have d2 := z1.c0; have d3 := z1.c1; have B1 := below_then (below_drew1 hbel) hbel.size hb1; have q1 := (hn.out.drewN 1).below hb1; have q1' := (hn'.out.drewN 1).below hb1))
  clear c0 c1 c2 c3 d0 d1 d2 d3
  go_wp2_with fail
  refine (cmp_n q2 q2').mono ?_
  rintro e w3 ⟨rfl, hb3⟩
  have B3 := below_then B2 B2.size hb3
  go_wp2_with fail
  go_ret
  exact ⟨rfl, B3⟩

theorem cmp_z (b b' : Bool) {s s' : Value} {n n' i i' : Nat} {w : World} (h : Num w s n i) (h' : Num w s' n' i') :
    Calls Try.prog 26 #[.agg #[.bool b, s], .agg #[.bool b', s']] w fun e w' => e = .returned (.int .i64 (zcmp (sg b n) (sg b' n'))) ∧ Below w.heap.size w w' := by
  rcases Int.lt_trichotomy (sgn (sg b n)) (sgn (sg b' n')) with hlt | heq | hgt
  · rw [zcmp_of_sgn_lt hlt]; exact cmp_lt b b' h h' rfl rfl hlt
  · rcases Int.lt_or_le (sgn (sg b n)) 0 with h0 | h0
    · rw [zcmp_neg heq h0]; exact cmp_neg b b' h h' rfl rfl heq h0
    · rw [zcmp_pos heq h0]; exact cmp_pos b b' h h' rfl rfl heq h0
  · rw [zcmp_of_sgn_gt hgt]; exact cmp_gt b b' h h' rfl rfl hgt

def zsame (x y : Int) : Bool := decide (x = y)
theorem zsame_eq (x y : Int) : (zcmp x y == 0) = zsame x y := by
  unfold zcmp zsame
  rw [Bool.eq_iff_iff, beq_iff_eq, decide_eq_true_iff]
  split <;> (try split) <;> omega
theorem same_z (b b' : Bool) {s s' : Value} {n n' i i' : Nat} {w : World} (h : Num w s n i) (h' : Num w s' n' i') :
    Calls Try.prog 28 #[.agg #[.bool b, s], .agg #[.bool b', s']] w fun e w' => e = .returned (.bool (zsame (sg b n) (sg b' n'))) ∧ Below w.heap.size w w' := by
  obtain ⟨As, ms, cs, rfl, _⟩ := h.slc
  obtain ⟨At, mt, ct, rfl, _⟩ := h'.slc
  obtain ⟨z, hz⟩ : ∃ z, zcmp (sg b n) (sg b' n') = z := ⟨_, rfl⟩
  rw [← zsame_eq, hz]
  have HZ := Lib.hid hz
  clear hz
  go_enter Try.func28, Try.ntmps28
  go_wp2_with fail
  refine (cmp_z b b' ((h.alloc _).alloc _) ((h'.alloc _).alloc _)).mono ?_
  rw [HZ.out]
  rintro e w1 ⟨rfl, hb1⟩
  have B1 := below_then (below_alloc (below_alloc (Below.refl w.heap.size w) _) _) (by simp; omega) hb1
  go_wp2_with fail
  go_ret
  exact ⟨rfl, B1⟩
end Go.Proofs.Ythadkjekagfjfaa.N
