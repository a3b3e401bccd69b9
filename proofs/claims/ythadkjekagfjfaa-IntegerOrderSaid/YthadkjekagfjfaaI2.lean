/- Package integer as walks: Shl, Mul, Add, Sub. Conditions stand at each theorem. -/
import Derived.Test.YthadkjekagfjfaaI1
namespace Go.Proofs.Ythadkjekagfjfaa.N
open Go.RowKit Go.Proofs.Ythadkjekagfjfaa.Dig Go.Proofs.YthadkjekagfjfaaW.PrintWords Go.Proofs.YthadkjekagfjfaaW.PrintLast Go.Proofs.YthadkjekagfjfaaW.PrintMore
set_option linter.unusedVariables false

set_option maxHeartbeats 1000000 in
theorem shl_z (b : Bool) {s : Value} {n i : Nat} {w : World} (h : Num w s n i) (hi : i ≤ 8796093022208) (m : Int) (k : Nat) (hk : shc m ≤ 32 * k) :
    Calls Try.prog 19 #[.agg #[.bool b, s], .int .i64 m] w (MadeZ w (sg b (n * 2 ^ shc m)) (i + k)) := by
  obtain ⟨As, ms, cs, rfl, _⟩ := h.slc
  have hn := Lib.hid ((h.alloc (.cells #[.bool b, .slice As ms cs] 25)).alloc (.cells #[.bool false, .slice none 0 0] 25))
  have hbx := (Box.new w 25 (.bool b) (.slice As ms cs)).alloc (.cells #[.bool false, .slice none 0 0] 25)
  have hres := Box.new1 w (.cells #[.bool b, .slice As ms cs] 25) 25 (.bool false) (.slice none 0 0)
  have hbel := (below_alloc (below_alloc (Below.refl w.heap.size w) (.cells #[.bool b, .slice As ms cs] 25)) (.cells #[.bool false, .slice none 0 0] 25))
  clear h
  have HK := Lib.hid hk
  go_enter Try.func19, Try.ntmps19
  go_wp2_with fail
  generalize ((w.alloc (.cells #[.bool b, .slice As ms cs] 25)).alloc (.cells #[.bool false, .slice none 0 0] 25)) = W at *
  have c0 := hbx.c0
  have c1 := hbx.c1
  go_region_held3 (fun w' => w'.cell? ⟨w.heap.size, 0, none⟩ = some (.bool b) ∧ w'.cell? ⟨w.heap.size, 1, none⟩ = some (.slice As ms cs))
    (first | go_keep | exact ⟨by assumption, by assumption⟩ | ((try dsimp only); (repeat' apply And.intro); all_goals go_keep))
    (first
      | (go_at_call 48; refine (shl_n (hn.out.drewN _) hi m k HK.out).mono ?_; rintro e w1 ⟨v1, rfl, ho1, hn1, hb1⟩; have x1 := hbx.drew.then_ hb1; have y1 := hres.drew.then_ hb1; have d0 := x1.c0; have d1 := x1.c1; have B1 := below_then (below_drew1 hbel) hbel.size hb1)
      | (go_at_call 45; refine (made_z b ho1).mono ?_; rintro e w2 ⟨rfl, hb2⟩; have x2 := x1.then_ hb2; have y2 := y1.then_ hb2; have e0 := x2.c0; have e1 := x2.c1; have B2 := below_then B1 B1.size hb2; have ho2 := ho1.below hb2; have hn2 := hn1.below hb2; obtain ⟨A, c, rfl⟩ := ho1.shp; obtain ⟨p0, p1, p2, p3⟩ := y2.rdy (.bool (zneg (sg b (n * 2 ^ shc m))))))
  go_wp2_with fail
  refine bodyPost_ret (results_cell_row rfl _ _ (w.heap.size + 1) 25 _ (0, 0) _ rfl ((y2.set0 _).set1 _) Try.underlying25 rfl (by kernel_rfl)) rfl ?_
  exact MadeZ.put (ho2.sg b) hbel.size (hn2.abs_lt b) y2 (by omega) B2

theorem sg_mul (b b' : Bool) (n n' : Nat) : sg b n * sg b' n' = sg (b != b') (n * n') := by
  cases b <;> cases b' <;> simp [sg, Int.natCast_mul, Int.neg_mul, Int.mul_neg]
set_option maxHeartbeats 2000000 in
theorem mul_z (b b' : Bool) {s s' : Value} {n n' i i' : Nat} {w : World} (h : Num w s n i) (h' : Num w s' n' i') (hi : i ≤ 8796093022208) (hi' : i' ≤ 8796093022208) :
    Calls Try.prog 17 #[.agg #[.bool b, s], .agg #[.bool b', s']] w (MadeZ w (sg b n * sg b' n') (i + i')) := by
  rw [sg_mul]
  obtain ⟨As, ms, cs, rfl, _⟩ := h.slc
  obtain ⟨At, mt, ct, rfl, _⟩ := h'.slc
  have hn := Lib.hid (((h.alloc (.cells #[.bool b, .slice As ms cs] 25)).alloc (.cells #[.bool b', .slice At mt ct] 25)).alloc (.cells #[.bool false, .slice none 0 0] 25))
  have hn' := Lib.hid (((h'.alloc (.cells #[.bool b, .slice As ms cs] 25)).alloc (.cells #[.bool b', .slice At mt ct] 25)).alloc (.cells #[.bool false, .slice none 0 0] 25))
  have hbx := ((Box.new w 25 (.bool b) (.slice As ms cs)).alloc (.cells #[.bool b', .slice At mt ct] 25)).alloc (.cells #[.bool false, .slice none 0 0] 25)
  have hby := (Box.new1 w (.cells #[.bool b, .slice As ms cs] 25) 25 (.bool b') (.slice At mt ct)).alloc (.cells #[.bool false, .slice none 0 0] 25)
  have hres := Box.new2 w (.cells #[.bool b, .slice As ms cs] 25) (.cells #[.bool b', .slice At mt ct] 25) 25 (.bool false) (.slice none 0 0)
  have hbel := (below_alloc (below_alloc (below_alloc (Below.refl w.heap.size w) (.cells #[.bool b, .slice As ms cs] 25)) (.cells #[.bool b', .slice At mt ct] 25)) (.cells #[.bool false, .slice none 0 0] 25))
  clear h h'
  obtain ⟨bb, hbb⟩ : ∃ x, x = (b != b') := ⟨_, rfl⟩
  rw [← hbb]
  have hbs : (b == b') = !bb := by rw [hbb]; cases b <;> cases b' <;> rfl
  rw [eq_comm] at hbb
  go_enter Try.func17, Try.ntmps17
  go_wp2_with fail
  generalize (((w.alloc (.cells #[.bool b, .slice As ms cs] 25)).alloc (.cells #[.bool b', .slice At mt ct] 25)).alloc (.cells #[.bool false, .slice none 0 0] 25)) = W at *
  have c0 := hbx.c0
  have c1 := hbx.c1
  have c2 := hby.c0
  have c3 := hby.c1
  have hne1 : w.heap.size ≠ w.heap.size + 1 + 1 := by omega
  have hne2 := hne1.symm
  go_region_held3 (fun w' => w'.cell? ⟨w.heap.size, 0, none⟩ = some (.bool b) ∧ w'.cell? ⟨w.heap.size, 1, none⟩ = some (.slice As ms cs) ∧ w'.cell? ⟨w.heap.size + 1, 0, none⟩ = some (.bool b') ∧ w'.cell? ⟨w.heap.size + 1, 1, none⟩ = some (.slice At mt ct))
    (first | go_keep | exact ⟨by assumption, by assumption, by assumption, by assumption⟩ | ((try dsimp only); (repeat' apply And.intro); all_goals go_keep))
    (first
      | (go_at_call 46; refine (mul_n (hn.out.drewN _) (hn'.out.drewN _) hi hi').mono ?_; rintro e w1 ⟨v1, rfl, ho1, hn1, hb1⟩; have x1 := hbx.drew.then_ hb1; have y1 := hres.drew.then_ hb1; have d0 := x1.c0; have d1 := x1.c1; have z1 := hby.drew.then_ hb1; have d2 := z1.c0; have d3 := z1.c1; have B1 := below_then (below_drew1 hbel) hbel.size hb1)
      | (go_at_call 45; refine (made_z bb ho1).mono ?_; rintro e w2 ⟨rfl, hb2⟩; have x2 := x1.then_ hb2; have y2 := y1.then_ hb2; have e0 := x2.c0; have e1 := x2.c1; have z2 := z1.then_ hb2; have e2 := z2.c0; have e3 := z2.c1; have B2 := below_then B1 B1.size hb2; have ho2 := ho1.below hb2; have hn2 := hn1.below hb2; obtain ⟨A, c, rfl⟩ := ho1.shp; obtain ⟨p0, p1, p2, p3⟩ := y2.rdy (.bool (zneg (sg bb (n * n'))))))
  go_wp2_with fail
  refine bodyPost_ret (results_cell_row rfl _ _ (w.heap.size + 2) 25 _ (0, 0) _ rfl ((y2.set0 _).set1 _) Try.underlying25 rfl (by kernel_rfl)) rfl ?_
  exact MadeZ.put (ho2.sg bb) hbel.size (hn2.abs_lt bb) y2 (by omega) B2

/-- Sums of two integers by their signs. -/
theorem sg_add_same (b : Bool) (n n' : Nat) : sg b n + sg b n' = sg b (n + n') := by
  cases b <;> simp [sg] <;> omega
theorem sg_add_ge (b b' : Bool) (n n' : Nat) (hb : b ≠ b') (h : n' ≤ n) : sg b n + sg b' n' = sg b (n - n') := by
  cases b <;> cases b' <;> simp [sg] at * <;> omega
theorem sg_add_lt (b b' : Bool) (n n' : Nat) (hb : b ≠ b') (h : n < n') : sg b n + sg b' n' = sg b' (n' - n) := by
  cases b <;> cases b' <;> simp [sg] at * <;> omega

set_option maxHeartbeats 2000000 in
theorem add_same (b : Bool) {s s' : Value} {n n' i i' : Nat} {w : World} (h : Num w s n i) (h' : Num w s' n' i') (hi : i ≤ 8796093022208) (hi' : i' ≤ 8796093022208) :
    Calls Try.prog 29 #[.agg #[.bool b, s], .agg #[.bool b, s']] w (MadeZ w (sg b (n + n')) (max i i' + 1)) := by
  obtain ⟨As, ms, cs, rfl, _⟩ := h.slc
  obtain ⟨At, mt, ct, rfl, _⟩ := h'.slc
  have hn := Lib.hid (((h.alloc (.cells #[.bool b, .slice As ms cs] 25)).alloc (.cells #[.bool b, .slice At mt ct] 25)).alloc (.cells #[.bool false, .slice none 0 0] 25))
  have hn' := Lib.hid (((h'.alloc (.cells #[.bool b, .slice As ms cs] 25)).alloc (.cells #[.bool b, .slice At mt ct] 25)).alloc (.cells #[.bool false, .slice none 0 0] 25))
  have hbx := ((Box.new w 25 (.bool b) (.slice As ms cs)).alloc (.cells #[.bool b, .slice At mt ct] 25)).alloc (.cells #[.bool false, .slice none 0 0] 25)
  have hby := (Box.new1 w (.cells #[.bool b, .slice As ms cs] 25) 25 (.bool b) (.slice At mt ct)).alloc (.cells #[.bool false, .slice none 0 0] 25)
  have hres := Box.new2 w (.cells #[.bool b, .slice As ms cs] 25) (.cells #[.bool b, .slice At mt ct] 25) 25 (.bool false) (.slice none 0 0)
  have hbel := (below_alloc (below_alloc (below_alloc (Below.refl w.heap.size w) (.cells #[.bool b, .slice As ms cs] 25)) (.cells #[.bool b, .slice At mt ct] 25)) (.cells #[.bool false, .slice none 0 0] 25))
  clear h h'
  go_enter Try.func29, Try.ntmps29
  go_wp2_with fail
  generalize (((w.alloc (.cells #[.bool b, .slice As ms cs] 25)).alloc (.cells #[.bool b, .slice At mt ct] 25)).alloc (.cells #[.bool false, .slice none 0 0] 25)) = W at *
  have c0 := hbx.c0
  have c1 := hbx.c1
  have c2 := hby.c0
  have c3 := hby.c1
  have hne1 : w.heap.size ≠ w.heap.size + 1 + 1 := by omega
  have hne2 := hne1.symm
  go_region_held3 (fun w' => w'.cell? ⟨w.heap.size, 0, none⟩ = some (.bool b) ∧ w'.cell? ⟨w.heap.size, 1, none⟩ = some (.slice As ms cs) ∧ w'.cell? ⟨w.heap.size + 1, 0, none⟩ = some (.bool b) ∧ w'.cell? ⟨w.heap.size + 1, 1, none⟩ = some (.slice At mt ct))
    (first | go_keep | exact ⟨by assumption, by assumption, by assumption, by assumption⟩ | ((try dsimp only); (repeat' apply And.intro); all_goals go_keep))
    (first
      | (go_at_call 56; refine (add_n (hn.out.drewN _) (hn'.out.drewN _) hi hi').mono ?_; rintro e w1 ⟨v1, rfl, ho1, hn1, hb1⟩; have x1 := hbx.drew.then_ hb1; have y1 := hres.drew.then_ hb1; have d0 := x1.c0; have d1 := x1.c1; have z1 := hby.drew.then_ hb1; have d2 := z1.c0; have d3 := z1.c1; have B1 := below_then (below_drew1 hbel) hbel.size hb1)
      | (go_at_call 45; refine (made_z b ho1).mono ?_; rintro e w2 ⟨rfl, hb2⟩; have x2 := x1.then_ hb2; have y2 := y1.then_ hb2; have e0 := x2.c0; have e1 := x2.c1; have z2 := z1.then_ hb2; have e2 := z2.c0; have e3 := z2.c1; have B2 := below_then B1 B1.size hb2; have ho2 := ho1.below hb2; have hn2 := hn1.below hb2; obtain ⟨A, c, rfl⟩ := ho1.shp; obtain ⟨p0, p1, p2, p3⟩ := y2.rdy (.bool (zneg (sg b (n + n'))))))
  go_wp2_with fail
  refine bodyPost_ret (results_cell_row rfl _ _ (w.heap.size + 2) 25 _ (0, 0) _ rfl ((y2.set0 _).set1 _) Try.underlying25 rfl (by kernel_rfl)) rfl ?_
  exact MadeZ.put (ho2.sg b) hbel.size (hn2.abs_lt b) y2 (by omega) B2

set_option maxHeartbeats 2000000 in
theorem add_ge (b b' : Bool) {s s' : Value} {n n' i i' : Nat} {w : World} (h : Num w s n i) (h' : Num w s' n' i') (hi : i ≤ 8796093022208) (hi' : i' ≤ 8796093022208) (hb : b ≠ b') (hle : n' ≤ n) :
    Calls Try.prog 29 #[.agg #[.bool b, s], .agg #[.bool b', s']] w (MadeZ w (sg b (n - n')) i) := by
  obtain ⟨As, ms, cs, rfl, _⟩ := h.slc
  obtain ⟨At, mt, ct, rfl, _⟩ := h'.slc
  have hn := Lib.hid (((h.alloc (.cells #[.bool b, .slice As ms cs] 25)).alloc (.cells #[.bool b', .slice At mt ct] 25)).alloc (.cells #[.bool false, .slice none 0 0] 25))
  have hn' := Lib.hid (((h'.alloc (.cells #[.bool b, .slice As ms cs] 25)).alloc (.cells #[.bool b', .slice At mt ct] 25)).alloc (.cells #[.bool false, .slice none 0 0] 25))
  have hbx := ((Box.new w 25 (.bool b) (.slice As ms cs)).alloc (.cells #[.bool b', .slice At mt ct] 25)).alloc (.cells #[.bool false, .slice none 0 0] 25)
  have hby := (Box.new1 w (.cells #[.bool b, .slice As ms cs] 25) 25 (.bool b') (.slice At mt ct)).alloc (.cells #[.bool false, .slice none 0 0] 25)
  have hres := Box.new2 w (.cells #[.bool b, .slice As ms cs] 25) (.cells #[.bool b', .slice At mt ct] 25) 25 (.bool false) (.slice none 0 0)
  have hbel := (below_alloc (below_alloc (below_alloc (Below.refl w.heap.size w) (.cells #[.bool b, .slice As ms cs] 25)) (.cells #[.bool b', .slice At mt ct] 25)) (.cells #[.bool false, .slice none 0 0] 25))
  clear h h'
  have hbf : (b == b') = false := beq_eq_false_iff_ne.2 hb
  clear hb
  go_enter Try.func29, Try.ntmps29
  go_wp2_with fail
  generalize (((w.alloc (.cells #[.bool b, .slice As ms cs] 25)).alloc (.cells #[.bool b', .slice At mt ct] 25)).alloc (.cells #[.bool false, .slice none 0 0] 25)) = W at *
  have c0 := hbx.c0
  have c1 := hbx.c1
  have c2 := hby.c0
  have c3 := hby.c1
  have hne1 : w.heap.size ≠ w.heap.size + 1 + 1 := by omega
  have hne2 := hne1.symm
  go_wp2_with fail
  refine (sub_n hn.out hn'.out hi hle).mono ?_
  rintro e w1 ⟨v1, rfl, ho1, hn1, hb1⟩
  have x1 := hbx.then_ hb1
  have y1 := hres.then_ hb1
  have d0 := x1.c0
  have B1 := below_then hbel hbel.size hb1
  go_wp2_with fail
  refine (made_z b ho1).mono ?_
  rintro e w2 ⟨rfl, hb2⟩
  have y2 := y1.then_ hb2
  have B2 := below_then B1 B1.size hb2
  have ho2 := ho1.below hb2
  have hn2 := hn1.below hb2
  obtain ⟨A, c, rfl⟩ := ho1.shp
  obtain ⟨p0, p1, p2, p3⟩ := y2.rdy (.bool (zneg (sg b (n - n'))))
  go_wp2_with fail
  refine bodyPost_ret (results_cell_row rfl _ _ (w.heap.size + 2) 25 _ (0, 0) _ rfl ((y2.set0 _).set1 _) Try.underlying25 rfl (by kernel_rfl)) rfl ?_
  exact MadeZ.put (ho2.sg b) hbel.size (hn2.abs_lt b) y2 (by omega) B2

set_option maxHeartbeats 2000000 in
theorem add_lt (b b' : Bool) {s s' : Value} {n n' i i' : Nat} {w : World} (h : Num w s n i) (h' : Num w s' n' i') (hi : i ≤ 8796093022208) (hi' : i' ≤ 8796093022208) (hb : b ≠ b') (hlt : n < n') :
    Calls Try.prog 29 #[.agg #[.bool b, s], .agg #[.bool b', s']] w (MadeZ w (sg b' (n' - n)) i') := by
  obtain ⟨As, ms, cs, rfl, _⟩ := h.slc
  obtain ⟨At, mt, ct, rfl, _⟩ := h'.slc
  have hn := Lib.hid (((h.alloc (.cells #[.bool b, .slice As ms cs] 25)).alloc (.cells #[.bool b', .slice At mt ct] 25)).alloc (.cells #[.bool false, .slice none 0 0] 25))
  have hn' := Lib.hid (((h'.alloc (.cells #[.bool b, .slice As ms cs] 25)).alloc (.cells #[.bool b', .slice At mt ct] 25)).alloc (.cells #[.bool false, .slice none 0 0] 25))
  have hbx := ((Box.new w 25 (.bool b) (.slice As ms cs)).alloc (.cells #[.bool b', .slice At mt ct] 25)).alloc (.cells #[.bool false, .slice none 0 0] 25)
  have hby := (Box.new1 w (.cells #[.bool b, .slice As ms cs] 25) 25 (.bool b') (.slice At mt ct)).alloc (.cells #[.bool false, .slice none 0 0] 25)
  have hres := Box.new2 w (.cells #[.bool b, .slice As ms cs] 25) (.cells #[.bool b', .slice At mt ct] 25) 25 (.bool false) (.slice none 0 0)
  have hbel := (below_alloc (below_alloc (below_alloc (Below.refl w.heap.size w) (.cells #[.bool b, .slice As ms cs] 25)) (.cells #[.bool b', .slice At mt ct] 25)) (.cells #[.bool false, .slice none 0 0] 25))
  clear h h'
  have hbf : (b == b') = false := beq_eq_false_iff_ne.2 hb
  clear hb
  go_enter Try.func29, Try.ntmps29
  go_wp2_with fail
  generalize (((w.alloc (.cells #[.bool b, .slice As ms cs] 25)).alloc (.cells #[.bool b', .slice At mt ct] 25)).alloc (.cells #[.bool false, .slice none 0 0] 25)) = W at *
  have c0 := hbx.c0
  have c1 := hbx.c1
  have c2 := hby.c0
  have c3 := hby.c1
  have hne1 : w.heap.size ≠ w.heap.size + 1 + 1 := by omega
  have hne2 := hne1.symm
  go_wp2_with fail
  refine (sub_no hn.out hn'.out hlt).mono ?_
  rintro e w0 ⟨rfl, hb0⟩
  have x0 := hbx.then_ hb0
  have z0 := hby.then_ hb0
  have y0 := hres.then_ hb0
  have d1 := x0.c1
  have d2 := z0.c0
  have d3 := z0.c1
  have B0 := below_then hbel hbel.size hb0
  go_wp2_with fail
  refine (sub_n (hn'.out.below hb0) (hn.out.below hb0) hi' (by omega)).mono ?_
  rintro e w1 ⟨v1, rfl, ho1, hn1, hb1⟩
  have z1 := z0.then_ hb1
  have y1 := y0.then_ hb1
  have f2 := z1.c0
  have B1 := below_then B0 B0.size hb1
  go_wp2_with fail
  refine (made_z b' ho1).mono ?_
  rintro e w2 ⟨rfl, hb2⟩
  have y2 := y1.then_ hb2
  have B2 := below_then B1 B1.size hb2
  have ho2 := ho1.below hb2
  have hn2 := hn1.below hb2
  obtain ⟨A, c, rfl⟩ := ho1.shp
  obtain ⟨p0, p1, p2, p3⟩ := y2.rdy (.bool (zneg (sg b' (n' - n))))
  go_wp2_with fail
  refine bodyPost_ret (results_cell_row rfl _ _ (w.heap.size + 2) 25 _ (0, 0) _ rfl ((y2.set0 _).set1 _) Try.underlying25 rfl (by kernel_rfl)) rfl ?_
  exact MadeZ.put (ho2.sg b') B0.size (hn2.abs_lt b') y2 (by omega) B2

theorem MadeZ.more {w w' : World} {z : Int} {k k' : Nat} {e : Ending} (h : MadeZ w z k e w') (hk : k ≤ k') : MadeZ w z k' e w' := by
  obtain ⟨s, he, ho, hn, hb⟩ := h
  exact ⟨s, he, ho, hn.more hk, hb⟩
theorem add_z (b b' : Bool) {s s' : Value} {n n' i i' : Nat} {w : World} (h : Num w s n i) (h' : Num w s' n' i') (hi : i ≤ 8796093022208) (hi' : i' ≤ 8796093022208) :
    Calls Try.prog 29 #[.agg #[.bool b, s], .agg #[.bool b', s']] w (MadeZ w (sg b n + sg b' n') (max i i' + 1)) := by
  by_cases hb : b = b'
  · subst hb
    rw [sg_add_same]
    exact add_same b h h' hi hi'
  · rcases Nat.lt_or_ge n n' with hlt | hge
    · rw [sg_add_lt b b' n n' hb hlt]
      exact (add_lt b b' h h' hi hi' hb hlt).mono fun _ _ hm => hm.more (by omega)
    · rw [sg_add_ge b b' n n' hb hge]
      exact (add_ge b b' h h' hi hi' hb hge).mono fun _ _ hm => hm.more (by omega)

set_option maxHeartbeats 2000000 in
theorem sub_z (b b' : Bool) {s s' : Value} {n n' i i' : Nat} {w : World} (h : Num w s n i) (h' : Num w s' n' i') (hi : i ≤ 8796093022208) (hi' : i' ≤ 8796093022208) :
    Calls Try.prog 31 #[.agg #[.bool b, s], .agg #[.bool b', s']] w (MadeZ w (sg b n - sg b' n') (max i i' + 1)) := by
  have e : sg b n - sg b' n' = sg b n + sg (!b') n' := by cases b' <;> simp [sg] <;> omega
  rw [e]
  obtain ⟨As, ms, cs, rfl, _⟩ := h.slc
  obtain ⟨At, mt, ct, rfl, _⟩ := h'.slc
  have hn := Lib.hid (((h.alloc (.cells #[.bool b, .slice As ms cs] 25)).alloc (.cells #[.bool b', .slice At mt ct] 25)).alloc (.cells #[.bool false, .slice none 0 0] 25))
  have hn' := Lib.hid (((h'.alloc (.cells #[.bool b, .slice As ms cs] 25)).alloc (.cells #[.bool b', .slice At mt ct] 25)).alloc (.cells #[.bool false, .slice none 0 0] 25))
  have hbx := ((Box.new w 25 (.bool b) (.slice As ms cs)).alloc (.cells #[.bool b', .slice At mt ct] 25)).alloc (.cells #[.bool false, .slice none 0 0] 25)
  have hby := (Box.new1 w (.cells #[.bool b, .slice As ms cs] 25) 25 (.bool b') (.slice At mt ct)).alloc (.cells #[.bool false, .slice none 0 0] 25)
  have hres := Box.new2 w (.cells #[.bool b, .slice As ms cs] 25) (.cells #[.bool b', .slice At mt ct] 25) 25 (.bool false) (.slice none 0 0)
  have hbel := (below_alloc (below_alloc (below_alloc (Below.refl w.heap.size w) (.cells #[.bool b, .slice As ms cs] 25)) (.cells #[.bool b', .slice At mt ct] 25)) (.cells #[.bool false, .slice none 0 0] 25))
  clear h h'
  go_enter Try.func31, Try.ntmps31
  go_wp2_with fail
  generalize (((w.alloc (.cells #[.bool b, .slice As ms cs] 25)).alloc (.cells #[.bool b', .slice At mt ct] 25)).alloc (.cells #[.bool false, .slice none 0 0] 25)) = W at *
  have c0 := hbx.c0
  have c1 := hbx.c1
  have c2 := hby.c0
  have c3 := hby.c1
  have hne1 : w.heap.size ≠ w.heap.size + 1 + 1 := by omega
  have hne2 := hne1.symm
  go_wp2_with fail
  refine (add_z b (!b') hn.out hn'.out hi hi').mono ?_
  rintro e w2 ⟨v2, rfl, ho2, hn2, hb2⟩
  have y2 := hres.then_ hb2
  have B2 := below_then hbel hbel.size hb2
  obtain ⟨A, c, rfl⟩ := ho2.shp
  obtain ⟨p0, p1, p2, p3⟩ := y2.rdy (.bool (zneg (sg b n + sg (!b') n')))
  go_wp2_with fail
  refine bodyPost_ret (results_cell_row rfl _ _ (w.heap.size + 2) 25 _ (0, 0) _ rfl ((y2.set0 _).set1 _) Try.underlying25 rfl (by kernel_rfl)) rfl ?_
  exact MadeZ.put ho2 hbel.size hn2.lt y2 (by omega) B2
end Go.Proofs.Ythadkjekagfjfaa.N
