/- The law IntegerAdds returns true for all its arguments and leaves what lay in memory as it was. Condition: the slices read as digits (a row's arguments do). -/
import Derived.Test.YthadkjekagfjfaaJ1
namespace Go.Proofs.Ythadkjekagfjfaa.IAdds
open Go.RowKit Go.Proofs.Ythadkjekagfjfaa.Dig Go.Proofs.Ythadkjekagfjfaa.N Go.Proofs.YthadkjekagfjfaaW.PrintWords Go.Proofs.YthadkjekagfjfaaW.PrintLast Go.Proofs.YthadkjekagfjfaaW.PrintMore
attribute [local go_sem] max2_int min2_int
set_option linter.unusedVariables false
set_option maxRecDepth 100000
set_option linter.unusedSimpArgs false

set_option maxRecDepth 100000 in
set_option maxHeartbeats 4000000 in
theorem law_any {w : World} {ba : Bool} {Aa : Option Addr} {ma ca : Nat} {za : Int} (qa : ZI w ba (.slice Aa ma ca) za ma) {bb : Bool} {Ab : Option Addr} {mb cb : Nat} {zb : Int} (qb : ZI w bb (.slice Ab mb cb) zb mb) :
    Calls Try.prog 8 #[.agg #[.bool ba, .slice Aa ma ca], .agg #[.bool bb, .slice Ab mb cb]] w fun e w' => e = .returned (.bool true) ∧ Below w.heap.size w w' := by
  by_cases hall : ma ≤ 20 ∧ mb ≤ 20
  · obtain ⟨ha, hb⟩ := hall
    have HF : Hid (true = (decide ((ma : Int) ≤ 20) && decide ((mb : Int) ≤ 20) && decide ((ma : Int) ≤ 20))) := Lib.hid (by simp; omega)
    replace qa := qa.more ha
    replace qb := qb.more hb
    obtain ⟨e1, he1⟩ : ∃ t : Int, t = za + zb := ⟨_, rfl⟩
    have He1 := Lib.hid he1
    clear he1
    obtain ⟨e2, he2⟩ : ∃ t : Int, t = za - zb := ⟨_, rfl⟩
    have He2 := Lib.hid he2
    clear he2
    obtain ⟨e3, he3⟩ : ∃ t : Int, t = -za := ⟨_, rfl⟩
    have He3 := Lib.hid he3
    clear he3
    obtain ⟨e4, he4⟩ : ∃ t : Int, t = (za.natAbs : Int) := ⟨_, rfl⟩
    have He4 := Lib.hid he4
    clear he4
    obtain ⟨e5, he5⟩ : ∃ t : Int, t = -zb := ⟨_, rfl⟩
    have He5 := Lib.hid he5
    clear he5
    obtain ⟨e6, he6⟩ : ∃ t : Int, t = za + e5 := ⟨_, rfl⟩
    have He6 := Lib.hid he6
    clear he6
    obtain ⟨cc, hcc⟩ : ∃ t : Int, t = zcmp za zb := ⟨_, rfl⟩
    have Hcc := Lib.hid hcc
    clear hcc
    have HSM : Hid ((cc == 0) = zsame za zb) := Lib.hid (by rw [Hcc.out]; exact zcmp_same za zb)
    by_cases hn : za < 0
    · have HN := Lib.hid hn
      clear hn
      have bxa := Box.new w 25 (.bool ba) (.slice Aa ma ca)
      have bxb := Box.new1 w (.cells #[.bool ba, .slice Aa ma ca] 25) 25 (.bool bb) (.slice Ab mb cb)
      go_enter Try.func8, Try.ntmps8
      go_wp2_with fail
      refine (lawake _).mono ?_
      rintro e w1 ⟨rfl, hb1⟩
      have HB1 := below_alloc (Below.refl w.heap.size w) (.cells #[.bool ba, .slice Aa ma ca] 25)
      have HB2 := below_alloc HB1 (.cells #[.bool bb, .slice Ab mb cb] 25)
      have HB3 := below_then HB2 HB2.size hb1
      have k2 := ((bxa.alloc (.cells #[.bool bb, .slice Ab mb cb] 25)).below hb1)
      have k2a := k2.c0
      have k2b := k2.c1
      have k3 := (bxb.below hb1)
      have k3a := k3.c0
      have k3b := k3.c1
      go_wp2_with fail
      refine (lfew_as 20 HF).mono ?_
      rintro e w4 ⟨rfl, hb4⟩
      have HB4 := below_then HB3 HB3.size hb4
      clear k2a k2b k3a k3b
      have k5 := (k2.below hb4)
      have k5a := k5.c0
      have k5b := k5.c1
      have k6 := (k3.below hb4)
      have k6a := k6.c0
      have k6b := k6.c1
      go_wp2_with fail
      have hst7 : ∀ w1_ w2_ : World, Below w1_.heap.size w1_ w2_ → (w1_.cell? ⟨w.heap.size, 0, none⟩ = some (.bool ba) ∧ w1_.cell? ⟨w.heap.size, 1, none⟩ = some (.slice Aa ma ca) ∧ w1_.cell? ⟨(w.heap.size + 1), 0, none⟩ = some (.bool bb) ∧ w1_.cell? ⟨(w.heap.size + 1), 1, none⟩ = some (.slice Ab mb cb)) → (w2_.cell? ⟨w.heap.size, 0, none⟩ = some (.bool ba) ∧ w2_.cell? ⟨w.heap.size, 1, none⟩ = some (.slice Aa ma ca) ∧ w2_.cell? ⟨(w.heap.size + 1), 0, none⟩ = some (.bool bb) ∧ w2_.cell? ⟨(w.heap.size + 1), 1, none⟩ = some (.slice Ab mb cb)) := fun _ _ hb_ h_ => ⟨pw_cell_below hb_ h_.1, pw_cell_below hb_ h_.2.1, pw_cell_below hb_ h_.2.2.1, pw_cell_below hb_ h_.2.2.2⟩
      have hS7 : w4.cell? ⟨w.heap.size, 0, none⟩ = some (.bool ba) ∧ w4.cell? ⟨w.heap.size, 1, none⟩ = some (.slice Aa ma ca) ∧ w4.cell? ⟨(w.heap.size + 1), 0, none⟩ = some (.bool bb) ∧ w4.cell? ⟨(w.heap.size + 1), 1, none⟩ = some (.slice Ab mb cb) := ⟨k5.c0, k5.c1, k6.c0, k6.c1⟩
      clear k5a k5b k6a k6b
      refine wp_region_flt [fZ 4 5, fZ 5 6] [0, 1, 2, 3] [6, 7] [{ dst := none, op := Go.Op.store 30 (Go.Operand.tmp 5) (Go.Operand.tmp 20), type := 0, pos := "law.go:31", after := #[{ on := 4, ground := Go.Ground.data }, { on := 1, ground := Go.Ground.data }, { on := 3, ground := Go.Ground.chain }, { on := 0, ground := Go.Ground.phase }, { on := 1, ground := Go.Ground.phase }, { on := 2, ground := Go.Ground.textOnly Go.Departure.lateStores }, { on := 3, ground := Go.Ground.textOnly Go.Departure.lateStoresUnsure }, { on := 4, ground := Go.Ground.phase }, { on := 5, ground := Go.Ground.phase }], guard := none }, { dst := none, op := Go.Op.store 30 (Go.Operand.tmp 6) (Go.Operand.tmp 22), type := 0, pos := "law.go:31", after := #[{ on := 5, ground := Go.Ground.data }, { on := 3, ground := Go.Ground.data }, { on := 6, ground := Go.Ground.chain }, { on := 0, ground := Go.Ground.phase }, { on := 1, ground := Go.Ground.phase }, { on := 2, ground := Go.Ground.phase }, { on := 3, ground := Go.Ground.phase }, { on := 4, ground := Go.Ground.phase }, { on := 5, ground := Go.Ground.phase }, { on := 6, ground := Go.Ground.phase }], guard := none }] 4 (by kernel_rfl) (by kernel_rfl) (.cons rfl (.cons rfl .nil)) (isFlts (isFltZ rfl) (isFlts (isFltZ rfl) isFlt0)) (fun c_ a_ a'_ w_ hd_ h_ => by first | exact ⟨hd_.trans h_.1, h_.2⟩ | exact h_) (fun w8 hg8 => ?_)
      have hS9 := hst7 _ _ hg8 hS7
      clear hS7
      refine wpFl_take (S := (fun w_ => w_.cell? ⟨w.heap.size, 0, none⟩ = some (.bool ba) ∧ w_.cell? ⟨w.heap.size, 1, none⟩ = some (.slice Aa ma ca) ∧ w_.cell? ⟨(w.heap.size + 1), 0, none⟩ = some (.bool bb) ∧ w_.cell? ⟨(w.heap.size + 1), 1, none⟩ = some (.slice Ab mb cb))) (v := ?_) (oi := { dst := some 19, op := Go.Op.load 25 (Go.Operand.tmp 2), type := 25, pos := "law.go:31", after := #[], guard := none }) hst7 hS9 0 rfl (by kernel_rfl) (fun _ _ _ h => h) (Or.inl ⟨by rfl, ?_⟩) ?_
      rotate_left
      · intro w_ hSw; (try dsimp only at hSw); go_simp; (first | done | with_reducible rfl)
      try simp only [Act.put, fZ, fI, List.setIfInBounds_toArray, List.set_cons_zero, List.set_cons_succ]
      refine wpFl_take (S := (fun w_ => w_.cell? ⟨w.heap.size, 0, none⟩ = some (.bool ba) ∧ w_.cell? ⟨w.heap.size, 1, none⟩ = some (.slice Aa ma ca) ∧ w_.cell? ⟨(w.heap.size + 1), 0, none⟩ = some (.bool bb) ∧ w_.cell? ⟨(w.heap.size + 1), 1, none⟩ = some (.slice Ab mb cb))) (v := ?_) (oi := { dst := some 21, op := Go.Op.load 25 (Go.Operand.tmp 3), type := 25, pos := "law.go:31", after := #[], guard := none }) hst7 hS9 2 rfl (by kernel_rfl) (fun _ _ _ h => h) (Or.inl ⟨by rfl, ?_⟩) ?_
      rotate_left
      · intro w_ hSw; (try dsimp only at hSw); go_simp; (first | done | with_reducible rfl)
      try simp only [Act.put, fZ, fI, List.setIfInBounds_toArray, List.set_cons_zero, List.set_cons_succ]
      refine wpFl_call 1 (o := { dst := some 20, op := Go.Op.call { callee := Go.Callee.value (Go.Operand.func 13), args := #[Go.Operand.tmp 19], argTypes := #[25] }, type := 30, pos := "law.go:31", after := #[{ on := 0, ground := Go.Ground.data }], guard := none }) rfl (by kernel_rfl) (fun w10 hg10 K hK => ?_)
      have hS11 := hst7 _ _ hg10 hS9
      clear hS9
      go_simp
      refine (lof_as ((((((qa.alloc (.cells #[.bool ba, .slice Aa ma ca] 25)).alloc (.cells #[.bool bb, .slice Ab mb cb] 25)).below hb1).below hb4).below hg8).below hg10) (by decide)).mono ?_
      rintro e w12 ⟨p12, A12, m12, c12, rfl, q12, hb12⟩
      refine hK.out _ _ hb12 ?_
      clear hK K
      try simp only [Act.put, fZ, fI, List.setIfInBounds_toArray, List.set_cons_zero, List.set_cons_succ]
      have hS13 := hst7 _ _ hb12 hS11
      clear hS11
      refine wpFl_call 3 (o := { dst := some 22, op := Go.Op.call { callee := Go.Callee.value (Go.Operand.func 13), args := #[Go.Operand.tmp 21], argTypes := #[25] }, type := 30, pos := "law.go:31", after := #[{ on := 2, ground := Go.Ground.data }, { on := 1, ground := Go.Ground.chain }], guard := none }) rfl (by kernel_rfl) (fun w14 hg14 K hK => ?_)
      have hS15 := hst7 _ _ hg14 hS13
      clear hS13
      go_simp
      refine (lof_as ((((((((qb.alloc (.cells #[.bool ba, .slice Aa ma ca] 25)).alloc (.cells #[.bool bb, .slice Ab mb cb] 25)).below hb1).below hb4).below hg8).below hg10).below hb12).below hg14) (by decide)).mono ?_
      rintro e w16 ⟨p16, A16, m16, c16, rfl, q16, hb16⟩
      refine hK.out _ _ hb16 ?_
      clear hK K
      try simp only [Act.put, fZ, fI, List.setIfInBounds_toArray, List.set_cons_zero, List.set_cons_succ]
      have hS17 := hst7 _ _ hb16 hS15
      clear hS15
      refine wpFl_end2 (fun w18 g18_0 g18_1 hg18 hl18_0 hl18_1 x18_0 x18_1 ne18_0_1 => ?_)
      try simp only [Act.put, fZ, fI, List.setIfInBounds_toArray, List.set_cons_zero, List.set_cons_succ]
      replace x18_0 : Box w18 30 g18_0 (.int .i64 0) (.slice none 0 0) := x18_0
      replace x18_1 : Box w18 30 g18_1 (.int .i64 0) (.slice none 0 0) := x18_1
      clear hS17 hst7
      have hW19 := below_then hg8 hg8.size hg10
      have hW20 := below_then hW19 hW19.size hb12
      have hW21 := below_then hW20 hW20.size hg14
      have hW22 := below_then hW21 hW21.size hb16
      have hW23 := below_then hW22 hW22.size hg18
      refine wpList_storeZ x18_0 rfl rfl (fun w24 hp24 => ?_)
      have x25 := hp24.box
      clear x18_0
      have x26 := hp24.far x18_1 (Ne.symm ne18_0_1)
      clear x18_1
      have hW27 := hp24.below hl18_0 hW23
      refine wpList_storeZ x26 rfl rfl (fun w28 hp28 => ?_)
      have x29 := hp28.far x25 ne18_0_1
      clear x25
      have x30 := hp28.box
      clear x26
      have hW31 := hp28.below hl18_1 hW27
      have f32 := (((((q12.below hg14).below hb16).below hg18).put hp24 zrZ).put hp28 zrZ)
      have f33 := (((q16.below hg18).put hp24 zrZ).put hp28 zrZ)
      replace q12 := f32
      clear f32
      replace q16 := f33
      clear f33
      clear hp24 hp28
      have HB5 := below_then HB4 HB4.size hW31
      have k34 := (k5.below hW31)
      have k34a := k34.c0
      have k34b := k34.c1
      have k35 := (k6.below hW31)
      have k35a := k35.c0
      have k35b := k35.c1
      have k36 := x29
      have k36a := k36.c0
      have k36b := k36.c1
      have k37 := x30
      have k37a := k37.c0
      have k37b := k37.c1
      refine wpList_nil ?_
      have HSG : Hid (p12 = sgn za) := Lib.hid q12.1
      have hsn : decide (p12 < 0) = true := decide_eq_true (by rw [HSG.out, sgn_m.2 HN.out]; decide)
      have k34aA := fun o_ => pw_cell_below (below_alloc (Below.refl _ _) o_) k34a
      have k34bA := fun o_ => pw_cell_below (below_alloc (Below.refl _ _) o_) k34b
      have k35aA := fun o_ => pw_cell_below (below_alloc (Below.refl _ _) o_) k35a
      have k35bA := fun o_ => pw_cell_below (below_alloc (Below.refl _ _) o_) k35b
      have k36aA := fun o_ => pw_cell_below (below_alloc (Below.refl _ _) o_) k36a
      have k36bA := fun o_ => pw_cell_below (below_alloc (Below.refl _ _) o_) k36b
      have k37aA := fun o_ => pw_cell_below (below_alloc (Below.refl _ _) o_) k37a
      have k37bA := fun o_ => pw_cell_below (below_alloc (Below.refl _ _) o_) k37b
      go_wp2_with fail
      have x38 := Box.new w28 30 (.int .i64 p12) (.slice A12 m12 c12)
      have HB6 := below_alloc HB5 (.cells #[.int .i64 p12, .slice A12 m12 c12] 30)
      clear k34a k34b k35a k35b k36a k36b k37a k37b k34aA k34bA k35aA k35bA k36aA k36bA k37aA k37bA
      have k39 := (k34.alloc (.cells #[.int .i64 p12, .slice A12 m12 c12] 30))
      have k39a := k39.c0
      have k39b := k39.c1
      have k40 := (k35.alloc (.cells #[.int .i64 p12, .slice A12 m12 c12] 30))
      have k40a := k40.c0
      have k40b := k40.c1
      have k41 := (k36.alloc (.cells #[.int .i64 p12, .slice A12 m12 c12] 30))
      have k41a := k41.c0
      have k41b := k41.c1
      have k42 := (k37.alloc (.cells #[.int .i64 p12, .slice A12 m12 c12] 30))
      have k42a := k42.c0
      have k42b := k42.c1
      have k43 := x38
      have k43a := k43.c0
      have k43b := k43.c1
      refine (rneg_as (q12.alloc (.cells #[.int .i64 p12, .slice A12 m12 c12] 30)) (Lib.hid (show -za = -za from rfl))).mono ?_
      rintro e w44 ⟨p44, A44, m44, c44, rfl, q44, hb44⟩
      have HB7 := below_then HB6 HB6.size hb44
      clear k39a k39b k40a k40b k41a k41b k42a k42b k43a k43b
      have k45 := (k39.below hb44)
      have k45a := k45.c0
      have k45b := k45.c1
      have k46 := (k40.below hb44)
      have k46a := k46.c0
      have k46b := k46.c1
      have k47 := (k41.below hb44)
      have k47a := k47.c0
      have k47b := k47.c1
      have k48 := (k42.below hb44)
      have k48a := k48.c0
      have k48b := k48.c1
      have k49 := (k43.below hb44)
      have k49a := k49.c0
      have k49b := k49.c1
      have HP1 : Hid (p12 ≠ 1) := Lib.hid (by rw [HSG.out, sgn_m.2 HN.out]; decide)
      have bb50 := k49
      obtain ⟨r0_, r1_, r2_, r3_⟩ := bb50.rdy (.int .i64 p44)
      have hp51 : Put2 w44 ((w44.setCell ⟨w28.heap.size, 0, none⟩ (.int .i64 p44)).setCell ⟨w28.heap.size, 1, none⟩ (.slice A44 m44 c44)) 30 w28.heap.size (.int .i64 p12) (.slice A12 m12 c12) (.int .i64 p44) (.slice A44 m44 c44) := ⟨bb50, rfl⟩
      clear k45a k45b k46a k46b k47a k47b k48a k48b k49a k49b
      have hV52 := below_alloc (Below.refl w28.heap.size w28) (.cells #[.int .i64 p12, .slice A12 m12 c12] 30)
      have hV53 := below_then hV52 hV52.size hb44
      have hV54 := hp51.below (Nat.le_refl _) hV53
      have t55 := (k34.below hV54)
      have t55a := t55.c0
      have t55b := t55.c1
      have t56 := (k35.below hV54)
      have t56a := t56.c0
      have t56b := t56.c1
      have t57 := (k36.below hV54)
      have t57a := t57.c0
      have t57b := t57.c1
      have t58 := (k37.below hV54)
      have t58a := t58.c0
      have t58b := t58.c1
      have t59 := hp51.box
      have t59a := t59.c0
      have t59b := t59.c1
      go_wp2_with fail
      clear t59b t59a t59 t58b t58a t58 t57b t57a t57 t56b t56a t56 t55b t55a t55 r3_ r2_ r1_ r0_
      generalize hW_ : (w44.setCell ⟨w28.heap.size, 0, none⟩ (.int .i64 p44)).setCell ⟨w28.heap.size, 1, none⟩ (.slice A44 m44 c44) = w51 at hp51 hV54 ⊢
      clear hW_
      have f60 := q44.put hp51 (zrM HP1)
      have x61 := hp51.box
      replace q44 := f60
      clear f60
      have HB8 := below_then HB5 HB5.size hV54
      have k62 := (k34.below hV54)
      have k62a := k62.c0
      have k62b := k62.c1
      have k63 := (k35.below hV54)
      have k63a := k63.c0
      have k63b := k63.c1
      have k64 := (k36.below hV54)
      have k64a := k64.c0
      have k64b := k64.c1
      have k65 := (k37.below hV54)
      have k65a := k65.c0
      have k65b := k65.c1
      have k66 := x61
      have k66a := k66.c0
      have k66b := k66.c1
      refine (rcmp_as (q12.below hV54) (q16.below hV54) (by decide) (by decide) Hcc).mono ?_
      rintro e w67 ⟨rfl, hb67⟩
      have HB9 := below_then HB8 HB8.size hb67
      clear k62a k62b k63a k63b k64a k64b k65a k65b k66a k66b
      have k68 := (k62.below hb67)
      have k68a := k68.c0
      have k68b := k68.c1
      have k69 := (k63.below hb67)
      have k69a := k69.c0
      have k69b := k69.c1
      have k70 := (k64.below hb67)
      have k70a := k70.c0
      have k70b := k70.c1
      have k71 := (k65.below hb67)
      have k71a := k71.c0
      have k71b := k71.c1
      have k72 := (k66.below hb67)
      have k72a := k72.c0
      have k72b := k72.c1
      go_wp2_with fail
      have hst73 : ∀ w1_ w2_ : World, Below w1_.heap.size w1_ w2_ → (w1_.cell? ⟨w.heap.size, 0, none⟩ = some (.bool ba) ∧ w1_.cell? ⟨w.heap.size, 1, none⟩ = some (.slice Aa ma ca) ∧ w1_.cell? ⟨(w.heap.size + 1), 0, none⟩ = some (.bool bb) ∧ w1_.cell? ⟨(w.heap.size + 1), 1, none⟩ = some (.slice Ab mb cb) ∧ w1_.cell? ⟨g18_0, 0, none⟩ = some (.int .i64 p12) ∧ w1_.cell? ⟨g18_0, 1, none⟩ = some (.slice A12 m12 c12) ∧ w1_.cell? ⟨g18_1, 0, none⟩ = some (.int .i64 p16) ∧ w1_.cell? ⟨g18_1, 1, none⟩ = some (.slice A16 m16 c16) ∧ w1_.cell? ⟨w28.heap.size, 0, none⟩ = some (.int .i64 p44) ∧ w1_.cell? ⟨w28.heap.size, 1, none⟩ = some (.slice A44 m44 c44)) → (w2_.cell? ⟨w.heap.size, 0, none⟩ = some (.bool ba) ∧ w2_.cell? ⟨w.heap.size, 1, none⟩ = some (.slice Aa ma ca) ∧ w2_.cell? ⟨(w.heap.size + 1), 0, none⟩ = some (.bool bb) ∧ w2_.cell? ⟨(w.heap.size + 1), 1, none⟩ = some (.slice Ab mb cb) ∧ w2_.cell? ⟨g18_0, 0, none⟩ = some (.int .i64 p12) ∧ w2_.cell? ⟨g18_0, 1, none⟩ = some (.slice A12 m12 c12) ∧ w2_.cell? ⟨g18_1, 0, none⟩ = some (.int .i64 p16) ∧ w2_.cell? ⟨g18_1, 1, none⟩ = some (.slice A16 m16 c16) ∧ w2_.cell? ⟨w28.heap.size, 0, none⟩ = some (.int .i64 p44) ∧ w2_.cell? ⟨w28.heap.size, 1, none⟩ = some (.slice A44 m44 c44)) := fun _ _ hb_ h_ => ⟨pw_cell_below hb_ h_.1, pw_cell_below hb_ h_.2.1, pw_cell_below hb_ h_.2.2.1, pw_cell_below hb_ h_.2.2.2.1, pw_cell_below hb_ h_.2.2.2.2.1, pw_cell_below hb_ h_.2.2.2.2.2.1, pw_cell_below hb_ h_.2.2.2.2.2.2.1, pw_cell_below hb_ h_.2.2.2.2.2.2.2.1, pw_cell_below hb_ h_.2.2.2.2.2.2.2.2.1, pw_cell_below hb_ h_.2.2.2.2.2.2.2.2.2⟩
      have hS73 : w67.cell? ⟨w.heap.size, 0, none⟩ = some (.bool ba) ∧ w67.cell? ⟨w.heap.size, 1, none⟩ = some (.slice Aa ma ca) ∧ w67.cell? ⟨(w.heap.size + 1), 0, none⟩ = some (.bool bb) ∧ w67.cell? ⟨(w.heap.size + 1), 1, none⟩ = some (.slice Ab mb cb) ∧ w67.cell? ⟨g18_0, 0, none⟩ = some (.int .i64 p12) ∧ w67.cell? ⟨g18_0, 1, none⟩ = some (.slice A12 m12 c12) ∧ w67.cell? ⟨g18_1, 0, none⟩ = some (.int .i64 p16) ∧ w67.cell? ⟨g18_1, 1, none⟩ = some (.slice A16 m16 c16) ∧ w67.cell? ⟨w28.heap.size, 0, none⟩ = some (.int .i64 p44) ∧ w67.cell? ⟨w28.heap.size, 1, none⟩ = some (.slice A44 m44 c44) := ⟨k68.c0, k68.c1, k69.c0, k69.c1, k70.c0, k70.c1, k71.c0, k71.c1, k72.c0, k72.c1⟩
      clear k68a k68b k69a k69b k70a k70b k71a k71b k72a k72b
      refine wp_region_flt [] [0, 1, 2, 3, 4, 5, 6, 7, 8, 9, 10, 11, 12, 13, 14, 15, 16, 17, 18, 19, 20, 21, 22, 23, 24, 25, 26, 27, 28, 29, 30, 31, 32, 33, 34, 35, 36, 37, 38, 39, 40, 41, 42, 43, 44, 45, 46, 47, 48, 49, 50, 51, 52] [] [] 53 (by kernel_rfl) (by kernel_rfl) .nil isFlt0 (fun c_ a_ a'_ w_ hd_ h_ => by first | exact ⟨hd_.trans h_.1, h_.2⟩ | exact h_) (fun w74 hg74 => ?_)
      have hS75 := hst73 _ _ hg74 hS73
      clear hS73
      refine wpFl_take (S := (fun w_ => w_.cell? ⟨w.heap.size, 0, none⟩ = some (.bool ba) ∧ w_.cell? ⟨w.heap.size, 1, none⟩ = some (.slice Aa ma ca) ∧ w_.cell? ⟨(w.heap.size + 1), 0, none⟩ = some (.bool bb) ∧ w_.cell? ⟨(w.heap.size + 1), 1, none⟩ = some (.slice Ab mb cb) ∧ w_.cell? ⟨g18_0, 0, none⟩ = some (.int .i64 p12) ∧ w_.cell? ⟨g18_0, 1, none⟩ = some (.slice A12 m12 c12) ∧ w_.cell? ⟨g18_1, 0, none⟩ = some (.int .i64 p16) ∧ w_.cell? ⟨g18_1, 1, none⟩ = some (.slice A16 m16 c16) ∧ w_.cell? ⟨w28.heap.size, 0, none⟩ = some (.int .i64 p44) ∧ w_.cell? ⟨w28.heap.size, 1, none⟩ = some (.slice A44 m44 c44))) (v := ?_) (oi := { dst := some 32, op := Go.Op.load 25 (Go.Operand.tmp 2), type := 25, pos := "law.go:37", after := #[], guard := none }) hst73 hS75 0 rfl (by kernel_rfl) (fun _ _ _ h => h) (Or.inl ⟨by rfl, ?_⟩) ?_
      rotate_left
      · intro w_ hSw; (try dsimp only at hSw); go_simp; (first | done | with_reducible rfl)
      try simp only [Act.put, fZ, fI, List.setIfInBounds_toArray, List.set_cons_zero, List.set_cons_succ]
      refine wpFl_take (S := (fun w_ => w_.cell? ⟨w.heap.size, 0, none⟩ = some (.bool ba) ∧ w_.cell? ⟨w.heap.size, 1, none⟩ = some (.slice Aa ma ca) ∧ w_.cell? ⟨(w.heap.size + 1), 0, none⟩ = some (.bool bb) ∧ w_.cell? ⟨(w.heap.size + 1), 1, none⟩ = some (.slice Ab mb cb) ∧ w_.cell? ⟨g18_0, 0, none⟩ = some (.int .i64 p12) ∧ w_.cell? ⟨g18_0, 1, none⟩ = some (.slice A12 m12 c12) ∧ w_.cell? ⟨g18_1, 0, none⟩ = some (.int .i64 p16) ∧ w_.cell? ⟨g18_1, 1, none⟩ = some (.slice A16 m16 c16) ∧ w_.cell? ⟨w28.heap.size, 0, none⟩ = some (.int .i64 p44) ∧ w_.cell? ⟨w28.heap.size, 1, none⟩ = some (.slice A44 m44 c44))) (v := ?_) (oi := { dst := some 33, op := Go.Op.load 25 (Go.Operand.tmp 3), type := 25, pos := "law.go:37", after := #[], guard := none }) hst73 hS75 1 rfl (by kernel_rfl) (fun _ _ _ h => h) (Or.inl ⟨by rfl, ?_⟩) ?_
      rotate_left
      · intro w_ hSw; (try dsimp only at hSw); go_simp; (first | done | with_reducible rfl)
      try simp only [Act.put, fZ, fI, List.setIfInBounds_toArray, List.set_cons_zero, List.set_cons_succ]
      refine wpFl_take (S := (fun w_ => w_.cell? ⟨w.heap.size, 0, none⟩ = some (.bool ba) ∧ w_.cell? ⟨w.heap.size, 1, none⟩ = some (.slice Aa ma ca) ∧ w_.cell? ⟨(w.heap.size + 1), 0, none⟩ = some (.bool bb) ∧ w_.cell? ⟨(w.heap.size + 1), 1, none⟩ = some (.slice Ab mb cb) ∧ w_.cell? ⟨g18_0, 0, none⟩ = some (.int .i64 p12) ∧ w_.cell? ⟨g18_0, 1, none⟩ = some (.slice A12 m12 c12) ∧ w_.cell? ⟨g18_1, 0, none⟩ = some (.int .i64 p16) ∧ w_.cell? ⟨g18_1, 1, none⟩ = some (.slice A16 m16 c16) ∧ w_.cell? ⟨w28.heap.size, 0, none⟩ = some (.int .i64 p44) ∧ w_.cell? ⟨w28.heap.size, 1, none⟩ = some (.slice A44 m44 c44))) (v := ?_) (oi := { dst := some 35, op := Go.Op.load 30 (Go.Operand.tmp 5), type := 30, pos := "law.go:37", after := #[], guard := none }) hst73 hS75 3 rfl (by kernel_rfl) (fun _ _ _ h => h) (Or.inl ⟨by rfl, ?_⟩) ?_
      rotate_left
      · intro w_ hSw; (try dsimp only at hSw); go_simp; (first | done | with_reducible rfl)
      try simp only [Act.put, fZ, fI, List.setIfInBounds_toArray, List.set_cons_zero, List.set_cons_succ]
      refine wpFl_take (S := (fun w_ => w_.cell? ⟨w.heap.size, 0, none⟩ = some (.bool ba) ∧ w_.cell? ⟨w.heap.size, 1, none⟩ = some (.slice Aa ma ca) ∧ w_.cell? ⟨(w.heap.size + 1), 0, none⟩ = some (.bool bb) ∧ w_.cell? ⟨(w.heap.size + 1), 1, none⟩ = some (.slice Ab mb cb) ∧ w_.cell? ⟨g18_0, 0, none⟩ = some (.int .i64 p12) ∧ w_.cell? ⟨g18_0, 1, none⟩ = some (.slice A12 m12 c12) ∧ w_.cell? ⟨g18_1, 0, none⟩ = some (.int .i64 p16) ∧ w_.cell? ⟨g18_1, 1, none⟩ = some (.slice A16 m16 c16) ∧ w_.cell? ⟨w28.heap.size, 0, none⟩ = some (.int .i64 p44) ∧ w_.cell? ⟨w28.heap.size, 1, none⟩ = some (.slice A44 m44 c44))) (v := ?_) (oi := { dst := some 36, op := Go.Op.load 30 (Go.Operand.tmp 6), type := 30, pos := "law.go:37", after := #[], guard := none }) hst73 hS75 4 rfl (by kernel_rfl) (fun _ _ _ h => h) (Or.inl ⟨by rfl, ?_⟩) ?_
      rotate_left
      · intro w_ hSw; (try dsimp only at hSw); go_simp; (first | done | with_reducible rfl)
      try simp only [Act.put, fZ, fI, List.setIfInBounds_toArray, List.set_cons_zero, List.set_cons_succ]
      refine wpFl_call 2 (o := { dst := some 34, op := Go.Op.call { callee := Go.Callee.value (Go.Operand.func 29), args := #[Go.Operand.tmp 32, Go.Operand.tmp 33], argTypes := #[25, 25] }, type := 25, pos := "law.go:37", after := #[{ on := 0, ground := Go.Ground.data }, { on := 1, ground := Go.Ground.data }], guard := none }) rfl (by kernel_rfl) (fun w76 hg76 K hK => ?_)
      have hS77 := hst73 _ _ hg76 hS75
      clear hS75
      go_simp
      refine (add_as (((((((((qa.alloc (.cells #[.bool ba, .slice Aa ma ca] 25)).alloc (.cells #[.bool bb, .slice Ab mb cb] 25)).below hb1).below hb4).below hW31).below hV54).below hb67).below hg74).below hg76) (((((((((qb.alloc (.cells #[.bool ba, .slice Aa ma ca] 25)).alloc (.cells #[.bool bb, .slice Ab mb cb] 25)).below hb1).below hb4).below hW31).below hV54).below hb67).below hg74).below hg76) (by decide) (by decide) He1).mono ?_
      rintro e w78 ⟨b78, A78, m78, c78, rfl, q78, hb78⟩
      refine hK.out _ _ hb78 ?_
      clear hK K
      try simp only [Act.put, fZ, fI, List.setIfInBounds_toArray, List.set_cons_zero, List.set_cons_succ]
      have hS79 := hst73 _ _ hb78 hS77
      clear hS77
      refine wpFl_call 5 (o := { dst := some 37, op := Go.Op.call { callee := Go.Callee.value (Go.Operand.func 34), args := #[Go.Operand.tmp 35, Go.Operand.tmp 36], argTypes := #[30, 30] }, type := 30, pos := "law.go:37", after := #[{ on := 3, ground := Go.Ground.data }, { on := 4, ground := Go.Ground.data }, { on := 2, ground := Go.Ground.chain }], guard := none }) rfl (by kernel_rfl) (fun w80 hg80 K hK => ?_)
      have hS81 := hst73 _ _ hg80 hS79
      clear hS79
      go_simp
      refine (radd_as ((((((q12.below hV54).below hb67).below hg74).below hg76).below hb78).below hg80) ((((((q16.below hV54).below hb67).below hg74).below hg76).below hb78).below hg80) (by decide) (by decide) He1).mono ?_
      rintro e w82 ⟨p82, A82, m82, c82, rfl, q82, hb82⟩
      refine hK.out _ _ hb82 ?_
      clear hK K
      try simp only [Act.put, fZ, fI, List.setIfInBounds_toArray, List.set_cons_zero, List.set_cons_succ]
      have hS83 := hst73 _ _ hb82 hS81
      clear hS81
      refine wpFl_call 6 (o := { dst := some 38, op := Go.Op.call { callee := Go.Callee.value (Go.Operand.func 16), args := #[Go.Operand.tmp 34, Go.Operand.tmp 37], argTypes := #[25, 30] }, type := 4, pos := "law.go:37", after := #[{ on := 2, ground := Go.Ground.data }, { on := 5, ground := Go.Ground.data }, { on := 5, ground := Go.Ground.chain }], guard := none }) rfl (by kernel_rfl) (fun w84 hg84 K hK => ?_)
      have hS85 := hst73 _ _ hg84 hS83
      clear hS83
      go_simp
      refine (lis_as (((q78.below hg80).below hb82).below hg84) (q82.below hg84) (by decide) (by decide) rfl).mono ?_
      rintro e w86 ⟨rfl, hb86⟩
      refine hK.out _ _ hb86 ?_
      clear hK K
      try simp only [Act.put, fZ, fI, List.setIfInBounds_toArray, List.set_cons_zero, List.set_cons_succ]
      have hS87 := hst73 _ _ hb86 hS85
      clear hS85
      refine wpFl_take (S := (fun w_ => w_.cell? ⟨w.heap.size, 0, none⟩ = some (.bool ba) ∧ w_.cell? ⟨w.heap.size, 1, none⟩ = some (.slice Aa ma ca) ∧ w_.cell? ⟨(w.heap.size + 1), 0, none⟩ = some (.bool bb) ∧ w_.cell? ⟨(w.heap.size + 1), 1, none⟩ = some (.slice Ab mb cb) ∧ w_.cell? ⟨g18_0, 0, none⟩ = some (.int .i64 p12) ∧ w_.cell? ⟨g18_0, 1, none⟩ = some (.slice A12 m12 c12) ∧ w_.cell? ⟨g18_1, 0, none⟩ = some (.int .i64 p16) ∧ w_.cell? ⟨g18_1, 1, none⟩ = some (.slice A16 m16 c16) ∧ w_.cell? ⟨w28.heap.size, 0, none⟩ = some (.int .i64 p44) ∧ w_.cell? ⟨w28.heap.size, 1, none⟩ = some (.slice A44 m44 c44))) (v := ?_) (oi := { dst := some 39, op := Go.Op.move (Go.Operand.tmp 38), type := 4, pos := "law.go:37", after := #[{ on := 6, ground := Go.Ground.data }, { on := 6, ground := Go.Ground.chain }], guard := none }) hst73 hS87 7 rfl (by kernel_rfl) (fun _ _ _ h => h) (Or.inl ⟨by rfl, ?_⟩) ?_
      rotate_left
      · intro w_ hSw; (try dsimp only at hSw); go_simp; (first | done | with_reducible rfl)
      try simp only [Act.put, fZ, fI, List.setIfInBounds_toArray, List.set_cons_zero, List.set_cons_succ]
      refine wpFl_take (S := (fun w_ => w_.cell? ⟨w.heap.size, 0, none⟩ = some (.bool ba) ∧ w_.cell? ⟨w.heap.size, 1, none⟩ = some (.slice Aa ma ca) ∧ w_.cell? ⟨(w.heap.size + 1), 0, none⟩ = some (.bool bb) ∧ w_.cell? ⟨(w.heap.size + 1), 1, none⟩ = some (.slice Ab mb cb) ∧ w_.cell? ⟨g18_0, 0, none⟩ = some (.int .i64 p12) ∧ w_.cell? ⟨g18_0, 1, none⟩ = some (.slice A12 m12 c12) ∧ w_.cell? ⟨g18_1, 0, none⟩ = some (.int .i64 p16) ∧ w_.cell? ⟨g18_1, 1, none⟩ = some (.slice A16 m16 c16) ∧ w_.cell? ⟨w28.heap.size, 0, none⟩ = some (.int .i64 p44) ∧ w_.cell? ⟨w28.heap.size, 1, none⟩ = some (.slice A44 m44 c44))) (v := ?_) (oi := { dst := some 40, op := Go.Op.load 25 (Go.Operand.tmp 2), type := 25, pos := "law.go:37", after := #[{ on := 7, ground := Go.Ground.guard }], guard := some (7, true) }) hst73 hS87 8 rfl (by kernel_rfl) (fun _ _ _ h => h) (Or.inl ⟨by rfl, ?_⟩) ?_
      rotate_left
      · intro w_ hSw; (try dsimp only at hSw); go_simp; (first | done | with_reducible rfl)
      try simp only [Act.put, fZ, fI, List.setIfInBounds_toArray, List.set_cons_zero, List.set_cons_succ]
      refine wpFl_take (S := (fun w_ => w_.cell? ⟨w.heap.size, 0, none⟩ = some (.bool ba) ∧ w_.cell? ⟨w.heap.size, 1, none⟩ = some (.slice Aa ma ca) ∧ w_.cell? ⟨(w.heap.size + 1), 0, none⟩ = some (.bool bb) ∧ w_.cell? ⟨(w.heap.size + 1), 1, none⟩ = some (.slice Ab mb cb) ∧ w_.cell? ⟨g18_0, 0, none⟩ = some (.int .i64 p12) ∧ w_.cell? ⟨g18_0, 1, none⟩ = some (.slice A12 m12 c12) ∧ w_.cell? ⟨g18_1, 0, none⟩ = some (.int .i64 p16) ∧ w_.cell? ⟨g18_1, 1, none⟩ = some (.slice A16 m16 c16) ∧ w_.cell? ⟨w28.heap.size, 0, none⟩ = some (.int .i64 p44) ∧ w_.cell? ⟨w28.heap.size, 1, none⟩ = some (.slice A44 m44 c44))) (v := ?_) (oi := { dst := some 41, op := Go.Op.load 25 (Go.Operand.tmp 3), type := 25, pos := "law.go:37", after := #[{ on := 7, ground := Go.Ground.guard }], guard := some (7, true) }) hst73 hS87 9 rfl (by kernel_rfl) (fun _ _ _ h => h) (Or.inl ⟨by rfl, ?_⟩) ?_
      rotate_left
      · intro w_ hSw; (try dsimp only at hSw); go_simp; (first | done | with_reducible rfl)
      try simp only [Act.put, fZ, fI, List.setIfInBounds_toArray, List.set_cons_zero, List.set_cons_succ]
      refine wpFl_take (S := (fun w_ => w_.cell? ⟨w.heap.size, 0, none⟩ = some (.bool ba) ∧ w_.cell? ⟨w.heap.size, 1, none⟩ = some (.slice Aa ma ca) ∧ w_.cell? ⟨(w.heap.size + 1), 0, none⟩ = some (.bool bb) ∧ w_.cell? ⟨(w.heap.size + 1), 1, none⟩ = some (.slice Ab mb cb) ∧ w_.cell? ⟨g18_0, 0, none⟩ = some (.int .i64 p12) ∧ w_.cell? ⟨g18_0, 1, none⟩ = some (.slice A12 m12 c12) ∧ w_.cell? ⟨g18_1, 0, none⟩ = some (.int .i64 p16) ∧ w_.cell? ⟨g18_1, 1, none⟩ = some (.slice A16 m16 c16) ∧ w_.cell? ⟨w28.heap.size, 0, none⟩ = some (.int .i64 p44) ∧ w_.cell? ⟨w28.heap.size, 1, none⟩ = some (.slice A44 m44 c44))) (v := ?_) (oi := { dst := some 43, op := Go.Op.load 30 (Go.Operand.tmp 5), type := 30, pos := "law.go:37", after := #[{ on := 7, ground := Go.Ground.guard }], guard := some (7, true) }) hst73 hS87 11 rfl (by kernel_rfl) (fun _ _ _ h => h) (Or.inl ⟨by rfl, ?_⟩) ?_
      rotate_left
      · intro w_ hSw; (try dsimp only at hSw); go_simp; (first | done | with_reducible rfl)
      try simp only [Act.put, fZ, fI, List.setIfInBounds_toArray, List.set_cons_zero, List.set_cons_succ]
      refine wpFl_take (S := (fun w_ => w_.cell? ⟨w.heap.size, 0, none⟩ = some (.bool ba) ∧ w_.cell? ⟨w.heap.size, 1, none⟩ = some (.slice Aa ma ca) ∧ w_.cell? ⟨(w.heap.size + 1), 0, none⟩ = some (.bool bb) ∧ w_.cell? ⟨(w.heap.size + 1), 1, none⟩ = some (.slice Ab mb cb) ∧ w_.cell? ⟨g18_0, 0, none⟩ = some (.int .i64 p12) ∧ w_.cell? ⟨g18_0, 1, none⟩ = some (.slice A12 m12 c12) ∧ w_.cell? ⟨g18_1, 0, none⟩ = some (.int .i64 p16) ∧ w_.cell? ⟨g18_1, 1, none⟩ = some (.slice A16 m16 c16) ∧ w_.cell? ⟨w28.heap.size, 0, none⟩ = some (.int .i64 p44) ∧ w_.cell? ⟨w28.heap.size, 1, none⟩ = some (.slice A44 m44 c44))) (v := ?_) (oi := { dst := some 44, op := Go.Op.load 30 (Go.Operand.tmp 6), type := 30, pos := "law.go:37", after := #[{ on := 7, ground := Go.Ground.guard }], guard := some (7, true) }) hst73 hS87 12 rfl (by kernel_rfl) (fun _ _ _ h => h) (Or.inl ⟨by rfl, ?_⟩) ?_
      rotate_left
      · intro w_ hSw; (try dsimp only at hSw); go_simp; (first | done | with_reducible rfl)
      try simp only [Act.put, fZ, fI, List.setIfInBounds_toArray, List.set_cons_zero, List.set_cons_succ]
      refine wpFl_call 10 (o := { dst := some 42, op := Go.Op.call { callee := Go.Callee.value (Go.Operand.func 31), args := #[Go.Operand.tmp 40, Go.Operand.tmp 41], argTypes := #[25, 25] }, type := 25, pos := "law.go:37", after := #[{ on := 8, ground := Go.Ground.data }, { on := 9, ground := Go.Ground.data }, { on := 7, ground := Go.Ground.chain }, { on := 7, ground := Go.Ground.guard }], guard := some (7, true) }) rfl (by kernel_rfl) (fun w88 hg88 K hK => ?_)
      have hS89 := hst73 _ _ hg88 hS87
      clear hS87
      go_simp
      refine (sub_as (((((((((((((((qa.alloc (.cells #[.bool ba, .slice Aa ma ca] 25)).alloc (.cells #[.bool bb, .slice Ab mb cb] 25)).below hb1).below hb4).below hW31).below hV54).below hb67).below hg74).below hg76).below hb78).below hg80).below hb82).below hg84).below hb86).below hg88) (((((((((((((((qb.alloc (.cells #[.bool ba, .slice Aa ma ca] 25)).alloc (.cells #[.bool bb, .slice Ab mb cb] 25)).below hb1).below hb4).below hW31).below hV54).below hb67).below hg74).below hg76).below hb78).below hg80).below hb82).below hg84).below hb86).below hg88) (by decide) (by decide) He2).mono ?_
      rintro e w90 ⟨b90, A90, m90, c90, rfl, q90, hb90⟩
      refine hK.out _ _ hb90 ?_
      clear hK K
      try simp only [Act.put, fZ, fI, List.setIfInBounds_toArray, List.set_cons_zero, List.set_cons_succ]
      have hS91 := hst73 _ _ hb90 hS89
      clear hS89
      refine wpFl_call 13 (o := { dst := some 45, op := Go.Op.call { callee := Go.Callee.value (Go.Operand.func 32), args := #[Go.Operand.tmp 44], argTypes := #[30] }, type := 30, pos := "law.go:37", after := #[{ on := 12, ground := Go.Ground.data }, { on := 10, ground := Go.Ground.chain }, { on := 7, ground := Go.Ground.guard }], guard := some (7, true) }) rfl (by kernel_rfl) (fun w92 hg92 K hK => ?_)
      have hS93 := hst73 _ _ hg92 hS91
      clear hS91
      go_simp
      refine (rneg_as ((((((((((((q16.below hV54).below hb67).below hg74).below hg76).below hb78).below hg80).below hb82).below hg84).below hb86).below hg88).below hb90).below hg92) He5).mono ?_
      rintro e w94 ⟨p94, A94, m94, c94, rfl, q94, hb94⟩
      refine hK.out _ _ hb94 ?_
      clear hK K
      try simp only [Act.put, fZ, fI, List.setIfInBounds_toArray, List.set_cons_zero, List.set_cons_succ]
      have hS95 := hst73 _ _ hb94 hS93
      clear hS93
      refine wpFl_call 14 (o := { dst := some 46, op := Go.Op.call { callee := Go.Callee.value (Go.Operand.func 34), args := #[Go.Operand.tmp 43, Go.Operand.tmp 45], argTypes := #[30, 30] }, type := 30, pos := "law.go:37", after := #[{ on := 11, ground := Go.Ground.data }, { on := 13, ground := Go.Ground.data }, { on := 13, ground := Go.Ground.chain }, { on := 7, ground := Go.Ground.guard }], guard := some (7, true) }) rfl (by kernel_rfl) (fun w96 hg96 K hK => ?_)
      have hS97 := hst73 _ _ hg96 hS95
      clear hS95
      go_simp
      refine (radd_as ((((((((((((((q12.below hV54).below hb67).below hg74).below hg76).below hb78).below hg80).below hb82).below hg84).below hb86).below hg88).below hb90).below hg92).below hb94).below hg96) (q94.below hg96) (by decide) (by decide) He6).mono ?_
      rintro e w98 ⟨p98, A98, m98, c98, rfl, q98, hb98⟩
      refine hK.out _ _ hb98 ?_
      clear hK K
      try simp only [Act.put, fZ, fI, List.setIfInBounds_toArray, List.set_cons_zero, List.set_cons_succ]
      have hS99 := hst73 _ _ hb98 hS97
      clear hS97
      refine wpFl_call 15 (o := { dst := some 47, op := Go.Op.call { callee := Go.Callee.value (Go.Operand.func 16), args := #[Go.Operand.tmp 42, Go.Operand.tmp 46], argTypes := #[25, 30] }, type := 4, pos := "law.go:37", after := #[{ on := 10, ground := Go.Ground.data }, { on := 14, ground := Go.Ground.data }, { on := 14, ground := Go.Ground.chain }, { on := 7, ground := Go.Ground.guard }], guard := some (7, true) }) rfl (by kernel_rfl) (fun w100 hg100 K hK => ?_)
      have hS101 := hst73 _ _ hg100 hS99
      clear hS99
      go_simp
      refine (lis_as (((((q90.below hg92).below hb94).below hg96).below hb98).below hg100) (q98.below hg100) (by decide) (by decide) (by rw [He2.out, He6.out, He5.out]; omega)).mono ?_
      rintro e w102 ⟨rfl, hb102⟩
      refine hK.out _ _ hb102 ?_
      clear hK K
      try simp only [Act.put, fZ, fI, List.setIfInBounds_toArray, List.set_cons_zero, List.set_cons_succ]
      have hS103 := hst73 _ _ hb102 hS101
      clear hS101
      refine wpFl_take (S := (fun w_ => w_.cell? ⟨w.heap.size, 0, none⟩ = some (.bool ba) ∧ w_.cell? ⟨w.heap.size, 1, none⟩ = some (.slice Aa ma ca) ∧ w_.cell? ⟨(w.heap.size + 1), 0, none⟩ = some (.bool bb) ∧ w_.cell? ⟨(w.heap.size + 1), 1, none⟩ = some (.slice Ab mb cb) ∧ w_.cell? ⟨g18_0, 0, none⟩ = some (.int .i64 p12) ∧ w_.cell? ⟨g18_0, 1, none⟩ = some (.slice A12 m12 c12) ∧ w_.cell? ⟨g18_1, 0, none⟩ = some (.int .i64 p16) ∧ w_.cell? ⟨g18_1, 1, none⟩ = some (.slice A16 m16 c16) ∧ w_.cell? ⟨w28.heap.size, 0, none⟩ = some (.int .i64 p44) ∧ w_.cell? ⟨w28.heap.size, 1, none⟩ = some (.slice A44 m44 c44))) (v := ?_) (oi := { dst := some 48, op := Go.Op.pick (Go.Operand.tmp 39) (Go.Operand.tmp 47) (Go.Operand.const (Go.Value.bool false)), type := 4, pos := "law.go:37", after := #[{ on := 7, ground := Go.Ground.data }, { on := 15, ground := Go.Ground.data }], guard := none }) hst73 hS103 16 rfl (by kernel_rfl) (fun _ _ _ h => h) (Or.inl ⟨by rfl, ?_⟩) ?_
      rotate_left
      · intro w_ hSw; (try dsimp only at hSw); go_simp; (first | done | with_reducible rfl)
      try simp only [Act.put, fZ, fI, List.setIfInBounds_toArray, List.set_cons_zero, List.set_cons_succ]
      refine wpFl_take (S := (fun w_ => w_.cell? ⟨w.heap.size, 0, none⟩ = some (.bool ba) ∧ w_.cell? ⟨w.heap.size, 1, none⟩ = some (.slice Aa ma ca) ∧ w_.cell? ⟨(w.heap.size + 1), 0, none⟩ = some (.bool bb) ∧ w_.cell? ⟨(w.heap.size + 1), 1, none⟩ = some (.slice Ab mb cb) ∧ w_.cell? ⟨g18_0, 0, none⟩ = some (.int .i64 p12) ∧ w_.cell? ⟨g18_0, 1, none⟩ = some (.slice A12 m12 c12) ∧ w_.cell? ⟨g18_1, 0, none⟩ = some (.int .i64 p16) ∧ w_.cell? ⟨g18_1, 1, none⟩ = some (.slice A16 m16 c16) ∧ w_.cell? ⟨w28.heap.size, 0, none⟩ = some (.int .i64 p44) ∧ w_.cell? ⟨w28.heap.size, 1, none⟩ = some (.slice A44 m44 c44))) (v := ?_) (oi := { dst := some 49, op := Go.Op.move (Go.Operand.tmp 48), type := 4, pos := "law.go:37", after := #[{ on := 16, ground := Go.Ground.data }, { on := 15, ground := Go.Ground.chain }], guard := none }) hst73 hS103 17 rfl (by kernel_rfl) (fun _ _ _ h => h) (Or.inl ⟨by rfl, ?_⟩) ?_
      rotate_left
      · intro w_ hSw; (try dsimp only at hSw); go_simp; (first | done | with_reducible rfl)
      try simp only [Act.put, fZ, fI, List.setIfInBounds_toArray, List.set_cons_zero, List.set_cons_succ]
      refine wpFl_take (S := (fun w_ => w_.cell? ⟨w.heap.size, 0, none⟩ = some (.bool ba) ∧ w_.cell? ⟨w.heap.size, 1, none⟩ = some (.slice Aa ma ca) ∧ w_.cell? ⟨(w.heap.size + 1), 0, none⟩ = some (.bool bb) ∧ w_.cell? ⟨(w.heap.size + 1), 1, none⟩ = some (.slice Ab mb cb) ∧ w_.cell? ⟨g18_0, 0, none⟩ = some (.int .i64 p12) ∧ w_.cell? ⟨g18_0, 1, none⟩ = some (.slice A12 m12 c12) ∧ w_.cell? ⟨g18_1, 0, none⟩ = some (.int .i64 p16) ∧ w_.cell? ⟨g18_1, 1, none⟩ = some (.slice A16 m16 c16) ∧ w_.cell? ⟨w28.heap.size, 0, none⟩ = some (.int .i64 p44) ∧ w_.cell? ⟨w28.heap.size, 1, none⟩ = some (.slice A44 m44 c44))) (v := ?_) (oi := { dst := some 50, op := Go.Op.load 25 (Go.Operand.tmp 2), type := 25, pos := "law.go:37", after := #[{ on := 17, ground := Go.Ground.guard }], guard := some (17, true) }) hst73 hS103 18 rfl (by kernel_rfl) (fun _ _ _ h => h) (Or.inl ⟨by rfl, ?_⟩) ?_
      rotate_left
      · intro w_ hSw; (try dsimp only at hSw); go_simp; (first | done | with_reducible rfl)
      try simp only [Act.put, fZ, fI, List.setIfInBounds_toArray, List.set_cons_zero, List.set_cons_succ]
      refine wpFl_take (S := (fun w_ => w_.cell? ⟨w.heap.size, 0, none⟩ = some (.bool ba) ∧ w_.cell? ⟨w.heap.size, 1, none⟩ = some (.slice Aa ma ca) ∧ w_.cell? ⟨(w.heap.size + 1), 0, none⟩ = some (.bool bb) ∧ w_.cell? ⟨(w.heap.size + 1), 1, none⟩ = some (.slice Ab mb cb) ∧ w_.cell? ⟨g18_0, 0, none⟩ = some (.int .i64 p12) ∧ w_.cell? ⟨g18_0, 1, none⟩ = some (.slice A12 m12 c12) ∧ w_.cell? ⟨g18_1, 0, none⟩ = some (.int .i64 p16) ∧ w_.cell? ⟨g18_1, 1, none⟩ = some (.slice A16 m16 c16) ∧ w_.cell? ⟨w28.heap.size, 0, none⟩ = some (.int .i64 p44) ∧ w_.cell? ⟨w28.heap.size, 1, none⟩ = some (.slice A44 m44 c44))) (v := ?_) (oi := { dst := some 52, op := Go.Op.load 30 (Go.Operand.tmp 5), type := 30, pos := "law.go:37", after := #[{ on := 17, ground := Go.Ground.guard }], guard := some (17, true) }) hst73 hS103 20 rfl (by kernel_rfl) (fun _ _ _ h => h) (Or.inl ⟨by rfl, ?_⟩) ?_
      rotate_left
      · intro w_ hSw; (try dsimp only at hSw); go_simp; (first | done | with_reducible rfl)
      try simp only [Act.put, fZ, fI, List.setIfInBounds_toArray, List.set_cons_zero, List.set_cons_succ]
      refine wpFl_call 19 (o := { dst := some 51, op := Go.Op.call { callee := Go.Callee.value (Go.Operand.func 35), args := #[Go.Operand.tmp 50], argTypes := #[25] }, type := 25, pos := "law.go:37", after := #[{ on := 18, ground := Go.Ground.data }, { on := 17, ground := Go.Ground.chain }, { on := 17, ground := Go.Ground.guard }], guard := some (17, true) }) rfl (by kernel_rfl) (fun w104 hg104 K hK => ?_)
      have hS105 := hst73 _ _ hg104 hS103
      clear hS103
      go_simp
      refine (neg_as (((((((((((((((((((((((qa.alloc (.cells #[.bool ba, .slice Aa ma ca] 25)).alloc (.cells #[.bool bb, .slice Ab mb cb] 25)).below hb1).below hb4).below hW31).below hV54).below hb67).below hg74).below hg76).below hb78).below hg80).below hb82).below hg84).below hb86).below hg88).below hb90).below hg92).below hb94).below hg96).below hb98).below hg100).below hb102).below hg104) (by decide) He3).mono ?_
      rintro e w106 ⟨b106, A106, m106, c106, rfl, q106, hb106⟩
      refine hK.out _ _ hb106 ?_
      clear hK K
      try simp only [Act.put, fZ, fI, List.setIfInBounds_toArray, List.set_cons_zero, List.set_cons_succ]
      have hS107 := hst73 _ _ hb106 hS105
      clear hS105
      refine wpFl_call 21 (o := { dst := some 53, op := Go.Op.call { callee := Go.Callee.value (Go.Operand.func 32), args := #[Go.Operand.tmp 52], argTypes := #[30] }, type := 30, pos := "law.go:37", after := #[{ on := 20, ground := Go.Ground.data }, { on := 19, ground := Go.Ground.chain }, { on := 17, ground := Go.Ground.guard }], guard := some (17, true) }) rfl (by kernel_rfl) (fun w108 hg108 K hK => ?_)
      have hS109 := hst73 _ _ hg108 hS107
      clear hS107
      go_simp
      refine (rneg_as ((((((((((((((((((((q12.below hV54).below hb67).below hg74).below hg76).below hb78).below hg80).below hb82).below hg84).below hb86).below hg88).below hb90).below hg92).below hb94).below hg96).below hb98).below hg100).below hb102).below hg104).below hb106).below hg108) He3).mono ?_
      rintro e w110 ⟨p110, A110, m110, c110, rfl, q110, hb110⟩
      refine hK.out _ _ hb110 ?_
      clear hK K
      try simp only [Act.put, fZ, fI, List.setIfInBounds_toArray, List.set_cons_zero, List.set_cons_succ]
      have hS111 := hst73 _ _ hb110 hS109
      clear hS109
      refine wpFl_call 22 (o := { dst := some 54, op := Go.Op.call { callee := Go.Callee.value (Go.Operand.func 16), args := #[Go.Operand.tmp 51, Go.Operand.tmp 53], argTypes := #[25, 30] }, type := 4, pos := "law.go:37", after := #[{ on := 19, ground := Go.Ground.data }, { on := 21, ground := Go.Ground.data }, { on := 21, ground := Go.Ground.chain }, { on := 17, ground := Go.Ground.guard }], guard := some (17, true) }) rfl (by kernel_rfl) (fun w112 hg112 K hK => ?_)
      have hS113 := hst73 _ _ hg112 hS111
      clear hS111
      go_simp
      refine (lis_as (((q106.below hg108).below hb110).below hg112) (q110.below hg112) (by decide) (by decide) rfl).mono ?_
      rintro e w114 ⟨rfl, hb114⟩
      refine hK.out _ _ hb114 ?_
      clear hK K
      try simp only [Act.put, fZ, fI, List.setIfInBounds_toArray, List.set_cons_zero, List.set_cons_succ]
      have hS115 := hst73 _ _ hb114 hS113
      clear hS113
      refine wpFl_take (S := (fun w_ => w_.cell? ⟨w.heap.size, 0, none⟩ = some (.bool ba) ∧ w_.cell? ⟨w.heap.size, 1, none⟩ = some (.slice Aa ma ca) ∧ w_.cell? ⟨(w.heap.size + 1), 0, none⟩ = some (.bool bb) ∧ w_.cell? ⟨(w.heap.size + 1), 1, none⟩ = some (.slice Ab mb cb) ∧ w_.cell? ⟨g18_0, 0, none⟩ = some (.int .i64 p12) ∧ w_.cell? ⟨g18_0, 1, none⟩ = some (.slice A12 m12 c12) ∧ w_.cell? ⟨g18_1, 0, none⟩ = some (.int .i64 p16) ∧ w_.cell? ⟨g18_1, 1, none⟩ = some (.slice A16 m16 c16) ∧ w_.cell? ⟨w28.heap.size, 0, none⟩ = some (.int .i64 p44) ∧ w_.cell? ⟨w28.heap.size, 1, none⟩ = some (.slice A44 m44 c44))) (v := ?_) (oi := { dst := some 55, op := Go.Op.pick (Go.Operand.tmp 49) (Go.Operand.tmp 54) (Go.Operand.const (Go.Value.bool false)), type := 4, pos := "law.go:37", after := #[{ on := 17, ground := Go.Ground.data }, { on := 22, ground := Go.Ground.data }], guard := none }) hst73 hS115 23 rfl (by kernel_rfl) (fun _ _ _ h => h) (Or.inl ⟨by rfl, ?_⟩) ?_
      rotate_left
      · intro w_ hSw; (try dsimp only at hSw); go_simp; (first | done | with_reducible rfl)
      try simp only [Act.put, fZ, fI, List.setIfInBounds_toArray, List.set_cons_zero, List.set_cons_succ]
      refine wpFl_take (S := (fun w_ => w_.cell? ⟨w.heap.size, 0, none⟩ = some (.bool ba) ∧ w_.cell? ⟨w.heap.size, 1, none⟩ = some (.slice Aa ma ca) ∧ w_.cell? ⟨(w.heap.size + 1), 0, none⟩ = some (.bool bb) ∧ w_.cell? ⟨(w.heap.size + 1), 1, none⟩ = some (.slice Ab mb cb) ∧ w_.cell? ⟨g18_0, 0, none⟩ = some (.int .i64 p12) ∧ w_.cell? ⟨g18_0, 1, none⟩ = some (.slice A12 m12 c12) ∧ w_.cell? ⟨g18_1, 0, none⟩ = some (.int .i64 p16) ∧ w_.cell? ⟨g18_1, 1, none⟩ = some (.slice A16 m16 c16) ∧ w_.cell? ⟨w28.heap.size, 0, none⟩ = some (.int .i64 p44) ∧ w_.cell? ⟨w28.heap.size, 1, none⟩ = some (.slice A44 m44 c44))) (v := ?_) (oi := { dst := some 56, op := Go.Op.move (Go.Operand.tmp 55), type := 4, pos := "law.go:37", after := #[{ on := 23, ground := Go.Ground.data }, { on := 22, ground := Go.Ground.chain }], guard := none }) hst73 hS115 24 rfl (by kernel_rfl) (fun _ _ _ h => h) (Or.inl ⟨by rfl, ?_⟩) ?_
      rotate_left
      · intro w_ hSw; (try dsimp only at hSw); go_simp; (first | done | with_reducible rfl)
      try simp only [Act.put, fZ, fI, List.setIfInBounds_toArray, List.set_cons_zero, List.set_cons_succ]
      refine wpFl_take (S := (fun w_ => w_.cell? ⟨w.heap.size, 0, none⟩ = some (.bool ba) ∧ w_.cell? ⟨w.heap.size, 1, none⟩ = some (.slice Aa ma ca) ∧ w_.cell? ⟨(w.heap.size + 1), 0, none⟩ = some (.bool bb) ∧ w_.cell? ⟨(w.heap.size + 1), 1, none⟩ = some (.slice Ab mb cb) ∧ w_.cell? ⟨g18_0, 0, none⟩ = some (.int .i64 p12) ∧ w_.cell? ⟨g18_0, 1, none⟩ = some (.slice A12 m12 c12) ∧ w_.cell? ⟨g18_1, 0, none⟩ = some (.int .i64 p16) ∧ w_.cell? ⟨g18_1, 1, none⟩ = some (.slice A16 m16 c16) ∧ w_.cell? ⟨w28.heap.size, 0, none⟩ = some (.int .i64 p44) ∧ w_.cell? ⟨w28.heap.size, 1, none⟩ = some (.slice A44 m44 c44))) (v := ?_) (oi := { dst := some 57, op := Go.Op.load 25 (Go.Operand.tmp 2), type := 25, pos := "law.go:37", after := #[{ on := 24, ground := Go.Ground.guard }], guard := some (24, true) }) hst73 hS115 25 rfl (by kernel_rfl) (fun _ _ _ h => h) (Or.inl ⟨by rfl, ?_⟩) ?_
      rotate_left
      · intro w_ hSw; (try dsimp only at hSw); go_simp; (first | done | with_reducible rfl)
      try simp only [Act.put, fZ, fI, List.setIfInBounds_toArray, List.set_cons_zero, List.set_cons_succ]
      refine wpFl_take (S := (fun w_ => w_.cell? ⟨w.heap.size, 0, none⟩ = some (.bool ba) ∧ w_.cell? ⟨w.heap.size, 1, none⟩ = some (.slice Aa ma ca) ∧ w_.cell? ⟨(w.heap.size + 1), 0, none⟩ = some (.bool bb) ∧ w_.cell? ⟨(w.heap.size + 1), 1, none⟩ = some (.slice Ab mb cb) ∧ w_.cell? ⟨g18_0, 0, none⟩ = some (.int .i64 p12) ∧ w_.cell? ⟨g18_0, 1, none⟩ = some (.slice A12 m12 c12) ∧ w_.cell? ⟨g18_1, 0, none⟩ = some (.int .i64 p16) ∧ w_.cell? ⟨g18_1, 1, none⟩ = some (.slice A16 m16 c16) ∧ w_.cell? ⟨w28.heap.size, 0, none⟩ = some (.int .i64 p44) ∧ w_.cell? ⟨w28.heap.size, 1, none⟩ = some (.slice A44 m44 c44))) (v := ?_) (oi := { dst := some 59, op := Go.Op.load 30 (Go.Operand.tmp 7), type := 30, pos := "law.go:37", after := #[{ on := 24, ground := Go.Ground.guard }], guard := some (24, true) }) hst73 hS115 27 rfl (by kernel_rfl) (fun _ _ _ h => h) (Or.inl ⟨by rfl, ?_⟩) ?_
      rotate_left
      · intro w_ hSw; (try dsimp only at hSw); go_simp; (first | done | with_reducible rfl)
      try simp only [Act.put, fZ, fI, List.setIfInBounds_toArray, List.set_cons_zero, List.set_cons_succ]
      refine wpFl_call 26 (o := { dst := some 58, op := Go.Op.call { callee := Go.Callee.value (Go.Operand.func 36), args := #[Go.Operand.tmp 57], argTypes := #[25] }, type := 25, pos := "law.go:37", after := #[{ on := 25, ground := Go.Ground.data }, { on := 24, ground := Go.Ground.chain }, { on := 24, ground := Go.Ground.guard }], guard := some (24, true) }) rfl (by kernel_rfl) (fun w116 hg116 K hK => ?_)
      have hS117 := hst73 _ _ hg116 hS115
      clear hS115
      go_simp
      refine (abs_as (((((((((((((((((((((((((((((qa.alloc (.cells #[.bool ba, .slice Aa ma ca] 25)).alloc (.cells #[.bool bb, .slice Ab mb cb] 25)).below hb1).below hb4).below hW31).below hV54).below hb67).below hg74).below hg76).below hb78).below hg80).below hb82).below hg84).below hb86).below hg88).below hb90).below hg92).below hb94).below hg96).below hb98).below hg100).below hb102).below hg104).below hb106).below hg108).below hb110).below hg112).below hb114).below hg116) (by decide) He4).mono ?_
      rintro e w118 ⟨b118, A118, m118, c118, rfl, q118, hb118⟩
      refine hK.out _ _ hb118 ?_
      clear hK K
      try simp only [Act.put, fZ, fI, List.setIfInBounds_toArray, List.set_cons_zero, List.set_cons_succ]
      have hS119 := hst73 _ _ hb118 hS117
      clear hS117
      refine wpFl_call 28 (o := { dst := some 60, op := Go.Op.call { callee := Go.Callee.value (Go.Operand.func 16), args := #[Go.Operand.tmp 58, Go.Operand.tmp 59], argTypes := #[25, 30] }, type := 4, pos := "law.go:37", after := #[{ on := 26, ground := Go.Ground.data }, { on := 27, ground := Go.Ground.data }, { on := 26, ground := Go.Ground.chain }, { on := 24, ground := Go.Ground.guard }], guard := some (24, true) }) rfl (by kernel_rfl) (fun w120 hg120 K hK => ?_)
      have hS121 := hst73 _ _ hg120 hS119
      clear hS119
      go_simp
      refine (lis_as (q118.below hg120) (((((((((((((((((((((((((q44.below hb67).below hg74).below hg76).below hb78).below hg80).below hb82).below hg84).below hb86).below hg88).below hb90).below hg92).below hb94).below hg96).below hb98).below hg100).below hb102).below hg104).below hb106).below hg108).below hb110).below hg112).below hb114).below hg116).below hb118).below hg120) (by decide) (by decide) (by have := HN.out; rw [He4.out]; omega)).mono ?_
      rintro e w122 ⟨rfl, hb122⟩
      refine hK.out _ _ hb122 ?_
      clear hK K
      try simp only [Act.put, fZ, fI, List.setIfInBounds_toArray, List.set_cons_zero, List.set_cons_succ]
      have hS123 := hst73 _ _ hb122 hS121
      clear hS121
      refine wpFl_take (S := (fun w_ => w_.cell? ⟨w.heap.size, 0, none⟩ = some (.bool ba) ∧ w_.cell? ⟨w.heap.size, 1, none⟩ = some (.slice Aa ma ca) ∧ w_.cell? ⟨(w.heap.size + 1), 0, none⟩ = some (.bool bb) ∧ w_.cell? ⟨(w.heap.size + 1), 1, none⟩ = some (.slice Ab mb cb) ∧ w_.cell? ⟨g18_0, 0, none⟩ = some (.int .i64 p12) ∧ w_.cell? ⟨g18_0, 1, none⟩ = some (.slice A12 m12 c12) ∧ w_.cell? ⟨g18_1, 0, none⟩ = some (.int .i64 p16) ∧ w_.cell? ⟨g18_1, 1, none⟩ = some (.slice A16 m16 c16) ∧ w_.cell? ⟨w28.heap.size, 0, none⟩ = some (.int .i64 p44) ∧ w_.cell? ⟨w28.heap.size, 1, none⟩ = some (.slice A44 m44 c44))) (v := ?_) (oi := { dst := some 61, op := Go.Op.pick (Go.Operand.tmp 56) (Go.Operand.tmp 60) (Go.Operand.const (Go.Value.bool false)), type := 4, pos := "law.go:37", after := #[{ on := 24, ground := Go.Ground.data }, { on := 28, ground := Go.Ground.data }], guard := none }) hst73 hS123 29 rfl (by kernel_rfl) (fun _ _ _ h => h) (Or.inl ⟨by rfl, ?_⟩) ?_
      rotate_left
      · intro w_ hSw; (try dsimp only at hSw); go_simp; (first | done | with_reducible rfl)
      try simp only [Act.put, fZ, fI, List.setIfInBounds_toArray, List.set_cons_zero, List.set_cons_succ]
      refine wpFl_take (S := (fun w_ => w_.cell? ⟨w.heap.size, 0, none⟩ = some (.bool ba) ∧ w_.cell? ⟨w.heap.size, 1, none⟩ = some (.slice Aa ma ca) ∧ w_.cell? ⟨(w.heap.size + 1), 0, none⟩ = some (.bool bb) ∧ w_.cell? ⟨(w.heap.size + 1), 1, none⟩ = some (.slice Ab mb cb) ∧ w_.cell? ⟨g18_0, 0, none⟩ = some (.int .i64 p12) ∧ w_.cell? ⟨g18_0, 1, none⟩ = some (.slice A12 m12 c12) ∧ w_.cell? ⟨g18_1, 0, none⟩ = some (.int .i64 p16) ∧ w_.cell? ⟨g18_1, 1, none⟩ = some (.slice A16 m16 c16) ∧ w_.cell? ⟨w28.heap.size, 0, none⟩ = some (.int .i64 p44) ∧ w_.cell? ⟨w28.heap.size, 1, none⟩ = some (.slice A44 m44 c44))) (v := ?_) (oi := { dst := some 62, op := Go.Op.move (Go.Operand.tmp 61), type := 4, pos := "law.go:37", after := #[{ on := 29, ground := Go.Ground.data }, { on := 28, ground := Go.Ground.chain }], guard := none }) hst73 hS123 30 rfl (by kernel_rfl) (fun _ _ _ h => h) (Or.inl ⟨by rfl, ?_⟩) ?_
      rotate_left
      · intro w_ hSw; (try dsimp only at hSw); go_simp; (first | done | with_reducible rfl)
      try simp only [Act.put, fZ, fI, List.setIfInBounds_toArray, List.set_cons_zero, List.set_cons_succ]
      refine wpFl_take (S := (fun w_ => w_.cell? ⟨w.heap.size, 0, none⟩ = some (.bool ba) ∧ w_.cell? ⟨w.heap.size, 1, none⟩ = some (.slice Aa ma ca) ∧ w_.cell? ⟨(w.heap.size + 1), 0, none⟩ = some (.bool bb) ∧ w_.cell? ⟨(w.heap.size + 1), 1, none⟩ = some (.slice Ab mb cb) ∧ w_.cell? ⟨g18_0, 0, none⟩ = some (.int .i64 p12) ∧ w_.cell? ⟨g18_0, 1, none⟩ = some (.slice A12 m12 c12) ∧ w_.cell? ⟨g18_1, 0, none⟩ = some (.int .i64 p16) ∧ w_.cell? ⟨g18_1, 1, none⟩ = some (.slice A16 m16 c16) ∧ w_.cell? ⟨w28.heap.size, 0, none⟩ = some (.int .i64 p44) ∧ w_.cell? ⟨w28.heap.size, 1, none⟩ = some (.slice A44 m44 c44))) (v := ?_) (oi := { dst := some 63, op := Go.Op.load 25 (Go.Operand.tmp 2), type := 25, pos := "law.go:37", after := #[{ on := 30, ground := Go.Ground.guard }], guard := some (30, true) }) hst73 hS123 31 rfl (by kernel_rfl) (fun _ _ _ h => h) (Or.inl ⟨by rfl, ?_⟩) ?_
      rotate_left
      · intro w_ hSw; (try dsimp only at hSw); go_simp; (first | done | with_reducible rfl)
      try simp only [Act.put, fZ, fI, List.setIfInBounds_toArray, List.set_cons_zero, List.set_cons_succ]
      refine wpFl_take (S := (fun w_ => w_.cell? ⟨w.heap.size, 0, none⟩ = some (.bool ba) ∧ w_.cell? ⟨w.heap.size, 1, none⟩ = some (.slice Aa ma ca) ∧ w_.cell? ⟨(w.heap.size + 1), 0, none⟩ = some (.bool bb) ∧ w_.cell? ⟨(w.heap.size + 1), 1, none⟩ = some (.slice Ab mb cb) ∧ w_.cell? ⟨g18_0, 0, none⟩ = some (.int .i64 p12) ∧ w_.cell? ⟨g18_0, 1, none⟩ = some (.slice A12 m12 c12) ∧ w_.cell? ⟨g18_1, 0, none⟩ = some (.int .i64 p16) ∧ w_.cell? ⟨g18_1, 1, none⟩ = some (.slice A16 m16 c16) ∧ w_.cell? ⟨w28.heap.size, 0, none⟩ = some (.int .i64 p44) ∧ w_.cell? ⟨w28.heap.size, 1, none⟩ = some (.slice A44 m44 c44))) (v := ?_) (oi := { dst := some 65, op := Go.Op.fieldAddr 30 (Go.Operand.tmp 5) 0, type := 0, pos := "law.go:37", after := #[{ on := 30, ground := Go.Ground.guard }], guard := some (30, true) }) hst73 hS123 33 rfl (by kernel_rfl) (fun _ _ _ h => h) (Or.inl ⟨by rfl, ?_⟩) ?_
      rotate_left
      · intro w_ hSw; (try dsimp only at hSw); go_simp; (first | done | with_reducible rfl)
      try simp only [Act.put, fZ, fI, List.setIfInBounds_toArray, List.set_cons_zero, List.set_cons_succ]
      refine wpFl_take (S := (fun w_ => w_.cell? ⟨w.heap.size, 0, none⟩ = some (.bool ba) ∧ w_.cell? ⟨w.heap.size, 1, none⟩ = some (.slice Aa ma ca) ∧ w_.cell? ⟨(w.heap.size + 1), 0, none⟩ = some (.bool bb) ∧ w_.cell? ⟨(w.heap.size + 1), 1, none⟩ = some (.slice Ab mb cb) ∧ w_.cell? ⟨g18_0, 0, none⟩ = some (.int .i64 p12) ∧ w_.cell? ⟨g18_0, 1, none⟩ = some (.slice A12 m12 c12) ∧ w_.cell? ⟨g18_1, 0, none⟩ = some (.int .i64 p16) ∧ w_.cell? ⟨g18_1, 1, none⟩ = some (.slice A16 m16 c16) ∧ w_.cell? ⟨w28.heap.size, 0, none⟩ = some (.int .i64 p44) ∧ w_.cell? ⟨w28.heap.size, 1, none⟩ = some (.slice A44 m44 c44))) (v := ?_) (oi := { dst := some 66, op := Go.Op.load 3 (Go.Operand.tmp 65), type := 3, pos := "law.go:37", after := #[{ on := 33, ground := Go.Ground.data }, { on := 30, ground := Go.Ground.guard }], guard := some (30, true) }) hst73 hS123 34 rfl (by kernel_rfl) (fun _ _ _ h => h) (Or.inl ⟨by rfl, ?_⟩) ?_
      rotate_left
      · intro w_ hSw; (try dsimp only at hSw); go_simp; (first | done | with_reducible rfl)
      try simp only [Act.put, fZ, fI, List.setIfInBounds_toArray, List.set_cons_zero, List.set_cons_succ]
      refine wpFl_call 32 (o := { dst := some 64, op := Go.Op.call { callee := Go.Callee.value (Go.Operand.func 30), args := #[Go.Operand.tmp 63], argTypes := #[25] }, type := 3, pos := "law.go:37", after := #[{ on := 31, ground := Go.Ground.data }, { on := 30, ground := Go.Ground.chain }, { on := 30, ground := Go.Ground.guard }], guard := some (30, true) }) rfl (by kernel_rfl) (fun w124 hg124 K hK => ?_)
      have hS125 := hst73 _ _ hg124 hS123
      clear hS123
      go_simp
      refine (sgn_as (((((((((((((((((((((((((((((((((qa.alloc (.cells #[.bool ba, .slice Aa ma ca] 25)).alloc (.cells #[.bool bb, .slice Ab mb cb] 25)).below hb1).below hb4).below hW31).below hV54).below hb67).below hg74).below hg76).below hb78).below hg80).below hb82).below hg84).below hb86).below hg88).below hb90).below hg92).below hb94).below hg96).below hb98).below hg100).below hb102).below hg104).below hb106).below hg108).below hb110).below hg112).below hb114).below hg116).below hb118).below hg120).below hb122).below hg124) HSG).mono ?_
      rintro e w126 ⟨rfl, hb126⟩
      refine hK.out _ _ hb126 ?_
      clear hK K
      try simp only [Act.put, fZ, fI, List.setIfInBounds_toArray, List.set_cons_zero, List.set_cons_succ]
      have hS127 := hst73 _ _ hb126 hS125
      clear hS125
      refine wpFl_take (S := (fun w_ => w_.cell? ⟨w.heap.size, 0, none⟩ = some (.bool ba) ∧ w_.cell? ⟨w.heap.size, 1, none⟩ = some (.slice Aa ma ca) ∧ w_.cell? ⟨(w.heap.size + 1), 0, none⟩ = some (.bool bb) ∧ w_.cell? ⟨(w.heap.size + 1), 1, none⟩ = some (.slice Ab mb cb) ∧ w_.cell? ⟨g18_0, 0, none⟩ = some (.int .i64 p12) ∧ w_.cell? ⟨g18_0, 1, none⟩ = some (.slice A12 m12 c12) ∧ w_.cell? ⟨g18_1, 0, none⟩ = some (.int .i64 p16) ∧ w_.cell? ⟨g18_1, 1, none⟩ = some (.slice A16 m16 c16) ∧ w_.cell? ⟨w28.heap.size, 0, none⟩ = some (.int .i64 p44) ∧ w_.cell? ⟨w28.heap.size, 1, none⟩ = some (.slice A44 m44 c44))) (v := ?_) (oi := { dst := some 67, op := Go.Op.binOp Go.BinOp.eql 3 (Go.Operand.tmp 64) (Go.Operand.tmp 66) 3, type := 4, pos := "law.go:37", after := #[{ on := 32, ground := Go.Ground.data }, { on := 34, ground := Go.Ground.data }, { on := 30, ground := Go.Ground.guard }], guard := some (30, true) }) hst73 hS127 35 rfl (by kernel_rfl) (fun _ _ _ h => h) (Or.inl ⟨by rfl, ?_⟩) ?_
      rotate_left
      · intro w_ hSw; (try dsimp only at hSw); go_simp; (first | done | with_reducible rfl)
      try simp only [Act.put, fZ, fI, List.setIfInBounds_toArray, List.set_cons_zero, List.set_cons_succ]
      refine wpFl_take (S := (fun w_ => w_.cell? ⟨w.heap.size, 0, none⟩ = some (.bool ba) ∧ w_.cell? ⟨w.heap.size, 1, none⟩ = some (.slice Aa ma ca) ∧ w_.cell? ⟨(w.heap.size + 1), 0, none⟩ = some (.bool bb) ∧ w_.cell? ⟨(w.heap.size + 1), 1, none⟩ = some (.slice Ab mb cb) ∧ w_.cell? ⟨g18_0, 0, none⟩ = some (.int .i64 p12) ∧ w_.cell? ⟨g18_0, 1, none⟩ = some (.slice A12 m12 c12) ∧ w_.cell? ⟨g18_1, 0, none⟩ = some (.int .i64 p16) ∧ w_.cell? ⟨g18_1, 1, none⟩ = some (.slice A16 m16 c16) ∧ w_.cell? ⟨w28.heap.size, 0, none⟩ = some (.int .i64 p44) ∧ w_.cell? ⟨w28.heap.size, 1, none⟩ = some (.slice A44 m44 c44))) (v := ?_) (oi := { dst := some 68, op := Go.Op.pick (Go.Operand.tmp 62) (Go.Operand.tmp 67) (Go.Operand.const (Go.Value.bool false)), type := 4, pos := "law.go:37", after := #[{ on := 30, ground := Go.Ground.data }, { on := 35, ground := Go.Ground.data }], guard := none }) hst73 hS127 36 rfl (by kernel_rfl) (fun _ _ _ h => h) (Or.inl ⟨by rfl, ?_⟩) ?_
      rotate_left
      · intro w_ hSw; (try dsimp only at hSw); go_simp; (first | done | with_reducible rfl)
      try simp only [Act.put, fZ, fI, List.setIfInBounds_toArray, List.set_cons_zero, List.set_cons_succ]
      refine wpFl_take (S := (fun w_ => w_.cell? ⟨w.heap.size, 0, none⟩ = some (.bool ba) ∧ w_.cell? ⟨w.heap.size, 1, none⟩ = some (.slice Aa ma ca) ∧ w_.cell? ⟨(w.heap.size + 1), 0, none⟩ = some (.bool bb) ∧ w_.cell? ⟨(w.heap.size + 1), 1, none⟩ = some (.slice Ab mb cb) ∧ w_.cell? ⟨g18_0, 0, none⟩ = some (.int .i64 p12) ∧ w_.cell? ⟨g18_0, 1, none⟩ = some (.slice A12 m12 c12) ∧ w_.cell? ⟨g18_1, 0, none⟩ = some (.int .i64 p16) ∧ w_.cell? ⟨g18_1, 1, none⟩ = some (.slice A16 m16 c16) ∧ w_.cell? ⟨w28.heap.size, 0, none⟩ = some (.int .i64 p44) ∧ w_.cell? ⟨w28.heap.size, 1, none⟩ = some (.slice A44 m44 c44))) (v := ?_) (oi := { dst := some 69, op := Go.Op.move (Go.Operand.tmp 68), type := 4, pos := "law.go:37", after := #[{ on := 36, ground := Go.Ground.data }, { on := 32, ground := Go.Ground.chain }], guard := none }) hst73 hS127 37 rfl (by kernel_rfl) (fun _ _ _ h => h) (Or.inl ⟨by rfl, ?_⟩) ?_
      rotate_left
      · intro w_ hSw; (try dsimp only at hSw); go_simp; (first | done | with_reducible rfl)
      try simp only [Act.put, fZ, fI, List.setIfInBounds_toArray, List.set_cons_zero, List.set_cons_succ]
      refine wpFl_take (S := (fun w_ => w_.cell? ⟨w.heap.size, 0, none⟩ = some (.bool ba) ∧ w_.cell? ⟨w.heap.size, 1, none⟩ = some (.slice Aa ma ca) ∧ w_.cell? ⟨(w.heap.size + 1), 0, none⟩ = some (.bool bb) ∧ w_.cell? ⟨(w.heap.size + 1), 1, none⟩ = some (.slice Ab mb cb) ∧ w_.cell? ⟨g18_0, 0, none⟩ = some (.int .i64 p12) ∧ w_.cell? ⟨g18_0, 1, none⟩ = some (.slice A12 m12 c12) ∧ w_.cell? ⟨g18_1, 0, none⟩ = some (.int .i64 p16) ∧ w_.cell? ⟨g18_1, 1, none⟩ = some (.slice A16 m16 c16) ∧ w_.cell? ⟨w28.heap.size, 0, none⟩ = some (.int .i64 p44) ∧ w_.cell? ⟨w28.heap.size, 1, none⟩ = some (.slice A44 m44 c44))) (v := ?_) (oi := { dst := some 70, op := Go.Op.load 25 (Go.Operand.tmp 2), type := 25, pos := "law.go:37", after := #[{ on := 37, ground := Go.Ground.guard }], guard := some (37, true) }) hst73 hS127 38 rfl (by kernel_rfl) (fun _ _ _ h => h) (Or.inl ⟨by rfl, ?_⟩) ?_
      rotate_left
      · intro w_ hSw; (try dsimp only at hSw); go_simp; (first | done | with_reducible rfl)
      try simp only [Act.put, fZ, fI, List.setIfInBounds_toArray, List.set_cons_zero, List.set_cons_succ]
      refine wpFl_take (S := (fun w_ => w_.cell? ⟨w.heap.size, 0, none⟩ = some (.bool ba) ∧ w_.cell? ⟨w.heap.size, 1, none⟩ = some (.slice Aa ma ca) ∧ w_.cell? ⟨(w.heap.size + 1), 0, none⟩ = some (.bool bb) ∧ w_.cell? ⟨(w.heap.size + 1), 1, none⟩ = some (.slice Ab mb cb) ∧ w_.cell? ⟨g18_0, 0, none⟩ = some (.int .i64 p12) ∧ w_.cell? ⟨g18_0, 1, none⟩ = some (.slice A12 m12 c12) ∧ w_.cell? ⟨g18_1, 0, none⟩ = some (.int .i64 p16) ∧ w_.cell? ⟨g18_1, 1, none⟩ = some (.slice A16 m16 c16) ∧ w_.cell? ⟨w28.heap.size, 0, none⟩ = some (.int .i64 p44) ∧ w_.cell? ⟨w28.heap.size, 1, none⟩ = some (.slice A44 m44 c44))) (v := ?_) (oi := { dst := some 71, op := Go.Op.load 25 (Go.Operand.tmp 3), type := 25, pos := "law.go:37", after := #[{ on := 37, ground := Go.Ground.guard }], guard := some (37, true) }) hst73 hS127 39 rfl (by kernel_rfl) (fun _ _ _ h => h) (Or.inl ⟨by rfl, ?_⟩) ?_
      rotate_left
      · intro w_ hSw; (try dsimp only at hSw); go_simp; (first | done | with_reducible rfl)
      try simp only [Act.put, fZ, fI, List.setIfInBounds_toArray, List.set_cons_zero, List.set_cons_succ]
      refine wpFl_take (S := (fun w_ => w_.cell? ⟨w.heap.size, 0, none⟩ = some (.bool ba) ∧ w_.cell? ⟨w.heap.size, 1, none⟩ = some (.slice Aa ma ca) ∧ w_.cell? ⟨(w.heap.size + 1), 0, none⟩ = some (.bool bb) ∧ w_.cell? ⟨(w.heap.size + 1), 1, none⟩ = some (.slice Ab mb cb) ∧ w_.cell? ⟨g18_0, 0, none⟩ = some (.int .i64 p12) ∧ w_.cell? ⟨g18_0, 1, none⟩ = some (.slice A12 m12 c12) ∧ w_.cell? ⟨g18_1, 0, none⟩ = some (.int .i64 p16) ∧ w_.cell? ⟨g18_1, 1, none⟩ = some (.slice A16 m16 c16) ∧ w_.cell? ⟨w28.heap.size, 0, none⟩ = some (.int .i64 p44) ∧ w_.cell? ⟨w28.heap.size, 1, none⟩ = some (.slice A44 m44 c44))) (v := ?_) (oi := { dst := some 73, op := Go.Op.move (Go.Operand.tmp 8), type := 3, pos := "law.go:37", after := #[{ on := 37, ground := Go.Ground.guard }], guard := some (37, true) }) hst73 hS127 41 rfl (by kernel_rfl) (fun _ _ _ h => h) (Or.inl ⟨by rfl, ?_⟩) ?_
      rotate_left
      · intro w_ hSw; (try dsimp only at hSw); go_simp; (first | done | with_reducible rfl)
      try simp only [Act.put, fZ, fI, List.setIfInBounds_toArray, List.set_cons_zero, List.set_cons_succ]
      refine wpFl_call 40 (o := { dst := some 72, op := Go.Op.call { callee := Go.Callee.value (Go.Operand.func 26), args := #[Go.Operand.tmp 70, Go.Operand.tmp 71], argTypes := #[25, 25] }, type := 3, pos := "law.go:37", after := #[{ on := 38, ground := Go.Ground.data }, { on := 39, ground := Go.Ground.data }, { on := 37, ground := Go.Ground.chain }, { on := 37, ground := Go.Ground.guard }], guard := some (37, true) }) rfl (by kernel_rfl) (fun w128 hg128 K hK => ?_)
      have hS129 := hst73 _ _ hg128 hS127
      clear hS127
      go_simp
      refine (cmp_as (((((((((((((((((((((((((((((((((((qa.alloc (.cells #[.bool ba, .slice Aa ma ca] 25)).alloc (.cells #[.bool bb, .slice Ab mb cb] 25)).below hb1).below hb4).below hW31).below hV54).below hb67).below hg74).below hg76).below hb78).below hg80).below hb82).below hg84).below hb86).below hg88).below hb90).below hg92).below hb94).below hg96).below hb98).below hg100).below hb102).below hg104).below hb106).below hg108).below hb110).below hg112).below hb114).below hg116).below hb118).below hg120).below hb122).below hg124).below hb126).below hg128) (((((((((((((((((((((((((((((((((((qb.alloc (.cells #[.bool ba, .slice Aa ma ca] 25)).alloc (.cells #[.bool bb, .slice Ab mb cb] 25)).below hb1).below hb4).below hW31).below hV54).below hb67).below hg74).below hg76).below hb78).below hg80).below hb82).below hg84).below hb86).below hg88).below hb90).below hg92).below hb94).below hg96).below hb98).below hg100).below hb102).below hg104).below hb106).below hg108).below hb110).below hg112).below hb114).below hg116).below hb118).below hg120).below hb122).below hg124).below hb126).below hg128) Hcc).mono ?_
      rintro e w130 ⟨rfl, hb130⟩
      refine hK.out _ _ hb130 ?_
      clear hK K
      try simp only [Act.put, fZ, fI, List.setIfInBounds_toArray, List.set_cons_zero, List.set_cons_succ]
      have hS131 := hst73 _ _ hb130 hS129
      clear hS129
      refine wpFl_take (S := (fun w_ => w_.cell? ⟨w.heap.size, 0, none⟩ = some (.bool ba) ∧ w_.cell? ⟨w.heap.size, 1, none⟩ = some (.slice Aa ma ca) ∧ w_.cell? ⟨(w.heap.size + 1), 0, none⟩ = some (.bool bb) ∧ w_.cell? ⟨(w.heap.size + 1), 1, none⟩ = some (.slice Ab mb cb) ∧ w_.cell? ⟨g18_0, 0, none⟩ = some (.int .i64 p12) ∧ w_.cell? ⟨g18_0, 1, none⟩ = some (.slice A12 m12 c12) ∧ w_.cell? ⟨g18_1, 0, none⟩ = some (.int .i64 p16) ∧ w_.cell? ⟨g18_1, 1, none⟩ = some (.slice A16 m16 c16) ∧ w_.cell? ⟨w28.heap.size, 0, none⟩ = some (.int .i64 p44) ∧ w_.cell? ⟨w28.heap.size, 1, none⟩ = some (.slice A44 m44 c44))) (v := ?_) (oi := { dst := some 74, op := Go.Op.binOp Go.BinOp.eql 3 (Go.Operand.tmp 72) (Go.Operand.tmp 73) 3, type := 4, pos := "law.go:37", after := #[{ on := 40, ground := Go.Ground.data }, { on := 41, ground := Go.Ground.data }, { on := 37, ground := Go.Ground.guard }], guard := some (37, true) }) hst73 hS131 42 rfl (by kernel_rfl) (fun _ _ _ h => h) (Or.inl ⟨by rfl, ?_⟩) ?_
      rotate_left
      · intro w_ hSw; (try dsimp only at hSw); go_simp; (first | done | with_reducible rfl)
      try simp only [Act.put, fZ, fI, List.setIfInBounds_toArray, List.set_cons_zero, List.set_cons_succ]
      refine wpFl_take (S := (fun w_ => w_.cell? ⟨w.heap.size, 0, none⟩ = some (.bool ba) ∧ w_.cell? ⟨w.heap.size, 1, none⟩ = some (.slice Aa ma ca) ∧ w_.cell? ⟨(w.heap.size + 1), 0, none⟩ = some (.bool bb) ∧ w_.cell? ⟨(w.heap.size + 1), 1, none⟩ = some (.slice Ab mb cb) ∧ w_.cell? ⟨g18_0, 0, none⟩ = some (.int .i64 p12) ∧ w_.cell? ⟨g18_0, 1, none⟩ = some (.slice A12 m12 c12) ∧ w_.cell? ⟨g18_1, 0, none⟩ = some (.int .i64 p16) ∧ w_.cell? ⟨g18_1, 1, none⟩ = some (.slice A16 m16 c16) ∧ w_.cell? ⟨w28.heap.size, 0, none⟩ = some (.int .i64 p44) ∧ w_.cell? ⟨w28.heap.size, 1, none⟩ = some (.slice A44 m44 c44))) (v := ?_) (oi := { dst := some 75, op := Go.Op.pick (Go.Operand.tmp 69) (Go.Operand.tmp 74) (Go.Operand.const (Go.Value.bool false)), type := 4, pos := "law.go:37", after := #[{ on := 37, ground := Go.Ground.data }, { on := 42, ground := Go.Ground.data }], guard := none }) hst73 hS131 43 rfl (by kernel_rfl) (fun _ _ _ h => h) (Or.inl ⟨by rfl, ?_⟩) ?_
      rotate_left
      · intro w_ hSw; (try dsimp only at hSw); go_simp; (first | done | with_reducible rfl)
      try simp only [Act.put, fZ, fI, List.setIfInBounds_toArray, List.set_cons_zero, List.set_cons_succ]
      refine wpFl_take (S := (fun w_ => w_.cell? ⟨w.heap.size, 0, none⟩ = some (.bool ba) ∧ w_.cell? ⟨w.heap.size, 1, none⟩ = some (.slice Aa ma ca) ∧ w_.cell? ⟨(w.heap.size + 1), 0, none⟩ = some (.bool bb) ∧ w_.cell? ⟨(w.heap.size + 1), 1, none⟩ = some (.slice Ab mb cb) ∧ w_.cell? ⟨g18_0, 0, none⟩ = some (.int .i64 p12) ∧ w_.cell? ⟨g18_0, 1, none⟩ = some (.slice A12 m12 c12) ∧ w_.cell? ⟨g18_1, 0, none⟩ = some (.int .i64 p16) ∧ w_.cell? ⟨g18_1, 1, none⟩ = some (.slice A16 m16 c16) ∧ w_.cell? ⟨w28.heap.size, 0, none⟩ = some (.int .i64 p44) ∧ w_.cell? ⟨w28.heap.size, 1, none⟩ = some (.slice A44 m44 c44))) (v := ?_) (oi := { dst := some 76, op := Go.Op.move (Go.Operand.tmp 75), type := 4, pos := "law.go:37", after := #[{ on := 43, ground := Go.Ground.data }, { on := 40, ground := Go.Ground.chain }], guard := none }) hst73 hS131 44 rfl (by kernel_rfl) (fun _ _ _ h => h) (Or.inl ⟨by rfl, ?_⟩) ?_
      rotate_left
      · intro w_ hSw; (try dsimp only at hSw); go_simp; (first | done | with_reducible rfl)
      try simp only [Act.put, fZ, fI, List.setIfInBounds_toArray, List.set_cons_zero, List.set_cons_succ]
      refine wpFl_take (S := (fun w_ => w_.cell? ⟨w.heap.size, 0, none⟩ = some (.bool ba) ∧ w_.cell? ⟨w.heap.size, 1, none⟩ = some (.slice Aa ma ca) ∧ w_.cell? ⟨(w.heap.size + 1), 0, none⟩ = some (.bool bb) ∧ w_.cell? ⟨(w.heap.size + 1), 1, none⟩ = some (.slice Ab mb cb) ∧ w_.cell? ⟨g18_0, 0, none⟩ = some (.int .i64 p12) ∧ w_.cell? ⟨g18_0, 1, none⟩ = some (.slice A12 m12 c12) ∧ w_.cell? ⟨g18_1, 0, none⟩ = some (.int .i64 p16) ∧ w_.cell? ⟨g18_1, 1, none⟩ = some (.slice A16 m16 c16) ∧ w_.cell? ⟨w28.heap.size, 0, none⟩ = some (.int .i64 p44) ∧ w_.cell? ⟨w28.heap.size, 1, none⟩ = some (.slice A44 m44 c44))) (v := ?_) (oi := { dst := some 77, op := Go.Op.load 25 (Go.Operand.tmp 2), type := 25, pos := "law.go:37", after := #[{ on := 44, ground := Go.Ground.guard }], guard := some (44, true) }) hst73 hS131 45 rfl (by kernel_rfl) (fun _ _ _ h => h) (Or.inl ⟨by rfl, ?_⟩) ?_
      rotate_left
      · intro w_ hSw; (try dsimp only at hSw); go_simp; (first | done | with_reducible rfl)
      try simp only [Act.put, fZ, fI, List.setIfInBounds_toArray, List.set_cons_zero, List.set_cons_succ]
      refine wpFl_take (S := (fun w_ => w_.cell? ⟨w.heap.size, 0, none⟩ = some (.bool ba) ∧ w_.cell? ⟨w.heap.size, 1, none⟩ = some (.slice Aa ma ca) ∧ w_.cell? ⟨(w.heap.size + 1), 0, none⟩ = some (.bool bb) ∧ w_.cell? ⟨(w.heap.size + 1), 1, none⟩ = some (.slice Ab mb cb) ∧ w_.cell? ⟨g18_0, 0, none⟩ = some (.int .i64 p12) ∧ w_.cell? ⟨g18_0, 1, none⟩ = some (.slice A12 m12 c12) ∧ w_.cell? ⟨g18_1, 0, none⟩ = some (.int .i64 p16) ∧ w_.cell? ⟨g18_1, 1, none⟩ = some (.slice A16 m16 c16) ∧ w_.cell? ⟨w28.heap.size, 0, none⟩ = some (.int .i64 p44) ∧ w_.cell? ⟨w28.heap.size, 1, none⟩ = some (.slice A44 m44 c44))) (v := ?_) (oi := { dst := some 78, op := Go.Op.load 25 (Go.Operand.tmp 3), type := 25, pos := "law.go:37", after := #[{ on := 44, ground := Go.Ground.guard }], guard := some (44, true) }) hst73 hS131 46 rfl (by kernel_rfl) (fun _ _ _ h => h) (Or.inl ⟨by rfl, ?_⟩) ?_
      rotate_left
      · intro w_ hSw; (try dsimp only at hSw); go_simp; (first | done | with_reducible rfl)
      try simp only [Act.put, fZ, fI, List.setIfInBounds_toArray, List.set_cons_zero, List.set_cons_succ]
      refine wpFl_take (S := (fun w_ => w_.cell? ⟨w.heap.size, 0, none⟩ = some (.bool ba) ∧ w_.cell? ⟨w.heap.size, 1, none⟩ = some (.slice Aa ma ca) ∧ w_.cell? ⟨(w.heap.size + 1), 0, none⟩ = some (.bool bb) ∧ w_.cell? ⟨(w.heap.size + 1), 1, none⟩ = some (.slice Ab mb cb) ∧ w_.cell? ⟨g18_0, 0, none⟩ = some (.int .i64 p12) ∧ w_.cell? ⟨g18_0, 1, none⟩ = some (.slice A12 m12 c12) ∧ w_.cell? ⟨g18_1, 0, none⟩ = some (.int .i64 p16) ∧ w_.cell? ⟨g18_1, 1, none⟩ = some (.slice A16 m16 c16) ∧ w_.cell? ⟨w28.heap.size, 0, none⟩ = some (.int .i64 p44) ∧ w_.cell? ⟨w28.heap.size, 1, none⟩ = some (.slice A44 m44 c44))) (v := ?_) (oi := { dst := some 80, op := Go.Op.move (Go.Operand.tmp 8), type := 3, pos := "law.go:37", after := #[{ on := 44, ground := Go.Ground.guard }], guard := some (44, true) }) hst73 hS131 48 rfl (by kernel_rfl) (fun _ _ _ h => h) (Or.inl ⟨by rfl, ?_⟩) ?_
      rotate_left
      · intro w_ hSw; (try dsimp only at hSw); go_simp; (first | done | with_reducible rfl)
      try simp only [Act.put, fZ, fI, List.setIfInBounds_toArray, List.set_cons_zero, List.set_cons_succ]
      refine wpFl_take (S := (fun w_ => w_.cell? ⟨w.heap.size, 0, none⟩ = some (.bool ba) ∧ w_.cell? ⟨w.heap.size, 1, none⟩ = some (.slice Aa ma ca) ∧ w_.cell? ⟨(w.heap.size + 1), 0, none⟩ = some (.bool bb) ∧ w_.cell? ⟨(w.heap.size + 1), 1, none⟩ = some (.slice Ab mb cb) ∧ w_.cell? ⟨g18_0, 0, none⟩ = some (.int .i64 p12) ∧ w_.cell? ⟨g18_0, 1, none⟩ = some (.slice A12 m12 c12) ∧ w_.cell? ⟨g18_1, 0, none⟩ = some (.int .i64 p16) ∧ w_.cell? ⟨g18_1, 1, none⟩ = some (.slice A16 m16 c16) ∧ w_.cell? ⟨w28.heap.size, 0, none⟩ = some (.int .i64 p44) ∧ w_.cell? ⟨w28.heap.size, 1, none⟩ = some (.slice A44 m44 c44))) (v := ?_) (oi := { dst := some 81, op := Go.Op.binOp Go.BinOp.eql 3 (Go.Operand.tmp 80) (Go.Operand.const (Go.Value.int Go.IntKind.i64 0)) 3, type := 4, pos := "law.go:37", after := #[{ on := 48, ground := Go.Ground.data }, { on := 44, ground := Go.Ground.guard }], guard := some (44, true) }) hst73 hS131 49 rfl (by kernel_rfl) (fun _ _ _ h => h) (Or.inl ⟨by rfl, ?_⟩) ?_
      rotate_left
      · intro w_ hSw; (try dsimp only at hSw); go_simp; (first | done | with_reducible rfl)
      try simp only [Act.put, fZ, fI, List.setIfInBounds_toArray, List.set_cons_zero, List.set_cons_succ]
      refine wpFl_call 47 (o := { dst := some 79, op := Go.Op.call { callee := Go.Callee.value (Go.Operand.func 28), args := #[Go.Operand.tmp 77, Go.Operand.tmp 78], argTypes := #[25, 25] }, type := 4, pos := "law.go:37", after := #[{ on := 45, ground := Go.Ground.data }, { on := 46, ground := Go.Ground.data }, { on := 44, ground := Go.Ground.chain }, { on := 44, ground := Go.Ground.guard }], guard := some (44, true) }) rfl (by kernel_rfl) (fun w132 hg132 K hK => ?_)
      have hS133 := hst73 _ _ hg132 hS131
      clear hS131
      go_simp
      refine (same_as (((((((((((((((((((((((((((((((((((((qa.alloc (.cells #[.bool ba, .slice Aa ma ca] 25)).alloc (.cells #[.bool bb, .slice Ab mb cb] 25)).below hb1).below hb4).below hW31).below hV54).below hb67).below hg74).below hg76).below hb78).below hg80).below hb82).below hg84).below hb86).below hg88).below hb90).below hg92).below hb94).below hg96).below hb98).below hg100).below hb102).below hg104).below hb106).below hg108).below hb110).below hg112).below hb114).below hg116).below hb118).below hg120).below hb122).below hg124).below hb126).below hg128).below hb130).below hg132) (((((((((((((((((((((((((((((((((((((qb.alloc (.cells #[.bool ba, .slice Aa ma ca] 25)).alloc (.cells #[.bool bb, .slice Ab mb cb] 25)).below hb1).below hb4).below hW31).below hV54).below hb67).below hg74).below hg76).below hb78).below hg80).below hb82).below hg84).below hb86).below hg88).below hb90).below hg92).below hb94).below hg96).below hb98).below hg100).below hb102).below hg104).below hb106).below hg108).below hb110).below hg112).below hb114).below hg116).below hb118).below hg120).below hb122).below hg124).below hb126).below hg128).below hb130).below hg132) HSM).mono ?_
      rintro e w134 ⟨rfl, hb134⟩
      refine hK.out _ _ hb134 ?_
      clear hK K
      try simp only [Act.put, fZ, fI, List.setIfInBounds_toArray, List.set_cons_zero, List.set_cons_succ]
      have hS135 := hst73 _ _ hb134 hS133
      clear hS133
      refine wpFl_take (S := (fun w_ => w_.cell? ⟨w.heap.size, 0, none⟩ = some (.bool ba) ∧ w_.cell? ⟨w.heap.size, 1, none⟩ = some (.slice Aa ma ca) ∧ w_.cell? ⟨(w.heap.size + 1), 0, none⟩ = some (.bool bb) ∧ w_.cell? ⟨(w.heap.size + 1), 1, none⟩ = some (.slice Ab mb cb) ∧ w_.cell? ⟨g18_0, 0, none⟩ = some (.int .i64 p12) ∧ w_.cell? ⟨g18_0, 1, none⟩ = some (.slice A12 m12 c12) ∧ w_.cell? ⟨g18_1, 0, none⟩ = some (.int .i64 p16) ∧ w_.cell? ⟨g18_1, 1, none⟩ = some (.slice A16 m16 c16) ∧ w_.cell? ⟨w28.heap.size, 0, none⟩ = some (.int .i64 p44) ∧ w_.cell? ⟨w28.heap.size, 1, none⟩ = some (.slice A44 m44 c44))) (v := ?_) (oi := { dst := some 82, op := Go.Op.binOp Go.BinOp.eql 4 (Go.Operand.tmp 79) (Go.Operand.tmp 81) 4, type := 4, pos := "law.go:37", after := #[{ on := 47, ground := Go.Ground.data }, { on := 49, ground := Go.Ground.data }, { on := 44, ground := Go.Ground.guard }], guard := some (44, true) }) hst73 hS135 50 rfl (by kernel_rfl) (fun _ _ _ h => h) (Or.inl ⟨by rfl, ?_⟩) ?_
      rotate_left
      · intro w_ hSw; (try dsimp only at hSw); go_simp; (first | done | with_reducible rfl)
      try simp only [Act.put, fZ, fI, List.setIfInBounds_toArray, List.set_cons_zero, List.set_cons_succ]
      refine wpFl_take (S := (fun w_ => w_.cell? ⟨w.heap.size, 0, none⟩ = some (.bool ba) ∧ w_.cell? ⟨w.heap.size, 1, none⟩ = some (.slice Aa ma ca) ∧ w_.cell? ⟨(w.heap.size + 1), 0, none⟩ = some (.bool bb) ∧ w_.cell? ⟨(w.heap.size + 1), 1, none⟩ = some (.slice Ab mb cb) ∧ w_.cell? ⟨g18_0, 0, none⟩ = some (.int .i64 p12) ∧ w_.cell? ⟨g18_0, 1, none⟩ = some (.slice A12 m12 c12) ∧ w_.cell? ⟨g18_1, 0, none⟩ = some (.int .i64 p16) ∧ w_.cell? ⟨g18_1, 1, none⟩ = some (.slice A16 m16 c16) ∧ w_.cell? ⟨w28.heap.size, 0, none⟩ = some (.int .i64 p44) ∧ w_.cell? ⟨w28.heap.size, 1, none⟩ = some (.slice A44 m44 c44))) (v := ?_) (oi := { dst := some 83, op := Go.Op.pick (Go.Operand.tmp 76) (Go.Operand.tmp 82) (Go.Operand.const (Go.Value.bool false)), type := 4, pos := "law.go:37", after := #[{ on := 44, ground := Go.Ground.data }, { on := 50, ground := Go.Ground.data }], guard := none }) hst73 hS135 51 rfl (by kernel_rfl) (fun _ _ _ h => h) (Or.inl ⟨by rfl, ?_⟩) ?_
      rotate_left
      · intro w_ hSw; (try dsimp only at hSw); go_simp; (first | done | with_reducible rfl)
      try simp only [Act.put, fZ, fI, List.setIfInBounds_toArray, List.set_cons_zero, List.set_cons_succ]
      refine wpFl_take (S := (fun w_ => w_.cell? ⟨w.heap.size, 0, none⟩ = some (.bool ba) ∧ w_.cell? ⟨w.heap.size, 1, none⟩ = some (.slice Aa ma ca) ∧ w_.cell? ⟨(w.heap.size + 1), 0, none⟩ = some (.bool bb) ∧ w_.cell? ⟨(w.heap.size + 1), 1, none⟩ = some (.slice Ab mb cb) ∧ w_.cell? ⟨g18_0, 0, none⟩ = some (.int .i64 p12) ∧ w_.cell? ⟨g18_0, 1, none⟩ = some (.slice A12 m12 c12) ∧ w_.cell? ⟨g18_1, 0, none⟩ = some (.int .i64 p16) ∧ w_.cell? ⟨g18_1, 1, none⟩ = some (.slice A16 m16 c16) ∧ w_.cell? ⟨w28.heap.size, 0, none⟩ = some (.int .i64 p44) ∧ w_.cell? ⟨w28.heap.size, 1, none⟩ = some (.slice A44 m44 c44))) (v := ?_) (oi := { dst := some 4, op := Go.Op.assign (Go.Operand.tmp 83), type := 4, pos := "law.go:37", after := #[{ on := 51, ground := Go.Ground.data }, { on := 47, ground := Go.Ground.chain }, { on := 0, ground := Go.Ground.phase }, { on := 1, ground := Go.Ground.phase }, { on := 2, ground := Go.Ground.phase }, { on := 3, ground := Go.Ground.phase }, { on := 4, ground := Go.Ground.phase }, { on := 5, ground := Go.Ground.phase }, { on := 6, ground := Go.Ground.phase }, { on := 7, ground := Go.Ground.phase }, { on := 8, ground := Go.Ground.phase }, { on := 9, ground := Go.Ground.phase }, { on := 10, ground := Go.Ground.phase }, { on := 11, ground := Go.Ground.phase }, { on := 12, ground := Go.Ground.phase }, { on := 13, ground := Go.Ground.phase }, { on := 14, ground := Go.Ground.phase }, { on := 15, ground := Go.Ground.phase }, { on := 16, ground := Go.Ground.phase }, { on := 17, ground := Go.Ground.phase }, { on := 18, ground := Go.Ground.phase }, { on := 19, ground := Go.Ground.phase }, { on := 20, ground := Go.Ground.phase }, { on := 21, ground := Go.Ground.phase }, { on := 22, ground := Go.Ground.phase }, { on := 23, ground := Go.Ground.phase }, { on := 24, ground := Go.Ground.phase }, { on := 25, ground := Go.Ground.phase }, { on := 26, ground := Go.Ground.phase }, { on := 27, ground := Go.Ground.phase }, { on := 28, ground := Go.Ground.phase }, { on := 29, ground := Go.Ground.phase }, { on := 30, ground := Go.Ground.phase }, { on := 31, ground := Go.Ground.phase }, { on := 32, ground := Go.Ground.phase }, { on := 33, ground := Go.Ground.phase }, { on := 34, ground := Go.Ground.phase }, { on := 35, ground := Go.Ground.phase }, { on := 36, ground := Go.Ground.phase }, { on := 37, ground := Go.Ground.phase }, { on := 38, ground := Go.Ground.phase }, { on := 39, ground := Go.Ground.phase }, { on := 40, ground := Go.Ground.phase }, { on := 41, ground := Go.Ground.phase }, { on := 42, ground := Go.Ground.phase }, { on := 43, ground := Go.Ground.phase }, { on := 44, ground := Go.Ground.phase }, { on := 45, ground := Go.Ground.phase }, { on := 46, ground := Go.Ground.phase }, { on := 47, ground := Go.Ground.phase }, { on := 48, ground := Go.Ground.phase }, { on := 49, ground := Go.Ground.phase }, { on := 50, ground := Go.Ground.phase }, { on := 51, ground := Go.Ground.phase }], guard := none }) hst73 hS135 52 rfl (by kernel_rfl) (fun _ _ _ h => h) (Or.inl ⟨by rfl, ?_⟩) ?_
      rotate_left
      · intro w_ hSw; (try dsimp only at hSw); go_simp; (first | done | with_reducible rfl)
      try simp only [Act.put, fZ, fI, List.setIfInBounds_toArray, List.set_cons_zero, List.set_cons_succ]
      refine wpFl_end0 (fun w136 hg136 => ?_)
      try simp only [Act.put, fZ, fI, List.setIfInBounds_toArray, List.set_cons_zero, List.set_cons_succ]
      clear hS135 hst73
      have hW137 := below_then hg74 hg74.size hg76
      have hW138 := below_then hW137 hW137.size hb78
      have hW139 := below_then hW138 hW138.size hg80
      have hW140 := below_then hW139 hW139.size hb82
      have hW141 := below_then hW140 hW140.size hg84
      have hW142 := below_then hW141 hW141.size hb86
      have hW143 := below_then hW142 hW142.size hg88
      have hW144 := below_then hW143 hW143.size hb90
      have hW145 := below_then hW144 hW144.size hg92
      have hW146 := below_then hW145 hW145.size hb94
      have hW147 := below_then hW146 hW146.size hg96
      have hW148 := below_then hW147 hW147.size hb98
      have hW149 := below_then hW148 hW148.size hg100
      have hW150 := below_then hW149 hW149.size hb102
      have hW151 := below_then hW150 hW150.size hg104
      have hW152 := below_then hW151 hW151.size hb106
      have hW153 := below_then hW152 hW152.size hg108
      have hW154 := below_then hW153 hW153.size hb110
      have hW155 := below_then hW154 hW154.size hg112
      have hW156 := below_then hW155 hW155.size hb114
      have hW157 := below_then hW156 hW156.size hg116
      have hW158 := below_then hW157 hW157.size hb118
      have hW159 := below_then hW158 hW158.size hg120
      have hW160 := below_then hW159 hW159.size hb122
      have hW161 := below_then hW160 hW160.size hg124
      have hW162 := below_then hW161 hW161.size hb126
      have hW163 := below_then hW162 hW162.size hg128
      have hW164 := below_then hW163 hW163.size hb130
      have hW165 := below_then hW164 hW164.size hg132
      have hW166 := below_then hW165 hW165.size hb134
      have hW167 := below_then hW166 hW166.size hg136
      have f168 := (((((((((((((((((((((((((((((q78.below hg80).below hb82).below hg84).below hb86).below hg88).below hb90).below hg92).below hb94).below hg96).below hb98).below hg100).below hb102).below hg104).below hb106).below hg108).below hb110).below hg112).below hb114).below hg116).below hb118).below hg120).below hb122).below hg124).below hb126).below hg128).below hb130).below hg132).below hb134).below hg136)
      have f169 := (((((((((((((((((((((((((((q82.below hg84).below hb86).below hg88).below hb90).below hg92).below hb94).below hg96).below hb98).below hg100).below hb102).below hg104).below hb106).below hg108).below hb110).below hg112).below hb114).below hg116).below hb118).below hg120).below hb122).below hg124).below hb126).below hg128).below hb130).below hg132).below hb134).below hg136)
      have f170 := (((((((((((((((((((((((q90.below hg92).below hb94).below hg96).below hb98).below hg100).below hb102).below hg104).below hb106).below hg108).below hb110).below hg112).below hb114).below hg116).below hb118).below hg120).below hb122).below hg124).below hb126).below hg128).below hb130).below hg132).below hb134).below hg136)
      have f171 := (((((((((((((((((((((q94.below hg96).below hb98).below hg100).below hb102).below hg104).below hb106).below hg108).below hb110).below hg112).below hb114).below hg116).below hb118).below hg120).below hb122).below hg124).below hb126).below hg128).below hb130).below hg132).below hb134).below hg136)
      have f172 := (((((((((((((((((((q98.below hg100).below hb102).below hg104).below hb106).below hg108).below hb110).below hg112).below hb114).below hg116).below hb118).below hg120).below hb122).below hg124).below hb126).below hg128).below hb130).below hg132).below hb134).below hg136)
      have f173 := (((((((((((((((q106.below hg108).below hb110).below hg112).below hb114).below hg116).below hb118).below hg120).below hb122).below hg124).below hb126).below hg128).below hb130).below hg132).below hb134).below hg136)
      have f174 := (((((((((((((q110.below hg112).below hb114).below hg116).below hb118).below hg120).below hb122).below hg124).below hb126).below hg128).below hb130).below hg132).below hb134).below hg136)
      have f175 := (((((((((q118.below hg120).below hb122).below hg124).below hb126).below hg128).below hb130).below hg132).below hb134).below hg136)
      replace q78 := f168
      clear f168
      replace q82 := f169
      clear f169
      replace q90 := f170
      clear f170
      replace q94 := f171
      clear f171
      replace q98 := f172
      clear f172
      replace q106 := f173
      clear f173
      replace q110 := f174
      clear f174
      replace q118 := f175
      clear f175
      have HB10 := below_then HB9 HB9.size hW167
      have k176 := (k68.below hW167)
      have k176a := k176.c0
      have k176b := k176.c1
      have k177 := (k69.below hW167)
      have k177a := k177.c0
      have k177b := k177.c1
      have k178 := (k70.below hW167)
      have k178a := k178.c0
      have k178b := k178.c1
      have k179 := (k71.below hW167)
      have k179a := k179.c0
      have k179b := k179.c1
      have k180 := (k72.below hW167)
      have k180a := k180.c0
      have k180b := k180.c1
      refine wpList_nil ?_
      go_wp2_with fail
      go_ret
      exact ⟨rfl, HB10⟩
    · have HN := Lib.hid hn
      clear hn
      have bxa := Box.new w 25 (.bool ba) (.slice Aa ma ca)
      have bxb := Box.new1 w (.cells #[.bool ba, .slice Aa ma ca] 25) 25 (.bool bb) (.slice Ab mb cb)
      go_enter Try.func8, Try.ntmps8
      go_wp2_with fail
      refine (lawake _).mono ?_
      rintro e w1 ⟨rfl, hb1⟩
      have HB1 := below_alloc (Below.refl w.heap.size w) (.cells #[.bool ba, .slice Aa ma ca] 25)
      have HB2 := below_alloc HB1 (.cells #[.bool bb, .slice Ab mb cb] 25)
      have HB3 := below_then HB2 HB2.size hb1
      have k2 := ((bxa.alloc (.cells #[.bool bb, .slice Ab mb cb] 25)).below hb1)
      have k2a := k2.c0
      have k2b := k2.c1
      have k3 := (bxb.below hb1)
      have k3a := k3.c0
      have k3b := k3.c1
      go_wp2_with fail
      refine (lfew_as 20 HF).mono ?_
      rintro e w4 ⟨rfl, hb4⟩
      have HB4 := below_then HB3 HB3.size hb4
      clear k2a k2b k3a k3b
      have k5 := (k2.below hb4)
      have k5a := k5.c0
      have k5b := k5.c1
      have k6 := (k3.below hb4)
      have k6a := k6.c0
      have k6b := k6.c1
      go_wp2_with fail
      have hst7 : ∀ w1_ w2_ : World, Below w1_.heap.size w1_ w2_ → (w1_.cell? ⟨w.heap.size, 0, none⟩ = some (.bool ba) ∧ w1_.cell? ⟨w.heap.size, 1, none⟩ = some (.slice Aa ma ca) ∧ w1_.cell? ⟨(w.heap.size + 1), 0, none⟩ = some (.bool bb) ∧ w1_.cell? ⟨(w.heap.size + 1), 1, none⟩ = some (.slice Ab mb cb)) → (w2_.cell? ⟨w.heap.size, 0, none⟩ = some (.bool ba) ∧ w2_.cell? ⟨w.heap.size, 1, none⟩ = some (.slice Aa ma ca) ∧ w2_.cell? ⟨(w.heap.size + 1), 0, none⟩ = some (.bool bb) ∧ w2_.cell? ⟨(w.heap.size + 1), 1, none⟩ = some (.slice Ab mb cb)) := fun _ _ hb_ h_ => ⟨pw_cell_below hb_ h_.1, pw_cell_below hb_ h_.2.1, pw_cell_below hb_ h_.2.2.1, pw_cell_below hb_ h_.2.2.2⟩
      have hS7 : w4.cell? ⟨w.heap.size, 0, none⟩ = some (.bool ba) ∧ w4.cell? ⟨w.heap.size, 1, none⟩ = some (.slice Aa ma ca) ∧ w4.cell? ⟨(w.heap.size + 1), 0, none⟩ = some (.bool bb) ∧ w4.cell? ⟨(w.heap.size + 1), 1, none⟩ = some (.slice Ab mb cb) := ⟨k5.c0, k5.c1, k6.c0, k6.c1⟩
      clear k5a k5b k6a k6b
      refine wp_region_flt [fZ 4 5, fZ 5 6] [0, 1, 2, 3] [6, 7] [{ dst := none, op := Go.Op.store 30 (Go.Operand.tmp 5) (Go.Operand.tmp 20), type := 0, pos := "law.go:31", after := #[{ on := 4, ground := Go.Ground.data }, { on := 1, ground := Go.Ground.data }, { on := 3, ground := Go.Ground.chain }, { on := 0, ground := Go.Ground.phase }, { on := 1, ground := Go.Ground.phase }, { on := 2, ground := Go.Ground.textOnly Go.Departure.lateStores }, { on := 3, ground := Go.Ground.textOnly Go.Departure.lateStoresUnsure }, { on := 4, ground := Go.Ground.phase }, { on := 5, ground := Go.Ground.phase }], guard := none }, { dst := none, op := Go.Op.store 30 (Go.Operand.tmp 6) (Go.Operand.tmp 22), type := 0, pos := "law.go:31", after := #[{ on := 5, ground := Go.Ground.data }, { on := 3, ground := Go.Ground.data }, { on := 6, ground := Go.Ground.chain }, { on := 0, ground := Go.Ground.phase }, { on := 1, ground := Go.Ground.phase }, { on := 2, ground := Go.Ground.phase }, { on := 3, ground := Go.Ground.phase }, { on := 4, ground := Go.Ground.phase }, { on := 5, ground := Go.Ground.phase }, { on := 6, ground := Go.Ground.phase }], guard := none }] 4 (by kernel_rfl) (by kernel_rfl) (.cons rfl (.cons rfl .nil)) (isFlts (isFltZ rfl) (isFlts (isFltZ rfl) isFlt0)) (fun c_ a_ a'_ w_ hd_ h_ => by first | exact ⟨hd_.trans h_.1, h_.2⟩ | exact h_) (fun w8 hg8 => ?_)
      have hS9 := hst7 _ _ hg8 hS7
      clear hS7
      refine wpFl_take (S := (fun w_ => w_.cell? ⟨w.heap.size, 0, none⟩ = some (.bool ba) ∧ w_.cell? ⟨w.heap.size, 1, none⟩ = some (.slice Aa ma ca) ∧ w_.cell? ⟨(w.heap.size + 1), 0, none⟩ = some (.bool bb) ∧ w_.cell? ⟨(w.heap.size + 1), 1, none⟩ = some (.slice Ab mb cb))) (v := ?_) (oi := { dst := some 19, op := Go.Op.load 25 (Go.Operand.tmp 2), type := 25, pos := "law.go:31", after := #[], guard := none }) hst7 hS9 0 rfl (by kernel_rfl) (fun _ _ _ h => h) (Or.inl ⟨by rfl, ?_⟩) ?_
      rotate_left
      · intro w_ hSw; (try dsimp only at hSw); go_simp; (first | done | with_reducible rfl)
      try simp only [Act.put, fZ, fI, List.setIfInBounds_toArray, List.set_cons_zero, List.set_cons_succ]
      refine wpFl_take (S := (fun w_ => w_.cell? ⟨w.heap.size, 0, none⟩ = some (.bool ba) ∧ w_.cell? ⟨w.heap.size, 1, none⟩ = some (.slice Aa ma ca) ∧ w_.cell? ⟨(w.heap.size + 1), 0, none⟩ = some (.bool bb) ∧ w_.cell? ⟨(w.heap.size + 1), 1, none⟩ = some (.slice Ab mb cb))) (v := ?_) (oi := { dst := some 21, op := Go.Op.load 25 (Go.Operand.tmp 3), type := 25, pos := "law.go:31", after := #[], guard := none }) hst7 hS9 2 rfl (by kernel_rfl) (fun _ _ _ h => h) (Or.inl ⟨by rfl, ?_⟩) ?_
      rotate_left
      · intro w_ hSw; (try dsimp only at hSw); go_simp; (first | done | with_reducible rfl)
      try simp only [Act.put, fZ, fI, List.setIfInBounds_toArray, List.set_cons_zero, List.set_cons_succ]
      refine wpFl_call 1 (o := { dst := some 20, op := Go.Op.call { callee := Go.Callee.value (Go.Operand.func 13), args := #[Go.Operand.tmp 19], argTypes := #[25] }, type := 30, pos := "law.go:31", after := #[{ on := 0, ground := Go.Ground.data }], guard := none }) rfl (by kernel_rfl) (fun w10 hg10 K hK => ?_)
      have hS11 := hst7 _ _ hg10 hS9
      clear hS9
      go_simp
      refine (lof_as ((((((qa.alloc (.cells #[.bool ba, .slice Aa ma ca] 25)).alloc (.cells #[.bool bb, .slice Ab mb cb] 25)).below hb1).below hb4).below hg8).below hg10) (by decide)).mono ?_
      rintro e w12 ⟨p12, A12, m12, c12, rfl, q12, hb12⟩
      refine hK.out _ _ hb12 ?_
      clear hK K
      try simp only [Act.put, fZ, fI, List.setIfInBounds_toArray, List.set_cons_zero, List.set_cons_succ]
      have hS13 := hst7 _ _ hb12 hS11
      clear hS11
      refine wpFl_call 3 (o := { dst := some 22, op := Go.Op.call { callee := Go.Callee.value (Go.Operand.func 13), args := #[Go.Operand.tmp 21], argTypes := #[25] }, type := 30, pos := "law.go:31", after := #[{ on := 2, ground := Go.Ground.data }, { on := 1, ground := Go.Ground.chain }], guard := none }) rfl (by kernel_rfl) (fun w14 hg14 K hK => ?_)
      have hS15 := hst7 _ _ hg14 hS13
      clear hS13
      go_simp
      refine (lof_as ((((((((qb.alloc (.cells #[.bool ba, .slice Aa ma ca] 25)).alloc (.cells #[.bool bb, .slice Ab mb cb] 25)).below hb1).below hb4).below hg8).below hg10).below hb12).below hg14) (by decide)).mono ?_
      rintro e w16 ⟨p16, A16, m16, c16, rfl, q16, hb16⟩
      refine hK.out _ _ hb16 ?_
      clear hK K
      try simp only [Act.put, fZ, fI, List.setIfInBounds_toArray, List.set_cons_zero, List.set_cons_succ]
      have hS17 := hst7 _ _ hb16 hS15
      clear hS15
      refine wpFl_end2 (fun w18 g18_0 g18_1 hg18 hl18_0 hl18_1 x18_0 x18_1 ne18_0_1 => ?_)
      try simp only [Act.put, fZ, fI, List.setIfInBounds_toArray, List.set_cons_zero, List.set_cons_succ]
      replace x18_0 : Box w18 30 g18_0 (.int .i64 0) (.slice none 0 0) := x18_0
      replace x18_1 : Box w18 30 g18_1 (.int .i64 0) (.slice none 0 0) := x18_1
      clear hS17 hst7
      have hW19 := below_then hg8 hg8.size hg10
      have hW20 := below_then hW19 hW19.size hb12
      have hW21 := below_then hW20 hW20.size hg14
      have hW22 := below_then hW21 hW21.size hb16
      have hW23 := below_then hW22 hW22.size hg18
      refine wpList_storeZ x18_0 rfl rfl (fun w24 hp24 => ?_)
      have x25 := hp24.box
      clear x18_0
      have x26 := hp24.far x18_1 (Ne.symm ne18_0_1)
      clear x18_1
      have hW27 := hp24.below hl18_0 hW23
      refine wpList_storeZ x26 rfl rfl (fun w28 hp28 => ?_)
      have x29 := hp28.far x25 ne18_0_1
      clear x25
      have x30 := hp28.box
      clear x26
      have hW31 := hp28.below hl18_1 hW27
      have f32 := (((((q12.below hg14).below hb16).below hg18).put hp24 zrZ).put hp28 zrZ)
      have f33 := (((q16.below hg18).put hp24 zrZ).put hp28 zrZ)
      replace q12 := f32
      clear f32
      replace q16 := f33
      clear f33
      clear hp24 hp28
      have HB5 := below_then HB4 HB4.size hW31
      have k34 := (k5.below hW31)
      have k34a := k34.c0
      have k34b := k34.c1
      have k35 := (k6.below hW31)
      have k35a := k35.c0
      have k35b := k35.c1
      have k36 := x29
      have k36a := k36.c0
      have k36b := k36.c1
      have k37 := x30
      have k37a := k37.c0
      have k37b := k37.c1
      refine wpList_nil ?_
      have HSG : Hid (p12 = sgn za) := Lib.hid q12.1
      have hsn : decide (p12 < 0) = false := decide_eq_false (by have := sgn_range za; rw [HSG.out]; intro h; have h1 := HN.out; have h2 := (sgn_m (z := za)).1 (by omega); omega)
      have k34aA := fun o_ => pw_cell_below (below_alloc (Below.refl _ _) o_) k34a
      have k34bA := fun o_ => pw_cell_below (below_alloc (Below.refl _ _) o_) k34b
      have k35aA := fun o_ => pw_cell_below (below_alloc (Below.refl _ _) o_) k35a
      have k35bA := fun o_ => pw_cell_below (below_alloc (Below.refl _ _) o_) k35b
      have k36aA := fun o_ => pw_cell_below (below_alloc (Below.refl _ _) o_) k36a
      have k36bA := fun o_ => pw_cell_below (below_alloc (Below.refl _ _) o_) k36b
      have k37aA := fun o_ => pw_cell_below (below_alloc (Below.refl _ _) o_) k37a
      have k37bA := fun o_ => pw_cell_below (below_alloc (Below.refl _ _) o_) k37b
      go_wp2_with fail
      have x38 := Box.new w28 30 (.int .i64 p12) (.slice A12 m12 c12)
      have HB6 := below_alloc HB5 (.cells #[.int .i64 p12, .slice A12 m12 c12] 30)
      clear k34a k34b k35a k35b k36a k36b k37a k37b k34aA k34bA k35aA k35bA k36aA k36bA k37aA k37bA
      have k39 := (k34.alloc (.cells #[.int .i64 p12, .slice A12 m12 c12] 30))
      have k39a := k39.c0
      have k39b := k39.c1
      have k40 := (k35.alloc (.cells #[.int .i64 p12, .slice A12 m12 c12] 30))
      have k40a := k40.c0
      have k40b := k40.c1
      have k41 := (k36.alloc (.cells #[.int .i64 p12, .slice A12 m12 c12] 30))
      have k41a := k41.c0
      have k41b := k41.c1
      have k42 := (k37.alloc (.cells #[.int .i64 p12, .slice A12 m12 c12] 30))
      have k42a := k42.c0
      have k42b := k42.c1
      have k43 := x38
      have k43a := k43.c0
      have k43b := k43.c1
      refine (rcmp_as (q12.alloc (.cells #[.int .i64 p12, .slice A12 m12 c12] 30)) (q16.alloc (.cells #[.int .i64 p12, .slice A12 m12 c12] 30)) (by decide) (by decide) Hcc).mono ?_
      rintro e w44 ⟨rfl, hb44⟩
      have HB7 := below_then HB6 HB6.size hb44
      clear k39a k39b k40a k40b k41a k41b k42a k42b k43a k43b
      have k45 := (k39.below hb44)
      have k45a := k45.c0
      have k45b := k45.c1
      have k46 := (k40.below hb44)
      have k46a := k46.c0
      have k46b := k46.c1
      have k47 := (k41.below hb44)
      have k47a := k47.c0
      have k47b := k47.c1
      have k48 := (k42.below hb44)
      have k48a := k48.c0
      have k48b := k48.c1
      have k49 := (k43.below hb44)
      have k49a := k49.c0
      have k49b := k49.c1
      go_wp2_with fail
      have hst50 : ∀ w1_ w2_ : World, Below w1_.heap.size w1_ w2_ → (w1_.cell? ⟨w.heap.size, 0, none⟩ = some (.bool ba) ∧ w1_.cell? ⟨w.heap.size, 1, none⟩ = some (.slice Aa ma ca) ∧ w1_.cell? ⟨(w.heap.size + 1), 0, none⟩ = some (.bool bb) ∧ w1_.cell? ⟨(w.heap.size + 1), 1, none⟩ = some (.slice Ab mb cb) ∧ w1_.cell? ⟨g18_0, 0, none⟩ = some (.int .i64 p12) ∧ w1_.cell? ⟨g18_0, 1, none⟩ = some (.slice A12 m12 c12) ∧ w1_.cell? ⟨g18_1, 0, none⟩ = some (.int .i64 p16) ∧ w1_.cell? ⟨g18_1, 1, none⟩ = some (.slice A16 m16 c16) ∧ w1_.cell? ⟨w28.heap.size, 0, none⟩ = some (.int .i64 p12) ∧ w1_.cell? ⟨w28.heap.size, 1, none⟩ = some (.slice A12 m12 c12)) → (w2_.cell? ⟨w.heap.size, 0, none⟩ = some (.bool ba) ∧ w2_.cell? ⟨w.heap.size, 1, none⟩ = some (.slice Aa ma ca) ∧ w2_.cell? ⟨(w.heap.size + 1), 0, none⟩ = some (.bool bb) ∧ w2_.cell? ⟨(w.heap.size + 1), 1, none⟩ = some (.slice Ab mb cb) ∧ w2_.cell? ⟨g18_0, 0, none⟩ = some (.int .i64 p12) ∧ w2_.cell? ⟨g18_0, 1, none⟩ = some (.slice A12 m12 c12) ∧ w2_.cell? ⟨g18_1, 0, none⟩ = some (.int .i64 p16) ∧ w2_.cell? ⟨g18_1, 1, none⟩ = some (.slice A16 m16 c16) ∧ w2_.cell? ⟨w28.heap.size, 0, none⟩ = some (.int .i64 p12) ∧ w2_.cell? ⟨w28.heap.size, 1, none⟩ = some (.slice A12 m12 c12)) := fun _ _ hb_ h_ => ⟨pw_cell_below hb_ h_.1, pw_cell_below hb_ h_.2.1, pw_cell_below hb_ h_.2.2.1, pw_cell_below hb_ h_.2.2.2.1, pw_cell_below hb_ h_.2.2.2.2.1, pw_cell_below hb_ h_.2.2.2.2.2.1, pw_cell_below hb_ h_.2.2.2.2.2.2.1, pw_cell_below hb_ h_.2.2.2.2.2.2.2.1, pw_cell_below hb_ h_.2.2.2.2.2.2.2.2.1, pw_cell_below hb_ h_.2.2.2.2.2.2.2.2.2⟩
      have hS50 : w44.cell? ⟨w.heap.size, 0, none⟩ = some (.bool ba) ∧ w44.cell? ⟨w.heap.size, 1, none⟩ = some (.slice Aa ma ca) ∧ w44.cell? ⟨(w.heap.size + 1), 0, none⟩ = some (.bool bb) ∧ w44.cell? ⟨(w.heap.size + 1), 1, none⟩ = some (.slice Ab mb cb) ∧ w44.cell? ⟨g18_0, 0, none⟩ = some (.int .i64 p12) ∧ w44.cell? ⟨g18_0, 1, none⟩ = some (.slice A12 m12 c12) ∧ w44.cell? ⟨g18_1, 0, none⟩ = some (.int .i64 p16) ∧ w44.cell? ⟨g18_1, 1, none⟩ = some (.slice A16 m16 c16) ∧ w44.cell? ⟨w28.heap.size, 0, none⟩ = some (.int .i64 p12) ∧ w44.cell? ⟨w28.heap.size, 1, none⟩ = some (.slice A12 m12 c12) := ⟨k45.c0, k45.c1, k46.c0, k46.c1, k47.c0, k47.c1, k48.c0, k48.c1, k49.c0, k49.c1⟩
      clear k45a k45b k46a k46b k47a k47b k48a k48b k49a k49b
      refine wp_region_flt [] [0, 1, 2, 3, 4, 5, 6, 7, 8, 9, 10, 11, 12, 13, 14, 15, 16, 17, 18, 19, 20, 21, 22, 23, 24, 25, 26, 27, 28, 29, 30, 31, 32, 33, 34, 35, 36, 37, 38, 39, 40, 41, 42, 43, 44, 45, 46, 47, 48, 49, 50, 51, 52] [] [] 53 (by kernel_rfl) (by kernel_rfl) .nil isFlt0 (fun c_ a_ a'_ w_ hd_ h_ => by first | exact ⟨hd_.trans h_.1, h_.2⟩ | exact h_) (fun w51 hg51 => ?_)
      have hS52 := hst50 _ _ hg51 hS50
      clear hS50
      refine wpFl_take (S := (fun w_ => w_.cell? ⟨w.heap.size, 0, none⟩ = some (.bool ba) ∧ w_.cell? ⟨w.heap.size, 1, none⟩ = some (.slice Aa ma ca) ∧ w_.cell? ⟨(w.heap.size + 1), 0, none⟩ = some (.bool bb) ∧ w_.cell? ⟨(w.heap.size + 1), 1, none⟩ = some (.slice Ab mb cb) ∧ w_.cell? ⟨g18_0, 0, none⟩ = some (.int .i64 p12) ∧ w_.cell? ⟨g18_0, 1, none⟩ = some (.slice A12 m12 c12) ∧ w_.cell? ⟨g18_1, 0, none⟩ = some (.int .i64 p16) ∧ w_.cell? ⟨g18_1, 1, none⟩ = some (.slice A16 m16 c16) ∧ w_.cell? ⟨w28.heap.size, 0, none⟩ = some (.int .i64 p12) ∧ w_.cell? ⟨w28.heap.size, 1, none⟩ = some (.slice A12 m12 c12))) (v := ?_) (oi := { dst := some 32, op := Go.Op.load 25 (Go.Operand.tmp 2), type := 25, pos := "law.go:37", after := #[], guard := none }) hst50 hS52 0 rfl (by kernel_rfl) (fun _ _ _ h => h) (Or.inl ⟨by rfl, ?_⟩) ?_
      rotate_left
      · intro w_ hSw; (try dsimp only at hSw); go_simp; (first | done | with_reducible rfl)
      try simp only [Act.put, fZ, fI, List.setIfInBounds_toArray, List.set_cons_zero, List.set_cons_succ]
      refine wpFl_take (S := (fun w_ => w_.cell? ⟨w.heap.size, 0, none⟩ = some (.bool ba) ∧ w_.cell? ⟨w.heap.size, 1, none⟩ = some (.slice Aa ma ca) ∧ w_.cell? ⟨(w.heap.size + 1), 0, none⟩ = some (.bool bb) ∧ w_.cell? ⟨(w.heap.size + 1), 1, none⟩ = some (.slice Ab mb cb) ∧ w_.cell? ⟨g18_0, 0, none⟩ = some (.int .i64 p12) ∧ w_.cell? ⟨g18_0, 1, none⟩ = some (.slice A12 m12 c12) ∧ w_.cell? ⟨g18_1, 0, none⟩ = some (.int .i64 p16) ∧ w_.cell? ⟨g18_1, 1, none⟩ = some (.slice A16 m16 c16) ∧ w_.cell? ⟨w28.heap.size, 0, none⟩ = some (.int .i64 p12) ∧ w_.cell? ⟨w28.heap.size, 1, none⟩ = some (.slice A12 m12 c12))) (v := ?_) (oi := { dst := some 33, op := Go.Op.load 25 (Go.Operand.tmp 3), type := 25, pos := "law.go:37", after := #[], guard := none }) hst50 hS52 1 rfl (by kernel_rfl) (fun _ _ _ h => h) (Or.inl ⟨by rfl, ?_⟩) ?_
      rotate_left
      · intro w_ hSw; (try dsimp only at hSw); go_simp; (first | done | with_reducible rfl)
      try simp only [Act.put, fZ, fI, List.setIfInBounds_toArray, List.set_cons_zero, List.set_cons_succ]
      refine wpFl_take (S := (fun w_ => w_.cell? ⟨w.heap.size, 0, none⟩ = some (.bool ba) ∧ w_.cell? ⟨w.heap.size, 1, none⟩ = some (.slice Aa ma ca) ∧ w_.cell? ⟨(w.heap.size + 1), 0, none⟩ = some (.bool bb) ∧ w_.cell? ⟨(w.heap.size + 1), 1, none⟩ = some (.slice Ab mb cb) ∧ w_.cell? ⟨g18_0, 0, none⟩ = some (.int .i64 p12) ∧ w_.cell? ⟨g18_0, 1, none⟩ = some (.slice A12 m12 c12) ∧ w_.cell? ⟨g18_1, 0, none⟩ = some (.int .i64 p16) ∧ w_.cell? ⟨g18_1, 1, none⟩ = some (.slice A16 m16 c16) ∧ w_.cell? ⟨w28.heap.size, 0, none⟩ = some (.int .i64 p12) ∧ w_.cell? ⟨w28.heap.size, 1, none⟩ = some (.slice A12 m12 c12))) (v := ?_) (oi := { dst := some 35, op := Go.Op.load 30 (Go.Operand.tmp 5), type := 30, pos := "law.go:37", after := #[], guard := none }) hst50 hS52 3 rfl (by kernel_rfl) (fun _ _ _ h => h) (Or.inl ⟨by rfl, ?_⟩) ?_
      rotate_left
      · intro w_ hSw; (try dsimp only at hSw); go_simp; (first | done | with_reducible rfl)
      try simp only [Act.put, fZ, fI, List.setIfInBounds_toArray, List.set_cons_zero, List.set_cons_succ]
      refine wpFl_take (S := (fun w_ => w_.cell? ⟨w.heap.size, 0, none⟩ = some (.bool ba) ∧ w_.cell? ⟨w.heap.size, 1, none⟩ = some (.slice Aa ma ca) ∧ w_.cell? ⟨(w.heap.size + 1), 0, none⟩ = some (.bool bb) ∧ w_.cell? ⟨(w.heap.size + 1), 1, none⟩ = some (.slice Ab mb cb) ∧ w_.cell? ⟨g18_0, 0, none⟩ = some (.int .i64 p12) ∧ w_.cell? ⟨g18_0, 1, none⟩ = some (.slice A12 m12 c12) ∧ w_.cell? ⟨g18_1, 0, none⟩ = some (.int .i64 p16) ∧ w_.cell? ⟨g18_1, 1, none⟩ = some (.slice A16 m16 c16) ∧ w_.cell? ⟨w28.heap.size, 0, none⟩ = some (.int .i64 p12) ∧ w_.cell? ⟨w28.heap.size, 1, none⟩ = some (.slice A12 m12 c12))) (v := ?_) (oi := { dst := some 36, op := Go.Op.load 30 (Go.Operand.tmp 6), type := 30, pos := "law.go:37", after := #[], guard := none }) hst50 hS52 4 rfl (by kernel_rfl) (fun _ _ _ h => h) (Or.inl ⟨by rfl, ?_⟩) ?_
      rotate_left
      · intro w_ hSw; (try dsimp only at hSw); go_simp; (first | done | with_reducible rfl)
      try simp only [Act.put, fZ, fI, List.setIfInBounds_toArray, List.set_cons_zero, List.set_cons_succ]
      refine wpFl_call 2 (o := { dst := some 34, op := Go.Op.call { callee := Go.Callee.value (Go.Operand.func 29), args := #[Go.Operand.tmp 32, Go.Operand.tmp 33], argTypes := #[25, 25] }, type := 25, pos := "law.go:37", after := #[{ on := 0, ground := Go.Ground.data }, { on := 1, ground := Go.Ground.data }], guard := none }) rfl (by kernel_rfl) (fun w53 hg53 K hK => ?_)
      have hS54 := hst50 _ _ hg53 hS52
      clear hS52
      go_simp
      refine (add_as (((((((((qa.alloc (.cells #[.bool ba, .slice Aa ma ca] 25)).alloc (.cells #[.bool bb, .slice Ab mb cb] 25)).below hb1).below hb4).below hW31).alloc (.cells #[.int .i64 p12, .slice A12 m12 c12] 30)).below hb44).below hg51).below hg53) (((((((((qb.alloc (.cells #[.bool ba, .slice Aa ma ca] 25)).alloc (.cells #[.bool bb, .slice Ab mb cb] 25)).below hb1).below hb4).below hW31).alloc (.cells #[.int .i64 p12, .slice A12 m12 c12] 30)).below hb44).below hg51).below hg53) (by decide) (by decide) He1).mono ?_
      rintro e w55 ⟨b55, A55, m55, c55, rfl, q55, hb55⟩
      refine hK.out _ _ hb55 ?_
      clear hK K
      try simp only [Act.put, fZ, fI, List.setIfInBounds_toArray, List.set_cons_zero, List.set_cons_succ]
      have hS56 := hst50 _ _ hb55 hS54
      clear hS54
      refine wpFl_call 5 (o := { dst := some 37, op := Go.Op.call { callee := Go.Callee.value (Go.Operand.func 34), args := #[Go.Operand.tmp 35, Go.Operand.tmp 36], argTypes := #[30, 30] }, type := 30, pos := "law.go:37", after := #[{ on := 3, ground := Go.Ground.data }, { on := 4, ground := Go.Ground.data }, { on := 2, ground := Go.Ground.chain }], guard := none }) rfl (by kernel_rfl) (fun w57 hg57 K hK => ?_)
      have hS58 := hst50 _ _ hg57 hS56
      clear hS56
      go_simp
      refine (radd_as ((((((q12.alloc (.cells #[.int .i64 p12, .slice A12 m12 c12] 30)).below hb44).below hg51).below hg53).below hb55).below hg57) ((((((q16.alloc (.cells #[.int .i64 p12, .slice A12 m12 c12] 30)).below hb44).below hg51).below hg53).below hb55).below hg57) (by decide) (by decide) He1).mono ?_
      rintro e w59 ⟨p59, A59, m59, c59, rfl, q59, hb59⟩
      refine hK.out _ _ hb59 ?_
      clear hK K
      try simp only [Act.put, fZ, fI, List.setIfInBounds_toArray, List.set_cons_zero, List.set_cons_succ]
      have hS60 := hst50 _ _ hb59 hS58
      clear hS58
      refine wpFl_call 6 (o := { dst := some 38, op := Go.Op.call { callee := Go.Callee.value (Go.Operand.func 16), args := #[Go.Operand.tmp 34, Go.Operand.tmp 37], argTypes := #[25, 30] }, type := 4, pos := "law.go:37", after := #[{ on := 2, ground := Go.Ground.data }, { on := 5, ground := Go.Ground.data }, { on := 5, ground := Go.Ground.chain }], guard := none }) rfl (by kernel_rfl) (fun w61 hg61 K hK => ?_)
      have hS62 := hst50 _ _ hg61 hS60
      clear hS60
      go_simp
      refine (lis_as (((q55.below hg57).below hb59).below hg61) (q59.below hg61) (by decide) (by decide) rfl).mono ?_
      rintro e w63 ⟨rfl, hb63⟩
      refine hK.out _ _ hb63 ?_
      clear hK K
      try simp only [Act.put, fZ, fI, List.setIfInBounds_toArray, List.set_cons_zero, List.set_cons_succ]
      have hS64 := hst50 _ _ hb63 hS62
      clear hS62
      refine wpFl_take (S := (fun w_ => w_.cell? ⟨w.heap.size, 0, none⟩ = some (.bool ba) ∧ w_.cell? ⟨w.heap.size, 1, none⟩ = some (.slice Aa ma ca) ∧ w_.cell? ⟨(w.heap.size + 1), 0, none⟩ = some (.bool bb) ∧ w_.cell? ⟨(w.heap.size + 1), 1, none⟩ = some (.slice Ab mb cb) ∧ w_.cell? ⟨g18_0, 0, none⟩ = some (.int .i64 p12) ∧ w_.cell? ⟨g18_0, 1, none⟩ = some (.slice A12 m12 c12) ∧ w_.cell? ⟨g18_1, 0, none⟩ = some (.int .i64 p16) ∧ w_.cell? ⟨g18_1, 1, none⟩ = some (.slice A16 m16 c16) ∧ w_.cell? ⟨w28.heap.size, 0, none⟩ = some (.int .i64 p12) ∧ w_.cell? ⟨w28.heap.size, 1, none⟩ = some (.slice A12 m12 c12))) (v := ?_) (oi := { dst := some 39, op := Go.Op.move (Go.Operand.tmp 38), type := 4, pos := "law.go:37", after := #[{ on := 6, ground := Go.Ground.data }, { on := 6, ground := Go.Ground.chain }], guard := none }) hst50 hS64 7 rfl (by kernel_rfl) (fun _ _ _ h => h) (Or.inl ⟨by rfl, ?_⟩) ?_
      rotate_left
      · intro w_ hSw; (try dsimp only at hSw); go_simp; (first | done | with_reducible rfl)
      try simp only [Act.put, fZ, fI, List.setIfInBounds_toArray, List.set_cons_zero, List.set_cons_succ]
      refine wpFl_take (S := (fun w_ => w_.cell? ⟨w.heap.size, 0, none⟩ = some (.bool ba) ∧ w_.cell? ⟨w.heap.size, 1, none⟩ = some (.slice Aa ma ca) ∧ w_.cell? ⟨(w.heap.size + 1), 0, none⟩ = some (.bool bb) ∧ w_.cell? ⟨(w.heap.size + 1), 1, none⟩ = some (.slice Ab mb cb) ∧ w_.cell? ⟨g18_0, 0, none⟩ = some (.int .i64 p12) ∧ w_.cell? ⟨g18_0, 1, none⟩ = some (.slice A12 m12 c12) ∧ w_.cell? ⟨g18_1, 0, none⟩ = some (.int .i64 p16) ∧ w_.cell? ⟨g18_1, 1, none⟩ = some (.slice A16 m16 c16) ∧ w_.cell? ⟨w28.heap.size, 0, none⟩ = some (.int .i64 p12) ∧ w_.cell? ⟨w28.heap.size, 1, none⟩ = some (.slice A12 m12 c12))) (v := ?_) (oi := { dst := some 40, op := Go.Op.load 25 (Go.Operand.tmp 2), type := 25, pos := "law.go:37", after := #[{ on := 7, ground := Go.Ground.guard }], guard := some (7, true) }) hst50 hS64 8 rfl (by kernel_rfl) (fun _ _ _ h => h) (Or.inl ⟨by rfl, ?_⟩) ?_
      rotate_left
      · intro w_ hSw; (try dsimp only at hSw); go_simp; (first | done | with_reducible rfl)
      try simp only [Act.put, fZ, fI, List.setIfInBounds_toArray, List.set_cons_zero, List.set_cons_succ]
      refine wpFl_take (S := (fun w_ => w_.cell? ⟨w.heap.size, 0, none⟩ = some (.bool ba) ∧ w_.cell? ⟨w.heap.size, 1, none⟩ = some (.slice Aa ma ca) ∧ w_.cell? ⟨(w.heap.size + 1), 0, none⟩ = some (.bool bb) ∧ w_.cell? ⟨(w.heap.size + 1), 1, none⟩ = some (.slice Ab mb cb) ∧ w_.cell? ⟨g18_0, 0, none⟩ = some (.int .i64 p12) ∧ w_.cell? ⟨g18_0, 1, none⟩ = some (.slice A12 m12 c12) ∧ w_.cell? ⟨g18_1, 0, none⟩ = some (.int .i64 p16) ∧ w_.cell? ⟨g18_1, 1, none⟩ = some (.slice A16 m16 c16) ∧ w_.cell? ⟨w28.heap.size, 0, none⟩ = some (.int .i64 p12) ∧ w_.cell? ⟨w28.heap.size, 1, none⟩ = some (.slice A12 m12 c12))) (v := ?_) (oi := { dst := some 41, op := Go.Op.load 25 (Go.Operand.tmp 3), type := 25, pos := "law.go:37", after := #[{ on := 7, ground := Go.Ground.guard }], guard := some (7, true) }) hst50 hS64 9 rfl (by kernel_rfl) (fun _ _ _ h => h) (Or.inl ⟨by rfl, ?_⟩) ?_
      rotate_left
      · intro w_ hSw; (try dsimp only at hSw); go_simp; (first | done | with_reducible rfl)
      try simp only [Act.put, fZ, fI, List.setIfInBounds_toArray, List.set_cons_zero, List.set_cons_succ]
      refine wpFl_take (S := (fun w_ => w_.cell? ⟨w.heap.size, 0, none⟩ = some (.bool ba) ∧ w_.cell? ⟨w.heap.size, 1, none⟩ = some (.slice Aa ma ca) ∧ w_.cell? ⟨(w.heap.size + 1), 0, none⟩ = some (.bool bb) ∧ w_.cell? ⟨(w.heap.size + 1), 1, none⟩ = some (.slice Ab mb cb) ∧ w_.cell? ⟨g18_0, 0, none⟩ = some (.int .i64 p12) ∧ w_.cell? ⟨g18_0, 1, none⟩ = some (.slice A12 m12 c12) ∧ w_.cell? ⟨g18_1, 0, none⟩ = some (.int .i64 p16) ∧ w_.cell? ⟨g18_1, 1, none⟩ = some (.slice A16 m16 c16) ∧ w_.cell? ⟨w28.heap.size, 0, none⟩ = some (.int .i64 p12) ∧ w_.cell? ⟨w28.heap.size, 1, none⟩ = some (.slice A12 m12 c12))) (v := ?_) (oi := { dst := some 43, op := Go.Op.load 30 (Go.Operand.tmp 5), type := 30, pos := "law.go:37", after := #[{ on := 7, ground := Go.Ground.guard }], guard := some (7, true) }) hst50 hS64 11 rfl (by kernel_rfl) (fun _ _ _ h => h) (Or.inl ⟨by rfl, ?_⟩) ?_
      rotate_left
      · intro w_ hSw; (try dsimp only at hSw); go_simp; (first | done | with_reducible rfl)
      try simp only [Act.put, fZ, fI, List.setIfInBounds_toArray, List.set_cons_zero, List.set_cons_succ]
      refine wpFl_take (S := (fun w_ => w_.cell? ⟨w.heap.size, 0, none⟩ = some (.bool ba) ∧ w_.cell? ⟨w.heap.size, 1, none⟩ = some (.slice Aa ma ca) ∧ w_.cell? ⟨(w.heap.size + 1), 0, none⟩ = some (.bool bb) ∧ w_.cell? ⟨(w.heap.size + 1), 1, none⟩ = some (.slice Ab mb cb) ∧ w_.cell? ⟨g18_0, 0, none⟩ = some (.int .i64 p12) ∧ w_.cell? ⟨g18_0, 1, none⟩ = some (.slice A12 m12 c12) ∧ w_.cell? ⟨g18_1, 0, none⟩ = some (.int .i64 p16) ∧ w_.cell? ⟨g18_1, 1, none⟩ = some (.slice A16 m16 c16) ∧ w_.cell? ⟨w28.heap.size, 0, none⟩ = some (.int .i64 p12) ∧ w_.cell? ⟨w28.heap.size, 1, none⟩ = some (.slice A12 m12 c12))) (v := ?_) (oi := { dst := some 44, op := Go.Op.load 30 (Go.Operand.tmp 6), type := 30, pos := "law.go:37", after := #[{ on := 7, ground := Go.Ground.guard }], guard := some (7, true) }) hst50 hS64 12 rfl (by kernel_rfl) (fun _ _ _ h => h) (Or.inl ⟨by rfl, ?_⟩) ?_
      rotate_left
      · intro w_ hSw; (try dsimp only at hSw); go_simp; (first | done | with_reducible rfl)
      try simp only [Act.put, fZ, fI, List.setIfInBounds_toArray, List.set_cons_zero, List.set_cons_succ]
      refine wpFl_call 10 (o := { dst := some 42, op := Go.Op.call { callee := Go.Callee.value (Go.Operand.func 31), args := #[Go.Operand.tmp 40, Go.Operand.tmp 41], argTypes := #[25, 25] }, type := 25, pos := "law.go:37", after := #[{ on := 8, ground := Go.Ground.data }, { on := 9, ground := Go.Ground.data }, { on := 7, ground := Go.Ground.chain }, { on := 7, ground := Go.Ground.guard }], guard := some (7, true) }) rfl (by kernel_rfl) (fun w65 hg65 K hK => ?_)
      have hS66 := hst50 _ _ hg65 hS64
      clear hS64
      go_simp
      refine (sub_as (((((((((((((((qa.alloc (.cells #[.bool ba, .slice Aa ma ca] 25)).alloc (.cells #[.bool bb, .slice Ab mb cb] 25)).below hb1).below hb4).below hW31).alloc (.cells #[.int .i64 p12, .slice A12 m12 c12] 30)).below hb44).below hg51).below hg53).below hb55).below hg57).below hb59).below hg61).below hb63).below hg65) (((((((((((((((qb.alloc (.cells #[.bool ba, .slice Aa ma ca] 25)).alloc (.cells #[.bool bb, .slice Ab mb cb] 25)).below hb1).below hb4).below hW31).alloc (.cells #[.int .i64 p12, .slice A12 m12 c12] 30)).below hb44).below hg51).below hg53).below hb55).below hg57).below hb59).below hg61).below hb63).below hg65) (by decide) (by decide) He2).mono ?_
      rintro e w67 ⟨b67, A67, m67, c67, rfl, q67, hb67⟩
      refine hK.out _ _ hb67 ?_
      clear hK K
      try simp only [Act.put, fZ, fI, List.setIfInBounds_toArray, List.set_cons_zero, List.set_cons_succ]
      have hS68 := hst50 _ _ hb67 hS66
      clear hS66
      refine wpFl_call 13 (o := { dst := some 45, op := Go.Op.call { callee := Go.Callee.value (Go.Operand.func 32), args := #[Go.Operand.tmp 44], argTypes := #[30] }, type := 30, pos := "law.go:37", after := #[{ on := 12, ground := Go.Ground.data }, { on := 10, ground := Go.Ground.chain }, { on := 7, ground := Go.Ground.guard }], guard := some (7, true) }) rfl (by kernel_rfl) (fun w69 hg69 K hK => ?_)
      have hS70 := hst50 _ _ hg69 hS68
      clear hS68
      go_simp
      refine (rneg_as ((((((((((((q16.alloc (.cells #[.int .i64 p12, .slice A12 m12 c12] 30)).below hb44).below hg51).below hg53).below hb55).below hg57).below hb59).below hg61).below hb63).below hg65).below hb67).below hg69) He5).mono ?_
      rintro e w71 ⟨p71, A71, m71, c71, rfl, q71, hb71⟩
      refine hK.out _ _ hb71 ?_
      clear hK K
      try simp only [Act.put, fZ, fI, List.setIfInBounds_toArray, List.set_cons_zero, List.set_cons_succ]
      have hS72 := hst50 _ _ hb71 hS70
      clear hS70
      refine wpFl_call 14 (o := { dst := some 46, op := Go.Op.call { callee := Go.Callee.value (Go.Operand.func 34), args := #[Go.Operand.tmp 43, Go.Operand.tmp 45], argTypes := #[30, 30] }, type := 30, pos := "law.go:37", after := #[{ on := 11, ground := Go.Ground.data }, { on := 13, ground := Go.Ground.data }, { on := 13, ground := Go.Ground.chain }, { on := 7, ground := Go.Ground.guard }], guard := some (7, true) }) rfl (by kernel_rfl) (fun w73 hg73 K hK => ?_)
      have hS74 := hst50 _ _ hg73 hS72
      clear hS72
      go_simp
      refine (radd_as ((((((((((((((q12.alloc (.cells #[.int .i64 p12, .slice A12 m12 c12] 30)).below hb44).below hg51).below hg53).below hb55).below hg57).below hb59).below hg61).below hb63).below hg65).below hb67).below hg69).below hb71).below hg73) (q71.below hg73) (by decide) (by decide) He6).mono ?_
      rintro e w75 ⟨p75, A75, m75, c75, rfl, q75, hb75⟩
      refine hK.out _ _ hb75 ?_
      clear hK K
      try simp only [Act.put, fZ, fI, List.setIfInBounds_toArray, List.set_cons_zero, List.set_cons_succ]
      have hS76 := hst50 _ _ hb75 hS74
      clear hS74
      refine wpFl_call 15 (o := { dst := some 47, op := Go.Op.call { callee := Go.Callee.value (Go.Operand.func 16), args := #[Go.Operand.tmp 42, Go.Operand.tmp 46], argTypes := #[25, 30] }, type := 4, pos := "law.go:37", after := #[{ on := 10, ground := Go.Ground.data }, { on := 14, ground := Go.Ground.data }, { on := 14, ground := Go.Ground.chain }, { on := 7, ground := Go.Ground.guard }], guard := some (7, true) }) rfl (by kernel_rfl) (fun w77 hg77 K hK => ?_)
      have hS78 := hst50 _ _ hg77 hS76
      clear hS76
      go_simp
      refine (lis_as (((((q67.below hg69).below hb71).below hg73).below hb75).below hg77) (q75.below hg77) (by decide) (by decide) (by rw [He2.out, He6.out, He5.out]; omega)).mono ?_
      rintro e w79 ⟨rfl, hb79⟩
      refine hK.out _ _ hb79 ?_
      clear hK K
      try simp only [Act.put, fZ, fI, List.setIfInBounds_toArray, List.set_cons_zero, List.set_cons_succ]
      have hS80 := hst50 _ _ hb79 hS78
      clear hS78
      refine wpFl_take (S := (fun w_ => w_.cell? ⟨w.heap.size, 0, none⟩ = some (.bool ba) ∧ w_.cell? ⟨w.heap.size, 1, none⟩ = some (.slice Aa ma ca) ∧ w_.cell? ⟨(w.heap.size + 1), 0, none⟩ = some (.bool bb) ∧ w_.cell? ⟨(w.heap.size + 1), 1, none⟩ = some (.slice Ab mb cb) ∧ w_.cell? ⟨g18_0, 0, none⟩ = some (.int .i64 p12) ∧ w_.cell? ⟨g18_0, 1, none⟩ = some (.slice A12 m12 c12) ∧ w_.cell? ⟨g18_1, 0, none⟩ = some (.int .i64 p16) ∧ w_.cell? ⟨g18_1, 1, none⟩ = some (.slice A16 m16 c16) ∧ w_.cell? ⟨w28.heap.size, 0, none⟩ = some (.int .i64 p12) ∧ w_.cell? ⟨w28.heap.size, 1, none⟩ = some (.slice A12 m12 c12))) (v := ?_) (oi := { dst := some 48, op := Go.Op.pick (Go.Operand.tmp 39) (Go.Operand.tmp 47) (Go.Operand.const (Go.Value.bool false)), type := 4, pos := "law.go:37", after := #[{ on := 7, ground := Go.Ground.data }, { on := 15, ground := Go.Ground.data }], guard := none }) hst50 hS80 16 rfl (by kernel_rfl) (fun _ _ _ h => h) (Or.inl ⟨by rfl, ?_⟩) ?_
      rotate_left
      · intro w_ hSw; (try dsimp only at hSw); go_simp; (first | done | with_reducible rfl)
      try simp only [Act.put, fZ, fI, List.setIfInBounds_toArray, List.set_cons_zero, List.set_cons_succ]
      refine wpFl_take (S := (fun w_ => w_.cell? ⟨w.heap.size, 0, none⟩ = some (.bool ba) ∧ w_.cell? ⟨w.heap.size, 1, none⟩ = some (.slice Aa ma ca) ∧ w_.cell? ⟨(w.heap.size + 1), 0, none⟩ = some (.bool bb) ∧ w_.cell? ⟨(w.heap.size + 1), 1, none⟩ = some (.slice Ab mb cb) ∧ w_.cell? ⟨g18_0, 0, none⟩ = some (.int .i64 p12) ∧ w_.cell? ⟨g18_0, 1, none⟩ = some (.slice A12 m12 c12) ∧ w_.cell? ⟨g18_1, 0, none⟩ = some (.int .i64 p16) ∧ w_.cell? ⟨g18_1, 1, none⟩ = some (.slice A16 m16 c16) ∧ w_.cell? ⟨w28.heap.size, 0, none⟩ = some (.int .i64 p12) ∧ w_.cell? ⟨w28.heap.size, 1, none⟩ = some (.slice A12 m12 c12))) (v := ?_) (oi := { dst := some 49, op := Go.Op.move (Go.Operand.tmp 48), type := 4, pos := "law.go:37", after := #[{ on := 16, ground := Go.Ground.data }, { on := 15, ground := Go.Ground.chain }], guard := none }) hst50 hS80 17 rfl (by kernel_rfl) (fun _ _ _ h => h) (Or.inl ⟨by rfl, ?_⟩) ?_
      rotate_left
      · intro w_ hSw; (try dsimp only at hSw); go_simp; (first | done | with_reducible rfl)
      try simp only [Act.put, fZ, fI, List.setIfInBounds_toArray, List.set_cons_zero, List.set_cons_succ]
      refine wpFl_take (S := (fun w_ => w_.cell? ⟨w.heap.size, 0, none⟩ = some (.bool ba) ∧ w_.cell? ⟨w.heap.size, 1, none⟩ = some (.slice Aa ma ca) ∧ w_.cell? ⟨(w.heap.size + 1), 0, none⟩ = some (.bool bb) ∧ w_.cell? ⟨(w.heap.size + 1), 1, none⟩ = some (.slice Ab mb cb) ∧ w_.cell? ⟨g18_0, 0, none⟩ = some (.int .i64 p12) ∧ w_.cell? ⟨g18_0, 1, none⟩ = some (.slice A12 m12 c12) ∧ w_.cell? ⟨g18_1, 0, none⟩ = some (.int .i64 p16) ∧ w_.cell? ⟨g18_1, 1, none⟩ = some (.slice A16 m16 c16) ∧ w_.cell? ⟨w28.heap.size, 0, none⟩ = some (.int .i64 p12) ∧ w_.cell? ⟨w28.heap.size, 1, none⟩ = some (.slice A12 m12 c12))) (v := ?_) (oi := { dst := some 50, op := Go.Op.load 25 (Go.Operand.tmp 2), type := 25, pos := "law.go:37", after := #[{ on := 17, ground := Go.Ground.guard }], guard := some (17, true) }) hst50 hS80 18 rfl (by kernel_rfl) (fun _ _ _ h => h) (Or.inl ⟨by rfl, ?_⟩) ?_
      rotate_left
      · intro w_ hSw; (try dsimp only at hSw); go_simp; (first | done | with_reducible rfl)
      try simp only [Act.put, fZ, fI, List.setIfInBounds_toArray, List.set_cons_zero, List.set_cons_succ]
      refine wpFl_take (S := (fun w_ => w_.cell? ⟨w.heap.size, 0, none⟩ = some (.bool ba) ∧ w_.cell? ⟨w.heap.size, 1, none⟩ = some (.slice Aa ma ca) ∧ w_.cell? ⟨(w.heap.size + 1), 0, none⟩ = some (.bool bb) ∧ w_.cell? ⟨(w.heap.size + 1), 1, none⟩ = some (.slice Ab mb cb) ∧ w_.cell? ⟨g18_0, 0, none⟩ = some (.int .i64 p12) ∧ w_.cell? ⟨g18_0, 1, none⟩ = some (.slice A12 m12 c12) ∧ w_.cell? ⟨g18_1, 0, none⟩ = some (.int .i64 p16) ∧ w_.cell? ⟨g18_1, 1, none⟩ = some (.slice A16 m16 c16) ∧ w_.cell? ⟨w28.heap.size, 0, none⟩ = some (.int .i64 p12) ∧ w_.cell? ⟨w28.heap.size, 1, none⟩ = some (.slice A12 m12 c12))) (v := ?_) (oi := { dst := some 52, op := Go.Op.load 30 (Go.Operand.tmp 5), type := 30, pos := "law.go:37", after := #[{ on := 17, ground := Go.Ground.guard }], guard := some (17, true) }) hst50 hS80 20 rfl (by kernel_rfl) (fun _ _ _ h => h) (Or.inl ⟨by rfl, ?_⟩) ?_
      rotate_left
      · intro w_ hSw; (try dsimp only at hSw); go_simp; (first | done | with_reducible rfl)
      try simp only [Act.put, fZ, fI, List.setIfInBounds_toArray, List.set_cons_zero, List.set_cons_succ]
      refine wpFl_call 19 (o := { dst := some 51, op := Go.Op.call { callee := Go.Callee.value (Go.Operand.func 35), args := #[Go.Operand.tmp 50], argTypes := #[25] }, type := 25, pos := "law.go:37", after := #[{ on := 18, ground := Go.Ground.data }, { on := 17, ground := Go.Ground.chain }, { on := 17, ground := Go.Ground.guard }], guard := some (17, true) }) rfl (by kernel_rfl) (fun w81 hg81 K hK => ?_)
      have hS82 := hst50 _ _ hg81 hS80
      clear hS80
      go_simp
      refine (neg_as (((((((((((((((((((((((qa.alloc (.cells #[.bool ba, .slice Aa ma ca] 25)).alloc (.cells #[.bool bb, .slice Ab mb cb] 25)).below hb1).below hb4).below hW31).alloc (.cells #[.int .i64 p12, .slice A12 m12 c12] 30)).below hb44).below hg51).below hg53).below hb55).below hg57).below hb59).below hg61).below hb63).below hg65).below hb67).below hg69).below hb71).below hg73).below hb75).below hg77).below hb79).below hg81) (by decide) He3).mono ?_
      rintro e w83 ⟨b83, A83, m83, c83, rfl, q83, hb83⟩
      refine hK.out _ _ hb83 ?_
      clear hK K
      try simp only [Act.put, fZ, fI, List.setIfInBounds_toArray, List.set_cons_zero, List.set_cons_succ]
      have hS84 := hst50 _ _ hb83 hS82
      clear hS82
      refine wpFl_call 21 (o := { dst := some 53, op := Go.Op.call { callee := Go.Callee.value (Go.Operand.func 32), args := #[Go.Operand.tmp 52], argTypes := #[30] }, type := 30, pos := "law.go:37", after := #[{ on := 20, ground := Go.Ground.data }, { on := 19, ground := Go.Ground.chain }, { on := 17, ground := Go.Ground.guard }], guard := some (17, true) }) rfl (by kernel_rfl) (fun w85 hg85 K hK => ?_)
      have hS86 := hst50 _ _ hg85 hS84
      clear hS84
      go_simp
      refine (rneg_as ((((((((((((((((((((q12.alloc (.cells #[.int .i64 p12, .slice A12 m12 c12] 30)).below hb44).below hg51).below hg53).below hb55).below hg57).below hb59).below hg61).below hb63).below hg65).below hb67).below hg69).below hb71).below hg73).below hb75).below hg77).below hb79).below hg81).below hb83).below hg85) He3).mono ?_
      rintro e w87 ⟨p87, A87, m87, c87, rfl, q87, hb87⟩
      refine hK.out _ _ hb87 ?_
      clear hK K
      try simp only [Act.put, fZ, fI, List.setIfInBounds_toArray, List.set_cons_zero, List.set_cons_succ]
      have hS88 := hst50 _ _ hb87 hS86
      clear hS86
      refine wpFl_call 22 (o := { dst := some 54, op := Go.Op.call { callee := Go.Callee.value (Go.Operand.func 16), args := #[Go.Operand.tmp 51, Go.Operand.tmp 53], argTypes := #[25, 30] }, type := 4, pos := "law.go:37", after := #[{ on := 19, ground := Go.Ground.data }, { on := 21, ground := Go.Ground.data }, { on := 21, ground := Go.Ground.chain }, { on := 17, ground := Go.Ground.guard }], guard := some (17, true) }) rfl (by kernel_rfl) (fun w89 hg89 K hK => ?_)
      have hS90 := hst50 _ _ hg89 hS88
      clear hS88
      go_simp
      refine (lis_as (((q83.below hg85).below hb87).below hg89) (q87.below hg89) (by decide) (by decide) rfl).mono ?_
      rintro e w91 ⟨rfl, hb91⟩
      refine hK.out _ _ hb91 ?_
      clear hK K
      try simp only [Act.put, fZ, fI, List.setIfInBounds_toArray, List.set_cons_zero, List.set_cons_succ]
      have hS92 := hst50 _ _ hb91 hS90
      clear hS90
      refine wpFl_take (S := (fun w_ => w_.cell? ⟨w.heap.size, 0, none⟩ = some (.bool ba) ∧ w_.cell? ⟨w.heap.size, 1, none⟩ = some (.slice Aa ma ca) ∧ w_.cell? ⟨(w.heap.size + 1), 0, none⟩ = some (.bool bb) ∧ w_.cell? ⟨(w.heap.size + 1), 1, none⟩ = some (.slice Ab mb cb) ∧ w_.cell? ⟨g18_0, 0, none⟩ = some (.int .i64 p12) ∧ w_.cell? ⟨g18_0, 1, none⟩ = some (.slice A12 m12 c12) ∧ w_.cell? ⟨g18_1, 0, none⟩ = some (.int .i64 p16) ∧ w_.cell? ⟨g18_1, 1, none⟩ = some (.slice A16 m16 c16) ∧ w_.cell? ⟨w28.heap.size, 0, none⟩ = some (.int .i64 p12) ∧ w_.cell? ⟨w28.heap.size, 1, none⟩ = some (.slice A12 m12 c12))) (v := ?_) (oi := { dst := some 55, op := Go.Op.pick (Go.Operand.tmp 49) (Go.Operand.tmp 54) (Go.Operand.const (Go.Value.bool false)), type := 4, pos := "law.go:37", after := #[{ on := 17, ground := Go.Ground.data }, { on := 22, ground := Go.Ground.data }], guard := none }) hst50 hS92 23 rfl (by kernel_rfl) (fun _ _ _ h => h) (Or.inl ⟨by rfl, ?_⟩) ?_
      rotate_left
      · intro w_ hSw; (try dsimp only at hSw); go_simp; (first | done | with_reducible rfl)
      try simp only [Act.put, fZ, fI, List.setIfInBounds_toArray, List.set_cons_zero, List.set_cons_succ]
      refine wpFl_take (S := (fun w_ => w_.cell? ⟨w.heap.size, 0, none⟩ = some (.bool ba) ∧ w_.cell? ⟨w.heap.size, 1, none⟩ = some (.slice Aa ma ca) ∧ w_.cell? ⟨(w.heap.size + 1), 0, none⟩ = some (.bool bb) ∧ w_.cell? ⟨(w.heap.size + 1), 1, none⟩ = some (.slice Ab mb cb) ∧ w_.cell? ⟨g18_0, 0, none⟩ = some (.int .i64 p12) ∧ w_.cell? ⟨g18_0, 1, none⟩ = some (.slice A12 m12 c12) ∧ w_.cell? ⟨g18_1, 0, none⟩ = some (.int .i64 p16) ∧ w_.cell? ⟨g18_1, 1, none⟩ = some (.slice A16 m16 c16) ∧ w_.cell? ⟨w28.heap.size, 0, none⟩ = some (.int .i64 p12) ∧ w_.cell? ⟨w28.heap.size, 1, none⟩ = some (.slice A12 m12 c12))) (v := ?_) (oi := { dst := some 56, op := Go.Op.move (Go.Operand.tmp 55), type := 4, pos := "law.go:37", after := #[{ on := 23, ground := Go.Ground.data }, { on := 22, ground := Go.Ground.chain }], guard := none }) hst50 hS92 24 rfl (by kernel_rfl) (fun _ _ _ h => h) (Or.inl ⟨by rfl, ?_⟩) ?_
      rotate_left
      · intro w_ hSw; (try dsimp only at hSw); go_simp; (first | done | with_reducible rfl)
      try simp only [Act.put, fZ, fI, List.setIfInBounds_toArray, List.set_cons_zero, List.set_cons_succ]
      refine wpFl_take (S := (fun w_ => w_.cell? ⟨w.heap.size, 0, none⟩ = some (.bool ba) ∧ w_.cell? ⟨w.heap.size, 1, none⟩ = some (.slice Aa ma ca) ∧ w_.cell? ⟨(w.heap.size + 1), 0, none⟩ = some (.bool bb) ∧ w_.cell? ⟨(w.heap.size + 1), 1, none⟩ = some (.slice Ab mb cb) ∧ w_.cell? ⟨g18_0, 0, none⟩ = some (.int .i64 p12) ∧ w_.cell? ⟨g18_0, 1, none⟩ = some (.slice A12 m12 c12) ∧ w_.cell? ⟨g18_1, 0, none⟩ = some (.int .i64 p16) ∧ w_.cell? ⟨g18_1, 1, none⟩ = some (.slice A16 m16 c16) ∧ w_.cell? ⟨w28.heap.size, 0, none⟩ = some (.int .i64 p12) ∧ w_.cell? ⟨w28.heap.size, 1, none⟩ = some (.slice A12 m12 c12))) (v := ?_) (oi := { dst := some 57, op := Go.Op.load 25 (Go.Operand.tmp 2), type := 25, pos := "law.go:37", after := #[{ on := 24, ground := Go.Ground.guard }], guard := some (24, true) }) hst50 hS92 25 rfl (by kernel_rfl) (fun _ _ _ h => h) (Or.inl ⟨by rfl, ?_⟩) ?_
      rotate_left
      · intro w_ hSw; (try dsimp only at hSw); go_simp; (first | done | with_reducible rfl)
      try simp only [Act.put, fZ, fI, List.setIfInBounds_toArray, List.set_cons_zero, List.set_cons_succ]
      refine wpFl_take (S := (fun w_ => w_.cell? ⟨w.heap.size, 0, none⟩ = some (.bool ba) ∧ w_.cell? ⟨w.heap.size, 1, none⟩ = some (.slice Aa ma ca) ∧ w_.cell? ⟨(w.heap.size + 1), 0, none⟩ = some (.bool bb) ∧ w_.cell? ⟨(w.heap.size + 1), 1, none⟩ = some (.slice Ab mb cb) ∧ w_.cell? ⟨g18_0, 0, none⟩ = some (.int .i64 p12) ∧ w_.cell? ⟨g18_0, 1, none⟩ = some (.slice A12 m12 c12) ∧ w_.cell? ⟨g18_1, 0, none⟩ = some (.int .i64 p16) ∧ w_.cell? ⟨g18_1, 1, none⟩ = some (.slice A16 m16 c16) ∧ w_.cell? ⟨w28.heap.size, 0, none⟩ = some (.int .i64 p12) ∧ w_.cell? ⟨w28.heap.size, 1, none⟩ = some (.slice A12 m12 c12))) (v := ?_) (oi := { dst := some 59, op := Go.Op.load 30 (Go.Operand.tmp 7), type := 30, pos := "law.go:37", after := #[{ on := 24, ground := Go.Ground.guard }], guard := some (24, true) }) hst50 hS92 27 rfl (by kernel_rfl) (fun _ _ _ h => h) (Or.inl ⟨by rfl, ?_⟩) ?_
      rotate_left
      · intro w_ hSw; (try dsimp only at hSw); go_simp; (first | done | with_reducible rfl)
      try simp only [Act.put, fZ, fI, List.setIfInBounds_toArray, List.set_cons_zero, List.set_cons_succ]
      refine wpFl_call 26 (o := { dst := some 58, op := Go.Op.call { callee := Go.Callee.value (Go.Operand.func 36), args := #[Go.Operand.tmp 57], argTypes := #[25] }, type := 25, pos := "law.go:37", after := #[{ on := 25, ground := Go.Ground.data }, { on := 24, ground := Go.Ground.chain }, { on := 24, ground := Go.Ground.guard }], guard := some (24, true) }) rfl (by kernel_rfl) (fun w93 hg93 K hK => ?_)
      have hS94 := hst50 _ _ hg93 hS92
      clear hS92
      go_simp
      refine (abs_as (((((((((((((((((((((((((((((qa.alloc (.cells #[.bool ba, .slice Aa ma ca] 25)).alloc (.cells #[.bool bb, .slice Ab mb cb] 25)).below hb1).below hb4).below hW31).alloc (.cells #[.int .i64 p12, .slice A12 m12 c12] 30)).below hb44).below hg51).below hg53).below hb55).below hg57).below hb59).below hg61).below hb63).below hg65).below hb67).below hg69).below hb71).below hg73).below hb75).below hg77).below hb79).below hg81).below hb83).below hg85).below hb87).below hg89).below hb91).below hg93) (by decide) He4).mono ?_
      rintro e w95 ⟨b95, A95, m95, c95, rfl, q95, hb95⟩
      refine hK.out _ _ hb95 ?_
      clear hK K
      try simp only [Act.put, fZ, fI, List.setIfInBounds_toArray, List.set_cons_zero, List.set_cons_succ]
      have hS96 := hst50 _ _ hb95 hS94
      clear hS94
      refine wpFl_call 28 (o := { dst := some 60, op := Go.Op.call { callee := Go.Callee.value (Go.Operand.func 16), args := #[Go.Operand.tmp 58, Go.Operand.tmp 59], argTypes := #[25, 30] }, type := 4, pos := "law.go:37", after := #[{ on := 26, ground := Go.Ground.data }, { on := 27, ground := Go.Ground.data }, { on := 26, ground := Go.Ground.chain }, { on := 24, ground := Go.Ground.guard }], guard := some (24, true) }) rfl (by kernel_rfl) (fun w97 hg97 K hK => ?_)
      have hS98 := hst50 _ _ hg97 hS96
      clear hS96
      go_simp
      refine (lis_as (q95.below hg97) ((((((((((((((((((((((((((q12.alloc (.cells #[.int .i64 p12, .slice A12 m12 c12] 30)).below hb44).below hg51).below hg53).below hb55).below hg57).below hb59).below hg61).below hb63).below hg65).below hb67).below hg69).below hb71).below hg73).below hb75).below hg77).below hb79).below hg81).below hb83).below hg85).below hb87).below hg89).below hb91).below hg93).below hb95).below hg97) (by decide) (by decide) (by have := HN.out; rw [He4.out]; omega)).mono ?_
      rintro e w99 ⟨rfl, hb99⟩
      refine hK.out _ _ hb99 ?_
      clear hK K
      try simp only [Act.put, fZ, fI, List.setIfInBounds_toArray, List.set_cons_zero, List.set_cons_succ]
      have hS100 := hst50 _ _ hb99 hS98
      clear hS98
      refine wpFl_take (S := (fun w_ => w_.cell? ⟨w.heap.size, 0, none⟩ = some (.bool ba) ∧ w_.cell? ⟨w.heap.size, 1, none⟩ = some (.slice Aa ma ca) ∧ w_.cell? ⟨(w.heap.size + 1), 0, none⟩ = some (.bool bb) ∧ w_.cell? ⟨(w.heap.size + 1), 1, none⟩ = some (.slice Ab mb cb) ∧ w_.cell? ⟨g18_0, 0, none⟩ = some (.int .i64 p12) ∧ w_.cell? ⟨g18_0, 1, none⟩ = some (.slice A12 m12 c12) ∧ w_.cell? ⟨g18_1, 0, none⟩ = some (.int .i64 p16) ∧ w_.cell? ⟨g18_1, 1, none⟩ = some (.slice A16 m16 c16) ∧ w_.cell? ⟨w28.heap.size, 0, none⟩ = some (.int .i64 p12) ∧ w_.cell? ⟨w28.heap.size, 1, none⟩ = some (.slice A12 m12 c12))) (v := ?_) (oi := { dst := some 61, op := Go.Op.pick (Go.Operand.tmp 56) (Go.Operand.tmp 60) (Go.Operand.const (Go.Value.bool false)), type := 4, pos := "law.go:37", after := #[{ on := 24, ground := Go.Ground.data }, { on := 28, ground := Go.Ground.data }], guard := none }) hst50 hS100 29 rfl (by kernel_rfl) (fun _ _ _ h => h) (Or.inl ⟨by rfl, ?_⟩) ?_
      rotate_left
      · intro w_ hSw; (try dsimp only at hSw); go_simp; (first | done | with_reducible rfl)
      try simp only [Act.put, fZ, fI, List.setIfInBounds_toArray, List.set_cons_zero, List.set_cons_succ]
      refine wpFl_take (S := (fun w_ => w_.cell? ⟨w.heap.size, 0, none⟩ = some (.bool ba) ∧ w_.cell? ⟨w.heap.size, 1, none⟩ = some (.slice Aa ma ca) ∧ w_.cell? ⟨(w.heap.size + 1), 0, none⟩ = some (.bool bb) ∧ w_.cell? ⟨(w.heap.size + 1), 1, none⟩ = some (.slice Ab mb cb) ∧ w_.cell? ⟨g18_0, 0, none⟩ = some (.int .i64 p12) ∧ w_.cell? ⟨g18_0, 1, none⟩ = some (.slice A12 m12 c12) ∧ w_.cell? ⟨g18_1, 0, none⟩ = some (.int .i64 p16) ∧ w_.cell? ⟨g18_1, 1, none⟩ = some (.slice A16 m16 c16) ∧ w_.cell? ⟨w28.heap.size, 0, none⟩ = some (.int .i64 p12) ∧ w_.cell? ⟨w28.heap.size, 1, none⟩ = some (.slice A12 m12 c12))) (v := ?_) (oi := { dst := some 62, op := Go.Op.move (Go.Operand.tmp 61), type := 4, pos := "law.go:37", after := #[{ on := 29, ground := Go.Ground.data }, { on := 28, ground := Go.Ground.chain }], guard := none }) hst50 hS100 30 rfl (by kernel_rfl) (fun _ _ _ h => h) (Or.inl ⟨by rfl, ?_⟩) ?_
      rotate_left
      · intro w_ hSw; (try dsimp only at hSw); go_simp; (first | done | with_reducible rfl)
      try simp only [Act.put, fZ, fI, List.setIfInBounds_toArray, List.set_cons_zero, List.set_cons_succ]
      refine wpFl_take (S := (fun w_ => w_.cell? ⟨w.heap.size, 0, none⟩ = some (.bool ba) ∧ w_.cell? ⟨w.heap.size, 1, none⟩ = some (.slice Aa ma ca) ∧ w_.cell? ⟨(w.heap.size + 1), 0, none⟩ = some (.bool bb) ∧ w_.cell? ⟨(w.heap.size + 1), 1, none⟩ = some (.slice Ab mb cb) ∧ w_.cell? ⟨g18_0, 0, none⟩ = some (.int .i64 p12) ∧ w_.cell? ⟨g18_0, 1, none⟩ = some (.slice A12 m12 c12) ∧ w_.cell? ⟨g18_1, 0, none⟩ = some (.int .i64 p16) ∧ w_.cell? ⟨g18_1, 1, none⟩ = some (.slice A16 m16 c16) ∧ w_.cell? ⟨w28.heap.size, 0, none⟩ = some (.int .i64 p12) ∧ w_.cell? ⟨w28.heap.size, 1, none⟩ = some (.slice A12 m12 c12))) (v := ?_) (oi := { dst := some 63, op := Go.Op.load 25 (Go.Operand.tmp 2), type := 25, pos := "law.go:37", after := #[{ on := 30, ground := Go.Ground.guard }], guard := some (30, true) }) hst50 hS100 31 rfl (by kernel_rfl) (fun _ _ _ h => h) (Or.inl ⟨by rfl, ?_⟩) ?_
      rotate_left
      · intro w_ hSw; (try dsimp only at hSw); go_simp; (first | done | with_reducible rfl)
      try simp only [Act.put, fZ, fI, List.setIfInBounds_toArray, List.set_cons_zero, List.set_cons_succ]
      refine wpFl_take (S := (fun w_ => w_.cell? ⟨w.heap.size, 0, none⟩ = some (.bool ba) ∧ w_.cell? ⟨w.heap.size, 1, none⟩ = some (.slice Aa ma ca) ∧ w_.cell? ⟨(w.heap.size + 1), 0, none⟩ = some (.bool bb) ∧ w_.cell? ⟨(w.heap.size + 1), 1, none⟩ = some (.slice Ab mb cb) ∧ w_.cell? ⟨g18_0, 0, none⟩ = some (.int .i64 p12) ∧ w_.cell? ⟨g18_0, 1, none⟩ = some (.slice A12 m12 c12) ∧ w_.cell? ⟨g18_1, 0, none⟩ = some (.int .i64 p16) ∧ w_.cell? ⟨g18_1, 1, none⟩ = some (.slice A16 m16 c16) ∧ w_.cell? ⟨w28.heap.size, 0, none⟩ = some (.int .i64 p12) ∧ w_.cell? ⟨w28.heap.size, 1, none⟩ = some (.slice A12 m12 c12))) (v := ?_) (oi := { dst := some 65, op := Go.Op.fieldAddr 30 (Go.Operand.tmp 5) 0, type := 0, pos := "law.go:37", after := #[{ on := 30, ground := Go.Ground.guard }], guard := some (30, true) }) hst50 hS100 33 rfl (by kernel_rfl) (fun _ _ _ h => h) (Or.inl ⟨by rfl, ?_⟩) ?_
      rotate_left
      · intro w_ hSw; (try dsimp only at hSw); go_simp; (first | done | with_reducible rfl)
      try simp only [Act.put, fZ, fI, List.setIfInBounds_toArray, List.set_cons_zero, List.set_cons_succ]
      refine wpFl_take (S := (fun w_ => w_.cell? ⟨w.heap.size, 0, none⟩ = some (.bool ba) ∧ w_.cell? ⟨w.heap.size, 1, none⟩ = some (.slice Aa ma ca) ∧ w_.cell? ⟨(w.heap.size + 1), 0, none⟩ = some (.bool bb) ∧ w_.cell? ⟨(w.heap.size + 1), 1, none⟩ = some (.slice Ab mb cb) ∧ w_.cell? ⟨g18_0, 0, none⟩ = some (.int .i64 p12) ∧ w_.cell? ⟨g18_0, 1, none⟩ = some (.slice A12 m12 c12) ∧ w_.cell? ⟨g18_1, 0, none⟩ = some (.int .i64 p16) ∧ w_.cell? ⟨g18_1, 1, none⟩ = some (.slice A16 m16 c16) ∧ w_.cell? ⟨w28.heap.size, 0, none⟩ = some (.int .i64 p12) ∧ w_.cell? ⟨w28.heap.size, 1, none⟩ = some (.slice A12 m12 c12))) (v := ?_) (oi := { dst := some 66, op := Go.Op.load 3 (Go.Operand.tmp 65), type := 3, pos := "law.go:37", after := #[{ on := 33, ground := Go.Ground.data }, { on := 30, ground := Go.Ground.guard }], guard := some (30, true) }) hst50 hS100 34 rfl (by kernel_rfl) (fun _ _ _ h => h) (Or.inl ⟨by rfl, ?_⟩) ?_
      rotate_left
      · intro w_ hSw; (try dsimp only at hSw); go_simp; (first | done | with_reducible rfl)
      try simp only [Act.put, fZ, fI, List.setIfInBounds_toArray, List.set_cons_zero, List.set_cons_succ]
      refine wpFl_call 32 (o := { dst := some 64, op := Go.Op.call { callee := Go.Callee.value (Go.Operand.func 30), args := #[Go.Operand.tmp 63], argTypes := #[25] }, type := 3, pos := "law.go:37", after := #[{ on := 31, ground := Go.Ground.data }, { on := 30, ground := Go.Ground.chain }, { on := 30, ground := Go.Ground.guard }], guard := some (30, true) }) rfl (by kernel_rfl) (fun w101 hg101 K hK => ?_)
      have hS102 := hst50 _ _ hg101 hS100
      clear hS100
      go_simp
      refine (sgn_as (((((((((((((((((((((((((((((((((qa.alloc (.cells #[.bool ba, .slice Aa ma ca] 25)).alloc (.cells #[.bool bb, .slice Ab mb cb] 25)).below hb1).below hb4).below hW31).alloc (.cells #[.int .i64 p12, .slice A12 m12 c12] 30)).below hb44).below hg51).below hg53).below hb55).below hg57).below hb59).below hg61).below hb63).below hg65).below hb67).below hg69).below hb71).below hg73).below hb75).below hg77).below hb79).below hg81).below hb83).below hg85).below hb87).below hg89).below hb91).below hg93).below hb95).below hg97).below hb99).below hg101) HSG).mono ?_
      rintro e w103 ⟨rfl, hb103⟩
      refine hK.out _ _ hb103 ?_
      clear hK K
      try simp only [Act.put, fZ, fI, List.setIfInBounds_toArray, List.set_cons_zero, List.set_cons_succ]
      have hS104 := hst50 _ _ hb103 hS102
      clear hS102
      refine wpFl_take (S := (fun w_ => w_.cell? ⟨w.heap.size, 0, none⟩ = some (.bool ba) ∧ w_.cell? ⟨w.heap.size, 1, none⟩ = some (.slice Aa ma ca) ∧ w_.cell? ⟨(w.heap.size + 1), 0, none⟩ = some (.bool bb) ∧ w_.cell? ⟨(w.heap.size + 1), 1, none⟩ = some (.slice Ab mb cb) ∧ w_.cell? ⟨g18_0, 0, none⟩ = some (.int .i64 p12) ∧ w_.cell? ⟨g18_0, 1, none⟩ = some (.slice A12 m12 c12) ∧ w_.cell? ⟨g18_1, 0, none⟩ = some (.int .i64 p16) ∧ w_.cell? ⟨g18_1, 1, none⟩ = some (.slice A16 m16 c16) ∧ w_.cell? ⟨w28.heap.size, 0, none⟩ = some (.int .i64 p12) ∧ w_.cell? ⟨w28.heap.size, 1, none⟩ = some (.slice A12 m12 c12))) (v := ?_) (oi := { dst := some 67, op := Go.Op.binOp Go.BinOp.eql 3 (Go.Operand.tmp 64) (Go.Operand.tmp 66) 3, type := 4, pos := "law.go:37", after := #[{ on := 32, ground := Go.Ground.data }, { on := 34, ground := Go.Ground.data }, { on := 30, ground := Go.Ground.guard }], guard := some (30, true) }) hst50 hS104 35 rfl (by kernel_rfl) (fun _ _ _ h => h) (Or.inl ⟨by rfl, ?_⟩) ?_
      rotate_left
      · intro w_ hSw; (try dsimp only at hSw); go_simp; (first | done | with_reducible rfl)
      try simp only [Act.put, fZ, fI, List.setIfInBounds_toArray, List.set_cons_zero, List.set_cons_succ]
      refine wpFl_take (S := (fun w_ => w_.cell? ⟨w.heap.size, 0, none⟩ = some (.bool ba) ∧ w_.cell? ⟨w.heap.size, 1, none⟩ = some (.slice Aa ma ca) ∧ w_.cell? ⟨(w.heap.size + 1), 0, none⟩ = some (.bool bb) ∧ w_.cell? ⟨(w.heap.size + 1), 1, none⟩ = some (.slice Ab mb cb) ∧ w_.cell? ⟨g18_0, 0, none⟩ = some (.int .i64 p12) ∧ w_.cell? ⟨g18_0, 1, none⟩ = some (.slice A12 m12 c12) ∧ w_.cell? ⟨g18_1, 0, none⟩ = some (.int .i64 p16) ∧ w_.cell? ⟨g18_1, 1, none⟩ = some (.slice A16 m16 c16) ∧ w_.cell? ⟨w28.heap.size, 0, none⟩ = some (.int .i64 p12) ∧ w_.cell? ⟨w28.heap.size, 1, none⟩ = some (.slice A12 m12 c12))) (v := ?_) (oi := { dst := some 68, op := Go.Op.pick (Go.Operand.tmp 62) (Go.Operand.tmp 67) (Go.Operand.const (Go.Value.bool false)), type := 4, pos := "law.go:37", after := #[{ on := 30, ground := Go.Ground.data }, { on := 35, ground := Go.Ground.data }], guard := none }) hst50 hS104 36 rfl (by kernel_rfl) (fun _ _ _ h => h) (Or.inl ⟨by rfl, ?_⟩) ?_
      rotate_left
      · intro w_ hSw; (try dsimp only at hSw); go_simp; (first | done | with_reducible rfl)
      try simp only [Act.put, fZ, fI, List.setIfInBounds_toArray, List.set_cons_zero, List.set_cons_succ]
      refine wpFl_take (S := (fun w_ => w_.cell? ⟨w.heap.size, 0, none⟩ = some (.bool ba) ∧ w_.cell? ⟨w.heap.size, 1, none⟩ = some (.slice Aa ma ca) ∧ w_.cell? ⟨(w.heap.size + 1), 0, none⟩ = some (.bool bb) ∧ w_.cell? ⟨(w.heap.size + 1), 1, none⟩ = some (.slice Ab mb cb) ∧ w_.cell? ⟨g18_0, 0, none⟩ = some (.int .i64 p12) ∧ w_.cell? ⟨g18_0, 1, none⟩ = some (.slice A12 m12 c12) ∧ w_.cell? ⟨g18_1, 0, none⟩ = some (.int .i64 p16) ∧ w_.cell? ⟨g18_1, 1, none⟩ = some (.slice A16 m16 c16) ∧ w_.cell? ⟨w28.heap.size, 0, none⟩ = some (.int .i64 p12) ∧ w_.cell? ⟨w28.heap.size, 1, none⟩ = some (.slice A12 m12 c12))) (v := ?_) (oi := { dst := some 69, op := Go.Op.move (Go.Operand.tmp 68), type := 4, pos := "law.go:37", after := #[{ on := 36, ground := Go.Ground.data }, { on := 32, ground := Go.Ground.chain }], guard := none }) hst50 hS104 37 rfl (by kernel_rfl) (fun _ _ _ h => h) (Or.inl ⟨by rfl, ?_⟩) ?_
      rotate_left
      · intro w_ hSw; (try dsimp only at hSw); go_simp; (first | done | with_reducible rfl)
      try simp only [Act.put, fZ, fI, List.setIfInBounds_toArray, List.set_cons_zero, List.set_cons_succ]
      refine wpFl_take (S := (fun w_ => w_.cell? ⟨w.heap.size, 0, none⟩ = some (.bool ba) ∧ w_.cell? ⟨w.heap.size, 1, none⟩ = some (.slice Aa ma ca) ∧ w_.cell? ⟨(w.heap.size + 1), 0, none⟩ = some (.bool bb) ∧ w_.cell? ⟨(w.heap.size + 1), 1, none⟩ = some (.slice Ab mb cb) ∧ w_.cell? ⟨g18_0, 0, none⟩ = some (.int .i64 p12) ∧ w_.cell? ⟨g18_0, 1, none⟩ = some (.slice A12 m12 c12) ∧ w_.cell? ⟨g18_1, 0, none⟩ = some (.int .i64 p16) ∧ w_.cell? ⟨g18_1, 1, none⟩ = some (.slice A16 m16 c16) ∧ w_.cell? ⟨w28.heap.size, 0, none⟩ = some (.int .i64 p12) ∧ w_.cell? ⟨w28.heap.size, 1, none⟩ = some (.slice A12 m12 c12))) (v := ?_) (oi := { dst := some 70, op := Go.Op.load 25 (Go.Operand.tmp 2), type := 25, pos := "law.go:37", after := #[{ on := 37, ground := Go.Ground.guard }], guard := some (37, true) }) hst50 hS104 38 rfl (by kernel_rfl) (fun _ _ _ h => h) (Or.inl ⟨by rfl, ?_⟩) ?_
      rotate_left
      · intro w_ hSw; (try dsimp only at hSw); go_simp; (first | done | with_reducible rfl)
      try simp only [Act.put, fZ, fI, List.setIfInBounds_toArray, List.set_cons_zero, List.set_cons_succ]
      refine wpFl_take (S := (fun w_ => w_.cell? ⟨w.heap.size, 0, none⟩ = some (.bool ba) ∧ w_.cell? ⟨w.heap.size, 1, none⟩ = some (.slice Aa ma ca) ∧ w_.cell? ⟨(w.heap.size + 1), 0, none⟩ = some (.bool bb) ∧ w_.cell? ⟨(w.heap.size + 1), 1, none⟩ = some (.slice Ab mb cb) ∧ w_.cell? ⟨g18_0, 0, none⟩ = some (.int .i64 p12) ∧ w_.cell? ⟨g18_0, 1, none⟩ = some (.slice A12 m12 c12) ∧ w_.cell? ⟨g18_1, 0, none⟩ = some (.int .i64 p16) ∧ w_.cell? ⟨g18_1, 1, none⟩ = some (.slice A16 m16 c16) ∧ w_.cell? ⟨w28.heap.size, 0, none⟩ = some (.int .i64 p12) ∧ w_.cell? ⟨w28.heap.size, 1, none⟩ = some (.slice A12 m12 c12))) (v := ?_) (oi := { dst := some 71, op := Go.Op.load 25 (Go.Operand.tmp 3), type := 25, pos := "law.go:37", after := #[{ on := 37, ground := Go.Ground.guard }], guard := some (37, true) }) hst50 hS104 39 rfl (by kernel_rfl) (fun _ _ _ h => h) (Or.inl ⟨by rfl, ?_⟩) ?_
      rotate_left
      · intro w_ hSw; (try dsimp only at hSw); go_simp; (first | done | with_reducible rfl)
      try simp only [Act.put, fZ, fI, List.setIfInBounds_toArray, List.set_cons_zero, List.set_cons_succ]
      refine wpFl_take (S := (fun w_ => w_.cell? ⟨w.heap.size, 0, none⟩ = some (.bool ba) ∧ w_.cell? ⟨w.heap.size, 1, none⟩ = some (.slice Aa ma ca) ∧ w_.cell? ⟨(w.heap.size + 1), 0, none⟩ = some (.bool bb) ∧ w_.cell? ⟨(w.heap.size + 1), 1, none⟩ = some (.slice Ab mb cb) ∧ w_.cell? ⟨g18_0, 0, none⟩ = some (.int .i64 p12) ∧ w_.cell? ⟨g18_0, 1, none⟩ = some (.slice A12 m12 c12) ∧ w_.cell? ⟨g18_1, 0, none⟩ = some (.int .i64 p16) ∧ w_.cell? ⟨g18_1, 1, none⟩ = some (.slice A16 m16 c16) ∧ w_.cell? ⟨w28.heap.size, 0, none⟩ = some (.int .i64 p12) ∧ w_.cell? ⟨w28.heap.size, 1, none⟩ = some (.slice A12 m12 c12))) (v := ?_) (oi := { dst := some 73, op := Go.Op.move (Go.Operand.tmp 8), type := 3, pos := "law.go:37", after := #[{ on := 37, ground := Go.Ground.guard }], guard := some (37, true) }) hst50 hS104 41 rfl (by kernel_rfl) (fun _ _ _ h => h) (Or.inl ⟨by rfl, ?_⟩) ?_
      rotate_left
      · intro w_ hSw; (try dsimp only at hSw); go_simp; (first | done | with_reducible rfl)
      try simp only [Act.put, fZ, fI, List.setIfInBounds_toArray, List.set_cons_zero, List.set_cons_succ]
      refine wpFl_call 40 (o := { dst := some 72, op := Go.Op.call { callee := Go.Callee.value (Go.Operand.func 26), args := #[Go.Operand.tmp 70, Go.Operand.tmp 71], argTypes := #[25, 25] }, type := 3, pos := "law.go:37", after := #[{ on := 38, ground := Go.Ground.data }, { on := 39, ground := Go.Ground.data }, { on := 37, ground := Go.Ground.chain }, { on := 37, ground := Go.Ground.guard }], guard := some (37, true) }) rfl (by kernel_rfl) (fun w105 hg105 K hK => ?_)
      have hS106 := hst50 _ _ hg105 hS104
      clear hS104
      go_simp
      refine (cmp_as (((((((((((((((((((((((((((((((((((qa.alloc (.cells #[.bool ba, .slice Aa ma ca] 25)).alloc (.cells #[.bool bb, .slice Ab mb cb] 25)).below hb1).below hb4).below hW31).alloc (.cells #[.int .i64 p12, .slice A12 m12 c12] 30)).below hb44).below hg51).below hg53).below hb55).below hg57).below hb59).below hg61).below hb63).below hg65).below hb67).below hg69).below hb71).below hg73).below hb75).below hg77).below hb79).below hg81).below hb83).below hg85).below hb87).below hg89).below hb91).below hg93).below hb95).below hg97).below hb99).below hg101).below hb103).below hg105) (((((((((((((((((((((((((((((((((((qb.alloc (.cells #[.bool ba, .slice Aa ma ca] 25)).alloc (.cells #[.bool bb, .slice Ab mb cb] 25)).below hb1).below hb4).below hW31).alloc (.cells #[.int .i64 p12, .slice A12 m12 c12] 30)).below hb44).below hg51).below hg53).below hb55).below hg57).below hb59).below hg61).below hb63).below hg65).below hb67).below hg69).below hb71).below hg73).below hb75).below hg77).below hb79).below hg81).below hb83).below hg85).below hb87).below hg89).below hb91).below hg93).below hb95).below hg97).below hb99).below hg101).below hb103).below hg105) Hcc).mono ?_
      rintro e w107 ⟨rfl, hb107⟩
      refine hK.out _ _ hb107 ?_
      clear hK K
      try simp only [Act.put, fZ, fI, List.setIfInBounds_toArray, List.set_cons_zero, List.set_cons_succ]
      have hS108 := hst50 _ _ hb107 hS106
      clear hS106
      refine wpFl_take (S := (fun w_ => w_.cell? ⟨w.heap.size, 0, none⟩ = some (.bool ba) ∧ w_.cell? ⟨w.heap.size, 1, none⟩ = some (.slice Aa ma ca) ∧ w_.cell? ⟨(w.heap.size + 1), 0, none⟩ = some (.bool bb) ∧ w_.cell? ⟨(w.heap.size + 1), 1, none⟩ = some (.slice Ab mb cb) ∧ w_.cell? ⟨g18_0, 0, none⟩ = some (.int .i64 p12) ∧ w_.cell? ⟨g18_0, 1, none⟩ = some (.slice A12 m12 c12) ∧ w_.cell? ⟨g18_1, 0, none⟩ = some (.int .i64 p16) ∧ w_.cell? ⟨g18_1, 1, none⟩ = some (.slice A16 m16 c16) ∧ w_.cell? ⟨w28.heap.size, 0, none⟩ = some (.int .i64 p12) ∧ w_.cell? ⟨w28.heap.size, 1, none⟩ = some (.slice A12 m12 c12))) (v := ?_) (oi := { dst := some 74, op := Go.Op.binOp Go.BinOp.eql 3 (Go.Operand.tmp 72) (Go.Operand.tmp 73) 3, type := 4, pos := "law.go:37", after := #[{ on := 40, ground := Go.Ground.data }, { on := 41, ground := Go.Ground.data }, { on := 37, ground := Go.Ground.guard }], guard := some (37, true) }) hst50 hS108 42 rfl (by kernel_rfl) (fun _ _ _ h => h) (Or.inl ⟨by rfl, ?_⟩) ?_
      rotate_left
      · intro w_ hSw; (try dsimp only at hSw); go_simp; (first | done | with_reducible rfl)
      try simp only [Act.put, fZ, fI, List.setIfInBounds_toArray, List.set_cons_zero, List.set_cons_succ]
      refine wpFl_take (S := (fun w_ => w_.cell? ⟨w.heap.size, 0, none⟩ = some (.bool ba) ∧ w_.cell? ⟨w.heap.size, 1, none⟩ = some (.slice Aa ma ca) ∧ w_.cell? ⟨(w.heap.size + 1), 0, none⟩ = some (.bool bb) ∧ w_.cell? ⟨(w.heap.size + 1), 1, none⟩ = some (.slice Ab mb cb) ∧ w_.cell? ⟨g18_0, 0, none⟩ = some (.int .i64 p12) ∧ w_.cell? ⟨g18_0, 1, none⟩ = some (.slice A12 m12 c12) ∧ w_.cell? ⟨g18_1, 0, none⟩ = some (.int .i64 p16) ∧ w_.cell? ⟨g18_1, 1, none⟩ = some (.slice A16 m16 c16) ∧ w_.cell? ⟨w28.heap.size, 0, none⟩ = some (.int .i64 p12) ∧ w_.cell? ⟨w28.heap.size, 1, none⟩ = some (.slice A12 m12 c12))) (v := ?_) (oi := { dst := some 75, op := Go.Op.pick (Go.Operand.tmp 69) (Go.Operand.tmp 74) (Go.Operand.const (Go.Value.bool false)), type := 4, pos := "law.go:37", after := #[{ on := 37, ground := Go.Ground.data }, { on := 42, ground := Go.Ground.data }], guard := none }) hst50 hS108 43 rfl (by kernel_rfl) (fun _ _ _ h => h) (Or.inl ⟨by rfl, ?_⟩) ?_
      rotate_left
      · intro w_ hSw; (try dsimp only at hSw); go_simp; (first | done | with_reducible rfl)
      try simp only [Act.put, fZ, fI, List.setIfInBounds_toArray, List.set_cons_zero, List.set_cons_succ]
      refine wpFl_take (S := (fun w_ => w_.cell? ⟨w.heap.size, 0, none⟩ = some (.bool ba) ∧ w_.cell? ⟨w.heap.size, 1, none⟩ = some (.slice Aa ma ca) ∧ w_.cell? ⟨(w.heap.size + 1), 0, none⟩ = some (.bool bb) ∧ w_.cell? ⟨(w.heap.size + 1), 1, none⟩ = some (.slice Ab mb cb) ∧ w_.cell? ⟨g18_0, 0, none⟩ = some (.int .i64 p12) ∧ w_.cell? ⟨g18_0, 1, none⟩ = some (.slice A12 m12 c12) ∧ w_.cell? ⟨g18_1, 0, none⟩ = some (.int .i64 p16) ∧ w_.cell? ⟨g18_1, 1, none⟩ = some (.slice A16 m16 c16) ∧ w_.cell? ⟨w28.heap.size, 0, none⟩ = some (.int .i64 p12) ∧ w_.cell? ⟨w28.heap.size, 1, none⟩ = some (.slice A12 m12 c12))) (v := ?_) (oi := { dst := some 76, op := Go.Op.move (Go.Operand.tmp 75), type := 4, pos := "law.go:37", after := #[{ on := 43, ground := Go.Ground.data }, { on := 40, ground := Go.Ground.chain }], guard := none }) hst50 hS108 44 rfl (by kernel_rfl) (fun _ _ _ h => h) (Or.inl ⟨by rfl, ?_⟩) ?_
      rotate_left
      · intro w_ hSw; (try dsimp only at hSw); go_simp; (first | done | with_reducible rfl)
      try simp only [Act.put, fZ, fI, List.setIfInBounds_toArray, List.set_cons_zero, List.set_cons_succ]
      refine wpFl_take (S := (fun w_ => w_.cell? ⟨w.heap.size, 0, none⟩ = some (.bool ba) ∧ w_.cell? ⟨w.heap.size, 1, none⟩ = some (.slice Aa ma ca) ∧ w_.cell? ⟨(w.heap.size + 1), 0, none⟩ = some (.bool bb) ∧ w_.cell? ⟨(w.heap.size + 1), 1, none⟩ = some (.slice Ab mb cb) ∧ w_.cell? ⟨g18_0, 0, none⟩ = some (.int .i64 p12) ∧ w_.cell? ⟨g18_0, 1, none⟩ = some (.slice A12 m12 c12) ∧ w_.cell? ⟨g18_1, 0, none⟩ = some (.int .i64 p16) ∧ w_.cell? ⟨g18_1, 1, none⟩ = some (.slice A16 m16 c16) ∧ w_.cell? ⟨w28.heap.size, 0, none⟩ = some (.int .i64 p12) ∧ w_.cell? ⟨w28.heap.size, 1, none⟩ = some (.slice A12 m12 c12))) (v := ?_) (oi := { dst := some 77, op := Go.Op.load 25 (Go.Operand.tmp 2), type := 25, pos := "law.go:37", after := #[{ on := 44, ground := Go.Ground.guard }], guard := some (44, true) }) hst50 hS108 45 rfl (by kernel_rfl) (fun _ _ _ h => h) (Or.inl ⟨by rfl, ?_⟩) ?_
      rotate_left
      · intro w_ hSw; (try dsimp only at hSw); go_simp; (first | done | with_reducible rfl)
      try simp only [Act.put, fZ, fI, List.setIfInBounds_toArray, List.set_cons_zero, List.set_cons_succ]
      refine wpFl_take (S := (fun w_ => w_.cell? ⟨w.heap.size, 0, none⟩ = some (.bool ba) ∧ w_.cell? ⟨w.heap.size, 1, none⟩ = some (.slice Aa ma ca) ∧ w_.cell? ⟨(w.heap.size + 1), 0, none⟩ = some (.bool bb) ∧ w_.cell? ⟨(w.heap.size + 1), 1, none⟩ = some (.slice Ab mb cb) ∧ w_.cell? ⟨g18_0, 0, none⟩ = some (.int .i64 p12) ∧ w_.cell? ⟨g18_0, 1, none⟩ = some (.slice A12 m12 c12) ∧ w_.cell? ⟨g18_1, 0, none⟩ = some (.int .i64 p16) ∧ w_.cell? ⟨g18_1, 1, none⟩ = some (.slice A16 m16 c16) ∧ w_.cell? ⟨w28.heap.size, 0, none⟩ = some (.int .i64 p12) ∧ w_.cell? ⟨w28.heap.size, 1, none⟩ = some (.slice A12 m12 c12))) (v := ?_) (oi := { dst := some 78, op := Go.Op.load 25 (Go.Operand.tmp 3), type := 25, pos := "law.go:37", after := #[{ on := 44, ground := Go.Ground.guard }], guard := some (44, true) }) hst50 hS108 46 rfl (by kernel_rfl) (fun _ _ _ h => h) (Or.inl ⟨by rfl, ?_⟩) ?_
      rotate_left
      · intro w_ hSw; (try dsimp only at hSw); go_simp; (first | done | with_reducible rfl)
      try simp only [Act.put, fZ, fI, List.setIfInBounds_toArray, List.set_cons_zero, List.set_cons_succ]
      refine wpFl_take (S := (fun w_ => w_.cell? ⟨w.heap.size, 0, none⟩ = some (.bool ba) ∧ w_.cell? ⟨w.heap.size, 1, none⟩ = some (.slice Aa ma ca) ∧ w_.cell? ⟨(w.heap.size + 1), 0, none⟩ = some (.bool bb) ∧ w_.cell? ⟨(w.heap.size + 1), 1, none⟩ = some (.slice Ab mb cb) ∧ w_.cell? ⟨g18_0, 0, none⟩ = some (.int .i64 p12) ∧ w_.cell? ⟨g18_0, 1, none⟩ = some (.slice A12 m12 c12) ∧ w_.cell? ⟨g18_1, 0, none⟩ = some (.int .i64 p16) ∧ w_.cell? ⟨g18_1, 1, none⟩ = some (.slice A16 m16 c16) ∧ w_.cell? ⟨w28.heap.size, 0, none⟩ = some (.int .i64 p12) ∧ w_.cell? ⟨w28.heap.size, 1, none⟩ = some (.slice A12 m12 c12))) (v := ?_) (oi := { dst := some 80, op := Go.Op.move (Go.Operand.tmp 8), type := 3, pos := "law.go:37", after := #[{ on := 44, ground := Go.Ground.guard }], guard := some (44, true) }) hst50 hS108 48 rfl (by kernel_rfl) (fun _ _ _ h => h) (Or.inl ⟨by rfl, ?_⟩) ?_
      rotate_left
      · intro w_ hSw; (try dsimp only at hSw); go_simp; (first | done | with_reducible rfl)
      try simp only [Act.put, fZ, fI, List.setIfInBounds_toArray, List.set_cons_zero, List.set_cons_succ]
      refine wpFl_take (S := (fun w_ => w_.cell? ⟨w.heap.size, 0, none⟩ = some (.bool ba) ∧ w_.cell? ⟨w.heap.size, 1, none⟩ = some (.slice Aa ma ca) ∧ w_.cell? ⟨(w.heap.size + 1), 0, none⟩ = some (.bool bb) ∧ w_.cell? ⟨(w.heap.size + 1), 1, none⟩ = some (.slice Ab mb cb) ∧ w_.cell? ⟨g18_0, 0, none⟩ = some (.int .i64 p12) ∧ w_.cell? ⟨g18_0, 1, none⟩ = some (.slice A12 m12 c12) ∧ w_.cell? ⟨g18_1, 0, none⟩ = some (.int .i64 p16) ∧ w_.cell? ⟨g18_1, 1, none⟩ = some (.slice A16 m16 c16) ∧ w_.cell? ⟨w28.heap.size, 0, none⟩ = some (.int .i64 p12) ∧ w_.cell? ⟨w28.heap.size, 1, none⟩ = some (.slice A12 m12 c12))) (v := ?_) (oi := { dst := some 81, op := Go.Op.binOp Go.BinOp.eql 3 (Go.Operand.tmp 80) (Go.Operand.const (Go.Value.int Go.IntKind.i64 0)) 3, type := 4, pos := "law.go:37", after := #[{ on := 48, ground := Go.Ground.data }, { on := 44, ground := Go.Ground.guard }], guard := some (44, true) }) hst50 hS108 49 rfl (by kernel_rfl) (fun _ _ _ h => h) (Or.inl ⟨by rfl, ?_⟩) ?_
      rotate_left
      · intro w_ hSw; (try dsimp only at hSw); go_simp; (first | done | with_reducible rfl)
      try simp only [Act.put, fZ, fI, List.setIfInBounds_toArray, List.set_cons_zero, List.set_cons_succ]
      refine wpFl_call 47 (o := { dst := some 79, op := Go.Op.call { callee := Go.Callee.value (Go.Operand.func 28), args := #[Go.Operand.tmp 77, Go.Operand.tmp 78], argTypes := #[25, 25] }, type := 4, pos := "law.go:37", after := #[{ on := 45, ground := Go.Ground.data }, { on := 46, ground := Go.Ground.data }, { on := 44, ground := Go.Ground.chain }, { on := 44, ground := Go.Ground.guard }], guard := some (44, true) }) rfl (by kernel_rfl) (fun w109 hg109 K hK => ?_)
      have hS110 := hst50 _ _ hg109 hS108
      clear hS108
      go_simp
      refine (same_as (((((((((((((((((((((((((((((((((((((qa.alloc (.cells #[.bool ba, .slice Aa ma ca] 25)).alloc (.cells #[.bool bb, .slice Ab mb cb] 25)).below hb1).below hb4).below hW31).alloc (.cells #[.int .i64 p12, .slice A12 m12 c12] 30)).below hb44).below hg51).below hg53).below hb55).below hg57).below hb59).below hg61).below hb63).below hg65).below hb67).below hg69).below hb71).below hg73).below hb75).below hg77).below hb79).below hg81).below hb83).below hg85).below hb87).below hg89).below hb91).below hg93).below hb95).below hg97).below hb99).below hg101).below hb103).below hg105).below hb107).below hg109) (((((((((((((((((((((((((((((((((((((qb.alloc (.cells #[.bool ba, .slice Aa ma ca] 25)).alloc (.cells #[.bool bb, .slice Ab mb cb] 25)).below hb1).below hb4).below hW31).alloc (.cells #[.int .i64 p12, .slice A12 m12 c12] 30)).below hb44).below hg51).below hg53).below hb55).below hg57).below hb59).below hg61).below hb63).below hg65).below hb67).below hg69).below hb71).below hg73).below hb75).below hg77).below hb79).below hg81).below hb83).below hg85).below hb87).below hg89).below hb91).below hg93).below hb95).below hg97).below hb99).below hg101).below hb103).below hg105).below hb107).below hg109) HSM).mono ?_
      rintro e w111 ⟨rfl, hb111⟩
      refine hK.out _ _ hb111 ?_
      clear hK K
      try simp only [Act.put, fZ, fI, List.setIfInBounds_toArray, List.set_cons_zero, List.set_cons_succ]
      have hS112 := hst50 _ _ hb111 hS110
      clear hS110
      refine wpFl_take (S := (fun w_ => w_.cell? ⟨w.heap.size, 0, none⟩ = some (.bool ba) ∧ w_.cell? ⟨w.heap.size, 1, none⟩ = some (.slice Aa ma ca) ∧ w_.cell? ⟨(w.heap.size + 1), 0, none⟩ = some (.bool bb) ∧ w_.cell? ⟨(w.heap.size + 1), 1, none⟩ = some (.slice Ab mb cb) ∧ w_.cell? ⟨g18_0, 0, none⟩ = some (.int .i64 p12) ∧ w_.cell? ⟨g18_0, 1, none⟩ = some (.slice A12 m12 c12) ∧ w_.cell? ⟨g18_1, 0, none⟩ = some (.int .i64 p16) ∧ w_.cell? ⟨g18_1, 1, none⟩ = some (.slice A16 m16 c16) ∧ w_.cell? ⟨w28.heap.size, 0, none⟩ = some (.int .i64 p12) ∧ w_.cell? ⟨w28.heap.size, 1, none⟩ = some (.slice A12 m12 c12))) (v := ?_) (oi := { dst := some 82, op := Go.Op.binOp Go.BinOp.eql 4 (Go.Operand.tmp 79) (Go.Operand.tmp 81) 4, type := 4, pos := "law.go:37", after := #[{ on := 47, ground := Go.Ground.data }, { on := 49, ground := Go.Ground.data }, { on := 44, ground := Go.Ground.guard }], guard := some (44, true) }) hst50 hS112 50 rfl (by kernel_rfl) (fun _ _ _ h => h) (Or.inl ⟨by rfl, ?_⟩) ?_
      rotate_left
      · intro w_ hSw; (try dsimp only at hSw); go_simp; (first | done | with_reducible rfl)
      try simp only [Act.put, fZ, fI, List.setIfInBounds_toArray, List.set_cons_zero, List.set_cons_succ]
      refine wpFl_take (S := (fun w_ => w_.cell? ⟨w.heap.size, 0, none⟩ = some (.bool ba) ∧ w_.cell? ⟨w.heap.size, 1, none⟩ = some (.slice Aa ma ca) ∧ w_.cell? ⟨(w.heap.size + 1), 0, none⟩ = some (.bool bb) ∧ w_.cell? ⟨(w.heap.size + 1), 1, none⟩ = some (.slice Ab mb cb) ∧ w_.cell? ⟨g18_0, 0, none⟩ = some (.int .i64 p12) ∧ w_.cell? ⟨g18_0, 1, none⟩ = some (.slice A12 m12 c12) ∧ w_.cell? ⟨g18_1, 0, none⟩ = some (.int .i64 p16) ∧ w_.cell? ⟨g18_1, 1, none⟩ = some (.slice A16 m16 c16) ∧ w_.cell? ⟨w28.heap.size, 0, none⟩ = some (.int .i64 p12) ∧ w_.cell? ⟨w28.heap.size, 1, none⟩ = some (.slice A12 m12 c12))) (v := ?_) (oi := { dst := some 83, op := Go.Op.pick (Go.Operand.tmp 76) (Go.Operand.tmp 82) (Go.Operand.const (Go.Value.bool false)), type := 4, pos := "law.go:37", after := #[{ on := 44, ground := Go.Ground.data }, { on := 50, ground := Go.Ground.data }], guard := none }) hst50 hS112 51 rfl (by kernel_rfl) (fun _ _ _ h => h) (Or.inl ⟨by rfl, ?_⟩) ?_
      rotate_left
      · intro w_ hSw; (try dsimp only at hSw); go_simp; (first | done | with_reducible rfl)
      try simp only [Act.put, fZ, fI, List.setIfInBounds_toArray, List.set_cons_zero, List.set_cons_succ]
      refine wpFl_take (S := (fun w_ => w_.cell? ⟨w.heap.size, 0, none⟩ = some (.bool ba) ∧ w_.cell? ⟨w.heap.size, 1, none⟩ = some (.slice Aa ma ca) ∧ w_.cell? ⟨(w.heap.size + 1), 0, none⟩ = some (.bool bb) ∧ w_.cell? ⟨(w.heap.size + 1), 1, none⟩ = some (.slice Ab mb cb) ∧ w_.cell? ⟨g18_0, 0, none⟩ = some (.int .i64 p12) ∧ w_.cell? ⟨g18_0, 1, none⟩ = some (.slice A12 m12 c12) ∧ w_.cell? ⟨g18_1, 0, none⟩ = some (.int .i64 p16) ∧ w_.cell? ⟨g18_1, 1, none⟩ = some (.slice A16 m16 c16) ∧ w_.cell? ⟨w28.heap.size, 0, none⟩ = some (.int .i64 p12) ∧ w_.cell? ⟨w28.heap.size, 1, none⟩ = some (.slice A12 m12 c12))) (v := ?_) (oi := { dst := some 4, op := Go.Op.assign (Go.Operand.tmp 83), type := 4, pos := "law.go:37", after := #[{ on := 51, ground := Go.Ground.data }, { on := 47, ground := Go.Ground.chain }, { on := 0, ground := Go.Ground.phase }, { on := 1, ground := Go.Ground.phase }, { on := 2, ground := Go.Ground.phase }, { on := 3, ground := Go.Ground.phase }, { on := 4, ground := Go.Ground.phase }, { on := 5, ground := Go.Ground.phase }, { on := 6, ground := Go.Ground.phase }, { on := 7, ground := Go.Ground.phase }, { on := 8, ground := Go.Ground.phase }, { on := 9, ground := Go.Ground.phase }, { on := 10, ground := Go.Ground.phase }, { on := 11, ground := Go.Ground.phase }, { on := 12, ground := Go.Ground.phase }, { on := 13, ground := Go.Ground.phase }, { on := 14, ground := Go.Ground.phase }, { on := 15, ground := Go.Ground.phase }, { on := 16, ground := Go.Ground.phase }, { on := 17, ground := Go.Ground.phase }, { on := 18, ground := Go.Ground.phase }, { on := 19, ground := Go.Ground.phase }, { on := 20, ground := Go.Ground.phase }, { on := 21, ground := Go.Ground.phase }, { on := 22, ground := Go.Ground.phase }, { on := 23, ground := Go.Ground.phase }, { on := 24, ground := Go.Ground.phase }, { on := 25, ground := Go.Ground.phase }, { on := 26, ground := Go.Ground.phase }, { on := 27, ground := Go.Ground.phase }, { on := 28, ground := Go.Ground.phase }, { on := 29, ground := Go.Ground.phase }, { on := 30, ground := Go.Ground.phase }, { on := 31, ground := Go.Ground.phase }, { on := 32, ground := Go.Ground.phase }, { on := 33, ground := Go.Ground.phase }, { on := 34, ground := Go.Ground.phase }, { on := 35, ground := Go.Ground.phase }, { on := 36, ground := Go.Ground.phase }, { on := 37, ground := Go.Ground.phase }, { on := 38, ground := Go.Ground.phase }, { on := 39, ground := Go.Ground.phase }, { on := 40, ground := Go.Ground.phase }, { on := 41, ground := Go.Ground.phase }, { on := 42, ground := Go.Ground.phase }, { on := 43, ground := Go.Ground.phase }, { on := 44, ground := Go.Ground.phase }, { on := 45, ground := Go.Ground.phase }, { on := 46, ground := Go.Ground.phase }, { on := 47, ground := Go.Ground.phase }, { on := 48, ground := Go.Ground.phase }, { on := 49, ground := Go.Ground.phase }, { on := 50, ground := Go.Ground.phase }, { on := 51, ground := Go.Ground.phase }], guard := none }) hst50 hS112 52 rfl (by kernel_rfl) (fun _ _ _ h => h) (Or.inl ⟨by rfl, ?_⟩) ?_
      rotate_left
      · intro w_ hSw; (try dsimp only at hSw); go_simp; (first | done | with_reducible rfl)
      try simp only [Act.put, fZ, fI, List.setIfInBounds_toArray, List.set_cons_zero, List.set_cons_succ]
      refine wpFl_end0 (fun w113 hg113 => ?_)
      try simp only [Act.put, fZ, fI, List.setIfInBounds_toArray, List.set_cons_zero, List.set_cons_succ]
      clear hS112 hst50
      have hW114 := below_then hg51 hg51.size hg53
      have hW115 := below_then hW114 hW114.size hb55
      have hW116 := below_then hW115 hW115.size hg57
      have hW117 := below_then hW116 hW116.size hb59
      have hW118 := below_then hW117 hW117.size hg61
      have hW119 := below_then hW118 hW118.size hb63
      have hW120 := below_then hW119 hW119.size hg65
      have hW121 := below_then hW120 hW120.size hb67
      have hW122 := below_then hW121 hW121.size hg69
      have hW123 := below_then hW122 hW122.size hb71
      have hW124 := below_then hW123 hW123.size hg73
      have hW125 := below_then hW124 hW124.size hb75
      have hW126 := below_then hW125 hW125.size hg77
      have hW127 := below_then hW126 hW126.size hb79
      have hW128 := below_then hW127 hW127.size hg81
      have hW129 := below_then hW128 hW128.size hb83
      have hW130 := below_then hW129 hW129.size hg85
      have hW131 := below_then hW130 hW130.size hb87
      have hW132 := below_then hW131 hW131.size hg89
      have hW133 := below_then hW132 hW132.size hb91
      have hW134 := below_then hW133 hW133.size hg93
      have hW135 := below_then hW134 hW134.size hb95
      have hW136 := below_then hW135 hW135.size hg97
      have hW137 := below_then hW136 hW136.size hb99
      have hW138 := below_then hW137 hW137.size hg101
      have hW139 := below_then hW138 hW138.size hb103
      have hW140 := below_then hW139 hW139.size hg105
      have hW141 := below_then hW140 hW140.size hb107
      have hW142 := below_then hW141 hW141.size hg109
      have hW143 := below_then hW142 hW142.size hb111
      have hW144 := below_then hW143 hW143.size hg113
      have f145 := (((((((((((((((((((((((((((((q55.below hg57).below hb59).below hg61).below hb63).below hg65).below hb67).below hg69).below hb71).below hg73).below hb75).below hg77).below hb79).below hg81).below hb83).below hg85).below hb87).below hg89).below hb91).below hg93).below hb95).below hg97).below hb99).below hg101).below hb103).below hg105).below hb107).below hg109).below hb111).below hg113)
      have f146 := (((((((((((((((((((((((((((q59.below hg61).below hb63).below hg65).below hb67).below hg69).below hb71).below hg73).below hb75).below hg77).below hb79).below hg81).below hb83).below hg85).below hb87).below hg89).below hb91).below hg93).below hb95).below hg97).below hb99).below hg101).below hb103).below hg105).below hb107).below hg109).below hb111).below hg113)
      have f147 := (((((((((((((((((((((((q67.below hg69).below hb71).below hg73).below hb75).below hg77).below hb79).below hg81).below hb83).below hg85).below hb87).below hg89).below hb91).below hg93).below hb95).below hg97).below hb99).below hg101).below hb103).below hg105).below hb107).below hg109).below hb111).below hg113)
      have f148 := (((((((((((((((((((((q71.below hg73).below hb75).below hg77).below hb79).below hg81).below hb83).below hg85).below hb87).below hg89).below hb91).below hg93).below hb95).below hg97).below hb99).below hg101).below hb103).below hg105).below hb107).below hg109).below hb111).below hg113)
      have f149 := (((((((((((((((((((q75.below hg77).below hb79).below hg81).below hb83).below hg85).below hb87).below hg89).below hb91).below hg93).below hb95).below hg97).below hb99).below hg101).below hb103).below hg105).below hb107).below hg109).below hb111).below hg113)
      have f150 := (((((((((((((((q83.below hg85).below hb87).below hg89).below hb91).below hg93).below hb95).below hg97).below hb99).below hg101).below hb103).below hg105).below hb107).below hg109).below hb111).below hg113)
      have f151 := (((((((((((((q87.below hg89).below hb91).below hg93).below hb95).below hg97).below hb99).below hg101).below hb103).below hg105).below hb107).below hg109).below hb111).below hg113)
      have f152 := (((((((((q95.below hg97).below hb99).below hg101).below hb103).below hg105).below hb107).below hg109).below hb111).below hg113)
      replace q55 := f145
      clear f145
      replace q59 := f146
      clear f146
      replace q67 := f147
      clear f147
      replace q71 := f148
      clear f148
      replace q75 := f149
      clear f149
      replace q83 := f150
      clear f150
      replace q87 := f151
      clear f151
      replace q95 := f152
      clear f152
      have HB8 := below_then HB7 HB7.size hW144
      have k153 := (k45.below hW144)
      have k153a := k153.c0
      have k153b := k153.c1
      have k154 := (k46.below hW144)
      have k154a := k154.c0
      have k154b := k154.c1
      have k155 := (k47.below hW144)
      have k155a := k155.c0
      have k155b := k155.c1
      have k156 := (k48.below hW144)
      have k156a := k156.c0
      have k156b := k156.c1
      have k157 := (k49.below hW144)
      have k157a := k157.c0
      have k157b := k157.c1
      refine wpList_nil ?_
      go_wp2_with fail
      go_ret
      exact ⟨rfl, HB8⟩
  · skip
    have HF : Hid (false = (decide ((ma : Int) ≤ 20) && decide ((mb : Int) ≤ 20) && decide ((ma : Int) ≤ 20))) := Lib.hid (by simp; omega)
    have bxa := Box.new w 25 (.bool ba) (.slice Aa ma ca)
    have bxb := Box.new1 w (.cells #[.bool ba, .slice Aa ma ca] 25) 25 (.bool bb) (.slice Ab mb cb)
    go_enter Try.func8, Try.ntmps8
    go_wp2_with fail
    refine (lawake _).mono ?_
    rintro e w1 ⟨rfl, hb1⟩
    have HB1 := below_alloc (Below.refl w.heap.size w) (.cells #[.bool ba, .slice Aa ma ca] 25)
    have HB2 := below_alloc HB1 (.cells #[.bool bb, .slice Ab mb cb] 25)
    have HB3 := below_then HB2 HB2.size hb1
    have k2 := ((bxa.alloc (.cells #[.bool bb, .slice Ab mb cb] 25)).below hb1)
    have k2a := k2.c0
    have k2b := k2.c1
    have k3 := (bxb.below hb1)
    have k3a := k3.c0
    have k3b := k3.c1
    go_wp2_with fail
    refine (lfew_as 20 HF).mono ?_
    rintro e w4 ⟨rfl, hb4⟩
    have HB4 := below_then HB3 HB3.size hb4
    clear k2a k2b k3a k3b
    have k5 := (k2.below hb4)
    have k5a := k5.c0
    have k5b := k5.c1
    have k6 := (k3.below hb4)
    have k6a := k6.c0
    have k6b := k6.c1
    go_wp2_with fail
    refine (lawake _).mono ?_
    rintro e w7 ⟨rfl, hb7⟩
    have HB5 := below_then HB4 HB4.size hb7
    go_wp2_with fail
    go_ret
    exact ⟨rfl, HB5⟩
end Go.Proofs.Ythadkjekagfjfaa.IAdds
