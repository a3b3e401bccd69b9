/- The law IntegerOrder returns true for all its arguments and leaves what lay in memory as it was. Condition: the slices read as digits (a row's arguments do). -/
import Derived.Test.YthadkjekagfjfaaJ1
namespace Go.Proofs.Ythadkjekagfjfaa.IOrder
open Go.RowKit Go.Proofs.Ythadkjekagfjfaa.Dig Go.Proofs.Ythadkjekagfjfaa.N Go.Proofs.YthadkjekagfjfaaW.PrintWords Go.Proofs.YthadkjekagfjfaaW.PrintLast Go.Proofs.YthadkjekagfjfaaW.PrintMore
attribute [local go_sem] max2_int min2_int
set_option linter.unusedVariables false
set_option maxRecDepth 100000
set_option linter.unusedSimpArgs false

set_option maxRecDepth 100000 in
set_option maxHeartbeats 20000000 in
theorem law_any {w : World} {ba : Bool} {Aa : Option Addr} {ma ca : Nat} {za : Int} (qa : ZI w ba (.slice Aa ma ca) za ma) {bb : Bool} {Ab : Option Addr} {mb cb : Nat} {zb : Int} (qb : ZI w bb (.slice Ab mb cb) zb mb) {bc : Bool} {Ac : Option Addr} {mc cc : Nat} {zc : Int} (qc : ZI w bc (.slice Ac mc cc) zc mc) :
    Calls Try.prog 6 #[.agg #[.bool ba, .slice Aa ma ca], .agg #[.bool bb, .slice Ab mb cb], .agg #[.bool bc, .slice Ac mc cc]] w fun e w' => e = .returned (.bool true) ∧ Below w.heap.size w w' := by
  by_cases hall : ma ≤ 8 ∧ mb ≤ 8 ∧ mc ≤ 8
  · obtain ⟨ha, hb, hc⟩ := hall
    have HF : Hid (true = (decide ((ma : Int) ≤ 8) && decide ((mb : Int) ≤ 8) && decide ((mc : Int) ≤ 8))) := Lib.hid (by simp; omega)
    replace qa := qa.more ha
    replace qb := qb.more hb
    replace qc := qc.more hc
    obtain ⟨e1, he1⟩ : ∃ t : Int, t = za + zc := ⟨_, rfl⟩
    have He1 := Lib.hid he1
    clear he1
    obtain ⟨e2, he2⟩ : ∃ t : Int, t = zb + zc := ⟨_, rfl⟩
    have He2 := Lib.hid he2
    clear he2
    obtain ⟨e3, he3⟩ : ∃ t : Int, t = za * zc := ⟨_, rfl⟩
    have He3 := Lib.hid he3
    clear he3
    obtain ⟨e4, he4⟩ : ∃ t : Int, t = zb * zc := ⟨_, rfl⟩
    have He4 := Lib.hid he4
    clear he4
    obtain ⟨e5, he5⟩ : ∃ t : Int, t = za - zb := ⟨_, rfl⟩
    have He5 := Lib.hid he5
    clear he5
    have HT := Lib.hid (zcmp_trans za zb zc)
    obtain ⟨x, hx⟩ : ∃ t : Int, t = zcmp za zb := ⟨_, rfl⟩
    have Hx := Lib.hid hx
    clear hx
    obtain ⟨y, hy⟩ : ∃ t : Int, t = zcmp zb zc := ⟨_, rfl⟩
    have Hy := Lib.hid hy
    clear hy
    obtain ⟨z, hz⟩ : ∃ t : Int, t = zcmp za zc := ⟨_, rfl⟩
    have Hz := Lib.hid hz
    clear hz
    obtain ⟨s, hs⟩ : ∃ t : Int, t = sgn zc := ⟨_, rfl⟩
    have Hs := Lib.hid hs
    clear hs
    have hxr := zcmp_range za zb
    have hyr := zcmp_range zb zc
    have hzr := zcmp_range za zc
    have hsr := sgn_range zc
    rw [← Hx.out] at hxr
    rw [← Hy.out] at hyr
    rw [← Hz.out] at hzr
    rw [← Hs.out] at hsr
    obtain ⟨nx, hnx⟩ : ∃ t : Int, t = -x := ⟨_, rfl⟩
    have Hnx := Lib.hid hnx
    clear hnx
    obtain ⟨xs, hxs⟩ : ∃ t : Int, t = x * s := ⟨_, rfl⟩
    have Hxs := Lib.hid hxs
    clear hxs
    have hwn : IntKind.i64.wrap (-x) = nx := by rw [Hnx.out]; exact IntWalk.i64_in _ (by omega)
    have hws : IntKind.i64.wrap (x * s) = xs := by rw [Hxs.out]; refine IntWalk.i64_in _ ?_; rcases (by omega : x = -1 ∨ x = 0 ∨ x = 1) with h | h | h <;> rw [h] <;> omega
    have H1 : Hid (nx = zcmp zb za) := Lib.hid (by rw [Hnx.out, Hx.out, zcmp_neg_])
    have H2 : Hid (x = zcmp e1 e2) := Lib.hid (by rw [He1.out, He2.out, ← zcmp_add, Hx.out])
    have H3 : Hid (xs = zcmp e3 e4) := Lib.hid (by rw [He3.out, He4.out, ← zcmp_mul, Hxs.out, Hx.out, Hs.out])
    have H4 : Hid (x = sgn e5) := Lib.hid (by rw [He5.out, ← zcmp_sub, Hx.out])
    have HT2 : Hid (x ≤ 0 → y ≤ 0 → z ≤ 0) := Lib.hid (by rw [Hx.out, Hy.out, Hz.out]; exact HT.out)
    clear hxr hyr hzr hsr HT
    by_cases hx : x ≤ 0
    · by_cases hy : y ≤ 0
      · skip
        have d1 : decide (x ≤ 0) = true := decide_eq_true (by omega)
        have d2 : decide (y ≤ 0) = true := decide_eq_true (by omega)
        have hz := HT2.out hx hy
        have d3 : decide (0 < z) = false := decide_eq_false (by omega)
        clear hz
        clear hx hy
        have bxa := Box.new w 25 (.bool ba) (.slice Aa ma ca)
        have bxb := Box.new1 w (.cells #[.bool ba, .slice Aa ma ca] 25) 25 (.bool bb) (.slice Ab mb cb)
        have bxc := Box.new2 w (.cells #[.bool ba, .slice Aa ma ca] 25) (.cells #[.bool bb, .slice Ab mb cb] 25) 25 (.bool bc) (.slice Ac mc cc)
        go_enter Try.func6, Try.ntmps6
        go_wp2_with fail
        refine (lawake _).mono ?_
        rintro e w1 ⟨rfl, hb1⟩
        have HB1 := below_alloc (Below.refl w.heap.size w) (.cells #[.bool ba, .slice Aa ma ca] 25)
        have HB2 := below_alloc HB1 (.cells #[.bool bb, .slice Ab mb cb] 25)
        have HB3 := below_alloc HB2 (.cells #[.bool bc, .slice Ac mc cc] 25)
        have HB4 := below_then HB3 HB3.size hb1
        have k2 := (((bxa.alloc (.cells #[.bool bb, .slice Ab mb cb] 25)).alloc (.cells #[.bool bc, .slice Ac mc cc] 25)).below hb1)
        have k2a := k2.c0
        have k2b := k2.c1
        have k3 := ((bxb.alloc (.cells #[.bool bc, .slice Ac mc cc] 25)).below hb1)
        have k3a := k3.c0
        have k3b := k3.c1
        have k4 := (bxc.below hb1)
        have k4a := k4.c0
        have k4b := k4.c1
        go_wp2_with fail
        refine (lfew_as 8 HF).mono ?_
        rintro e w5 ⟨rfl, hb5⟩
        have HB5 := below_then HB4 HB4.size hb5
        clear k2a k2b k3a k3b k4a k4b
        have k6 := (k2.below hb5)
        have k6a := k6.c0
        have k6b := k6.c1
        have k7 := (k3.below hb5)
        have k7a := k7.c0
        have k7b := k7.c1
        have k8 := (k4.below hb5)
        have k8a := k8.c0
        have k8b := k8.c1
        go_wp2_with fail
        have hst9 : ∀ w1_ w2_ : World, Below w1_.heap.size w1_ w2_ → (w1_.cell? ⟨w.heap.size, 0, none⟩ = some (.bool ba) ∧ w1_.cell? ⟨w.heap.size, 1, none⟩ = some (.slice Aa ma ca) ∧ w1_.cell? ⟨(w.heap.size + 1), 0, none⟩ = some (.bool bb) ∧ w1_.cell? ⟨(w.heap.size + 1), 1, none⟩ = some (.slice Ab mb cb) ∧ w1_.cell? ⟨(w.heap.size + 2), 0, none⟩ = some (.bool bc) ∧ w1_.cell? ⟨(w.heap.size + 2), 1, none⟩ = some (.slice Ac mc cc)) → (w2_.cell? ⟨w.heap.size, 0, none⟩ = some (.bool ba) ∧ w2_.cell? ⟨w.heap.size, 1, none⟩ = some (.slice Aa ma ca) ∧ w2_.cell? ⟨(w.heap.size + 1), 0, none⟩ = some (.bool bb) ∧ w2_.cell? ⟨(w.heap.size + 1), 1, none⟩ = some (.slice Ab mb cb) ∧ w2_.cell? ⟨(w.heap.size + 2), 0, none⟩ = some (.bool bc) ∧ w2_.cell? ⟨(w.heap.size + 2), 1, none⟩ = some (.slice Ac mc cc)) := fun _ _ hb_ h_ => ⟨pw_cell_below hb_ h_.1, pw_cell_below hb_ h_.2.1, pw_cell_below hb_ h_.2.2.1, pw_cell_below hb_ h_.2.2.2.1, pw_cell_below hb_ h_.2.2.2.2.1, pw_cell_below hb_ h_.2.2.2.2.2⟩
        have hS9 : w5.cell? ⟨w.heap.size, 0, none⟩ = some (.bool ba) ∧ w5.cell? ⟨w.heap.size, 1, none⟩ = some (.slice Aa ma ca) ∧ w5.cell? ⟨(w.heap.size + 1), 0, none⟩ = some (.bool bb) ∧ w5.cell? ⟨(w.heap.size + 1), 1, none⟩ = some (.slice Ab mb cb) ∧ w5.cell? ⟨(w.heap.size + 2), 0, none⟩ = some (.bool bc) ∧ w5.cell? ⟨(w.heap.size + 2), 1, none⟩ = some (.slice Ac mc cc) := ⟨k6.c0, k6.c1, k7.c0, k7.c1, k8.c0, k8.c1⟩
        obtain ⟨s9_, hs9_⟩ : ∃ S_ : World → Prop, S_ = (fun w_ => w_.cell? ⟨w.heap.size, 0, none⟩ = some (.bool ba) ∧ w_.cell? ⟨w.heap.size, 1, none⟩ = some (.slice Aa ma ca) ∧ w_.cell? ⟨(w.heap.size + 1), 0, none⟩ = some (.bool bb) ∧ w_.cell? ⟨(w.heap.size + 1), 1, none⟩ = some (.slice Ab mb cb) ∧ w_.cell? ⟨(w.heap.size + 2), 0, none⟩ = some (.bool bc) ∧ w_.cell? ⟨(w.heap.size + 2), 1, none⟩ = some (.slice Ac mc cc)) := ⟨_, rfl⟩
        have Hs9_ := Lib.hid hs9_
        replace hst9 : ∀ w1_ w2_ : World, Below w1_.heap.size w1_ w2_ → s9_ w1_ → s9_ w2_ := by rw [hs9_]; exact hst9
        replace hS9 : s9_ w5 := by rw [hs9_]; exact hS9
        clear hs9_
        clear k6a k6b k7a k7b k8a k8b
        refine wp_region_flt [] [0, 1, 2, 3, 4, 5, 6, 7, 8, 9, 10, 11] [] [] 12 (by kernel_rfl) (by kernel_rfl) .nil isFlt0 (fun c_ a_ a'_ w_ hd_ h_ => by first | exact ⟨hd_.trans h_.1, h_.2⟩ | exact h_) (fun w10 hg10 => ?_)
        have hS11 := hst9 _ _ hg10 hS9
        clear hS9
        refine wpFl_take (S := s9_) (v := ?_) hst9 hS11 0 rfl (by kernel_rfl) (fun _ _ _ h => h) (Or.inl ⟨by rfl, ?_⟩) ?_
        rotate_left
        · intro w_ hSw; rw [Hs9_.out] at hSw; (try dsimp only at hSw); go_simp; (first | done | with_reducible rfl)
        try simp only [Act.put, fZ, fI, List.setIfInBounds_toArray, List.set_cons_zero, List.set_cons_succ]
        refine wpFl_take (S := s9_) (v := ?_) hst9 hS11 1 rfl (by kernel_rfl) (fun _ _ _ h => h) (Or.inl ⟨by rfl, ?_⟩) ?_
        rotate_left
        · intro w_ hSw; rw [Hs9_.out] at hSw; (try dsimp only at hSw); go_simp; (first | done | with_reducible rfl)
        try simp only [Act.put, fZ, fI, List.setIfInBounds_toArray, List.set_cons_zero, List.set_cons_succ]
        refine wpFl_take (S := s9_) (v := ?_) hst9 hS11 3 rfl (by kernel_rfl) (fun _ _ _ h => h) (Or.inl ⟨by rfl, ?_⟩) ?_
        rotate_left
        · intro w_ hSw; rw [Hs9_.out] at hSw; (try dsimp only at hSw); go_simp; (first | done | with_reducible rfl)
        try simp only [Act.put, fZ, fI, List.setIfInBounds_toArray, List.set_cons_zero, List.set_cons_succ]
        refine wpFl_take (S := s9_) (v := ?_) hst9 hS11 4 rfl (by kernel_rfl) (fun _ _ _ h => h) (Or.inl ⟨by rfl, ?_⟩) ?_
        rotate_left
        · intro w_ hSw; rw [Hs9_.out] at hSw; (try dsimp only at hSw); go_simp; (first | done | with_reducible rfl)
        try simp only [Act.put, fZ, fI, List.setIfInBounds_toArray, List.set_cons_zero, List.set_cons_succ]
        refine wpFl_take (S := s9_) (v := ?_) hst9 hS11 6 rfl (by kernel_rfl) (fun _ _ _ h => h) (Or.inl ⟨by rfl, ?_⟩) ?_
        rotate_left
        · intro w_ hSw; rw [Hs9_.out] at hSw; (try dsimp only at hSw); go_simp; (first | done | with_reducible rfl)
        try simp only [Act.put, fZ, fI, List.setIfInBounds_toArray, List.set_cons_zero, List.set_cons_succ]
        refine wpFl_take (S := s9_) (v := ?_) hst9 hS11 7 rfl (by kernel_rfl) (fun _ _ _ h => h) (Or.inl ⟨by rfl, ?_⟩) ?_
        rotate_left
        · intro w_ hSw; rw [Hs9_.out] at hSw; (try dsimp only at hSw); go_simp; (first | done | with_reducible rfl)
        try simp only [Act.put, fZ, fI, List.setIfInBounds_toArray, List.set_cons_zero, List.set_cons_succ]
        refine wpFl_call 2 rfl (by kernel_rfl) (fun w12 hg12 K hK => ?_)
        have hS13 := hst9 _ _ hg12 hS11
        clear hS11
        go_simp
        refine (cmp_as (((((((qa.alloc (.cells #[.bool ba, .slice Aa ma ca] 25)).alloc (.cells #[.bool bb, .slice Ab mb cb] 25)).alloc (.cells #[.bool bc, .slice Ac mc cc] 25)).below hb1).below hb5).below hg10).below hg12) (((((((qb.alloc (.cells #[.bool ba, .slice Aa ma ca] 25)).alloc (.cells #[.bool bb, .slice Ab mb cb] 25)).alloc (.cells #[.bool bc, .slice Ac mc cc] 25)).below hb1).below hb5).below hg10).below hg12) Hx).mono ?_
        rintro e w14 ⟨rfl, hb14⟩
        refine hK.out _ _ hb14 ?_
        clear hK K
        try simp only [Act.put, fZ, fI, List.setIfInBounds_toArray, List.set_cons_zero, List.set_cons_succ]
        have hS15 := hst9 _ _ hb14 hS13
        clear hS13
        refine wpFl_call 5 rfl (by kernel_rfl) (fun w16 hg16 K hK => ?_)
        have hS17 := hst9 _ _ hg16 hS15
        clear hS15
        go_simp
        refine (cmp_as (((((((((qb.alloc (.cells #[.bool ba, .slice Aa ma ca] 25)).alloc (.cells #[.bool bb, .slice Ab mb cb] 25)).alloc (.cells #[.bool bc, .slice Ac mc cc] 25)).below hb1).below hb5).below hg10).below hg12).below hb14).below hg16) (((((((((qc.alloc (.cells #[.bool ba, .slice Aa ma ca] 25)).alloc (.cells #[.bool bb, .slice Ab mb cb] 25)).alloc (.cells #[.bool bc, .slice Ac mc cc] 25)).below hb1).below hb5).below hg10).below hg12).below hb14).below hg16) Hy).mono ?_
        rintro e w18 ⟨rfl, hb18⟩
        refine hK.out _ _ hb18 ?_
        clear hK K
        try simp only [Act.put, fZ, fI, List.setIfInBounds_toArray, List.set_cons_zero, List.set_cons_succ]
        have hS19 := hst9 _ _ hb18 hS17
        clear hS17
        refine wpFl_call 8 rfl (by kernel_rfl) (fun w20 hg20 K hK => ?_)
        have hS21 := hst9 _ _ hg20 hS19
        clear hS19
        go_simp
        refine (cmp_as (((((((((((qa.alloc (.cells #[.bool ba, .slice Aa ma ca] 25)).alloc (.cells #[.bool bb, .slice Ab mb cb] 25)).alloc (.cells #[.bool bc, .slice Ac mc cc] 25)).below hb1).below hb5).below hg10).below hg12).below hb14).below hg16).below hb18).below hg20) (((((((((((qc.alloc (.cells #[.bool ba, .slice Aa ma ca] 25)).alloc (.cells #[.bool bb, .slice Ab mb cb] 25)).alloc (.cells #[.bool bc, .slice Ac mc cc] 25)).below hb1).below hb5).below hg10).below hg12).below hb14).below hg16).below hb18).below hg20) Hz).mono ?_
        rintro e w22 ⟨rfl, hb22⟩
        refine hK.out _ _ hb22 ?_
        clear hK K
        try simp only [Act.put, fZ, fI, List.setIfInBounds_toArray, List.set_cons_zero, List.set_cons_succ]
        have hS23 := hst9 _ _ hb22 hS21
        clear hS21
        refine wpFl_take (S := s9_) (v := ?_) hst9 hS23 9 rfl (by kernel_rfl) (fun _ _ _ h => h) (Or.inl ⟨by rfl, ?_⟩) ?_
        rotate_left
        · intro w_ hSw; rw [Hs9_.out] at hSw; (try dsimp only at hSw); go_simp; (first | done | with_reducible rfl)
        try simp only [Act.put, fZ, fI, List.setIfInBounds_toArray, List.set_cons_zero, List.set_cons_succ]
        refine wpFl_take (S := s9_) (v := ?_) hst9 hS23 10 rfl (by kernel_rfl) (fun _ _ _ h => h) (Or.inl ⟨by rfl, ?_⟩) ?_
        rotate_left
        · intro w_ hSw; rw [Hs9_.out] at hSw; (try dsimp only at hSw); go_simp; (first | done | with_reducible rfl)
        try simp only [Act.put, fZ, fI, List.setIfInBounds_toArray, List.set_cons_zero, List.set_cons_succ]
        refine wpFl_take (S := s9_) (v := ?_) hst9 hS23 11 rfl (by kernel_rfl) (fun _ _ _ h => h) (Or.inl ⟨by rfl, ?_⟩) ?_
        rotate_left
        · intro w_ hSw; rw [Hs9_.out] at hSw; (try dsimp only at hSw); go_simp; (first | done | with_reducible rfl)
        try simp only [Act.put, fZ, fI, List.setIfInBounds_toArray, List.set_cons_zero, List.set_cons_succ]
        refine wpFl_end0 (fun w24 hg24 => ?_)
        try simp only [Act.put, fZ, fI, List.setIfInBounds_toArray, List.set_cons_zero, List.set_cons_succ]
        clear hS23 hst9
        have hW25 := below_then hg10 hg10.size hg12
        have hW26 := below_then hW25 hW25.size hb14
        have hW27 := below_then hW26 hW26.size hg16
        have hW28 := below_then hW27 hW27.size hb18
        have hW29 := below_then hW28 hW28.size hg20
        have hW30 := below_then hW29 hW29.size hb22
        have hW31 := below_then hW30 hW30.size hg24
        have HB6 := below_then HB5 HB5.size hW31
        have k32 := (k6.below hW31)
        have k32a := k32.c0
        have k32b := k32.c1
        have k33 := (k7.below hW31)
        have k33a := k33.c0
        have k33b := k33.c1
        have k34 := (k8.below hW31)
        have k34a := k34.c0
        have k34b := k34.c1
        refine wpList_nil ?_
        go_wp2_with fail
        have hst35 : ∀ w1_ w2_ : World, Below w1_.heap.size w1_ w2_ → (w1_.cell? ⟨w.heap.size, 0, none⟩ = some (.bool ba) ∧ w1_.cell? ⟨w.heap.size, 1, none⟩ = some (.slice Aa ma ca) ∧ w1_.cell? ⟨(w.heap.size + 1), 0, none⟩ = some (.bool bb) ∧ w1_.cell? ⟨(w.heap.size + 1), 1, none⟩ = some (.slice Ab mb cb) ∧ w1_.cell? ⟨(w.heap.size + 2), 0, none⟩ = some (.bool bc) ∧ w1_.cell? ⟨(w.heap.size + 2), 1, none⟩ = some (.slice Ac mc cc)) → (w2_.cell? ⟨w.heap.size, 0, none⟩ = some (.bool ba) ∧ w2_.cell? ⟨w.heap.size, 1, none⟩ = some (.slice Aa ma ca) ∧ w2_.cell? ⟨(w.heap.size + 1), 0, none⟩ = some (.bool bb) ∧ w2_.cell? ⟨(w.heap.size + 1), 1, none⟩ = some (.slice Ab mb cb) ∧ w2_.cell? ⟨(w.heap.size + 2), 0, none⟩ = some (.bool bc) ∧ w2_.cell? ⟨(w.heap.size + 2), 1, none⟩ = some (.slice Ac mc cc)) := fun _ _ hb_ h_ => ⟨pw_cell_below hb_ h_.1, pw_cell_below hb_ h_.2.1, pw_cell_below hb_ h_.2.2.1, pw_cell_below hb_ h_.2.2.2.1, pw_cell_below hb_ h_.2.2.2.2.1, pw_cell_below hb_ h_.2.2.2.2.2⟩
        have hS35 : w24.cell? ⟨w.heap.size, 0, none⟩ = some (.bool ba) ∧ w24.cell? ⟨w.heap.size, 1, none⟩ = some (.slice Aa ma ca) ∧ w24.cell? ⟨(w.heap.size + 1), 0, none⟩ = some (.bool bb) ∧ w24.cell? ⟨(w.heap.size + 1), 1, none⟩ = some (.slice Ab mb cb) ∧ w24.cell? ⟨(w.heap.size + 2), 0, none⟩ = some (.bool bc) ∧ w24.cell? ⟨(w.heap.size + 2), 1, none⟩ = some (.slice Ac mc cc) := ⟨k32.c0, k32.c1, k33.c0, k33.c1, k34.c0, k34.c1⟩
        obtain ⟨s35_, hs35_⟩ : ∃ S_ : World → Prop, S_ = (fun w_ => w_.cell? ⟨w.heap.size, 0, none⟩ = some (.bool ba) ∧ w_.cell? ⟨w.heap.size, 1, none⟩ = some (.slice Aa ma ca) ∧ w_.cell? ⟨(w.heap.size + 1), 0, none⟩ = some (.bool bb) ∧ w_.cell? ⟨(w.heap.size + 1), 1, none⟩ = some (.slice Ab mb cb) ∧ w_.cell? ⟨(w.heap.size + 2), 0, none⟩ = some (.bool bc) ∧ w_.cell? ⟨(w.heap.size + 2), 1, none⟩ = some (.slice Ac mc cc)) := ⟨_, rfl⟩
        have Hs35_ := Lib.hid hs35_
        replace hst35 : ∀ w1_ w2_ : World, Below w1_.heap.size w1_ w2_ → s35_ w1_ → s35_ w2_ := by rw [hs35_]; exact hst35
        replace hS35 : s35_ w24 := by rw [hs35_]; exact hS35
        clear hs35_
        clear k32a k32b k33a k33b k34a k34b
        refine wp_region_flt [] [0, 1, 2, 3, 4, 5, 6, 7, 8, 9, 10, 11, 12, 13, 14, 15, 16, 17, 18, 19, 20, 21, 22, 23, 24, 25, 26, 27, 28] [] [] 29 (by kernel_rfl) (by kernel_rfl) .nil isFlt0 (fun c_ a_ a'_ w_ hd_ h_ => by first | exact ⟨hd_.trans h_.1, h_.2⟩ | exact h_) (fun w36 hg36 => ?_)
        have hS37 := hst35 _ _ hg36 hS35
        clear hS35
        refine wpFl_take (S := s35_) (v := ?_) hst35 hS37 0 rfl (by kernel_rfl) (fun _ _ _ h => h) (Or.inl ⟨by rfl, ?_⟩) ?_
        rotate_left
        · intro w_ hSw; rw [Hs35_.out] at hSw; (try dsimp only at hSw); go_simp; (first | done | with_reducible rfl)
        try simp only [Act.put, fZ, fI, List.setIfInBounds_toArray, List.set_cons_zero, List.set_cons_succ]
        refine wpFl_take (S := s35_) (v := ?_) hst35 hS37 1 rfl (by kernel_rfl) (fun _ _ _ h => h) (Or.inl ⟨by rfl, ?_⟩) ?_
        rotate_left
        · intro w_ hSw; rw [Hs35_.out] at hSw; (try dsimp only at hSw); go_simp; (first | done | with_reducible rfl)
        try simp only [Act.put, fZ, fI, List.setIfInBounds_toArray, List.set_cons_zero, List.set_cons_succ]
        refine wpFl_take (S := s35_) (v := ?_) hst35 hS37 3 rfl (by kernel_rfl) (fun _ _ _ h => h) (Or.inl ⟨by rfl, ?_⟩) ?_
        rotate_left
        · intro w_ hSw; rw [Hs35_.out] at hSw; (try dsimp only at hSw); go_simp; (first | done | with_reducible rfl)
        try simp only [Act.put, fZ, fI, List.setIfInBounds_toArray, List.set_cons_zero, List.set_cons_succ]
        refine wpFl_take (S := s35_) (v := ?_) hst35 hS37 4 rfl (by kernel_rfl) (fun _ _ _ h => h) (Or.inl ⟨by rfl, ?_⟩) ?_
        rotate_left
        · intro w_ hSw; rw [Hs35_.out] at hSw; (try dsimp only at hSw); go_simp; (first | done | with_reducible rfl)
        try simp only [Act.put, fZ, fI, List.setIfInBounds_toArray, List.set_cons_zero, List.set_cons_succ]
        refine wpFl_call 2 rfl (by kernel_rfl) (fun w38 hg38 K hK => ?_)
        have hS39 := hst35 _ _ hg38 hS37
        clear hS37
        go_simp
        refine (cmp_as ((((((((qb.alloc (.cells #[.bool ba, .slice Aa ma ca] 25)).alloc (.cells #[.bool bb, .slice Ab mb cb] 25)).alloc (.cells #[.bool bc, .slice Ac mc cc] 25)).below hb1).below hb5).below hW31).below hg36).below hg38) ((((((((qa.alloc (.cells #[.bool ba, .slice Aa ma ca] 25)).alloc (.cells #[.bool bb, .slice Ab mb cb] 25)).alloc (.cells #[.bool bc, .slice Ac mc cc] 25)).below hb1).below hb5).below hW31).below hg36).below hg38) H1).mono ?_
        rintro e w40 ⟨rfl, hb40⟩
        refine hK.out _ _ hb40 ?_
        clear hK K
        try simp only [Act.put, fZ, fI, List.setIfInBounds_toArray, List.set_cons_zero, List.set_cons_succ]
        have hS41 := hst35 _ _ hb40 hS39
        clear hS39
        refine wpFl_take (S := s35_) (v := ?_) hst35 hS41 5 rfl (by kernel_rfl) (fun _ _ _ h => h) (Or.inl ⟨by rfl, ?_⟩) ?_
        rotate_left
        · intro w_ hSw; rw [Hs35_.out] at hSw; (try dsimp only at hSw); go_simp; (first | done | with_reducible rfl)
        try simp only [Act.put, fZ, fI, List.setIfInBounds_toArray, List.set_cons_zero, List.set_cons_succ]
        refine wpFl_take (S := s35_) (v := ?_) hst35 hS41 6 rfl (by kernel_rfl) (fun _ _ _ h => h) (Or.inl ⟨by rfl, ?_⟩) ?_
        rotate_left
        · intro w_ hSw; rw [Hs35_.out] at hSw; (try dsimp only at hSw); go_simp; (first | done | with_reducible rfl)
        try simp only [Act.put, fZ, fI, List.setIfInBounds_toArray, List.set_cons_zero, List.set_cons_succ]
        refine wpFl_take (S := s35_) (v := ?_) hst35 hS41 7 rfl (by kernel_rfl) (fun _ _ _ h => h) (Or.inl ⟨by rfl, ?_⟩) ?_
        rotate_left
        · intro w_ hSw; rw [Hs35_.out] at hSw; (try dsimp only at hSw); go_simp; (first | done | with_reducible rfl)
        try simp only [Act.put, fZ, fI, List.setIfInBounds_toArray, List.set_cons_zero, List.set_cons_succ]
        refine wpFl_take (S := s35_) (v := ?_) hst35 hS41 8 rfl (by kernel_rfl) (fun _ _ _ h => h) (Or.inl ⟨by rfl, ?_⟩) ?_
        rotate_left
        · intro w_ hSw; rw [Hs35_.out] at hSw; (try dsimp only at hSw); go_simp; (first | done | with_reducible rfl)
        try simp only [Act.put, fZ, fI, List.setIfInBounds_toArray, List.set_cons_zero, List.set_cons_succ]
        refine wpFl_take (S := s35_) (v := ?_) hst35 hS41 9 rfl (by kernel_rfl) (fun _ _ _ h => h) (Or.inl ⟨by rfl, ?_⟩) ?_
        rotate_left
        · intro w_ hSw; rw [Hs35_.out] at hSw; (try dsimp only at hSw); go_simp; (first | done | with_reducible rfl)
        try simp only [Act.put, fZ, fI, List.setIfInBounds_toArray, List.set_cons_zero, List.set_cons_succ]
        refine wpFl_take (S := s35_) (v := ?_) hst35 hS41 10 rfl (by kernel_rfl) (fun _ _ _ h => h) (Or.inl ⟨by rfl, ?_⟩) ?_
        rotate_left
        · intro w_ hSw; rw [Hs35_.out] at hSw; (try dsimp only at hSw); go_simp; (first | done | with_reducible rfl)
        try simp only [Act.put, fZ, fI, List.setIfInBounds_toArray, List.set_cons_zero, List.set_cons_succ]
        refine wpFl_take (S := s35_) (v := ?_) hst35 hS41 11 rfl (by kernel_rfl) (fun _ _ _ h => h) (Or.inl ⟨by rfl, ?_⟩) ?_
        rotate_left
        · intro w_ hSw; rw [Hs35_.out] at hSw; (try dsimp only at hSw); go_simp; (first | done | with_reducible rfl)
        try simp only [Act.put, fZ, fI, List.setIfInBounds_toArray, List.set_cons_zero, List.set_cons_succ]
        refine wpFl_take (S := s35_) (v := ?_) hst35 hS41 12 rfl (by kernel_rfl) (fun _ _ _ h => h) (Or.inl ⟨by rfl, ?_⟩) ?_
        rotate_left
        · intro w_ hSw; rw [Hs35_.out] at hSw; (try dsimp only at hSw); go_simp; (first | done | with_reducible rfl)
        try simp only [Act.put, fZ, fI, List.setIfInBounds_toArray, List.set_cons_zero, List.set_cons_succ]
        refine wpFl_take (S := s35_) (v := ?_) hst35 hS41 13 rfl (by kernel_rfl) (fun _ _ _ h => h) (Or.inl ⟨by rfl, ?_⟩) ?_
        rotate_left
        · intro w_ hSw; rw [Hs35_.out] at hSw; (try dsimp only at hSw); go_simp; (first | done | with_reducible rfl)
        try simp only [Act.put, fZ, fI, List.setIfInBounds_toArray, List.set_cons_zero, List.set_cons_succ]
        refine wpFl_take (S := s35_) (v := ?_) hst35 hS41 14 rfl (by kernel_rfl) (fun _ _ _ h => h) (Or.inl ⟨by rfl, ?_⟩) ?_
        rotate_left
        · intro w_ hSw; rw [Hs35_.out] at hSw; (try dsimp only at hSw); go_simp; (first | done | with_reducible rfl)
        try simp only [Act.put, fZ, fI, List.setIfInBounds_toArray, List.set_cons_zero, List.set_cons_succ]
        refine wpFl_take (S := s35_) (v := ?_) hst35 hS41 15 rfl (by kernel_rfl) (fun _ _ _ h => h) (Or.inl ⟨by rfl, ?_⟩) ?_
        rotate_left
        · intro w_ hSw; rw [Hs35_.out] at hSw; (try dsimp only at hSw); go_simp; (first | done | with_reducible rfl)
        try simp only [Act.put, fZ, fI, List.setIfInBounds_toArray, List.set_cons_zero, List.set_cons_succ]
        refine wpFl_take (S := s35_) (v := ?_) hst35 hS41 16 rfl (by kernel_rfl) (fun _ _ _ h => h) (Or.inl ⟨by rfl, ?_⟩) ?_
        rotate_left
        · intro w_ hSw; rw [Hs35_.out] at hSw; (try dsimp only at hSw); go_simp; (first | done | with_reducible rfl)
        try simp only [Act.put, fZ, fI, List.setIfInBounds_toArray, List.set_cons_zero, List.set_cons_succ]
        refine wpFl_take (S := s35_) (v := ?_) hst35 hS41 17 rfl (by kernel_rfl) (fun _ _ _ h => h) (Or.inl ⟨by rfl, ?_⟩) ?_
        rotate_left
        · intro w_ hSw; rw [Hs35_.out] at hSw; (try dsimp only at hSw); go_simp; (first | done | with_reducible rfl)
        try simp only [Act.put, fZ, fI, List.setIfInBounds_toArray, List.set_cons_zero, List.set_cons_succ]
        refine wpFl_take (S := s35_) (v := ?_) hst35 hS41 18 rfl (by kernel_rfl) (fun _ _ _ h => h) (Or.inl ⟨by rfl, ?_⟩) ?_
        rotate_left
        · intro w_ hSw; rw [Hs35_.out] at hSw; (try dsimp only at hSw); go_simp; (first | done | with_reducible rfl)
        try simp only [Act.put, fZ, fI, List.setIfInBounds_toArray, List.set_cons_zero, List.set_cons_succ]
        refine wpFl_take (S := s35_) (v := ?_) hst35 hS41 19 rfl (by kernel_rfl) (fun _ _ _ h => h) (Or.inl ⟨by rfl, ?_⟩) ?_
        rotate_left
        · intro w_ hSw; rw [Hs35_.out] at hSw; (try dsimp only at hSw); go_simp; (first | done | with_reducible rfl)
        try simp only [Act.put, fZ, fI, List.setIfInBounds_toArray, List.set_cons_zero, List.set_cons_succ]
        refine wpFl_take (S := s35_) (v := ?_) hst35 hS41 20 rfl (by kernel_rfl) (fun _ _ _ h => h) (Or.inl ⟨by rfl, ?_⟩) ?_
        rotate_left
        · intro w_ hSw; rw [Hs35_.out] at hSw; (try dsimp only at hSw); go_simp; (first | done | with_reducible rfl)
        try simp only [Act.put, fZ, fI, List.setIfInBounds_toArray, List.set_cons_zero, List.set_cons_succ]
        refine wpFl_take (S := s35_) (v := ?_) hst35 hS41 22 rfl (by kernel_rfl) (fun _ _ _ h => h) (Or.inl ⟨by rfl, ?_⟩) ?_
        rotate_left
        · intro w_ hSw; rw [Hs35_.out] at hSw; (try dsimp only at hSw); go_simp; (first | done | with_reducible rfl)
        try simp only [Act.put, fZ, fI, List.setIfInBounds_toArray, List.set_cons_zero, List.set_cons_succ]
        refine wpFl_take (S := s35_) (v := ?_) hst35 hS41 23 rfl (by kernel_rfl) (fun _ _ _ h => h) (Or.inl ⟨by rfl, ?_⟩) ?_
        rotate_left
        · intro w_ hSw; rw [Hs35_.out] at hSw; (try dsimp only at hSw); go_simp; (first | done | with_reducible rfl)
        try simp only [Act.put, fZ, fI, List.setIfInBounds_toArray, List.set_cons_zero, List.set_cons_succ]
        refine wpFl_take (S := s35_) (v := ?_) hst35 hS41 26 rfl (by kernel_rfl) (fun _ _ _ h => h) (Or.inl ⟨by rfl, ?_⟩) ?_
        rotate_left
        · intro w_ hSw; rw [Hs35_.out] at hSw; (try dsimp only at hSw); go_simp; (first | done | with_reducible rfl)
        try simp only [Act.put, fZ, fI, List.setIfInBounds_toArray, List.set_cons_zero, List.set_cons_succ]
        refine wpFl_call 21 rfl (by kernel_rfl) (fun w42 hg42 K hK => ?_)
        have hS43 := hst35 _ _ hg42 hS41
        clear hS41
        go_simp
        refine (add_as ((((((((((qa.alloc (.cells #[.bool ba, .slice Aa ma ca] 25)).alloc (.cells #[.bool bb, .slice Ab mb cb] 25)).alloc (.cells #[.bool bc, .slice Ac mc cc] 25)).below hb1).below hb5).below hW31).below hg36).below hg38).below hb40).below hg42) ((((((((((qc.alloc (.cells #[.bool ba, .slice Aa ma ca] 25)).alloc (.cells #[.bool bb, .slice Ab mb cb] 25)).alloc (.cells #[.bool bc, .slice Ac mc cc] 25)).below hb1).below hb5).below hW31).below hg36).below hg38).below hb40).below hg42) (by decide) (by decide) He1).mono ?_
        rintro e w44 ⟨b44, A44, m44, c44, rfl, q44, hb44⟩
        refine hK.out _ _ hb44 ?_
        clear hK K
        try simp only [Act.put, fZ, fI, List.setIfInBounds_toArray, List.set_cons_zero, List.set_cons_succ]
        have hS45 := hst35 _ _ hb44 hS43
        clear hS43
        refine wpFl_call 24 rfl (by kernel_rfl) (fun w46 hg46 K hK => ?_)
        have hS47 := hst35 _ _ hg46 hS45
        clear hS45
        go_simp
        refine (add_as ((((((((((((qb.alloc (.cells #[.bool ba, .slice Aa ma ca] 25)).alloc (.cells #[.bool bb, .slice Ab mb cb] 25)).alloc (.cells #[.bool bc, .slice Ac mc cc] 25)).below hb1).below hb5).below hW31).below hg36).below hg38).below hb40).below hg42).below hb44).below hg46) ((((((((((((qc.alloc (.cells #[.bool ba, .slice Aa ma ca] 25)).alloc (.cells #[.bool bb, .slice Ab mb cb] 25)).alloc (.cells #[.bool bc, .slice Ac mc cc] 25)).below hb1).below hb5).below hW31).below hg36).below hg38).below hb40).below hg42).below hb44).below hg46) (by decide) (by decide) He2).mono ?_
        rintro e w48 ⟨b48, A48, m48, c48, rfl, q48, hb48⟩
        refine hK.out _ _ hb48 ?_
        clear hK K
        try simp only [Act.put, fZ, fI, List.setIfInBounds_toArray, List.set_cons_zero, List.set_cons_succ]
        have hS49 := hst35 _ _ hb48 hS47
        clear hS47
        refine wpFl_call 25 rfl (by kernel_rfl) (fun w50 hg50 K hK => ?_)
        have hS51 := hst35 _ _ hg50 hS49
        clear hS49
        go_simp
        refine (cmp_as (((q44.below hg46).below hb48).below hg50).zi (q48.below hg50).zi H2).mono ?_
        rintro e w52 ⟨rfl, hb52⟩
        refine hK.out _ _ hb52 ?_
        clear hK K
        try simp only [Act.put, fZ, fI, List.setIfInBounds_toArray, List.set_cons_zero, List.set_cons_succ]
        have hS53 := hst35 _ _ hb52 hS51
        clear hS51
        refine wpFl_take (S := s35_) (v := ?_) hst35 hS53 27 rfl (by kernel_rfl) (fun _ _ _ h => h) (Or.inl ⟨by rfl, ?_⟩) ?_
        rotate_left
        · intro w_ hSw; rw [Hs35_.out] at hSw; (try dsimp only at hSw); go_simp; (first | done | with_reducible rfl)
        try simp only [Act.put, fZ, fI, List.setIfInBounds_toArray, List.set_cons_zero, List.set_cons_succ]
        refine wpFl_take (S := s35_) (v := ?_) hst35 hS53 28 rfl (by kernel_rfl) (fun _ _ _ h => h) (Or.inl ⟨by rfl, ?_⟩) ?_
        rotate_left
        · intro w_ hSw; rw [Hs35_.out] at hSw; (try dsimp only at hSw); go_simp; (first | done | with_reducible rfl)
        try simp only [Act.put, fZ, fI, List.setIfInBounds_toArray, List.set_cons_zero, List.set_cons_succ]
        refine wpFl_end0 (fun w54 hg54 => ?_)
        try simp only [Act.put, fZ, fI, List.setIfInBounds_toArray, List.set_cons_zero, List.set_cons_succ]
        clear hS53 hst35
        have hW55 := below_then hg36 hg36.size hg38
        have hW56 := below_then hW55 hW55.size hb40
        have hW57 := below_then hW56 hW56.size hg42
        have hW58 := below_then hW57 hW57.size hb44
        have hW59 := below_then hW58 hW58.size hg46
        have hW60 := below_then hW59 hW59.size hb48
        have hW61 := below_then hW60 hW60.size hg50
        have hW62 := below_then hW61 hW61.size hb52
        have hW63 := below_then hW62 hW62.size hg54
        have f64 := (((((q44.below hg46).below hb48).below hg50).below hb52).below hg54)
        have f65 := (((q48.below hg50).below hb52).below hg54)
        replace q44 := f64
        clear f64
        replace q48 := f65
        clear f65
        have HB7 := below_then HB6 HB6.size hW63
        have k66 := (k32.below hW63)
        have k66a := k66.c0
        have k66b := k66.c1
        have k67 := (k33.below hW63)
        have k67a := k67.c0
        have k67b := k67.c1
        have k68 := (k34.below hW63)
        have k68a := k68.c0
        have k68b := k68.c1
        refine wpList_nil ?_
        go_wp2_with fail
        have hst69 : ∀ w1_ w2_ : World, Below w1_.heap.size w1_ w2_ → (w1_.cell? ⟨w.heap.size, 0, none⟩ = some (.bool ba) ∧ w1_.cell? ⟨w.heap.size, 1, none⟩ = some (.slice Aa ma ca) ∧ w1_.cell? ⟨(w.heap.size + 1), 0, none⟩ = some (.bool bb) ∧ w1_.cell? ⟨(w.heap.size + 1), 1, none⟩ = some (.slice Ab mb cb) ∧ w1_.cell? ⟨(w.heap.size + 2), 0, none⟩ = some (.bool bc) ∧ w1_.cell? ⟨(w.heap.size + 2), 1, none⟩ = some (.slice Ac mc cc)) → (w2_.cell? ⟨w.heap.size, 0, none⟩ = some (.bool ba) ∧ w2_.cell? ⟨w.heap.size, 1, none⟩ = some (.slice Aa ma ca) ∧ w2_.cell? ⟨(w.heap.size + 1), 0, none⟩ = some (.bool bb) ∧ w2_.cell? ⟨(w.heap.size + 1), 1, none⟩ = some (.slice Ab mb cb) ∧ w2_.cell? ⟨(w.heap.size + 2), 0, none⟩ = some (.bool bc) ∧ w2_.cell? ⟨(w.heap.size + 2), 1, none⟩ = some (.slice Ac mc cc)) := fun _ _ hb_ h_ => ⟨pw_cell_below hb_ h_.1, pw_cell_below hb_ h_.2.1, pw_cell_below hb_ h_.2.2.1, pw_cell_below hb_ h_.2.2.2.1, pw_cell_below hb_ h_.2.2.2.2.1, pw_cell_below hb_ h_.2.2.2.2.2⟩
        have hS69 : w54.cell? ⟨w.heap.size, 0, none⟩ = some (.bool ba) ∧ w54.cell? ⟨w.heap.size, 1, none⟩ = some (.slice Aa ma ca) ∧ w54.cell? ⟨(w.heap.size + 1), 0, none⟩ = some (.bool bb) ∧ w54.cell? ⟨(w.heap.size + 1), 1, none⟩ = some (.slice Ab mb cb) ∧ w54.cell? ⟨(w.heap.size + 2), 0, none⟩ = some (.bool bc) ∧ w54.cell? ⟨(w.heap.size + 2), 1, none⟩ = some (.slice Ac mc cc) := ⟨k66.c0, k66.c1, k67.c0, k67.c1, k68.c0, k68.c1⟩
        obtain ⟨s69_, hs69_⟩ : ∃ S_ : World → Prop, S_ = (fun w_ => w_.cell? ⟨w.heap.size, 0, none⟩ = some (.bool ba) ∧ w_.cell? ⟨w.heap.size, 1, none⟩ = some (.slice Aa ma ca) ∧ w_.cell? ⟨(w.heap.size + 1), 0, none⟩ = some (.bool bb) ∧ w_.cell? ⟨(w.heap.size + 1), 1, none⟩ = some (.slice Ab mb cb) ∧ w_.cell? ⟨(w.heap.size + 2), 0, none⟩ = some (.bool bc) ∧ w_.cell? ⟨(w.heap.size + 2), 1, none⟩ = some (.slice Ac mc cc)) := ⟨_, rfl⟩
        have Hs69_ := Lib.hid hs69_
        replace hst69 : ∀ w1_ w2_ : World, Below w1_.heap.size w1_ w2_ → s69_ w1_ → s69_ w2_ := by rw [hs69_]; exact hst69
        replace hS69 : s69_ w54 := by rw [hs69_]; exact hS69
        clear hs69_
        clear k66a k66b k67a k67b k68a k68b
        refine wp_region_flt [] [0, 1, 2, 3, 4, 5, 6, 7, 8, 9, 10, 11, 12, 13, 14, 15, 16, 17, 18, 19, 20] [] [] 21 (by kernel_rfl) (by kernel_rfl) .nil isFlt0 (fun c_ a_ a'_ w_ hd_ h_ => by first | exact ⟨hd_.trans h_.1, h_.2⟩ | exact h_) (fun w70 hg70 => ?_)
        have hS71 := hst69 _ _ hg70 hS69
        clear hS69
        refine wpFl_take (S := s69_) (v := ?_) hst69 hS71 0 rfl (by kernel_rfl) (fun _ _ _ h => h) (Or.inl ⟨by rfl, ?_⟩) ?_
        rotate_left
        · intro w_ hSw; rw [Hs69_.out] at hSw; (try dsimp only at hSw); go_simp; (first | done | with_reducible rfl)
        try simp only [Act.put, fZ, fI, List.setIfInBounds_toArray, List.set_cons_zero, List.set_cons_succ]
        refine wpFl_take (S := s69_) (v := ?_) hst69 hS71 1 rfl (by kernel_rfl) (fun _ _ _ h => h) (Or.inl ⟨by rfl, ?_⟩) ?_
        rotate_left
        · intro w_ hSw; rw [Hs69_.out] at hSw; (try dsimp only at hSw); go_simp; (first | done | with_reducible rfl)
        try simp only [Act.put, fZ, fI, List.setIfInBounds_toArray, List.set_cons_zero, List.set_cons_succ]
        refine wpFl_take (S := s69_) (v := ?_) hst69 hS71 3 rfl (by kernel_rfl) (fun _ _ _ h => h) (Or.inl ⟨by rfl, ?_⟩) ?_
        rotate_left
        · intro w_ hSw; rw [Hs69_.out] at hSw; (try dsimp only at hSw); go_simp; (first | done | with_reducible rfl)
        try simp only [Act.put, fZ, fI, List.setIfInBounds_toArray, List.set_cons_zero, List.set_cons_succ]
        refine wpFl_take (S := s69_) (v := ?_) hst69 hS71 4 rfl (by kernel_rfl) (fun _ _ _ h => h) (Or.inl ⟨by rfl, ?_⟩) ?_
        rotate_left
        · intro w_ hSw; rw [Hs69_.out] at hSw; (try dsimp only at hSw); go_simp; (first | done | with_reducible rfl)
        try simp only [Act.put, fZ, fI, List.setIfInBounds_toArray, List.set_cons_zero, List.set_cons_succ]
        refine wpFl_take (S := s69_) (v := ?_) hst69 hS71 7 rfl (by kernel_rfl) (fun _ _ _ h => h) (Or.inl ⟨by rfl, ?_⟩) ?_
        rotate_left
        · intro w_ hSw; rw [Hs69_.out] at hSw; (try dsimp only at hSw); go_simp; (first | done | with_reducible rfl)
        try simp only [Act.put, fZ, fI, List.setIfInBounds_toArray, List.set_cons_zero, List.set_cons_succ]
        refine wpFl_take (S := s69_) (v := ?_) hst69 hS71 8 rfl (by kernel_rfl) (fun _ _ _ h => h) (Or.inl ⟨by rfl, ?_⟩) ?_
        rotate_left
        · intro w_ hSw; rw [Hs69_.out] at hSw; (try dsimp only at hSw); go_simp; (first | done | with_reducible rfl)
        try simp only [Act.put, fZ, fI, List.setIfInBounds_toArray, List.set_cons_zero, List.set_cons_succ]
        refine wpFl_call 2 rfl (by kernel_rfl) (fun w72 hg72 K hK => ?_)
        have hS73 := hst69 _ _ hg72 hS71
        clear hS71
        go_simp
        refine (mul_as (((((((((qa.alloc (.cells #[.bool ba, .slice Aa ma ca] 25)).alloc (.cells #[.bool bb, .slice Ab mb cb] 25)).alloc (.cells #[.bool bc, .slice Ac mc cc] 25)).below hb1).below hb5).below hW31).below hW63).below hg70).below hg72) (((((((((qc.alloc (.cells #[.bool ba, .slice Aa ma ca] 25)).alloc (.cells #[.bool bb, .slice Ab mb cb] 25)).alloc (.cells #[.bool bc, .slice Ac mc cc] 25)).below hb1).below hb5).below hW31).below hW63).below hg70).below hg72) (by decide) (by decide) He3).mono ?_
        rintro e w74 ⟨b74, A74, m74, c74, rfl, q74, hb74⟩
        refine hK.out _ _ hb74 ?_
        clear hK K
        try simp only [Act.put, fZ, fI, List.setIfInBounds_toArray, List.set_cons_zero, List.set_cons_succ]
        have hS75 := hst69 _ _ hb74 hS73
        clear hS73
        refine wpFl_call 5 rfl (by kernel_rfl) (fun w76 hg76 K hK => ?_)
        have hS77 := hst69 _ _ hg76 hS75
        clear hS75
        go_simp
        refine (mul_as (((((((((((qb.alloc (.cells #[.bool ba, .slice Aa ma ca] 25)).alloc (.cells #[.bool bb, .slice Ab mb cb] 25)).alloc (.cells #[.bool bc, .slice Ac mc cc] 25)).below hb1).below hb5).below hW31).below hW63).below hg70).below hg72).below hb74).below hg76) (((((((((((qc.alloc (.cells #[.bool ba, .slice Aa ma ca] 25)).alloc (.cells #[.bool bb, .slice Ab mb cb] 25)).alloc (.cells #[.bool bc, .slice Ac mc cc] 25)).below hb1).below hb5).below hW31).below hW63).below hg70).below hg72).below hb74).below hg76) (by decide) (by decide) He4).mono ?_
        rintro e w78 ⟨b78, A78, m78, c78, rfl, q78, hb78⟩
        refine hK.out _ _ hb78 ?_
        clear hK K
        try simp only [Act.put, fZ, fI, List.setIfInBounds_toArray, List.set_cons_zero, List.set_cons_succ]
        have hS79 := hst69 _ _ hb78 hS77
        clear hS77
        refine wpFl_call 6 rfl (by kernel_rfl) (fun w80 hg80 K hK => ?_)
        have hS81 := hst69 _ _ hg80 hS79
        clear hS79
        go_simp
        refine (cmp_as (((q74.below hg76).below hb78).below hg80).zi (q78.below hg80).zi H3).mono ?_
        rintro e w82 ⟨rfl, hb82⟩
        refine hK.out _ _ hb82 ?_
        clear hK K
        try simp only [Act.put, fZ, fI, List.setIfInBounds_toArray, List.set_cons_zero, List.set_cons_succ]
        have hS83 := hst69 _ _ hb82 hS81
        clear hS81
        refine wpFl_call 9 rfl (by kernel_rfl) (fun w84 hg84 K hK => ?_)
        have hS85 := hst69 _ _ hg84 hS83
        clear hS83
        go_simp
        refine (sgn_as (((((((((((((((qc.alloc (.cells #[.bool ba, .slice Aa ma ca] 25)).alloc (.cells #[.bool bb, .slice Ab mb cb] 25)).alloc (.cells #[.bool bc, .slice Ac mc cc] 25)).below hb1).below hb5).below hW31).below hW63).below hg70).below hg72).below hb74).below hg76).below hb78).below hg80).below hb82).below hg84) Hs).mono ?_
        rintro e w86 ⟨rfl, hb86⟩
        refine hK.out _ _ hb86 ?_
        clear hK K
        try simp only [Act.put, fZ, fI, List.setIfInBounds_toArray, List.set_cons_zero, List.set_cons_succ]
        have hS87 := hst69 _ _ hb86 hS85
        clear hS85
        refine wpFl_take (S := s69_) (v := ?_) hst69 hS87 10 rfl (by kernel_rfl) (fun _ _ _ h => h) (Or.inl ⟨by rfl, ?_⟩) ?_
        rotate_left
        · intro w_ hSw; rw [Hs69_.out] at hSw; (try dsimp only at hSw); go_simp; (first | done | with_reducible rfl)
        try simp only [Act.put, fZ, fI, List.setIfInBounds_toArray, List.set_cons_zero, List.set_cons_succ]
        refine wpFl_take (S := s69_) (v := ?_) hst69 hS87 11 rfl (by kernel_rfl) (fun _ _ _ h => h) (Or.inl ⟨by rfl, ?_⟩) ?_
        rotate_left
        · intro w_ hSw; rw [Hs69_.out] at hSw; (try dsimp only at hSw); go_simp; (first | done | with_reducible rfl)
        try simp only [Act.put, fZ, fI, List.setIfInBounds_toArray, List.set_cons_zero, List.set_cons_succ]
        refine wpFl_take (S := s69_) (v := ?_) hst69 hS87 12 rfl (by kernel_rfl) (fun _ _ _ h => h) (Or.inl ⟨by rfl, ?_⟩) ?_
        rotate_left
        · intro w_ hSw; rw [Hs69_.out] at hSw; (try dsimp only at hSw); go_simp; (first | done | with_reducible rfl)
        try simp only [Act.put, fZ, fI, List.setIfInBounds_toArray, List.set_cons_zero, List.set_cons_succ]
        refine wpFl_take (S := s69_) (v := ?_) hst69 hS87 13 rfl (by kernel_rfl) (fun _ _ _ h => h) (Or.inl ⟨by rfl, ?_⟩) ?_
        rotate_left
        · intro w_ hSw; rw [Hs69_.out] at hSw; (try dsimp only at hSw); go_simp; (first | done | with_reducible rfl)
        try simp only [Act.put, fZ, fI, List.setIfInBounds_toArray, List.set_cons_zero, List.set_cons_succ]
        refine wpFl_take (S := s69_) (v := ?_) hst69 hS87 14 rfl (by kernel_rfl) (fun _ _ _ h => h) (Or.inl ⟨by rfl, ?_⟩) ?_
        rotate_left
        · intro w_ hSw; rw [Hs69_.out] at hSw; (try dsimp only at hSw); go_simp; (first | done | with_reducible rfl)
        try simp only [Act.put, fZ, fI, List.setIfInBounds_toArray, List.set_cons_zero, List.set_cons_succ]
        refine wpFl_take (S := s69_) (v := ?_) hst69 hS87 17 rfl (by kernel_rfl) (fun _ _ _ h => h) (Or.inl ⟨by rfl, ?_⟩) ?_
        rotate_left
        · intro w_ hSw; rw [Hs69_.out] at hSw; (try dsimp only at hSw); go_simp; (first | done | with_reducible rfl)
        try simp only [Act.put, fZ, fI, List.setIfInBounds_toArray, List.set_cons_zero, List.set_cons_succ]
        refine wpFl_call 15 rfl (by kernel_rfl) (fun w88 hg88 K hK => ?_)
        have hS89 := hst69 _ _ hg88 hS87
        clear hS87
        go_simp
        refine (sub_as (((((((((((((((((qa.alloc (.cells #[.bool ba, .slice Aa ma ca] 25)).alloc (.cells #[.bool bb, .slice Ab mb cb] 25)).alloc (.cells #[.bool bc, .slice Ac mc cc] 25)).below hb1).below hb5).below hW31).below hW63).below hg70).below hg72).below hb74).below hg76).below hb78).below hg80).below hb82).below hg84).below hb86).below hg88) (((((((((((((((((qb.alloc (.cells #[.bool ba, .slice Aa ma ca] 25)).alloc (.cells #[.bool bb, .slice Ab mb cb] 25)).alloc (.cells #[.bool bc, .slice Ac mc cc] 25)).below hb1).below hb5).below hW31).below hW63).below hg70).below hg72).below hb74).below hg76).below hb78).below hg80).below hb82).below hg84).below hb86).below hg88) (by decide) (by decide) He5).mono ?_
        rintro e w90 ⟨b90, A90, m90, c90, rfl, q90, hb90⟩
        refine hK.out _ _ hb90 ?_
        clear hK K
        try simp only [Act.put, fZ, fI, List.setIfInBounds_toArray, List.set_cons_zero, List.set_cons_succ]
        have hS91 := hst69 _ _ hb90 hS89
        clear hS89
        refine wpFl_call 16 rfl (by kernel_rfl) (fun w92 hg92 K hK => ?_)
        have hS93 := hst69 _ _ hg92 hS91
        clear hS91
        go_simp
        refine (sgn_as (q90.below hg92).zi H4).mono ?_
        rintro e w94 ⟨rfl, hb94⟩
        refine hK.out _ _ hb94 ?_
        clear hK K
        try simp only [Act.put, fZ, fI, List.setIfInBounds_toArray, List.set_cons_zero, List.set_cons_succ]
        have hS95 := hst69 _ _ hb94 hS93
        clear hS93
        refine wpFl_take (S := s69_) (v := ?_) hst69 hS95 18 rfl (by kernel_rfl) (fun _ _ _ h => h) (Or.inl ⟨by rfl, ?_⟩) ?_
        rotate_left
        · intro w_ hSw; rw [Hs69_.out] at hSw; (try dsimp only at hSw); go_simp; (first | done | with_reducible rfl)
        try simp only [Act.put, fZ, fI, List.setIfInBounds_toArray, List.set_cons_zero, List.set_cons_succ]
        refine wpFl_take (S := s69_) (v := ?_) hst69 hS95 19 rfl (by kernel_rfl) (fun _ _ _ h => h) (Or.inl ⟨by rfl, ?_⟩) ?_
        rotate_left
        · intro w_ hSw; rw [Hs69_.out] at hSw; (try dsimp only at hSw); go_simp; (first | done | with_reducible rfl)
        try simp only [Act.put, fZ, fI, List.setIfInBounds_toArray, List.set_cons_zero, List.set_cons_succ]
        refine wpFl_take (S := s69_) (v := ?_) hst69 hS95 20 rfl (by kernel_rfl) (fun _ _ _ h => h) (Or.inl ⟨by rfl, ?_⟩) ?_
        rotate_left
        · intro w_ hSw; rw [Hs69_.out] at hSw; (try dsimp only at hSw); go_simp; (first | done | with_reducible rfl)
        try simp only [Act.put, fZ, fI, List.setIfInBounds_toArray, List.set_cons_zero, List.set_cons_succ]
        refine wpFl_end0 (fun w96 hg96 => ?_)
        try simp only [Act.put, fZ, fI, List.setIfInBounds_toArray, List.set_cons_zero, List.set_cons_succ]
        clear hS95 hst69
        have hW97 := below_then hg70 hg70.size hg72
        have hW98 := below_then hW97 hW97.size hb74
        have hW99 := below_then hW98 hW98.size hg76
        have hW100 := below_then hW99 hW99.size hb78
        have hW101 := below_then hW100 hW100.size hg80
        have hW102 := below_then hW101 hW101.size hb82
        have hW103 := below_then hW102 hW102.size hg84
        have hW104 := below_then hW103 hW103.size hb86
        have hW105 := below_then hW104 hW104.size hg88
        have hW106 := below_then hW105 hW105.size hb90
        have hW107 := below_then hW106 hW106.size hg92
        have hW108 := below_then hW107 hW107.size hb94
        have hW109 := below_then hW108 hW108.size hg96
        have f110 := (((((((((((q74.below hg76).below hb78).below hg80).below hb82).below hg84).below hb86).below hg88).below hb90).below hg92).below hb94).below hg96)
        have f111 := (((((((((q78.below hg80).below hb82).below hg84).below hb86).below hg88).below hb90).below hg92).below hb94).below hg96)
        have f112 := (((q90.below hg92).below hb94).below hg96)
        replace q74 := f110
        clear f110
        replace q78 := f111
        clear f111
        replace q90 := f112
        clear f112
        have HB8 := below_then HB7 HB7.size hW109
        have k113 := (k66.below hW109)
        have k113a := k113.c0
        have k113b := k113.c1
        have k114 := (k67.below hW109)
        have k114a := k114.c0
        have k114b := k114.c1
        have k115 := (k68.below hW109)
        have k115a := k115.c0
        have k115b := k115.c1
        refine wpList_nil ?_
        go_wp2_with fail
        go_ret
        exact ⟨rfl, HB8⟩
      · skip
        have d1 : decide (x ≤ 0) = true := decide_eq_true (by omega)
        have d2 : decide (y ≤ 0) = false := decide_eq_false (by omega)
        clear hx hy
        have bxa := Box.new w 25 (.bool ba) (.slice Aa ma ca)
        have bxb := Box.new1 w (.cells #[.bool ba, .slice Aa ma ca] 25) 25 (.bool bb) (.slice Ab mb cb)
        have bxc := Box.new2 w (.cells #[.bool ba, .slice Aa ma ca] 25) (.cells #[.bool bb, .slice Ab mb cb] 25) 25 (.bool bc) (.slice Ac mc cc)
        go_enter Try.func6, Try.ntmps6
        go_wp2_with fail
        refine (lawake _).mono ?_
        rintro e w1 ⟨rfl, hb1⟩
        have HB1 := below_alloc (Below.refl w.heap.size w) (.cells #[.bool ba, .slice Aa ma ca] 25)
        have HB2 := below_alloc HB1 (.cells #[.bool bb, .slice Ab mb cb] 25)
        have HB3 := below_alloc HB2 (.cells #[.bool bc, .slice Ac mc cc] 25)
        have HB4 := below_then HB3 HB3.size hb1
        have k2 := (((bxa.alloc (.cells #[.bool bb, .slice Ab mb cb] 25)).alloc (.cells #[.bool bc, .slice Ac mc cc] 25)).below hb1)
        have k2a := k2.c0
        have k2b := k2.c1
        have k3 := ((bxb.alloc (.cells #[.bool bc, .slice Ac mc cc] 25)).below hb1)
        have k3a := k3.c0
        have k3b := k3.c1
        have k4 := (bxc.below hb1)
        have k4a := k4.c0
        have k4b := k4.c1
        go_wp2_with fail
        refine (lfew_as 8 HF).mono ?_
        rintro e w5 ⟨rfl, hb5⟩
        have HB5 := below_then HB4 HB4.size hb5
        clear k2a k2b k3a k3b k4a k4b
        have k6 := (k2.below hb5)
        have k6a := k6.c0
        have k6b := k6.c1
        have k7 := (k3.below hb5)
        have k7a := k7.c0
        have k7b := k7.c1
        have k8 := (k4.below hb5)
        have k8a := k8.c0
        have k8b := k8.c1
        go_wp2_with fail
        have hst9 : ∀ w1_ w2_ : World, Below w1_.heap.size w1_ w2_ → (w1_.cell? ⟨w.heap.size, 0, none⟩ = some (.bool ba) ∧ w1_.cell? ⟨w.heap.size, 1, none⟩ = some (.slice Aa ma ca) ∧ w1_.cell? ⟨(w.heap.size + 1), 0, none⟩ = some (.bool bb) ∧ w1_.cell? ⟨(w.heap.size + 1), 1, none⟩ = some (.slice Ab mb cb) ∧ w1_.cell? ⟨(w.heap.size + 2), 0, none⟩ = some (.bool bc) ∧ w1_.cell? ⟨(w.heap.size + 2), 1, none⟩ = some (.slice Ac mc cc)) → (w2_.cell? ⟨w.heap.size, 0, none⟩ = some (.bool ba) ∧ w2_.cell? ⟨w.heap.size, 1, none⟩ = some (.slice Aa ma ca) ∧ w2_.cell? ⟨(w.heap.size + 1), 0, none⟩ = some (.bool bb) ∧ w2_.cell? ⟨(w.heap.size + 1), 1, none⟩ = some (.slice Ab mb cb) ∧ w2_.cell? ⟨(w.heap.size + 2), 0, none⟩ = some (.bool bc) ∧ w2_.cell? ⟨(w.heap.size + 2), 1, none⟩ = some (.slice Ac mc cc)) := fun _ _ hb_ h_ => ⟨pw_cell_below hb_ h_.1, pw_cell_below hb_ h_.2.1, pw_cell_below hb_ h_.2.2.1, pw_cell_below hb_ h_.2.2.2.1, pw_cell_below hb_ h_.2.2.2.2.1, pw_cell_below hb_ h_.2.2.2.2.2⟩
        have hS9 : w5.cell? ⟨w.heap.size, 0, none⟩ = some (.bool ba) ∧ w5.cell? ⟨w.heap.size, 1, none⟩ = some (.slice Aa ma ca) ∧ w5.cell? ⟨(w.heap.size + 1), 0, none⟩ = some (.bool bb) ∧ w5.cell? ⟨(w.heap.size + 1), 1, none⟩ = some (.slice Ab mb cb) ∧ w5.cell? ⟨(w.heap.size + 2), 0, none⟩ = some (.bool bc) ∧ w5.cell? ⟨(w.heap.size + 2), 1, none⟩ = some (.slice Ac mc cc) := ⟨k6.c0, k6.c1, k7.c0, k7.c1, k8.c0, k8.c1⟩
        obtain ⟨s9_, hs9_⟩ : ∃ S_ : World → Prop, S_ = (fun w_ => w_.cell? ⟨w.heap.size, 0, none⟩ = some (.bool ba) ∧ w_.cell? ⟨w.heap.size, 1, none⟩ = some (.slice Aa ma ca) ∧ w_.cell? ⟨(w.heap.size + 1), 0, none⟩ = some (.bool bb) ∧ w_.cell? ⟨(w.heap.size + 1), 1, none⟩ = some (.slice Ab mb cb) ∧ w_.cell? ⟨(w.heap.size + 2), 0, none⟩ = some (.bool bc) ∧ w_.cell? ⟨(w.heap.size + 2), 1, none⟩ = some (.slice Ac mc cc)) := ⟨_, rfl⟩
        have Hs9_ := Lib.hid hs9_
        replace hst9 : ∀ w1_ w2_ : World, Below w1_.heap.size w1_ w2_ → s9_ w1_ → s9_ w2_ := by rw [hs9_]; exact hst9
        replace hS9 : s9_ w5 := by rw [hs9_]; exact hS9
        clear hs9_
        clear k6a k6b k7a k7b k8a k8b
        refine wp_region_flt [] [0, 1, 2, 3, 4, 5, 6, 7, 8, 9, 10, 11] [] [] 12 (by kernel_rfl) (by kernel_rfl) .nil isFlt0 (fun c_ a_ a'_ w_ hd_ h_ => by first | exact ⟨hd_.trans h_.1, h_.2⟩ | exact h_) (fun w10 hg10 => ?_)
        have hS11 := hst9 _ _ hg10 hS9
        clear hS9
        refine wpFl_take (S := s9_) (v := ?_) hst9 hS11 0 rfl (by kernel_rfl) (fun _ _ _ h => h) (Or.inl ⟨by rfl, ?_⟩) ?_
        rotate_left
        · intro w_ hSw; rw [Hs9_.out] at hSw; (try dsimp only at hSw); go_simp; (first | done | with_reducible rfl)
        try simp only [Act.put, fZ, fI, List.setIfInBounds_toArray, List.set_cons_zero, List.set_cons_succ]
        refine wpFl_take (S := s9_) (v := ?_) hst9 hS11 1 rfl (by kernel_rfl) (fun _ _ _ h => h) (Or.inl ⟨by rfl, ?_⟩) ?_
        rotate_left
        · intro w_ hSw; rw [Hs9_.out] at hSw; (try dsimp only at hSw); go_simp; (first | done | with_reducible rfl)
        try simp only [Act.put, fZ, fI, List.setIfInBounds_toArray, List.set_cons_zero, List.set_cons_succ]
        refine wpFl_take (S := s9_) (v := ?_) hst9 hS11 3 rfl (by kernel_rfl) (fun _ _ _ h => h) (Or.inl ⟨by rfl, ?_⟩) ?_
        rotate_left
        · intro w_ hSw; rw [Hs9_.out] at hSw; (try dsimp only at hSw); go_simp; (first | done | with_reducible rfl)
        try simp only [Act.put, fZ, fI, List.setIfInBounds_toArray, List.set_cons_zero, List.set_cons_succ]
        refine wpFl_take (S := s9_) (v := ?_) hst9 hS11 4 rfl (by kernel_rfl) (fun _ _ _ h => h) (Or.inl ⟨by rfl, ?_⟩) ?_
        rotate_left
        · intro w_ hSw; rw [Hs9_.out] at hSw; (try dsimp only at hSw); go_simp; (first | done | with_reducible rfl)
        try simp only [Act.put, fZ, fI, List.setIfInBounds_toArray, List.set_cons_zero, List.set_cons_succ]
        refine wpFl_take (S := s9_) (v := ?_) hst9 hS11 6 rfl (by kernel_rfl) (fun _ _ _ h => h) (Or.inl ⟨by rfl, ?_⟩) ?_
        rotate_left
        · intro w_ hSw; rw [Hs9_.out] at hSw; (try dsimp only at hSw); go_simp; (first | done | with_reducible rfl)
        try simp only [Act.put, fZ, fI, List.setIfInBounds_toArray, List.set_cons_zero, List.set_cons_succ]
        refine wpFl_take (S := s9_) (v := ?_) hst9 hS11 7 rfl (by kernel_rfl) (fun _ _ _ h => h) (Or.inl ⟨by rfl, ?_⟩) ?_
        rotate_left
        · intro w_ hSw; rw [Hs9_.out] at hSw; (try dsimp only at hSw); go_simp; (first | done | with_reducible rfl)
        try simp only [Act.put, fZ, fI, List.setIfInBounds_toArray, List.set_cons_zero, List.set_cons_succ]
        refine wpFl_call 2 rfl (by kernel_rfl) (fun w12 hg12 K hK => ?_)
        have hS13 := hst9 _ _ hg12 hS11
        clear hS11
        go_simp
        refine (cmp_as (((((((qa.alloc (.cells #[.bool ba, .slice Aa ma ca] 25)).alloc (.cells #[.bool bb, .slice Ab mb cb] 25)).alloc (.cells #[.bool bc, .slice Ac mc cc] 25)).below hb1).below hb5).below hg10).below hg12) (((((((qb.alloc (.cells #[.bool ba, .slice Aa ma ca] 25)).alloc (.cells #[.bool bb, .slice Ab mb cb] 25)).alloc (.cells #[.bool bc, .slice Ac mc cc] 25)).below hb1).below hb5).below hg10).below hg12) Hx).mono ?_
        rintro e w14 ⟨rfl, hb14⟩
        refine hK.out _ _ hb14 ?_
        clear hK K
        try simp only [Act.put, fZ, fI, List.setIfInBounds_toArray, List.set_cons_zero, List.set_cons_succ]
        have hS15 := hst9 _ _ hb14 hS13
        clear hS13
        refine wpFl_call 5 rfl (by kernel_rfl) (fun w16 hg16 K hK => ?_)
        have hS17 := hst9 _ _ hg16 hS15
        clear hS15
        go_simp
        refine (cmp_as (((((((((qb.alloc (.cells #[.bool ba, .slice Aa ma ca] 25)).alloc (.cells #[.bool bb, .slice Ab mb cb] 25)).alloc (.cells #[.bool bc, .slice Ac mc cc] 25)).below hb1).below hb5).below hg10).below hg12).below hb14).below hg16) (((((((((qc.alloc (.cells #[.bool ba, .slice Aa ma ca] 25)).alloc (.cells #[.bool bb, .slice Ab mb cb] 25)).alloc (.cells #[.bool bc, .slice Ac mc cc] 25)).below hb1).below hb5).below hg10).below hg12).below hb14).below hg16) Hy).mono ?_
        rintro e w18 ⟨rfl, hb18⟩
        refine hK.out _ _ hb18 ?_
        clear hK K
        try simp only [Act.put, fZ, fI, List.setIfInBounds_toArray, List.set_cons_zero, List.set_cons_succ]
        have hS19 := hst9 _ _ hb18 hS17
        clear hS17
        refine wpFl_call 8 rfl (by kernel_rfl) (fun w20 hg20 K hK => ?_)
        have hS21 := hst9 _ _ hg20 hS19
        clear hS19
        go_simp
        refine (cmp_as (((((((((((qa.alloc (.cells #[.bool ba, .slice Aa ma ca] 25)).alloc (.cells #[.bool bb, .slice Ab mb cb] 25)).alloc (.cells #[.bool bc, .slice Ac mc cc] 25)).below hb1).below hb5).below hg10).below hg12).below hb14).below hg16).below hb18).below hg20) (((((((((((qc.alloc (.cells #[.bool ba, .slice Aa ma ca] 25)).alloc (.cells #[.bool bb, .slice Ab mb cb] 25)).alloc (.cells #[.bool bc, .slice Ac mc cc] 25)).below hb1).below hb5).below hg10).below hg12).below hb14).below hg16).below hb18).below hg20) Hz).mono ?_
        rintro e w22 ⟨rfl, hb22⟩
        refine hK.out _ _ hb22 ?_
        clear hK K
        try simp only [Act.put, fZ, fI, List.setIfInBounds_toArray, List.set_cons_zero, List.set_cons_succ]
        have hS23 := hst9 _ _ hb22 hS21
        clear hS21
        refine wpFl_take (S := s9_) (v := ?_) hst9 hS23 9 rfl (by kernel_rfl) (fun _ _ _ h => h) (Or.inl ⟨by rfl, ?_⟩) ?_
        rotate_left
        · intro w_ hSw; rw [Hs9_.out] at hSw; (try dsimp only at hSw); go_simp; (first | done | with_reducible rfl)
        try simp only [Act.put, fZ, fI, List.setIfInBounds_toArray, List.set_cons_zero, List.set_cons_succ]
        refine wpFl_take (S := s9_) (v := ?_) hst9 hS23 10 rfl (by kernel_rfl) (fun _ _ _ h => h) (Or.inl ⟨by rfl, ?_⟩) ?_
        rotate_left
        · intro w_ hSw; rw [Hs9_.out] at hSw; (try dsimp only at hSw); go_simp; (first | done | with_reducible rfl)
        try simp only [Act.put, fZ, fI, List.setIfInBounds_toArray, List.set_cons_zero, List.set_cons_succ]
        refine wpFl_take (S := s9_) (v := ?_) hst9 hS23 11 rfl (by kernel_rfl) (fun _ _ _ h => h) (Or.inl ⟨by rfl, ?_⟩) ?_
        rotate_left
        · intro w_ hSw; rw [Hs9_.out] at hSw; (try dsimp only at hSw); go_simp; (first | done | with_reducible rfl)
        try simp only [Act.put, fZ, fI, List.setIfInBounds_toArray, List.set_cons_zero, List.set_cons_succ]
        refine wpFl_end0 (fun w24 hg24 => ?_)
        try simp only [Act.put, fZ, fI, List.setIfInBounds_toArray, List.set_cons_zero, List.set_cons_succ]
        clear hS23 hst9
        have hW25 := below_then hg10 hg10.size hg12
        have hW26 := below_then hW25 hW25.size hb14
        have hW27 := below_then hW26 hW26.size hg16
        have hW28 := below_then hW27 hW27.size hb18
        have hW29 := below_then hW28 hW28.size hg20
        have hW30 := below_then hW29 hW29.size hb22
        have hW31 := below_then hW30 hW30.size hg24
        have HB6 := below_then HB5 HB5.size hW31
        have k32 := (k6.below hW31)
        have k32a := k32.c0
        have k32b := k32.c1
        have k33 := (k7.below hW31)
        have k33a := k33.c0
        have k33b := k33.c1
        have k34 := (k8.below hW31)
        have k34a := k34.c0
        have k34b := k34.c1
        refine wpList_nil ?_
        go_wp2_with fail
        have hst35 : ∀ w1_ w2_ : World, Below w1_.heap.size w1_ w2_ → (w1_.cell? ⟨w.heap.size, 0, none⟩ = some (.bool ba) ∧ w1_.cell? ⟨w.heap.size, 1, none⟩ = some (.slice Aa ma ca) ∧ w1_.cell? ⟨(w.heap.size + 1), 0, none⟩ = some (.bool bb) ∧ w1_.cell? ⟨(w.heap.size + 1), 1, none⟩ = some (.slice Ab mb cb) ∧ w1_.cell? ⟨(w.heap.size + 2), 0, none⟩ = some (.bool bc) ∧ w1_.cell? ⟨(w.heap.size + 2), 1, none⟩ = some (.slice Ac mc cc)) → (w2_.cell? ⟨w.heap.size, 0, none⟩ = some (.bool ba) ∧ w2_.cell? ⟨w.heap.size, 1, none⟩ = some (.slice Aa ma ca) ∧ w2_.cell? ⟨(w.heap.size + 1), 0, none⟩ = some (.bool bb) ∧ w2_.cell? ⟨(w.heap.size + 1), 1, none⟩ = some (.slice Ab mb cb) ∧ w2_.cell? ⟨(w.heap.size + 2), 0, none⟩ = some (.bool bc) ∧ w2_.cell? ⟨(w.heap.size + 2), 1, none⟩ = some (.slice Ac mc cc)) := fun _ _ hb_ h_ => ⟨pw_cell_below hb_ h_.1, pw_cell_below hb_ h_.2.1, pw_cell_below hb_ h_.2.2.1, pw_cell_below hb_ h_.2.2.2.1, pw_cell_below hb_ h_.2.2.2.2.1, pw_cell_below hb_ h_.2.2.2.2.2⟩
        have hS35 : w24.cell? ⟨w.heap.size, 0, none⟩ = some (.bool ba) ∧ w24.cell? ⟨w.heap.size, 1, none⟩ = some (.slice Aa ma ca) ∧ w24.cell? ⟨(w.heap.size + 1), 0, none⟩ = some (.bool bb) ∧ w24.cell? ⟨(w.heap.size + 1), 1, none⟩ = some (.slice Ab mb cb) ∧ w24.cell? ⟨(w.heap.size + 2), 0, none⟩ = some (.bool bc) ∧ w24.cell? ⟨(w.heap.size + 2), 1, none⟩ = some (.slice Ac mc cc) := ⟨k32.c0, k32.c1, k33.c0, k33.c1, k34.c0, k34.c1⟩
        obtain ⟨s35_, hs35_⟩ : ∃ S_ : World → Prop, S_ = (fun w_ => w_.cell? ⟨w.heap.size, 0, none⟩ = some (.bool ba) ∧ w_.cell? ⟨w.heap.size, 1, none⟩ = some (.slice Aa ma ca) ∧ w_.cell? ⟨(w.heap.size + 1), 0, none⟩ = some (.bool bb) ∧ w_.cell? ⟨(w.heap.size + 1), 1, none⟩ = some (.slice Ab mb cb) ∧ w_.cell? ⟨(w.heap.size + 2), 0, none⟩ = some (.bool bc) ∧ w_.cell? ⟨(w.heap.size + 2), 1, none⟩ = some (.slice Ac mc cc)) := ⟨_, rfl⟩
        have Hs35_ := Lib.hid hs35_
        replace hst35 : ∀ w1_ w2_ : World, Below w1_.heap.size w1_ w2_ → s35_ w1_ → s35_ w2_ := by rw [hs35_]; exact hst35
        replace hS35 : s35_ w24 := by rw [hs35_]; exact hS35
        clear hs35_
        clear k32a k32b k33a k33b k34a k34b
        refine wp_region_flt [] [0, 1, 2, 3, 4, 5, 6, 7, 8, 9, 10, 11, 12, 13, 14, 15, 16, 17, 18, 19, 20, 21, 22, 23, 24, 25, 26, 27, 28] [] [] 29 (by kernel_rfl) (by kernel_rfl) .nil isFlt0 (fun c_ a_ a'_ w_ hd_ h_ => by first | exact ⟨hd_.trans h_.1, h_.2⟩ | exact h_) (fun w36 hg36 => ?_)
        have hS37 := hst35 _ _ hg36 hS35
        clear hS35
        refine wpFl_take (S := s35_) (v := ?_) hst35 hS37 0 rfl (by kernel_rfl) (fun _ _ _ h => h) (Or.inl ⟨by rfl, ?_⟩) ?_
        rotate_left
        · intro w_ hSw; rw [Hs35_.out] at hSw; (try dsimp only at hSw); go_simp; (first | done | with_reducible rfl)
        try simp only [Act.put, fZ, fI, List.setIfInBounds_toArray, List.set_cons_zero, List.set_cons_succ]
        refine wpFl_take (S := s35_) (v := ?_) hst35 hS37 1 rfl (by kernel_rfl) (fun _ _ _ h => h) (Or.inl ⟨by rfl, ?_⟩) ?_
        rotate_left
        · intro w_ hSw; rw [Hs35_.out] at hSw; (try dsimp only at hSw); go_simp; (first | done | with_reducible rfl)
        try simp only [Act.put, fZ, fI, List.setIfInBounds_toArray, List.set_cons_zero, List.set_cons_succ]
        refine wpFl_take (S := s35_) (v := ?_) hst35 hS37 3 rfl (by kernel_rfl) (fun _ _ _ h => h) (Or.inl ⟨by rfl, ?_⟩) ?_
        rotate_left
        · intro w_ hSw; rw [Hs35_.out] at hSw; (try dsimp only at hSw); go_simp; (first | done | with_reducible rfl)
        try simp only [Act.put, fZ, fI, List.setIfInBounds_toArray, List.set_cons_zero, List.set_cons_succ]
        refine wpFl_take (S := s35_) (v := ?_) hst35 hS37 4 rfl (by kernel_rfl) (fun _ _ _ h => h) (Or.inl ⟨by rfl, ?_⟩) ?_
        rotate_left
        · intro w_ hSw; rw [Hs35_.out] at hSw; (try dsimp only at hSw); go_simp; (first | done | with_reducible rfl)
        try simp only [Act.put, fZ, fI, List.setIfInBounds_toArray, List.set_cons_zero, List.set_cons_succ]
        refine wpFl_call 2 rfl (by kernel_rfl) (fun w38 hg38 K hK => ?_)
        have hS39 := hst35 _ _ hg38 hS37
        clear hS37
        go_simp
        refine (cmp_as ((((((((qb.alloc (.cells #[.bool ba, .slice Aa ma ca] 25)).alloc (.cells #[.bool bb, .slice Ab mb cb] 25)).alloc (.cells #[.bool bc, .slice Ac mc cc] 25)).below hb1).below hb5).below hW31).below hg36).below hg38) ((((((((qa.alloc (.cells #[.bool ba, .slice Aa ma ca] 25)).alloc (.cells #[.bool bb, .slice Ab mb cb] 25)).alloc (.cells #[.bool bc, .slice Ac mc cc] 25)).below hb1).below hb5).below hW31).below hg36).below hg38) H1).mono ?_
        rintro e w40 ⟨rfl, hb40⟩
        refine hK.out _ _ hb40 ?_
        clear hK K
        try simp only [Act.put, fZ, fI, List.setIfInBounds_toArray, List.set_cons_zero, List.set_cons_succ]
        have hS41 := hst35 _ _ hb40 hS39
        clear hS39
        refine wpFl_take (S := s35_) (v := ?_) hst35 hS41 5 rfl (by kernel_rfl) (fun _ _ _ h => h) (Or.inl ⟨by rfl, ?_⟩) ?_
        rotate_left
        · intro w_ hSw; rw [Hs35_.out] at hSw; (try dsimp only at hSw); go_simp; (first | done | with_reducible rfl)
        try simp only [Act.put, fZ, fI, List.setIfInBounds_toArray, List.set_cons_zero, List.set_cons_succ]
        refine wpFl_take (S := s35_) (v := ?_) hst35 hS41 6 rfl (by kernel_rfl) (fun _ _ _ h => h) (Or.inl ⟨by rfl, ?_⟩) ?_
        rotate_left
        · intro w_ hSw; rw [Hs35_.out] at hSw; (try dsimp only at hSw); go_simp; (first | done | with_reducible rfl)
        try simp only [Act.put, fZ, fI, List.setIfInBounds_toArray, List.set_cons_zero, List.set_cons_succ]
        refine wpFl_take (S := s35_) (v := ?_) hst35 hS41 7 rfl (by kernel_rfl) (fun _ _ _ h => h) (Or.inl ⟨by rfl, ?_⟩) ?_
        rotate_left
        · intro w_ hSw; rw [Hs35_.out] at hSw; (try dsimp only at hSw); go_simp; (first | done | with_reducible rfl)
        try simp only [Act.put, fZ, fI, List.setIfInBounds_toArray, List.set_cons_zero, List.set_cons_succ]
        refine wpFl_take (S := s35_) (v := ?_) hst35 hS41 8 rfl (by kernel_rfl) (fun _ _ _ h => h) (Or.inl ⟨by rfl, ?_⟩) ?_
        rotate_left
        · intro w_ hSw; rw [Hs35_.out] at hSw; (try dsimp only at hSw); go_simp; (first | done | with_reducible rfl)
        try simp only [Act.put, fZ, fI, List.setIfInBounds_toArray, List.set_cons_zero, List.set_cons_succ]
        refine wpFl_take (S := s35_) (v := ?_) hst35 hS41 9 rfl (by kernel_rfl) (fun _ _ _ h => h) (Or.inl ⟨by rfl, ?_⟩) ?_
        rotate_left
        · intro w_ hSw; rw [Hs35_.out] at hSw; (try dsimp only at hSw); go_simp; (first | done | with_reducible rfl)
        try simp only [Act.put, fZ, fI, List.setIfInBounds_toArray, List.set_cons_zero, List.set_cons_succ]
        refine wpFl_take (S := s35_) (v := ?_) hst35 hS41 10 rfl (by kernel_rfl) (fun _ _ _ h => h) (Or.inl ⟨by rfl, ?_⟩) ?_
        rotate_left
        · intro w_ hSw; rw [Hs35_.out] at hSw; (try dsimp only at hSw); go_simp; (first | done | with_reducible rfl)
        try simp only [Act.put, fZ, fI, List.setIfInBounds_toArray, List.set_cons_zero, List.set_cons_succ]
        refine wpFl_take (S := s35_) (v := ?_) hst35 hS41 11 rfl (by kernel_rfl) (fun _ _ _ h => h) (Or.inl ⟨by rfl, ?_⟩) ?_
        rotate_left
        · intro w_ hSw; rw [Hs35_.out] at hSw; (try dsimp only at hSw); go_simp; (first | done | with_reducible rfl)
        try simp only [Act.put, fZ, fI, List.setIfInBounds_toArray, List.set_cons_zero, List.set_cons_succ]
        refine wpFl_take (S := s35_) (v := ?_) hst35 hS41 12 rfl (by kernel_rfl) (fun _ _ _ h => h) (Or.inl ⟨by rfl, ?_⟩) ?_
        rotate_left
        · intro w_ hSw; rw [Hs35_.out] at hSw; (try dsimp only at hSw); go_simp; (first | done | with_reducible rfl)
        try simp only [Act.put, fZ, fI, List.setIfInBounds_toArray, List.set_cons_zero, List.set_cons_succ]
        refine wpFl_take (S := s35_) (v := ?_) hst35 hS41 13 rfl (by kernel_rfl) (fun _ _ _ h => h) (Or.inl ⟨by rfl, ?_⟩) ?_
        rotate_left
        · intro w_ hSw; rw [Hs35_.out] at hSw; (try dsimp only at hSw); go_simp; (first | done | with_reducible rfl)
        try simp only [Act.put, fZ, fI, List.setIfInBounds_toArray, List.set_cons_zero, List.set_cons_succ]
        refine wpFl_take (S := s35_) (v := undef) hst35 hS41 14 rfl (by kernel_rfl) (fun _ _ _ h => h) (Or.inr ⟨by rfl, rfl⟩) ?_
        try simp only [Act.put, List.setIfInBounds_toArray, List.set_cons_zero, List.set_cons_succ]
        refine wpFl_take (S := s35_) (v := undef) hst35 hS41 15 rfl (by kernel_rfl) (fun _ _ _ h => h) (Or.inr ⟨by rfl, rfl⟩) ?_
        try simp only [Act.put, List.setIfInBounds_toArray, List.set_cons_zero, List.set_cons_succ]
        refine wpFl_take (S := s35_) (v := ?_) hst35 hS41 16 rfl (by kernel_rfl) (fun _ _ _ h => h) (Or.inl ⟨by rfl, ?_⟩) ?_
        rotate_left
        · intro w_ hSw; rw [Hs35_.out] at hSw; (try dsimp only at hSw); go_simp; (first | done | with_reducible rfl)
        try simp only [Act.put, fZ, fI, List.setIfInBounds_toArray, List.set_cons_zero, List.set_cons_succ]
        refine wpFl_take (S := s35_) (v := ?_) hst35 hS41 17 rfl (by kernel_rfl) (fun _ _ _ h => h) (Or.inl ⟨by rfl, ?_⟩) ?_
        rotate_left
        · intro w_ hSw; rw [Hs35_.out] at hSw; (try dsimp only at hSw); go_simp; (first | done | with_reducible rfl)
        try simp only [Act.put, fZ, fI, List.setIfInBounds_toArray, List.set_cons_zero, List.set_cons_succ]
        refine wpFl_take (S := s35_) (v := ?_) hst35 hS41 18 rfl (by kernel_rfl) (fun _ _ _ h => h) (Or.inl ⟨by rfl, ?_⟩) ?_
        rotate_left
        · intro w_ hSw; rw [Hs35_.out] at hSw; (try dsimp only at hSw); go_simp; (first | done | with_reducible rfl)
        try simp only [Act.put, fZ, fI, List.setIfInBounds_toArray, List.set_cons_zero, List.set_cons_succ]
        refine wpFl_take (S := s35_) (v := ?_) hst35 hS41 19 rfl (by kernel_rfl) (fun _ _ _ h => h) (Or.inl ⟨by rfl, ?_⟩) ?_
        rotate_left
        · intro w_ hSw; rw [Hs35_.out] at hSw; (try dsimp only at hSw); go_simp; (first | done | with_reducible rfl)
        try simp only [Act.put, fZ, fI, List.setIfInBounds_toArray, List.set_cons_zero, List.set_cons_succ]
        refine wpFl_take (S := s35_) (v := ?_) hst35 hS41 20 rfl (by kernel_rfl) (fun _ _ _ h => h) (Or.inl ⟨by rfl, ?_⟩) ?_
        rotate_left
        · intro w_ hSw; rw [Hs35_.out] at hSw; (try dsimp only at hSw); go_simp; (first | done | with_reducible rfl)
        try simp only [Act.put, fZ, fI, List.setIfInBounds_toArray, List.set_cons_zero, List.set_cons_succ]
        refine wpFl_take (S := s35_) (v := ?_) hst35 hS41 22 rfl (by kernel_rfl) (fun _ _ _ h => h) (Or.inl ⟨by rfl, ?_⟩) ?_
        rotate_left
        · intro w_ hSw; rw [Hs35_.out] at hSw; (try dsimp only at hSw); go_simp; (first | done | with_reducible rfl)
        try simp only [Act.put, fZ, fI, List.setIfInBounds_toArray, List.set_cons_zero, List.set_cons_succ]
        refine wpFl_take (S := s35_) (v := ?_) hst35 hS41 23 rfl (by kernel_rfl) (fun _ _ _ h => h) (Or.inl ⟨by rfl, ?_⟩) ?_
        rotate_left
        · intro w_ hSw; rw [Hs35_.out] at hSw; (try dsimp only at hSw); go_simp; (first | done | with_reducible rfl)
        try simp only [Act.put, fZ, fI, List.setIfInBounds_toArray, List.set_cons_zero, List.set_cons_succ]
        refine wpFl_take (S := s35_) (v := ?_) hst35 hS41 26 rfl (by kernel_rfl) (fun _ _ _ h => h) (Or.inl ⟨by rfl, ?_⟩) ?_
        rotate_left
        · intro w_ hSw; rw [Hs35_.out] at hSw; (try dsimp only at hSw); go_simp; (first | done | with_reducible rfl)
        try simp only [Act.put, fZ, fI, List.setIfInBounds_toArray, List.set_cons_zero, List.set_cons_succ]
        refine wpFl_call 21 rfl (by kernel_rfl) (fun w42 hg42 K hK => ?_)
        have hS43 := hst35 _ _ hg42 hS41
        clear hS41
        go_simp
        refine (add_as ((((((((((qa.alloc (.cells #[.bool ba, .slice Aa ma ca] 25)).alloc (.cells #[.bool bb, .slice Ab mb cb] 25)).alloc (.cells #[.bool bc, .slice Ac mc cc] 25)).below hb1).below hb5).below hW31).below hg36).below hg38).below hb40).below hg42) ((((((((((qc.alloc (.cells #[.bool ba, .slice Aa ma ca] 25)).alloc (.cells #[.bool bb, .slice Ab mb cb] 25)).alloc (.cells #[.bool bc, .slice Ac mc cc] 25)).below hb1).below hb5).below hW31).below hg36).below hg38).below hb40).below hg42) (by decide) (by decide) He1).mono ?_
        rintro e w44 ⟨b44, A44, m44, c44, rfl, q44, hb44⟩
        refine hK.out _ _ hb44 ?_
        clear hK K
        try simp only [Act.put, fZ, fI, List.setIfInBounds_toArray, List.set_cons_zero, List.set_cons_succ]
        have hS45 := hst35 _ _ hb44 hS43
        clear hS43
        refine wpFl_call 24 rfl (by kernel_rfl) (fun w46 hg46 K hK => ?_)
        have hS47 := hst35 _ _ hg46 hS45
        clear hS45
        go_simp
        refine (add_as ((((((((((((qb.alloc (.cells #[.bool ba, .slice Aa ma ca] 25)).alloc (.cells #[.bool bb, .slice Ab mb cb] 25)).alloc (.cells #[.bool bc, .slice Ac mc cc] 25)).below hb1).below hb5).below hW31).below hg36).below hg38).below hb40).below hg42).below hb44).below hg46) ((((((((((((qc.alloc (.cells #[.bool ba, .slice Aa ma ca] 25)).alloc (.cells #[.bool bb, .slice Ab mb cb] 25)).alloc (.cells #[.bool bc, .slice Ac mc cc] 25)).below hb1).below hb5).below hW31).below hg36).below hg38).below hb40).below hg42).below hb44).below hg46) (by decide) (by decide) He2).mono ?_
        rintro e w48 ⟨b48, A48, m48, c48, rfl, q48, hb48⟩
        refine hK.out _ _ hb48 ?_
        clear hK K
        try simp only [Act.put, fZ, fI, List.setIfInBounds_toArray, List.set_cons_zero, List.set_cons_succ]
        have hS49 := hst35 _ _ hb48 hS47
        clear hS47
        refine wpFl_call 25 rfl (by kernel_rfl) (fun w50 hg50 K hK => ?_)
        have hS51 := hst35 _ _ hg50 hS49
        clear hS49
        go_simp
        refine (cmp_as (((q44.below hg46).below hb48).below hg50).zi (q48.below hg50).zi H2).mono ?_
        rintro e w52 ⟨rfl, hb52⟩
        refine hK.out _ _ hb52 ?_
        clear hK K
        try simp only [Act.put, fZ, fI, List.setIfInBounds_toArray, List.set_cons_zero, List.set_cons_succ]
        have hS53 := hst35 _ _ hb52 hS51
        clear hS51
        refine wpFl_take (S := s35_) (v := ?_) hst35 hS53 27 rfl (by kernel_rfl) (fun _ _ _ h => h) (Or.inl ⟨by rfl, ?_⟩) ?_
        rotate_left
        · intro w_ hSw; rw [Hs35_.out] at hSw; (try dsimp only at hSw); go_simp; (first | done | with_reducible rfl)
        try simp only [Act.put, fZ, fI, List.setIfInBounds_toArray, List.set_cons_zero, List.set_cons_succ]
        refine wpFl_take (S := s35_) (v := ?_) hst35 hS53 28 rfl (by kernel_rfl) (fun _ _ _ h => h) (Or.inl ⟨by rfl, ?_⟩) ?_
        rotate_left
        · intro w_ hSw; rw [Hs35_.out] at hSw; (try dsimp only at hSw); go_simp; (first | done | with_reducible rfl)
        try simp only [Act.put, fZ, fI, List.setIfInBounds_toArray, List.set_cons_zero, List.set_cons_succ]
        refine wpFl_end0 (fun w54 hg54 => ?_)
        try simp only [Act.put, fZ, fI, List.setIfInBounds_toArray, List.set_cons_zero, List.set_cons_succ]
        clear hS53 hst35
        have hW55 := below_then hg36 hg36.size hg38
        have hW56 := below_then hW55 hW55.size hb40
        have hW57 := below_then hW56 hW56.size hg42
        have hW58 := below_then hW57 hW57.size hb44
        have hW59 := below_then hW58 hW58.size hg46
        have hW60 := below_then hW59 hW59.size hb48
        have hW61 := below_then hW60 hW60.size hg50
        have hW62 := below_then hW61 hW61.size hb52
        have hW63 := below_then hW62 hW62.size hg54
        have f64 := (((((q44.below hg46).below hb48).below hg50).below hb52).below hg54)
        have f65 := (((q48.below hg50).below hb52).below hg54)
        replace q44 := f64
        clear f64
        replace q48 := f65
        clear f65
        have HB7 := below_then HB6 HB6.size hW63
        have k66 := (k32.below hW63)
        have k66a := k66.c0
        have k66b := k66.c1
        have k67 := (k33.below hW63)
        have k67a := k67.c0
        have k67b := k67.c1
        have k68 := (k34.below hW63)
        have k68a := k68.c0
        have k68b := k68.c1
        refine wpList_nil ?_
        go_wp2_with fail
        have hst69 : ∀ w1_ w2_ : World, Below w1_.heap.size w1_ w2_ → (w1_.cell? ⟨w.heap.size, 0, none⟩ = some (.bool ba) ∧ w1_.cell? ⟨w.heap.size, 1, none⟩ = some (.slice Aa ma ca) ∧ w1_.cell? ⟨(w.heap.size + 1), 0, none⟩ = some (.bool bb) ∧ w1_.cell? ⟨(w.heap.size + 1), 1, none⟩ = some (.slice Ab mb cb) ∧ w1_.cell? ⟨(w.heap.size + 2), 0, none⟩ = some (.bool bc) ∧ w1_.cell? ⟨(w.heap.size + 2), 1, none⟩ = some (.slice Ac mc cc)) → (w2_.cell? ⟨w.heap.size, 0, none⟩ = some (.bool ba) ∧ w2_.cell? ⟨w.heap.size, 1, none⟩ = some (.slice Aa ma ca) ∧ w2_.cell? ⟨(w.heap.size + 1), 0, none⟩ = some (.bool bb) ∧ w2_.cell? ⟨(w.heap.size + 1), 1, none⟩ = some (.slice Ab mb cb) ∧ w2_.cell? ⟨(w.heap.size + 2), 0, none⟩ = some (.bool bc) ∧ w2_.cell? ⟨(w.heap.size + 2), 1, none⟩ = some (.slice Ac mc cc)) := fun _ _ hb_ h_ => ⟨pw_cell_below hb_ h_.1, pw_cell_below hb_ h_.2.1, pw_cell_below hb_ h_.2.2.1, pw_cell_below hb_ h_.2.2.2.1, pw_cell_below hb_ h_.2.2.2.2.1, pw_cell_below hb_ h_.2.2.2.2.2⟩
        have hS69 : w54.cell? ⟨w.heap.size, 0, none⟩ = some (.bool ba) ∧ w54.cell? ⟨w.heap.size, 1, none⟩ = some (.slice Aa ma ca) ∧ w54.cell? ⟨(w.heap.size + 1), 0, none⟩ = some (.bool bb) ∧ w54.cell? ⟨(w.heap.size + 1), 1, none⟩ = some (.slice Ab mb cb) ∧ w54.cell? ⟨(w.heap.size + 2), 0, none⟩ = some (.bool bc) ∧ w54.cell? ⟨(w.heap.size + 2), 1, none⟩ = some (.slice Ac mc cc) := ⟨k66.c0, k66.c1, k67.c0, k67.c1, k68.c0, k68.c1⟩
        obtain ⟨s69_, hs69_⟩ : ∃ S_ : World → Prop, S_ = (fun w_ => w_.cell? ⟨w.heap.size, 0, none⟩ = some (.bool ba) ∧ w_.cell? ⟨w.heap.size, 1, none⟩ = some (.slice Aa ma ca) ∧ w_.cell? ⟨(w.heap.size + 1), 0, none⟩ = some (.bool bb) ∧ w_.cell? ⟨(w.heap.size + 1), 1, none⟩ = some (.slice Ab mb cb) ∧ w_.cell? ⟨(w.heap.size + 2), 0, none⟩ = some (.bool bc) ∧ w_.cell? ⟨(w.heap.size + 2), 1, none⟩ = some (.slice Ac mc cc)) := ⟨_, rfl⟩
        have Hs69_ := Lib.hid hs69_
        replace hst69 : ∀ w1_ w2_ : World, Below w1_.heap.size w1_ w2_ → s69_ w1_ → s69_ w2_ := by rw [hs69_]; exact hst69
        replace hS69 : s69_ w54 := by rw [hs69_]; exact hS69
        clear hs69_
        clear k66a k66b k67a k67b k68a k68b
        refine wp_region_flt [] [0, 1, 2, 3, 4, 5, 6, 7, 8, 9, 10, 11, 12, 13, 14, 15, 16, 17, 18, 19, 20] [] [] 21 (by kernel_rfl) (by kernel_rfl) .nil isFlt0 (fun c_ a_ a'_ w_ hd_ h_ => by first | exact ⟨hd_.trans h_.1, h_.2⟩ | exact h_) (fun w70 hg70 => ?_)
        have hS71 := hst69 _ _ hg70 hS69
        clear hS69
        refine wpFl_take (S := s69_) (v := ?_) hst69 hS71 0 rfl (by kernel_rfl) (fun _ _ _ h => h) (Or.inl ⟨by rfl, ?_⟩) ?_
        rotate_left
        · intro w_ hSw; rw [Hs69_.out] at hSw; (try dsimp only at hSw); go_simp; (first | done | with_reducible rfl)
        try simp only [Act.put, fZ, fI, List.setIfInBounds_toArray, List.set_cons_zero, List.set_cons_succ]
        refine wpFl_take (S := s69_) (v := ?_) hst69 hS71 1 rfl (by kernel_rfl) (fun _ _ _ h => h) (Or.inl ⟨by rfl, ?_⟩) ?_
        rotate_left
        · intro w_ hSw; rw [Hs69_.out] at hSw; (try dsimp only at hSw); go_simp; (first | done | with_reducible rfl)
        try simp only [Act.put, fZ, fI, List.setIfInBounds_toArray, List.set_cons_zero, List.set_cons_succ]
        refine wpFl_take (S := s69_) (v := ?_) hst69 hS71 3 rfl (by kernel_rfl) (fun _ _ _ h => h) (Or.inl ⟨by rfl, ?_⟩) ?_
        rotate_left
        · intro w_ hSw; rw [Hs69_.out] at hSw; (try dsimp only at hSw); go_simp; (first | done | with_reducible rfl)
        try simp only [Act.put, fZ, fI, List.setIfInBounds_toArray, List.set_cons_zero, List.set_cons_succ]
        refine wpFl_take (S := s69_) (v := ?_) hst69 hS71 4 rfl (by kernel_rfl) (fun _ _ _ h => h) (Or.inl ⟨by rfl, ?_⟩) ?_
        rotate_left
        · intro w_ hSw; rw [Hs69_.out] at hSw; (try dsimp only at hSw); go_simp; (first | done | with_reducible rfl)
        try simp only [Act.put, fZ, fI, List.setIfInBounds_toArray, List.set_cons_zero, List.set_cons_succ]
        refine wpFl_take (S := s69_) (v := ?_) hst69 hS71 7 rfl (by kernel_rfl) (fun _ _ _ h => h) (Or.inl ⟨by rfl, ?_⟩) ?_
        rotate_left
        · intro w_ hSw; rw [Hs69_.out] at hSw; (try dsimp only at hSw); go_simp; (first | done | with_reducible rfl)
        try simp only [Act.put, fZ, fI, List.setIfInBounds_toArray, List.set_cons_zero, List.set_cons_succ]
        refine wpFl_take (S := s69_) (v := ?_) hst69 hS71 8 rfl (by kernel_rfl) (fun _ _ _ h => h) (Or.inl ⟨by rfl, ?_⟩) ?_
        rotate_left
        · intro w_ hSw; rw [Hs69_.out] at hSw; (try dsimp only at hSw); go_simp; (first | done | with_reducible rfl)
        try simp only [Act.put, fZ, fI, List.setIfInBounds_toArray, List.set_cons_zero, List.set_cons_succ]
        refine wpFl_call 2 rfl (by kernel_rfl) (fun w72 hg72 K hK => ?_)
        have hS73 := hst69 _ _ hg72 hS71
        clear hS71
        go_simp
        refine (mul_as (((((((((qa.alloc (.cells #[.bool ba, .slice Aa ma ca] 25)).alloc (.cells #[.bool bb, .slice Ab mb cb] 25)).alloc (.cells #[.bool bc, .slice Ac mc cc] 25)).below hb1).below hb5).below hW31).below hW63).below hg70).below hg72) (((((((((qc.alloc (.cells #[.bool ba, .slice Aa ma ca] 25)).alloc (.cells #[.bool bb, .slice Ab mb cb] 25)).alloc (.cells #[.bool bc, .slice Ac mc cc] 25)).below hb1).below hb5).below hW31).below hW63).below hg70).below hg72) (by decide) (by decide) He3).mono ?_
        rintro e w74 ⟨b74, A74, m74, c74, rfl, q74, hb74⟩
        refine hK.out _ _ hb74 ?_
        clear hK K
        try simp only [Act.put, fZ, fI, List.setIfInBounds_toArray, List.set_cons_zero, List.set_cons_succ]
        have hS75 := hst69 _ _ hb74 hS73
        clear hS73
        refine wpFl_call 5 rfl (by kernel_rfl) (fun w76 hg76 K hK => ?_)
        have hS77 := hst69 _ _ hg76 hS75
        clear hS75
        go_simp
        refine (mul_as (((((((((((qb.alloc (.cells #[.bool ba, .slice Aa ma ca] 25)).alloc (.cells #[.bool bb, .slice Ab mb cb] 25)).alloc (.cells #[.bool bc, .slice Ac mc cc] 25)).below hb1).below hb5).below hW31).below hW63).below hg70).below hg72).below hb74).below hg76) (((((((((((qc.alloc (.cells #[.bool ba, .slice Aa ma ca] 25)).alloc (.cells #[.bool bb, .slice Ab mb cb] 25)).alloc (.cells #[.bool bc, .slice Ac mc cc] 25)).below hb1).below hb5).below hW31).below hW63).below hg70).below hg72).below hb74).below hg76) (by decide) (by decide) He4).mono ?_
        rintro e w78 ⟨b78, A78, m78, c78, rfl, q78, hb78⟩
        refine hK.out _ _ hb78 ?_
        clear hK K
        try simp only [Act.put, fZ, fI, List.setIfInBounds_toArray, List.set_cons_zero, List.set_cons_succ]
        have hS79 := hst69 _ _ hb78 hS77
        clear hS77
        refine wpFl_call 6 rfl (by kernel_rfl) (fun w80 hg80 K hK => ?_)
        have hS81 := hst69 _ _ hg80 hS79
        clear hS79
        go_simp
        refine (cmp_as (((q74.below hg76).below hb78).below hg80).zi (q78.below hg80).zi H3).mono ?_
        rintro e w82 ⟨rfl, hb82⟩
        refine hK.out _ _ hb82 ?_
        clear hK K
        try simp only [Act.put, fZ, fI, List.setIfInBounds_toArray, List.set_cons_zero, List.set_cons_succ]
        have hS83 := hst69 _ _ hb82 hS81
        clear hS81
        refine wpFl_call 9 rfl (by kernel_rfl) (fun w84 hg84 K hK => ?_)
        have hS85 := hst69 _ _ hg84 hS83
        clear hS83
        go_simp
        refine (sgn_as (((((((((((((((qc.alloc (.cells #[.bool ba, .slice Aa ma ca] 25)).alloc (.cells #[.bool bb, .slice Ab mb cb] 25)).alloc (.cells #[.bool bc, .slice Ac mc cc] 25)).below hb1).below hb5).below hW31).below hW63).below hg70).below hg72).below hb74).below hg76).below hb78).below hg80).below hb82).below hg84) Hs).mono ?_
        rintro e w86 ⟨rfl, hb86⟩
        refine hK.out _ _ hb86 ?_
        clear hK K
        try simp only [Act.put, fZ, fI, List.setIfInBounds_toArray, List.set_cons_zero, List.set_cons_succ]
        have hS87 := hst69 _ _ hb86 hS85
        clear hS85
        refine wpFl_take (S := s69_) (v := ?_) hst69 hS87 10 rfl (by kernel_rfl) (fun _ _ _ h => h) (Or.inl ⟨by rfl, ?_⟩) ?_
        rotate_left
        · intro w_ hSw; rw [Hs69_.out] at hSw; (try dsimp only at hSw); go_simp; (first | done | with_reducible rfl)
        try simp only [Act.put, fZ, fI, List.setIfInBounds_toArray, List.set_cons_zero, List.set_cons_succ]
        refine wpFl_take (S := s69_) (v := ?_) hst69 hS87 11 rfl (by kernel_rfl) (fun _ _ _ h => h) (Or.inl ⟨by rfl, ?_⟩) ?_
        rotate_left
        · intro w_ hSw; rw [Hs69_.out] at hSw; (try dsimp only at hSw); go_simp; (first | done | with_reducible rfl)
        try simp only [Act.put, fZ, fI, List.setIfInBounds_toArray, List.set_cons_zero, List.set_cons_succ]
        refine wpFl_take (S := s69_) (v := ?_) hst69 hS87 12 rfl (by kernel_rfl) (fun _ _ _ h => h) (Or.inl ⟨by rfl, ?_⟩) ?_
        rotate_left
        · intro w_ hSw; rw [Hs69_.out] at hSw; (try dsimp only at hSw); go_simp; (first | done | with_reducible rfl)
        try simp only [Act.put, fZ, fI, List.setIfInBounds_toArray, List.set_cons_zero, List.set_cons_succ]
        refine wpFl_take (S := s69_) (v := ?_) hst69 hS87 13 rfl (by kernel_rfl) (fun _ _ _ h => h) (Or.inl ⟨by rfl, ?_⟩) ?_
        rotate_left
        · intro w_ hSw; rw [Hs69_.out] at hSw; (try dsimp only at hSw); go_simp; (first | done | with_reducible rfl)
        try simp only [Act.put, fZ, fI, List.setIfInBounds_toArray, List.set_cons_zero, List.set_cons_succ]
        refine wpFl_take (S := s69_) (v := ?_) hst69 hS87 14 rfl (by kernel_rfl) (fun _ _ _ h => h) (Or.inl ⟨by rfl, ?_⟩) ?_
        rotate_left
        · intro w_ hSw; rw [Hs69_.out] at hSw; (try dsimp only at hSw); go_simp; (first | done | with_reducible rfl)
        try simp only [Act.put, fZ, fI, List.setIfInBounds_toArray, List.set_cons_zero, List.set_cons_succ]
        refine wpFl_take (S := s69_) (v := ?_) hst69 hS87 17 rfl (by kernel_rfl) (fun _ _ _ h => h) (Or.inl ⟨by rfl, ?_⟩) ?_
        rotate_left
        · intro w_ hSw; rw [Hs69_.out] at hSw; (try dsimp only at hSw); go_simp; (first | done | with_reducible rfl)
        try simp only [Act.put, fZ, fI, List.setIfInBounds_toArray, List.set_cons_zero, List.set_cons_succ]
        refine wpFl_call 15 rfl (by kernel_rfl) (fun w88 hg88 K hK => ?_)
        have hS89 := hst69 _ _ hg88 hS87
        clear hS87
        go_simp
        refine (sub_as (((((((((((((((((qa.alloc (.cells #[.bool ba, .slice Aa ma ca] 25)).alloc (.cells #[.bool bb, .slice Ab mb cb] 25)).alloc (.cells #[.bool bc, .slice Ac mc cc] 25)).below hb1).below hb5).below hW31).below hW63).below hg70).below hg72).below hb74).below hg76).below hb78).below hg80).below hb82).below hg84).below hb86).below hg88) (((((((((((((((((qb.alloc (.cells #[.bool ba, .slice Aa ma ca] 25)).alloc (.cells #[.bool bb, .slice Ab mb cb] 25)).alloc (.cells #[.bool bc, .slice Ac mc cc] 25)).below hb1).below hb5).below hW31).below hW63).below hg70).below hg72).below hb74).below hg76).below hb78).below hg80).below hb82).below hg84).below hb86).below hg88) (by decide) (by decide) He5).mono ?_
        rintro e w90 ⟨b90, A90, m90, c90, rfl, q90, hb90⟩
        refine hK.out _ _ hb90 ?_
        clear hK K
        try simp only [Act.put, fZ, fI, List.setIfInBounds_toArray, List.set_cons_zero, List.set_cons_succ]
        have hS91 := hst69 _ _ hb90 hS89
        clear hS89
        refine wpFl_call 16 rfl (by kernel_rfl) (fun w92 hg92 K hK => ?_)
        have hS93 := hst69 _ _ hg92 hS91
        clear hS91
        go_simp
        refine (sgn_as (q90.below hg92).zi H4).mono ?_
        rintro e w94 ⟨rfl, hb94⟩
        refine hK.out _ _ hb94 ?_
        clear hK K
        try simp only [Act.put, fZ, fI, List.setIfInBounds_toArray, List.set_cons_zero, List.set_cons_succ]
        have hS95 := hst69 _ _ hb94 hS93
        clear hS93
        refine wpFl_take (S := s69_) (v := ?_) hst69 hS95 18 rfl (by kernel_rfl) (fun _ _ _ h => h) (Or.inl ⟨by rfl, ?_⟩) ?_
        rotate_left
        · intro w_ hSw; rw [Hs69_.out] at hSw; (try dsimp only at hSw); go_simp; (first | done | with_reducible rfl)
        try simp only [Act.put, fZ, fI, List.setIfInBounds_toArray, List.set_cons_zero, List.set_cons_succ]
        refine wpFl_take (S := s69_) (v := ?_) hst69 hS95 19 rfl (by kernel_rfl) (fun _ _ _ h => h) (Or.inl ⟨by rfl, ?_⟩) ?_
        rotate_left
        · intro w_ hSw; rw [Hs69_.out] at hSw; (try dsimp only at hSw); go_simp; (first | done | with_reducible rfl)
        try simp only [Act.put, fZ, fI, List.setIfInBounds_toArray, List.set_cons_zero, List.set_cons_succ]
        refine wpFl_take (S := s69_) (v := ?_) hst69 hS95 20 rfl (by kernel_rfl) (fun _ _ _ h => h) (Or.inl ⟨by rfl, ?_⟩) ?_
        rotate_left
        · intro w_ hSw; rw [Hs69_.out] at hSw; (try dsimp only at hSw); go_simp; (first | done | with_reducible rfl)
        try simp only [Act.put, fZ, fI, List.setIfInBounds_toArray, List.set_cons_zero, List.set_cons_succ]
        refine wpFl_end0 (fun w96 hg96 => ?_)
        try simp only [Act.put, fZ, fI, List.setIfInBounds_toArray, List.set_cons_zero, List.set_cons_succ]
        clear hS95 hst69
        have hW97 := below_then hg70 hg70.size hg72
        have hW98 := below_then hW97 hW97.size hb74
        have hW99 := below_then hW98 hW98.size hg76
        have hW100 := below_then hW99 hW99.size hb78
        have hW101 := below_then hW100 hW100.size hg80
        have hW102 := below_then hW101 hW101.size hb82
        have hW103 := below_then hW102 hW102.size hg84
        have hW104 := below_then hW103 hW103.size hb86
        have hW105 := below_then hW104 hW104.size hg88
        have hW106 := below_then hW105 hW105.size hb90
        have hW107 := below_then hW106 hW106.size hg92
        have hW108 := below_then hW107 hW107.size hb94
        have hW109 := below_then hW108 hW108.size hg96
        have f110 := (((((((((((q74.below hg76).below hb78).below hg80).below hb82).below hg84).below hb86).below hg88).below hb90).below hg92).below hb94).below hg96)
        have f111 := (((((((((q78.below hg80).below hb82).below hg84).below hb86).below hg88).below hb90).below hg92).below hb94).below hg96)
        have f112 := (((q90.below hg92).below hb94).below hg96)
        replace q74 := f110
        clear f110
        replace q78 := f111
        clear f111
        replace q90 := f112
        clear f112
        have HB8 := below_then HB7 HB7.size hW109
        have k113 := (k66.below hW109)
        have k113a := k113.c0
        have k113b := k113.c1
        have k114 := (k67.below hW109)
        have k114a := k114.c0
        have k114b := k114.c1
        have k115 := (k68.below hW109)
        have k115a := k115.c0
        have k115b := k115.c1
        refine wpList_nil ?_
        go_wp2_with fail
        go_ret
        exact ⟨rfl, HB8⟩
    · skip
      have d1 : decide (x ≤ 0) = false := decide_eq_false (by omega)
      clear hx
      have bxa := Box.new w 25 (.bool ba) (.slice Aa ma ca)
      have bxb := Box.new1 w (.cells #[.bool ba, .slice Aa ma ca] 25) 25 (.bool bb) (.slice Ab mb cb)
      have bxc := Box.new2 w (.cells #[.bool ba, .slice Aa ma ca] 25) (.cells #[.bool bb, .slice Ab mb cb] 25) 25 (.bool bc) (.slice Ac mc cc)
      go_enter Try.func6, Try.ntmps6
      go_wp2_with fail
      refine (lawake _).mono ?_
      rintro e w1 ⟨rfl, hb1⟩
      have HB1 := below_alloc (Below.refl w.heap.size w) (.cells #[.bool ba, .slice Aa ma ca] 25)
      have HB2 := below_alloc HB1 (.cells #[.bool bb, .slice Ab mb cb] 25)
      have HB3 := below_alloc HB2 (.cells #[.bool bc, .slice Ac mc cc] 25)
      have HB4 := below_then HB3 HB3.size hb1
      have k2 := (((bxa.alloc (.cells #[.bool bb, .slice Ab mb cb] 25)).alloc (.cells #[.bool bc, .slice Ac mc cc] 25)).below hb1)
      have k2a := k2.c0
      have k2b := k2.c1
      have k3 := ((bxb.alloc (.cells #[.bool bc, .slice Ac mc cc] 25)).below hb1)
      have k3a := k3.c0
      have k3b := k3.c1
      have k4 := (bxc.below hb1)
      have k4a := k4.c0
      have k4b := k4.c1
      go_wp2_with fail
      refine (lfew_as 8 HF).mono ?_
      rintro e w5 ⟨rfl, hb5⟩
      have HB5 := below_then HB4 HB4.size hb5
      clear k2a k2b k3a k3b k4a k4b
      have k6 := (k2.below hb5)
      have k6a := k6.c0
      have k6b := k6.c1
      have k7 := (k3.below hb5)
      have k7a := k7.c0
      have k7b := k7.c1
      have k8 := (k4.below hb5)
      have k8a := k8.c0
      have k8b := k8.c1
      go_wp2_with fail
      have hst9 : ∀ w1_ w2_ : World, Below w1_.heap.size w1_ w2_ → (w1_.cell? ⟨w.heap.size, 0, none⟩ = some (.bool ba) ∧ w1_.cell? ⟨w.heap.size, 1, none⟩ = some (.slice Aa ma ca) ∧ w1_.cell? ⟨(w.heap.size + 1), 0, none⟩ = some (.bool bb) ∧ w1_.cell? ⟨(w.heap.size + 1), 1, none⟩ = some (.slice Ab mb cb) ∧ w1_.cell? ⟨(w.heap.size + 2), 0, none⟩ = some (.bool bc) ∧ w1_.cell? ⟨(w.heap.size + 2), 1, none⟩ = some (.slice Ac mc cc)) → (w2_.cell? ⟨w.heap.size, 0, none⟩ = some (.bool ba) ∧ w2_.cell? ⟨w.heap.size, 1, none⟩ = some (.slice Aa ma ca) ∧ w2_.cell? ⟨(w.heap.size + 1), 0, none⟩ = some (.bool bb) ∧ w2_.cell? ⟨(w.heap.size + 1), 1, none⟩ = some (.slice Ab mb cb) ∧ w2_.cell? ⟨(w.heap.size + 2), 0, none⟩ = some (.bool bc) ∧ w2_.cell? ⟨(w.heap.size + 2), 1, none⟩ = some (.slice Ac mc cc)) := fun _ _ hb_ h_ => ⟨pw_cell_below hb_ h_.1, pw_cell_below hb_ h_.2.1, pw_cell_below hb_ h_.2.2.1, pw_cell_below hb_ h_.2.2.2.1, pw_cell_below hb_ h_.2.2.2.2.1, pw_cell_below hb_ h_.2.2.2.2.2⟩
      have hS9 : w5.cell? ⟨w.heap.size, 0, none⟩ = some (.bool ba) ∧ w5.cell? ⟨w.heap.size, 1, none⟩ = some (.slice Aa ma ca) ∧ w5.cell? ⟨(w.heap.size + 1), 0, none⟩ = some (.bool bb) ∧ w5.cell? ⟨(w.heap.size + 1), 1, none⟩ = some (.slice Ab mb cb) ∧ w5.cell? ⟨(w.heap.size + 2), 0, none⟩ = some (.bool bc) ∧ w5.cell? ⟨(w.heap.size + 2), 1, none⟩ = some (.slice Ac mc cc) := ⟨k6.c0, k6.c1, k7.c0, k7.c1, k8.c0, k8.c1⟩
      obtain ⟨s9_, hs9_⟩ : ∃ S_ : World → Prop, S_ = (fun w_ => w_.cell? ⟨w.heap.size, 0, none⟩ = some (.bool ba) ∧ w_.cell? ⟨w.heap.size, 1, none⟩ = some (.slice Aa ma ca) ∧ w_.cell? ⟨(w.heap.size + 1), 0, none⟩ = some (.bool bb) ∧ w_.cell? ⟨(w.heap.size + 1), 1, none⟩ = some (.slice Ab mb cb) ∧ w_.cell? ⟨(w.heap.size + 2), 0, none⟩ = some (.bool bc) ∧ w_.cell? ⟨(w.heap.size + 2), 1, none⟩ = some (.slice Ac mc cc)) := ⟨_, rfl⟩
      have Hs9_ := Lib.hid hs9_
      replace hst9 : ∀ w1_ w2_ : World, Below w1_.heap.size w1_ w2_ → s9_ w1_ → s9_ w2_ := by rw [hs9_]; exact hst9
      replace hS9 : s9_ w5 := by rw [hs9_]; exact hS9
      clear hs9_
      clear k6a k6b k7a k7b k8a k8b
      refine wp_region_flt [] [0, 1, 2, 3, 4, 5, 6, 7, 8, 9, 10, 11] [] [] 12 (by kernel_rfl) (by kernel_rfl) .nil isFlt0 (fun c_ a_ a'_ w_ hd_ h_ => by first | exact ⟨hd_.trans h_.1, h_.2⟩ | exact h_) (fun w10 hg10 => ?_)
      have hS11 := hst9 _ _ hg10 hS9
      clear hS9
      refine wpFl_take (S := s9_) (v := ?_) hst9 hS11 0 rfl (by kernel_rfl) (fun _ _ _ h => h) (Or.inl ⟨by rfl, ?_⟩) ?_
      rotate_left
      · intro w_ hSw; rw [Hs9_.out] at hSw; (try dsimp only at hSw); go_simp; (first | done | with_reducible rfl)
      try simp only [Act.put, fZ, fI, List.setIfInBounds_toArray, List.set_cons_zero, List.set_cons_succ]
      refine wpFl_take (S := s9_) (v := ?_) hst9 hS11 1 rfl (by kernel_rfl) (fun _ _ _ h => h) (Or.inl ⟨by rfl, ?_⟩) ?_
      rotate_left
      · intro w_ hSw; rw [Hs9_.out] at hSw; (try dsimp only at hSw); go_simp; (first | done | with_reducible rfl)
      try simp only [Act.put, fZ, fI, List.setIfInBounds_toArray, List.set_cons_zero, List.set_cons_succ]
      refine wpFl_take (S := s9_) (v := ?_) hst9 hS11 3 rfl (by kernel_rfl) (fun _ _ _ h => h) (Or.inl ⟨by rfl, ?_⟩) ?_
      rotate_left
      · intro w_ hSw; rw [Hs9_.out] at hSw; (try dsimp only at hSw); go_simp; (first | done | with_reducible rfl)
      try simp only [Act.put, fZ, fI, List.setIfInBounds_toArray, List.set_cons_zero, List.set_cons_succ]
      refine wpFl_take (S := s9_) (v := ?_) hst9 hS11 4 rfl (by kernel_rfl) (fun _ _ _ h => h) (Or.inl ⟨by rfl, ?_⟩) ?_
      rotate_left
      · intro w_ hSw; rw [Hs9_.out] at hSw; (try dsimp only at hSw); go_simp; (first | done | with_reducible rfl)
      try simp only [Act.put, fZ, fI, List.setIfInBounds_toArray, List.set_cons_zero, List.set_cons_succ]
      refine wpFl_take (S := s9_) (v := ?_) hst9 hS11 6 rfl (by kernel_rfl) (fun _ _ _ h => h) (Or.inl ⟨by rfl, ?_⟩) ?_
      rotate_left
      · intro w_ hSw; rw [Hs9_.out] at hSw; (try dsimp only at hSw); go_simp; (first | done | with_reducible rfl)
      try simp only [Act.put, fZ, fI, List.setIfInBounds_toArray, List.set_cons_zero, List.set_cons_succ]
      refine wpFl_take (S := s9_) (v := ?_) hst9 hS11 7 rfl (by kernel_rfl) (fun _ _ _ h => h) (Or.inl ⟨by rfl, ?_⟩) ?_
      rotate_left
      · intro w_ hSw; rw [Hs9_.out] at hSw; (try dsimp only at hSw); go_simp; (first | done | with_reducible rfl)
      try simp only [Act.put, fZ, fI, List.setIfInBounds_toArray, List.set_cons_zero, List.set_cons_succ]
      refine wpFl_call 2 rfl (by kernel_rfl) (fun w12 hg12 K hK => ?_)
      have hS13 := hst9 _ _ hg12 hS11
      clear hS11
      go_simp
      refine (cmp_as (((((((qa.alloc (.cells #[.bool ba, .slice Aa ma ca] 25)).alloc (.cells #[.bool bb, .slice Ab mb cb] 25)).alloc (.cells #[.bool bc, .slice Ac mc cc] 25)).below hb1).below hb5).below hg10).below hg12) (((((((qb.alloc (.cells #[.bool ba, .slice Aa ma ca] 25)).alloc (.cells #[.bool bb, .slice Ab mb cb] 25)).alloc (.cells #[.bool bc, .slice Ac mc cc] 25)).below hb1).below hb5).below hg10).below hg12) Hx).mono ?_
      rintro e w14 ⟨rfl, hb14⟩
      refine hK.out _ _ hb14 ?_
      clear hK K
      try simp only [Act.put, fZ, fI, List.setIfInBounds_toArray, List.set_cons_zero, List.set_cons_succ]
      have hS15 := hst9 _ _ hb14 hS13
      clear hS13
      refine wpFl_call 5 rfl (by kernel_rfl) (fun w16 hg16 K hK => ?_)
      have hS17 := hst9 _ _ hg16 hS15
      clear hS15
      go_simp
      refine (cmp_as (((((((((qb.alloc (.cells #[.bool ba, .slice Aa ma ca] 25)).alloc (.cells #[.bool bb, .slice Ab mb cb] 25)).alloc (.cells #[.bool bc, .slice Ac mc cc] 25)).below hb1).below hb5).below hg10).below hg12).below hb14).below hg16) (((((((((qc.alloc (.cells #[.bool ba, .slice Aa ma ca] 25)).alloc (.cells #[.bool bb, .slice Ab mb cb] 25)).alloc (.cells #[.bool bc, .slice Ac mc cc] 25)).below hb1).below hb5).below hg10).below hg12).below hb14).below hg16) Hy).mono ?_
      rintro e w18 ⟨rfl, hb18⟩
      refine hK.out _ _ hb18 ?_
      clear hK K
      try simp only [Act.put, fZ, fI, List.setIfInBounds_toArray, List.set_cons_zero, List.set_cons_succ]
      have hS19 := hst9 _ _ hb18 hS17
      clear hS17
      refine wpFl_call 8 rfl (by kernel_rfl) (fun w20 hg20 K hK => ?_)
      have hS21 := hst9 _ _ hg20 hS19
      clear hS19
      go_simp
      refine (cmp_as (((((((((((qa.alloc (.cells #[.bool ba, .slice Aa ma ca] 25)).alloc (.cells #[.bool bb, .slice Ab mb cb] 25)).alloc (.cells #[.bool bc, .slice Ac mc cc] 25)).below hb1).below hb5).below hg10).below hg12).below hb14).below hg16).below hb18).below hg20) (((((((((((qc.alloc (.cells #[.bool ba, .slice Aa ma ca] 25)).alloc (.cells #[.bool bb, .slice Ab mb cb] 25)).alloc (.cells #[.bool bc, .slice Ac mc cc] 25)).below hb1).below hb5).below hg10).below hg12).below hb14).below hg16).below hb18).below hg20) Hz).mono ?_
      rintro e w22 ⟨rfl, hb22⟩
      refine hK.out _ _ hb22 ?_
      clear hK K
      try simp only [Act.put, fZ, fI, List.setIfInBounds_toArray, List.set_cons_zero, List.set_cons_succ]
      have hS23 := hst9 _ _ hb22 hS21
      clear hS21
      refine wpFl_take (S := s9_) (v := ?_) hst9 hS23 9 rfl (by kernel_rfl) (fun _ _ _ h => h) (Or.inl ⟨by rfl, ?_⟩) ?_
      rotate_left
      · intro w_ hSw; rw [Hs9_.out] at hSw; (try dsimp only at hSw); go_simp; (first | done | with_reducible rfl)
      try simp only [Act.put, fZ, fI, List.setIfInBounds_toArray, List.set_cons_zero, List.set_cons_succ]
      refine wpFl_take (S := s9_) (v := ?_) hst9 hS23 10 rfl (by kernel_rfl) (fun _ _ _ h => h) (Or.inl ⟨by rfl, ?_⟩) ?_
      rotate_left
      · intro w_ hSw; rw [Hs9_.out] at hSw; (try dsimp only at hSw); go_simp; (first | done | with_reducible rfl)
      try simp only [Act.put, fZ, fI, List.setIfInBounds_toArray, List.set_cons_zero, List.set_cons_succ]
      refine wpFl_take (S := s9_) (v := ?_) hst9 hS23 11 rfl (by kernel_rfl) (fun _ _ _ h => h) (Or.inl ⟨by rfl, ?_⟩) ?_
      rotate_left
      · intro w_ hSw; rw [Hs9_.out] at hSw; (try dsimp only at hSw); go_simp; (first | done | with_reducible rfl)
      try simp only [Act.put, fZ, fI, List.setIfInBounds_toArray, List.set_cons_zero, List.set_cons_succ]
      refine wpFl_end0 (fun w24 hg24 => ?_)
      try simp only [Act.put, fZ, fI, List.setIfInBounds_toArray, List.set_cons_zero, List.set_cons_succ]
      clear hS23 hst9
      have hW25 := below_then hg10 hg10.size hg12
      have hW26 := below_then hW25 hW25.size hb14
      have hW27 := below_then hW26 hW26.size hg16
      have hW28 := below_then hW27 hW27.size hb18
      have hW29 := below_then hW28 hW28.size hg20
      have hW30 := below_then hW29 hW29.size hb22
      have hW31 := below_then hW30 hW30.size hg24
      have HB6 := below_then HB5 HB5.size hW31
      have k32 := (k6.below hW31)
      have k32a := k32.c0
      have k32b := k32.c1
      have k33 := (k7.below hW31)
      have k33a := k33.c0
      have k33b := k33.c1
      have k34 := (k8.below hW31)
      have k34a := k34.c0
      have k34b := k34.c1
      refine wpList_nil ?_
      go_wp2_with fail
      have hst35 : ∀ w1_ w2_ : World, Below w1_.heap.size w1_ w2_ → (w1_.cell? ⟨w.heap.size, 0, none⟩ = some (.bool ba) ∧ w1_.cell? ⟨w.heap.size, 1, none⟩ = some (.slice Aa ma ca) ∧ w1_.cell? ⟨(w.heap.size + 1), 0, none⟩ = some (.bool bb) ∧ w1_.cell? ⟨(w.heap.size + 1), 1, none⟩ = some (.slice Ab mb cb) ∧ w1_.cell? ⟨(w.heap.size + 2), 0, none⟩ = some (.bool bc) ∧ w1_.cell? ⟨(w.heap.size + 2), 1, none⟩ = some (.slice Ac mc cc)) → (w2_.cell? ⟨w.heap.size, 0, none⟩ = some (.bool ba) ∧ w2_.cell? ⟨w.heap.size, 1, none⟩ = some (.slice Aa ma ca) ∧ w2_.cell? ⟨(w.heap.size + 1), 0, none⟩ = some (.bool bb) ∧ w2_.cell? ⟨(w.heap.size + 1), 1, none⟩ = some (.slice Ab mb cb) ∧ w2_.cell? ⟨(w.heap.size + 2), 0, none⟩ = some (.bool bc) ∧ w2_.cell? ⟨(w.heap.size + 2), 1, none⟩ = some (.slice Ac mc cc)) := fun _ _ hb_ h_ => ⟨pw_cell_below hb_ h_.1, pw_cell_below hb_ h_.2.1, pw_cell_below hb_ h_.2.2.1, pw_cell_below hb_ h_.2.2.2.1, pw_cell_below hb_ h_.2.2.2.2.1, pw_cell_below hb_ h_.2.2.2.2.2⟩
      have hS35 : w24.cell? ⟨w.heap.size, 0, none⟩ = some (.bool ba) ∧ w24.cell? ⟨w.heap.size, 1, none⟩ = some (.slice Aa ma ca) ∧ w24.cell? ⟨(w.heap.size + 1), 0, none⟩ = some (.bool bb) ∧ w24.cell? ⟨(w.heap.size + 1), 1, none⟩ = some (.slice Ab mb cb) ∧ w24.cell? ⟨(w.heap.size + 2), 0, none⟩ = some (.bool bc) ∧ w24.cell? ⟨(w.heap.size + 2), 1, none⟩ = some (.slice Ac mc cc) := ⟨k32.c0, k32.c1, k33.c0, k33.c1, k34.c0, k34.c1⟩
      obtain ⟨s35_, hs35_⟩ : ∃ S_ : World → Prop, S_ = (fun w_ => w_.cell? ⟨w.heap.size, 0, none⟩ = some (.bool ba) ∧ w_.cell? ⟨w.heap.size, 1, none⟩ = some (.slice Aa ma ca) ∧ w_.cell? ⟨(w.heap.size + 1), 0, none⟩ = some (.bool bb) ∧ w_.cell? ⟨(w.heap.size + 1), 1, none⟩ = some (.slice Ab mb cb) ∧ w_.cell? ⟨(w.heap.size + 2), 0, none⟩ = some (.bool bc) ∧ w_.cell? ⟨(w.heap.size + 2), 1, none⟩ = some (.slice Ac mc cc)) := ⟨_, rfl⟩
      have Hs35_ := Lib.hid hs35_
      replace hst35 : ∀ w1_ w2_ : World, Below w1_.heap.size w1_ w2_ → s35_ w1_ → s35_ w2_ := by rw [hs35_]; exact hst35
      replace hS35 : s35_ w24 := by rw [hs35_]; exact hS35
      clear hs35_
      clear k32a k32b k33a k33b k34a k34b
      refine wp_region_flt [] [0, 1, 2, 3, 4, 5, 6, 7, 8, 9, 10, 11, 12, 13, 14, 15, 16, 17, 18, 19, 20, 21, 22, 23, 24, 25, 26, 27, 28] [] [] 29 (by kernel_rfl) (by kernel_rfl) .nil isFlt0 (fun c_ a_ a'_ w_ hd_ h_ => by first | exact ⟨hd_.trans h_.1, h_.2⟩ | exact h_) (fun w36 hg36 => ?_)
      have hS37 := hst35 _ _ hg36 hS35
      clear hS35
      refine wpFl_take (S := s35_) (v := ?_) hst35 hS37 0 rfl (by kernel_rfl) (fun _ _ _ h => h) (Or.inl ⟨by rfl, ?_⟩) ?_
      rotate_left
      · intro w_ hSw; rw [Hs35_.out] at hSw; (try dsimp only at hSw); go_simp; (first | done | with_reducible rfl)
      try simp only [Act.put, fZ, fI, List.setIfInBounds_toArray, List.set_cons_zero, List.set_cons_succ]
      refine wpFl_take (S := s35_) (v := ?_) hst35 hS37 1 rfl (by kernel_rfl) (fun _ _ _ h => h) (Or.inl ⟨by rfl, ?_⟩) ?_
      rotate_left
      · intro w_ hSw; rw [Hs35_.out] at hSw; (try dsimp only at hSw); go_simp; (first | done | with_reducible rfl)
      try simp only [Act.put, fZ, fI, List.setIfInBounds_toArray, List.set_cons_zero, List.set_cons_succ]
      refine wpFl_take (S := s35_) (v := ?_) hst35 hS37 3 rfl (by kernel_rfl) (fun _ _ _ h => h) (Or.inl ⟨by rfl, ?_⟩) ?_
      rotate_left
      · intro w_ hSw; rw [Hs35_.out] at hSw; (try dsimp only at hSw); go_simp; (first | done | with_reducible rfl)
      try simp only [Act.put, fZ, fI, List.setIfInBounds_toArray, List.set_cons_zero, List.set_cons_succ]
      refine wpFl_take (S := s35_) (v := ?_) hst35 hS37 4 rfl (by kernel_rfl) (fun _ _ _ h => h) (Or.inl ⟨by rfl, ?_⟩) ?_
      rotate_left
      · intro w_ hSw; rw [Hs35_.out] at hSw; (try dsimp only at hSw); go_simp; (first | done | with_reducible rfl)
      try simp only [Act.put, fZ, fI, List.setIfInBounds_toArray, List.set_cons_zero, List.set_cons_succ]
      refine wpFl_call 2 rfl (by kernel_rfl) (fun w38 hg38 K hK => ?_)
      have hS39 := hst35 _ _ hg38 hS37
      clear hS37
      go_simp
      refine (cmp_as ((((((((qb.alloc (.cells #[.bool ba, .slice Aa ma ca] 25)).alloc (.cells #[.bool bb, .slice Ab mb cb] 25)).alloc (.cells #[.bool bc, .slice Ac mc cc] 25)).below hb1).below hb5).below hW31).below hg36).below hg38) ((((((((qa.alloc (.cells #[.bool ba, .slice Aa ma ca] 25)).alloc (.cells #[.bool bb, .slice Ab mb cb] 25)).alloc (.cells #[.bool bc, .slice Ac mc cc] 25)).below hb1).below hb5).below hW31).below hg36).below hg38) H1).mono ?_
      rintro e w40 ⟨rfl, hb40⟩
      refine hK.out _ _ hb40 ?_
      clear hK K
      try simp only [Act.put, fZ, fI, List.setIfInBounds_toArray, List.set_cons_zero, List.set_cons_succ]
      have hS41 := hst35 _ _ hb40 hS39
      clear hS39
      refine wpFl_take (S := s35_) (v := ?_) hst35 hS41 5 rfl (by kernel_rfl) (fun _ _ _ h => h) (Or.inl ⟨by rfl, ?_⟩) ?_
      rotate_left
      · intro w_ hSw; rw [Hs35_.out] at hSw; (try dsimp only at hSw); go_simp; (first | done | with_reducible rfl)
      try simp only [Act.put, fZ, fI, List.setIfInBounds_toArray, List.set_cons_zero, List.set_cons_succ]
      refine wpFl_take (S := s35_) (v := ?_) hst35 hS41 6 rfl (by kernel_rfl) (fun _ _ _ h => h) (Or.inl ⟨by rfl, ?_⟩) ?_
      rotate_left
      · intro w_ hSw; rw [Hs35_.out] at hSw; (try dsimp only at hSw); go_simp; (first | done | with_reducible rfl)
      try simp only [Act.put, fZ, fI, List.setIfInBounds_toArray, List.set_cons_zero, List.set_cons_succ]
      refine wpFl_take (S := s35_) (v := ?_) hst35 hS41 7 rfl (by kernel_rfl) (fun _ _ _ h => h) (Or.inl ⟨by rfl, ?_⟩) ?_
      rotate_left
      · intro w_ hSw; rw [Hs35_.out] at hSw; (try dsimp only at hSw); go_simp; (first | done | with_reducible rfl)
      try simp only [Act.put, fZ, fI, List.setIfInBounds_toArray, List.set_cons_zero, List.set_cons_succ]
      refine wpFl_take (S := s35_) (v := ?_) hst35 hS41 8 rfl (by kernel_rfl) (fun _ _ _ h => h) (Or.inl ⟨by rfl, ?_⟩) ?_
      rotate_left
      · intro w_ hSw; rw [Hs35_.out] at hSw; (try dsimp only at hSw); go_simp; (first | done | with_reducible rfl)
      try simp only [Act.put, fZ, fI, List.setIfInBounds_toArray, List.set_cons_zero, List.set_cons_succ]
      refine wpFl_take (S := s35_) (v := ?_) hst35 hS41 9 rfl (by kernel_rfl) (fun _ _ _ h => h) (Or.inl ⟨by rfl, ?_⟩) ?_
      rotate_left
      · intro w_ hSw; rw [Hs35_.out] at hSw; (try dsimp only at hSw); go_simp; (first | done | with_reducible rfl)
      try simp only [Act.put, fZ, fI, List.setIfInBounds_toArray, List.set_cons_zero, List.set_cons_succ]
      refine wpFl_take (S := s35_) (v := undef) hst35 hS41 10 rfl (by kernel_rfl) (fun _ _ _ h => h) (Or.inr ⟨by rfl, rfl⟩) ?_
      try simp only [Act.put, List.setIfInBounds_toArray, List.set_cons_zero, List.set_cons_succ]
      refine wpFl_take (S := s35_) (v := undef) hst35 hS41 11 rfl (by kernel_rfl) (fun _ _ _ h => h) (Or.inr ⟨by rfl, rfl⟩) ?_
      try simp only [Act.put, List.setIfInBounds_toArray, List.set_cons_zero, List.set_cons_succ]
      refine wpFl_take (S := s35_) (v := ?_) hst35 hS41 12 rfl (by kernel_rfl) (fun _ _ _ h => h) (Or.inl ⟨by rfl, ?_⟩) ?_
      rotate_left
      · intro w_ hSw; rw [Hs35_.out] at hSw; (try dsimp only at hSw); go_simp; (first | done | with_reducible rfl)
      try simp only [Act.put, fZ, fI, List.setIfInBounds_toArray, List.set_cons_zero, List.set_cons_succ]
      refine wpFl_take (S := s35_) (v := ?_) hst35 hS41 13 rfl (by kernel_rfl) (fun _ _ _ h => h) (Or.inl ⟨by rfl, ?_⟩) ?_
      rotate_left
      · intro w_ hSw; rw [Hs35_.out] at hSw; (try dsimp only at hSw); go_simp; (first | done | with_reducible rfl)
      try simp only [Act.put, fZ, fI, List.setIfInBounds_toArray, List.set_cons_zero, List.set_cons_succ]
      refine wpFl_take (S := s35_) (v := undef) hst35 hS41 14 rfl (by kernel_rfl) (fun _ _ _ h => h) (Or.inr ⟨by rfl, rfl⟩) ?_
      try simp only [Act.put, List.setIfInBounds_toArray, List.set_cons_zero, List.set_cons_succ]
      refine wpFl_take (S := s35_) (v := undef) hst35 hS41 15 rfl (by kernel_rfl) (fun _ _ _ h => h) (Or.inr ⟨by rfl, rfl⟩) ?_
      try simp only [Act.put, List.setIfInBounds_toArray, List.set_cons_zero, List.set_cons_succ]
      refine wpFl_take (S := s35_) (v := ?_) hst35 hS41 16 rfl (by kernel_rfl) (fun _ _ _ h => h) (Or.inl ⟨by rfl, ?_⟩) ?_
      rotate_left
      · intro w_ hSw; rw [Hs35_.out] at hSw; (try dsimp only at hSw); go_simp; (first | done | with_reducible rfl)
      try simp only [Act.put, fZ, fI, List.setIfInBounds_toArray, List.set_cons_zero, List.set_cons_succ]
      refine wpFl_take (S := s35_) (v := ?_) hst35 hS41 17 rfl (by kernel_rfl) (fun _ _ _ h => h) (Or.inl ⟨by rfl, ?_⟩) ?_
      rotate_left
      · intro w_ hSw; rw [Hs35_.out] at hSw; (try dsimp only at hSw); go_simp; (first | done | with_reducible rfl)
      try simp only [Act.put, fZ, fI, List.setIfInBounds_toArray, List.set_cons_zero, List.set_cons_succ]
      refine wpFl_take (S := s35_) (v := ?_) hst35 hS41 18 rfl (by kernel_rfl) (fun _ _ _ h => h) (Or.inl ⟨by rfl, ?_⟩) ?_
      rotate_left
      · intro w_ hSw; rw [Hs35_.out] at hSw; (try dsimp only at hSw); go_simp; (first | done | with_reducible rfl)
      try simp only [Act.put, fZ, fI, List.setIfInBounds_toArray, List.set_cons_zero, List.set_cons_succ]
      refine wpFl_take (S := s35_) (v := ?_) hst35 hS41 19 rfl (by kernel_rfl) (fun _ _ _ h => h) (Or.inl ⟨by rfl, ?_⟩) ?_
      rotate_left
      · intro w_ hSw; rw [Hs35_.out] at hSw; (try dsimp only at hSw); go_simp; (first | done | with_reducible rfl)
      try simp only [Act.put, fZ, fI, List.setIfInBounds_toArray, List.set_cons_zero, List.set_cons_succ]
      refine wpFl_take (S := s35_) (v := ?_) hst35 hS41 20 rfl (by kernel_rfl) (fun _ _ _ h => h) (Or.inl ⟨by rfl, ?_⟩) ?_
      rotate_left
      · intro w_ hSw; rw [Hs35_.out] at hSw; (try dsimp only at hSw); go_simp; (first | done | with_reducible rfl)
      try simp only [Act.put, fZ, fI, List.setIfInBounds_toArray, List.set_cons_zero, List.set_cons_succ]
      refine wpFl_take (S := s35_) (v := ?_) hst35 hS41 22 rfl (by kernel_rfl) (fun _ _ _ h => h) (Or.inl ⟨by rfl, ?_⟩) ?_
      rotate_left
      · intro w_ hSw; rw [Hs35_.out] at hSw; (try dsimp only at hSw); go_simp; (first | done | with_reducible rfl)
      try simp only [Act.put, fZ, fI, List.setIfInBounds_toArray, List.set_cons_zero, List.set_cons_succ]
      refine wpFl_take (S := s35_) (v := ?_) hst35 hS41 23 rfl (by kernel_rfl) (fun _ _ _ h => h) (Or.inl ⟨by rfl, ?_⟩) ?_
      rotate_left
      · intro w_ hSw; rw [Hs35_.out] at hSw; (try dsimp only at hSw); go_simp; (first | done | with_reducible rfl)
      try simp only [Act.put, fZ, fI, List.setIfInBounds_toArray, List.set_cons_zero, List.set_cons_succ]
      refine wpFl_take (S := s35_) (v := ?_) hst35 hS41 26 rfl (by kernel_rfl) (fun _ _ _ h => h) (Or.inl ⟨by rfl, ?_⟩) ?_
      rotate_left
      · intro w_ hSw; rw [Hs35_.out] at hSw; (try dsimp only at hSw); go_simp; (first | done | with_reducible rfl)
      try simp only [Act.put, fZ, fI, List.setIfInBounds_toArray, List.set_cons_zero, List.set_cons_succ]
      refine wpFl_call 21 rfl (by kernel_rfl) (fun w42 hg42 K hK => ?_)
      have hS43 := hst35 _ _ hg42 hS41
      clear hS41
      go_simp
      refine (add_as ((((((((((qa.alloc (.cells #[.bool ba, .slice Aa ma ca] 25)).alloc (.cells #[.bool bb, .slice Ab mb cb] 25)).alloc (.cells #[.bool bc, .slice Ac mc cc] 25)).below hb1).below hb5).below hW31).below hg36).below hg38).below hb40).below hg42) ((((((((((qc.alloc (.cells #[.bool ba, .slice Aa ma ca] 25)).alloc (.cells #[.bool bb, .slice Ab mb cb] 25)).alloc (.cells #[.bool bc, .slice Ac mc cc] 25)).below hb1).below hb5).below hW31).below hg36).below hg38).below hb40).below hg42) (by decide) (by decide) He1).mono ?_
      rintro e w44 ⟨b44, A44, m44, c44, rfl, q44, hb44⟩
      refine hK.out _ _ hb44 ?_
      clear hK K
      try simp only [Act.put, fZ, fI, List.setIfInBounds_toArray, List.set_cons_zero, List.set_cons_succ]
      have hS45 := hst35 _ _ hb44 hS43
      clear hS43
      refine wpFl_call 24 rfl (by kernel_rfl) (fun w46 hg46 K hK => ?_)
      have hS47 := hst35 _ _ hg46 hS45
      clear hS45
      go_simp
      refine (add_as ((((((((((((qb.alloc (.cells #[.bool ba, .slice Aa ma ca] 25)).alloc (.cells #[.bool bb, .slice Ab mb cb] 25)).alloc (.cells #[.bool bc, .slice Ac mc cc] 25)).below hb1).below hb5).below hW31).below hg36).below hg38).below hb40).below hg42).below hb44).below hg46) ((((((((((((qc.alloc (.cells #[.bool ba, .slice Aa ma ca] 25)).alloc (.cells #[.bool bb, .slice Ab mb cb] 25)).alloc (.cells #[.bool bc, .slice Ac mc cc] 25)).below hb1).below hb5).below hW31).below hg36).below hg38).below hb40).below hg42).below hb44).below hg46) (by decide) (by decide) He2).mono ?_
      rintro e w48 ⟨b48, A48, m48, c48, rfl, q48, hb48⟩
      refine hK.out _ _ hb48 ?_
      clear hK K
      try simp only [Act.put, fZ, fI, List.setIfInBounds_toArray, List.set_cons_zero, List.set_cons_succ]
      have hS49 := hst35 _ _ hb48 hS47
      clear hS47
      refine wpFl_call 25 rfl (by kernel_rfl) (fun w50 hg50 K hK => ?_)
      have hS51 := hst35 _ _ hg50 hS49
      clear hS49
      go_simp
      refine (cmp_as (((q44.below hg46).below hb48).below hg50).zi (q48.below hg50).zi H2).mono ?_
      rintro e w52 ⟨rfl, hb52⟩
      refine hK.out _ _ hb52 ?_
      clear hK K
      try simp only [Act.put, fZ, fI, List.setIfInBounds_toArray, List.set_cons_zero, List.set_cons_succ]
      have hS53 := hst35 _ _ hb52 hS51
      clear hS51
      refine wpFl_take (S := s35_) (v := ?_) hst35 hS53 27 rfl (by kernel_rfl) (fun _ _ _ h => h) (Or.inl ⟨by rfl, ?_⟩) ?_
      rotate_left
      · intro w_ hSw; rw [Hs35_.out] at hSw; (try dsimp only at hSw); go_simp; (first | done | with_reducible rfl)
      try simp only [Act.put, fZ, fI, List.setIfInBounds_toArray, List.set_cons_zero, List.set_cons_succ]
      refine wpFl_take (S := s35_) (v := ?_) hst35 hS53 28 rfl (by kernel_rfl) (fun _ _ _ h => h) (Or.inl ⟨by rfl, ?_⟩) ?_
      rotate_left
      · intro w_ hSw; rw [Hs35_.out] at hSw; (try dsimp only at hSw); go_simp; (first | done | with_reducible rfl)
      try simp only [Act.put, fZ, fI, List.setIfInBounds_toArray, List.set_cons_zero, List.set_cons_succ]
      refine wpFl_end0 (fun w54 hg54 => ?_)
      try simp only [Act.put, fZ, fI, List.setIfInBounds_toArray, List.set_cons_zero, List.set_cons_succ]
      clear hS53 hst35
      have hW55 := below_then hg36 hg36.size hg38
      have hW56 := below_then hW55 hW55.size hb40
      have hW57 := below_then hW56 hW56.size hg42
      have hW58 := below_then hW57 hW57.size hb44
      have hW59 := below_then hW58 hW58.size hg46
      have hW60 := below_then hW59 hW59.size hb48
      have hW61 := below_then hW60 hW60.size hg50
      have hW62 := below_then hW61 hW61.size hb52
      have hW63 := below_then hW62 hW62.size hg54
      have f64 := (((((q44.below hg46).below hb48).below hg50).below hb52).below hg54)
      have f65 := (((q48.below hg50).below hb52).below hg54)
      replace q44 := f64
      clear f64
      replace q48 := f65
      clear f65
      have HB7 := below_then HB6 HB6.size hW63
      have k66 := (k32.below hW63)
      have k66a := k66.c0
      have k66b := k66.c1
      have k67 := (k33.below hW63)
      have k67a := k67.c0
      have k67b := k67.c1
      have k68 := (k34.below hW63)
      have k68a := k68.c0
      have k68b := k68.c1
      refine wpList_nil ?_
      go_wp2_with fail
      have hst69 : ∀ w1_ w2_ : World, Below w1_.heap.size w1_ w2_ → (w1_.cell? ⟨w.heap.size, 0, none⟩ = some (.bool ba) ∧ w1_.cell? ⟨w.heap.size, 1, none⟩ = some (.slice Aa ma ca) ∧ w1_.cell? ⟨(w.heap.size + 1), 0, none⟩ = some (.bool bb) ∧ w1_.cell? ⟨(w.heap.size + 1), 1, none⟩ = some (.slice Ab mb cb) ∧ w1_.cell? ⟨(w.heap.size + 2), 0, none⟩ = some (.bool bc) ∧ w1_.cell? ⟨(w.heap.size + 2), 1, none⟩ = some (.slice Ac mc cc)) → (w2_.cell? ⟨w.heap.size, 0, none⟩ = some (.bool ba) ∧ w2_.cell? ⟨w.heap.size, 1, none⟩ = some (.slice Aa ma ca) ∧ w2_.cell? ⟨(w.heap.size + 1), 0, none⟩ = some (.bool bb) ∧ w2_.cell? ⟨(w.heap.size + 1), 1, none⟩ = some (.slice Ab mb cb) ∧ w2_.cell? ⟨(w.heap.size + 2), 0, none⟩ = some (.bool bc) ∧ w2_.cell? ⟨(w.heap.size + 2), 1, none⟩ = some (.slice Ac mc cc)) := fun _ _ hb_ h_ => ⟨pw_cell_below hb_ h_.1, pw_cell_below hb_ h_.2.1, pw_cell_below hb_ h_.2.2.1, pw_cell_below hb_ h_.2.2.2.1, pw_cell_below hb_ h_.2.2.2.2.1, pw_cell_below hb_ h_.2.2.2.2.2⟩
      have hS69 : w54.cell? ⟨w.heap.size, 0, none⟩ = some (.bool ba) ∧ w54.cell? ⟨w.heap.size, 1, none⟩ = some (.slice Aa ma ca) ∧ w54.cell? ⟨(w.heap.size + 1), 0, none⟩ = some (.bool bb) ∧ w54.cell? ⟨(w.heap.size + 1), 1, none⟩ = some (.slice Ab mb cb) ∧ w54.cell? ⟨(w.heap.size + 2), 0, none⟩ = some (.bool bc) ∧ w54.cell? ⟨(w.heap.size + 2), 1, none⟩ = some (.slice Ac mc cc) := ⟨k66.c0, k66.c1, k67.c0, k67.c1, k68.c0, k68.c1⟩
      obtain ⟨s69_, hs69_⟩ : ∃ S_ : World → Prop, S_ = (fun w_ => w_.cell? ⟨w.heap.size, 0, none⟩ = some (.bool ba) ∧ w_.cell? ⟨w.heap.size, 1, none⟩ = some (.slice Aa ma ca) ∧ w_.cell? ⟨(w.heap.size + 1), 0, none⟩ = some (.bool bb) ∧ w_.cell? ⟨(w.heap.size + 1), 1, none⟩ = some (.slice Ab mb cb) ∧ w_.cell? ⟨(w.heap.size + 2), 0, none⟩ = some (.bool bc) ∧ w_.cell? ⟨(w.heap.size + 2), 1, none⟩ = some (.slice Ac mc cc)) := ⟨_, rfl⟩
      have Hs69_ := Lib.hid hs69_
      replace hst69 : ∀ w1_ w2_ : World, Below w1_.heap.size w1_ w2_ → s69_ w1_ → s69_ w2_ := by rw [hs69_]; exact hst69
      replace hS69 : s69_ w54 := by rw [hs69_]; exact hS69
      clear hs69_
      clear k66a k66b k67a k67b k68a k68b
      refine wp_region_flt [] [0, 1, 2, 3, 4, 5, 6, 7, 8, 9, 10, 11, 12, 13, 14, 15, 16, 17, 18, 19, 20] [] [] 21 (by kernel_rfl) (by kernel_rfl) .nil isFlt0 (fun c_ a_ a'_ w_ hd_ h_ => by first | exact ⟨hd_.trans h_.1, h_.2⟩ | exact h_) (fun w70 hg70 => ?_)
      have hS71 := hst69 _ _ hg70 hS69
      clear hS69
      refine wpFl_take (S := s69_) (v := ?_) hst69 hS71 0 rfl (by kernel_rfl) (fun _ _ _ h => h) (Or.inl ⟨by rfl, ?_⟩) ?_
      rotate_left
      · intro w_ hSw; rw [Hs69_.out] at hSw; (try dsimp only at hSw); go_simp; (first | done | with_reducible rfl)
      try simp only [Act.put, fZ, fI, List.setIfInBounds_toArray, List.set_cons_zero, List.set_cons_succ]
      refine wpFl_take (S := s69_) (v := ?_) hst69 hS71 1 rfl (by kernel_rfl) (fun _ _ _ h => h) (Or.inl ⟨by rfl, ?_⟩) ?_
      rotate_left
      · intro w_ hSw; rw [Hs69_.out] at hSw; (try dsimp only at hSw); go_simp; (first | done | with_reducible rfl)
      try simp only [Act.put, fZ, fI, List.setIfInBounds_toArray, List.set_cons_zero, List.set_cons_succ]
      refine wpFl_take (S := s69_) (v := ?_) hst69 hS71 3 rfl (by kernel_rfl) (fun _ _ _ h => h) (Or.inl ⟨by rfl, ?_⟩) ?_
      rotate_left
      · intro w_ hSw; rw [Hs69_.out] at hSw; (try dsimp only at hSw); go_simp; (first | done | with_reducible rfl)
      try simp only [Act.put, fZ, fI, List.setIfInBounds_toArray, List.set_cons_zero, List.set_cons_succ]
      refine wpFl_take (S := s69_) (v := ?_) hst69 hS71 4 rfl (by kernel_rfl) (fun _ _ _ h => h) (Or.inl ⟨by rfl, ?_⟩) ?_
      rotate_left
      · intro w_ hSw; rw [Hs69_.out] at hSw; (try dsimp only at hSw); go_simp; (first | done | with_reducible rfl)
      try simp only [Act.put, fZ, fI, List.setIfInBounds_toArray, List.set_cons_zero, List.set_cons_succ]
      refine wpFl_take (S := s69_) (v := ?_) hst69 hS71 7 rfl (by kernel_rfl) (fun _ _ _ h => h) (Or.inl ⟨by rfl, ?_⟩) ?_
      rotate_left
      · intro w_ hSw; rw [Hs69_.out] at hSw; (try dsimp only at hSw); go_simp; (first | done | with_reducible rfl)
      try simp only [Act.put, fZ, fI, List.setIfInBounds_toArray, List.set_cons_zero, List.set_cons_succ]
      refine wpFl_take (S := s69_) (v := ?_) hst69 hS71 8 rfl (by kernel_rfl) (fun _ _ _ h => h) (Or.inl ⟨by rfl, ?_⟩) ?_
      rotate_left
      · intro w_ hSw; rw [Hs69_.out] at hSw; (try dsimp only at hSw); go_simp; (first | done | with_reducible rfl)
      try simp only [Act.put, fZ, fI, List.setIfInBounds_toArray, List.set_cons_zero, List.set_cons_succ]
      refine wpFl_call 2 rfl (by kernel_rfl) (fun w72 hg72 K hK => ?_)
      have hS73 := hst69 _ _ hg72 hS71
      clear hS71
      go_simp
      refine (mul_as (((((((((qa.alloc (.cells #[.bool ba, .slice Aa ma ca] 25)).alloc (.cells #[.bool bb, .slice Ab mb cb] 25)).alloc (.cells #[.bool bc, .slice Ac mc cc] 25)).below hb1).below hb5).below hW31).below hW63).below hg70).below hg72) (((((((((qc.alloc (.cells #[.bool ba, .slice Aa ma ca] 25)).alloc (.cells #[.bool bb, .slice Ab mb cb] 25)).alloc (.cells #[.bool bc, .slice Ac mc cc] 25)).below hb1).below hb5).below hW31).below hW63).below hg70).below hg72) (by decide) (by decide) He3).mono ?_
      rintro e w74 ⟨b74, A74, m74, c74, rfl, q74, hb74⟩
      refine hK.out _ _ hb74 ?_
      clear hK K
      try simp only [Act.put, fZ, fI, List.setIfInBounds_toArray, List.set_cons_zero, List.set_cons_succ]
      have hS75 := hst69 _ _ hb74 hS73
      clear hS73
      refine wpFl_call 5 rfl (by kernel_rfl) (fun w76 hg76 K hK => ?_)
      have hS77 := hst69 _ _ hg76 hS75
      clear hS75
      go_simp
      refine (mul_as (((((((((((qb.alloc (.cells #[.bool ba, .slice Aa ma ca] 25)).alloc (.cells #[.bool bb, .slice Ab mb cb] 25)).alloc (.cells #[.bool bc, .slice Ac mc cc] 25)).below hb1).below hb5).below hW31).below hW63).below hg70).below hg72).below hb74).below hg76) (((((((((((qc.alloc (.cells #[.bool ba, .slice Aa ma ca] 25)).alloc (.cells #[.bool bb, .slice Ab mb cb] 25)).alloc (.cells #[.bool bc, .slice Ac mc cc] 25)).below hb1).below hb5).below hW31).below hW63).below hg70).below hg72).below hb74).below hg76) (by decide) (by decide) He4).mono ?_
      rintro e w78 ⟨b78, A78, m78, c78, rfl, q78, hb78⟩
      refine hK.out _ _ hb78 ?_
      clear hK K
      try simp only [Act.put, fZ, fI, List.setIfInBounds_toArray, List.set_cons_zero, List.set_cons_succ]
      have hS79 := hst69 _ _ hb78 hS77
      clear hS77
      refine wpFl_call 6 rfl (by kernel_rfl) (fun w80 hg80 K hK => ?_)
      have hS81 := hst69 _ _ hg80 hS79
      clear hS79
      go_simp
      refine (cmp_as (((q74.below hg76).below hb78).below hg80).zi (q78.below hg80).zi H3).mono ?_
      rintro e w82 ⟨rfl, hb82⟩
      refine hK.out _ _ hb82 ?_
      clear hK K
      try simp only [Act.put, fZ, fI, List.setIfInBounds_toArray, List.set_cons_zero, List.set_cons_succ]
      have hS83 := hst69 _ _ hb82 hS81
      clear hS81
      refine wpFl_call 9 rfl (by kernel_rfl) (fun w84 hg84 K hK => ?_)
      have hS85 := hst69 _ _ hg84 hS83
      clear hS83
      go_simp
      refine (sgn_as (((((((((((((((qc.alloc (.cells #[.bool ba, .slice Aa ma ca] 25)).alloc (.cells #[.bool bb, .slice Ab mb cb] 25)).alloc (.cells #[.bool bc, .slice Ac mc cc] 25)).below hb1).below hb5).below hW31).below hW63).below hg70).below hg72).below hb74).below hg76).below hb78).below hg80).below hb82).below hg84) Hs).mono ?_
      rintro e w86 ⟨rfl, hb86⟩
      refine hK.out _ _ hb86 ?_
      clear hK K
      try simp only [Act.put, fZ, fI, List.setIfInBounds_toArray, List.set_cons_zero, List.set_cons_succ]
      have hS87 := hst69 _ _ hb86 hS85
      clear hS85
      refine wpFl_take (S := s69_) (v := ?_) hst69 hS87 10 rfl (by kernel_rfl) (fun _ _ _ h => h) (Or.inl ⟨by rfl, ?_⟩) ?_
      rotate_left
      · intro w_ hSw; rw [Hs69_.out] at hSw; (try dsimp only at hSw); go_simp; (first | done | with_reducible rfl)
      try simp only [Act.put, fZ, fI, List.setIfInBounds_toArray, List.set_cons_zero, List.set_cons_succ]
      refine wpFl_take (S := s69_) (v := ?_) hst69 hS87 11 rfl (by kernel_rfl) (fun _ _ _ h => h) (Or.inl ⟨by rfl, ?_⟩) ?_
      rotate_left
      · intro w_ hSw; rw [Hs69_.out] at hSw; (try dsimp only at hSw); go_simp; (first | done | with_reducible rfl)
      try simp only [Act.put, fZ, fI, List.setIfInBounds_toArray, List.set_cons_zero, List.set_cons_succ]
      refine wpFl_take (S := s69_) (v := ?_) hst69 hS87 12 rfl (by kernel_rfl) (fun _ _ _ h => h) (Or.inl ⟨by rfl, ?_⟩) ?_
      rotate_left
      · intro w_ hSw; rw [Hs69_.out] at hSw; (try dsimp only at hSw); go_simp; (first | done | with_reducible rfl)
      try simp only [Act.put, fZ, fI, List.setIfInBounds_toArray, List.set_cons_zero, List.set_cons_succ]
      refine wpFl_take (S := s69_) (v := ?_) hst69 hS87 13 rfl (by kernel_rfl) (fun _ _ _ h => h) (Or.inl ⟨by rfl, ?_⟩) ?_
      rotate_left
      · intro w_ hSw; rw [Hs69_.out] at hSw; (try dsimp only at hSw); go_simp; (first | done | with_reducible rfl)
      try simp only [Act.put, fZ, fI, List.setIfInBounds_toArray, List.set_cons_zero, List.set_cons_succ]
      refine wpFl_take (S := s69_) (v := ?_) hst69 hS87 14 rfl (by kernel_rfl) (fun _ _ _ h => h) (Or.inl ⟨by rfl, ?_⟩) ?_
      rotate_left
      · intro w_ hSw; rw [Hs69_.out] at hSw; (try dsimp only at hSw); go_simp; (first | done | with_reducible rfl)
      try simp only [Act.put, fZ, fI, List.setIfInBounds_toArray, List.set_cons_zero, List.set_cons_succ]
      refine wpFl_take (S := s69_) (v := ?_) hst69 hS87 17 rfl (by kernel_rfl) (fun _ _ _ h => h) (Or.inl ⟨by rfl, ?_⟩) ?_
      rotate_left
      · intro w_ hSw; rw [Hs69_.out] at hSw; (try dsimp only at hSw); go_simp; (first | done | with_reducible rfl)
      try simp only [Act.put, fZ, fI, List.setIfInBounds_toArray, List.set_cons_zero, List.set_cons_succ]
      refine wpFl_call 15 rfl (by kernel_rfl) (fun w88 hg88 K hK => ?_)
      have hS89 := hst69 _ _ hg88 hS87
      clear hS87
      go_simp
      refine (sub_as (((((((((((((((((qa.alloc (.cells #[.bool ba, .slice Aa ma ca] 25)).alloc (.cells #[.bool bb, .slice Ab mb cb] 25)).alloc (.cells #[.bool bc, .slice Ac mc cc] 25)).below hb1).below hb5).below hW31).below hW63).below hg70).below hg72).below hb74).below hg76).below hb78).below hg80).below hb82).below hg84).below hb86).below hg88) (((((((((((((((((qb.alloc (.cells #[.bool ba, .slice Aa ma ca] 25)).alloc (.cells #[.bool bb, .slice Ab mb cb] 25)).alloc (.cells #[.bool bc, .slice Ac mc cc] 25)).below hb1).below hb5).below hW31).below hW63).below hg70).below hg72).below hb74).below hg76).below hb78).below hg80).below hb82).below hg84).below hb86).below hg88) (by decide) (by decide) He5).mono ?_
      rintro e w90 ⟨b90, A90, m90, c90, rfl, q90, hb90⟩
      refine hK.out _ _ hb90 ?_
      clear hK K
      try simp only [Act.put, fZ, fI, List.setIfInBounds_toArray, List.set_cons_zero, List.set_cons_succ]
      have hS91 := hst69 _ _ hb90 hS89
      clear hS89
      refine wpFl_call 16 rfl (by kernel_rfl) (fun w92 hg92 K hK => ?_)
      have hS93 := hst69 _ _ hg92 hS91
      clear hS91
      go_simp
      refine (sgn_as (q90.below hg92).zi H4).mono ?_
      rintro e w94 ⟨rfl, hb94⟩
      refine hK.out _ _ hb94 ?_
      clear hK K
      try simp only [Act.put, fZ, fI, List.setIfInBounds_toArray, List.set_cons_zero, List.set_cons_succ]
      have hS95 := hst69 _ _ hb94 hS93
      clear hS93
      refine wpFl_take (S := s69_) (v := ?_) hst69 hS95 18 rfl (by kernel_rfl) (fun _ _ _ h => h) (Or.inl ⟨by rfl, ?_⟩) ?_
      rotate_left
      · intro w_ hSw; rw [Hs69_.out] at hSw; (try dsimp only at hSw); go_simp; (first | done | with_reducible rfl)
      try simp only [Act.put, fZ, fI, List.setIfInBounds_toArray, List.set_cons_zero, List.set_cons_succ]
      refine wpFl_take (S := s69_) (v := ?_) hst69 hS95 19 rfl (by kernel_rfl) (fun _ _ _ h => h) (Or.inl ⟨by rfl, ?_⟩) ?_
      rotate_left
      · intro w_ hSw; rw [Hs69_.out] at hSw; (try dsimp only at hSw); go_simp; (first | done | with_reducible rfl)
      try simp only [Act.put, fZ, fI, List.setIfInBounds_toArray, List.set_cons_zero, List.set_cons_succ]
      refine wpFl_take (S := s69_) (v := ?_) hst69 hS95 20 rfl (by kernel_rfl) (fun _ _ _ h => h) (Or.inl ⟨by rfl, ?_⟩) ?_
      rotate_left
      · intro w_ hSw; rw [Hs69_.out] at hSw; (try dsimp only at hSw); go_simp; (first | done | with_reducible rfl)
      try simp only [Act.put, fZ, fI, List.setIfInBounds_toArray, List.set_cons_zero, List.set_cons_succ]
      refine wpFl_end0 (fun w96 hg96 => ?_)
      try simp only [Act.put, fZ, fI, List.setIfInBounds_toArray, List.set_cons_zero, List.set_cons_succ]
      clear hS95 hst69
      have hW97 := below_then hg70 hg70.size hg72
      have hW98 := below_then hW97 hW97.size hb74
      have hW99 := below_then hW98 hW98.size hg76
      have hW100 := below_then hW99 hW99.size hb78
      have hW101 := below_then hW100 hW100.size hg80
      have hW102 := below_then hW101 hW101.size hb82
      have hW103 := below_then hW102 hW102.size hg84
      have hW104 := below_then hW103 hW103.size hb86
      have hW105 := below_then hW104 hW104.size hg88
      have hW106 := below_then hW105 hW105.size hb90
      have hW107 := below_then hW106 hW106.size hg92
      have hW108 := below_then hW107 hW107.size hb94
      have hW109 := below_then hW108 hW108.size hg96
      have f110 := (((((((((((q74.below hg76).below hb78).below hg80).below hb82).below hg84).below hb86).below hg88).below hb90).below hg92).below hb94).below hg96)
      have f111 := (((((((((q78.below hg80).below hb82).below hg84).below hb86).below hg88).below hb90).below hg92).below hb94).below hg96)
      have f112 := (((q90.below hg92).below hb94).below hg96)
      replace q74 := f110
      clear f110
      replace q78 := f111
      clear f111
      replace q90 := f112
      clear f112
      have HB8 := below_then HB7 HB7.size hW109
      have k113 := (k66.below hW109)
      have k113a := k113.c0
      have k113b := k113.c1
      have k114 := (k67.below hW109)
      have k114a := k114.c0
      have k114b := k114.c1
      have k115 := (k68.below hW109)
      have k115a := k115.c0
      have k115b := k115.c1
      refine wpList_nil ?_
      go_wp2_with fail
      go_ret
      exact ⟨rfl, HB8⟩
  · skip
    have HF : Hid (false = (decide ((ma : Int) ≤ 8) && decide ((mb : Int) ≤ 8) && decide ((mc : Int) ≤ 8))) := Lib.hid (by simp; omega)
    have bxa := Box.new w 25 (.bool ba) (.slice Aa ma ca)
    have bxb := Box.new1 w (.cells #[.bool ba, .slice Aa ma ca] 25) 25 (.bool bb) (.slice Ab mb cb)
    have bxc := Box.new2 w (.cells #[.bool ba, .slice Aa ma ca] 25) (.cells #[.bool bb, .slice Ab mb cb] 25) 25 (.bool bc) (.slice Ac mc cc)
    go_enter Try.func6, Try.ntmps6
    go_wp2_with fail
    refine (lawake _).mono ?_
    rintro e w1 ⟨rfl, hb1⟩
    have HB1 := below_alloc (Below.refl w.heap.size w) (.cells #[.bool ba, .slice Aa ma ca] 25)
    have HB2 := below_alloc HB1 (.cells #[.bool bb, .slice Ab mb cb] 25)
    have HB3 := below_alloc HB2 (.cells #[.bool bc, .slice Ac mc cc] 25)
    have HB4 := below_then HB3 HB3.size hb1
    have k2 := (((bxa.alloc (.cells #[.bool bb, .slice Ab mb cb] 25)).alloc (.cells #[.bool bc, .slice Ac mc cc] 25)).below hb1)
    have k2a := k2.c0
    have k2b := k2.c1
    have k3 := ((bxb.alloc (.cells #[.bool bc, .slice Ac mc cc] 25)).below hb1)
    have k3a := k3.c0
    have k3b := k3.c1
    have k4 := (bxc.below hb1)
    have k4a := k4.c0
    have k4b := k4.c1
    go_wp2_with fail
    refine (lfew_as 8 HF).mono ?_
    rintro e w5 ⟨rfl, hb5⟩
    have HB5 := below_then HB4 HB4.size hb5
    clear k2a k2b k3a k3b k4a k4b
    have k6 := (k2.below hb5)
    have k6a := k6.c0
    have k6b := k6.c1
    have k7 := (k3.below hb5)
    have k7a := k7.c0
    have k7b := k7.c1
    have k8 := (k4.below hb5)
    have k8a := k8.c0
    have k8b := k8.c1
    go_wp2_with fail
    refine (lawake _).mono ?_
    rintro e w9 ⟨rfl, hb9⟩
    have HB6 := below_then HB5 HB5.size hb9
    go_wp2_with fail
    go_ret
    exact ⟨rfl, HB6⟩
end Go.Proofs.Ythadkjekagfjfaa.IOrder
