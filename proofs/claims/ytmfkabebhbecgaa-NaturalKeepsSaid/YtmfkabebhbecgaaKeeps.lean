/- The law NaturalKeeps returns true for every two slices of digits and a number and leaves what lay in memory as it was. Condition: the slices read as digits, the number is a uint8 (a row's arguments are). -/
import Derived.Test.YtmfkabebhbecgaaNum2
import Derived.Test.YtmfkabebhbecgaaL1
import Derived.Test.YtmfkabebhbecgaaSame
namespace Go.Proofs.Ytmfkabebhbecgaa.Keeps
open Go.RowKit Go.Proofs.Ytmfkabebhbecgaa.Dig Go.Proofs.Ytmfkabebhbecgaa.N Go.Proofs.YtmfkabebhbecgaaW.PrintWords Go.Proofs.YtmfkabebhbecgaaW.PrintLast Go.Proofs.YtmfkabebhbecgaaW.PrintMore
set_option linter.unusedVariables false

theorem own_made {w : World} {B g : Nat} (hb : B ≤ g) (hh : w.heap[g]? = some (.cells #[] 23 (0, 0))) : w.ownsRow B 23 1 (.slice (some ⟨g, 0, none⟩) 0 0) 0 [] :=
  ⟨rfl, .inr ⟨g, 0, #[], rfl, hb, hh, Nat.le_refl _, by decide, rfl, rfl⟩⟩

set_option maxRecDepth 100000 in
set_option maxHeartbeats 4000000 in
theorem law_any {v0 v1 : Value} {l0 l1 : List Int} {w : World} (n : Nat) (h0 : Rd w v0 l0) (h1 : Rd w v1 l1) (hn : n ≤ 255) :
    Calls Try.prog 11 #[v0, v1, .int .u8 n] w fun e w' => e = .returned (.bool true) ∧ Below w.heap.size w w' := by
  have s0 := h0.shp
  have s1 := h1.shp
  by_cases hall : l0.length ≤ 20 ∧ l1.length ≤ 20
  · obtain ⟨b0, b1⟩ := hall
    have q0 := Num.of_rd h0 b0
    have q1 := Num.of_rd h1 b1
    have HF := Lib.hid (fun W => few2 (T := 22) 20 s0 s1 W true (by simp; omega))
    obtain ⟨A0, c0, rfl⟩ := s0
    obtain ⟨A1, c1, rfl⟩ := s1
    obtain ⟨i0, hi0, hz0, hz1, hz2⟩ := info_parts infoU
    have HI := Lib.hid (And.intro hi0 (And.intro hz0 (And.intro hz1 hz2)))
    clear hi0 hz0 hz1 hz2
    generalize ha : nv l0 = a at *
    generalize hb : nv l1 = b at *
    generalize hk0 : l0.length = k0 at *
    generalize hk1 : l1.length = k1 at *
    have E := Lib.hid (And.intro hk0 hk1)
    clear ha hb hk0 hk1
    go_enter Try.func11, Try.ntmps11
    go_wp2_with fail
    refine (awake_any _).mono ?_
    rintro e w1 ⟨rfl, hb1⟩
    go_wp2_with fail
    refine (HF.out _).mono ?_
    rintro e w2 ⟨rfl, hb2⟩
    have HR3 : Hid (App.Reads (w2.alloc (.cells #[] 23)) (w2.alloc (.cells #[] 23)).heap.size 1 A0 k0 (encs (Value.int .u32) l0)) := by
      obtain ⟨_, A_, c_, e_, _, hC_⟩ := (((h0.below hb1).below hb2)).alloc (.cells #[] 23)
      injection e_ with e1_ e2_
      subst e1_
      rw [e2_]
      exact Lib.hid (reads_of_rd hC_)
    go_wp2_with (at_builtin; refine App.wpList_append_any _ rfl _ _ _ rfl w2.heap.size 23 i0 (.int .u32 0) 1 4 Try.underlying22 HI.out.1 HI.out.2.1 HI.out.2.2.1 HI.out.2.2.2 rfl (by omega) (.slice (some ⟨w2.heap.size, 0, none⟩) 0 0) 0 [] rfl (own_made (Nat.le_refl _) (heap_alloc_new w2 _)) (w2.alloc (.cells #[] 23)).heap.size A0 k0 c0 (encs (Value.int .u32) l0) rfl HR3.out ?a1 ?a2 ?a3 ?a4 ?_)
    case a1 => intro u hu; simp [encs] at hu; obtain ⟨_, _, rfl⟩ := hu; rfl
    case a2 => unfold maxLen; omega
    case a3 => omega
    case a4 => simp
    intro x3 w3 hown hg hat
    have hb3 : Below w2.heap.size w2 w3 := (below_alloc (Below.refl _ _) _).grown hg (by simp) (by simp [Value.ownBlock])
    have hx3 : Own w3 w2.heap.size x3 l0 := own_of_row h0.ok (by rw [E.out.1]; simpa using hown)
    clear hown hg hat HR3
    have HR4 : Hid (App.Reads (w3.alloc (.cells #[] 23)) (w3.alloc (.cells #[] 23)).heap.size 1 A1 k1 (encs (Value.int .u32) l1)) := by
      obtain ⟨_, A_, c_, e_, _, hC_⟩ := ((((h1.below hb1).below hb2).below hb3)).alloc (.cells #[] 23)
      injection e_ with e1_ e2_
      subst e1_
      rw [e2_]
      exact Lib.hid (reads_of_rd hC_)
    go_wp2_with (at_builtin; refine App.wpList_append_any _ rfl _ _ _ rfl w3.heap.size 23 i0 (.int .u32 0) 1 4 Try.underlying22 HI.out.1 HI.out.2.1 HI.out.2.2.1 HI.out.2.2.2 rfl (by omega) (.slice (some ⟨w3.heap.size, 0, none⟩) 0 0) 0 [] rfl (own_made (Nat.le_refl _) (heap_alloc_new w3 _)) (w3.alloc (.cells #[] 23)).heap.size A1 k1 c1 (encs (Value.int .u32) l1) rfl HR4.out ?a1 ?a2 ?a3 ?a4 ?_)
    case a1 => intro u hu; simp [encs] at hu; obtain ⟨_, _, rfl⟩ := hu; rfl
    case a2 => unfold maxLen; omega
    case a3 => omega
    case a4 => simp
    intro x4 w4 hown hg hat
    have hb4 : Below w3.heap.size w3 w4 := (below_alloc (Below.refl _ _) _).grown hg (by simp) (by simp [Value.ownBlock])
    have hx4 : Own w4 w3.heap.size x4 l1 := own_of_row h1.ok (by rw [E.out.2]; simpa using hown)
    clear hown hg hat HR4
    go_wp2_with fail
    refine (sub_good ((((q0.below hb1).below hb2).below hb3).below hb4) ((((q1.below hb1).below hb2).below hb3).below hb4) (by decide)).mono ?_
    rintro e w5 ⟨v5, r5, rfl, h_, hb5⟩
    have g_v5 := (h_).lower (show w4.heap.size ≤ _ from (Nat.le_refl _))
    clear h_
    go_wp2_with fail
    refine (divSmall_n (((((q0.below hb1).below hb2).below hb3).below hb4).below hb5) (by decide) 1 (by decide) (by decide)).mono ?_
    rintro e w6 ⟨v6, rfl, ho6, hn6, hb6⟩
    have g_v6 := (GoodRow.of_n ho6 hn6 (by decide)).lower (show w4.heap.size ≤ _ from (Nat.le_trans hb5.size (Nat.le_refl _)))
    clear ho6
    go_wp2_with fail
    refine (normal_n ((((((q0.below hb1).below hb2).below hb3).below hb4).below hb5).below hb6) (by decide)).mono ?_
    rintro e w7 ⟨v7, rfl, ho7, hn7, hb7⟩
    have g_v7 := (GoodRow.of_n ho7 hn7 (by decide)).lower (show w4.heap.size ≤ _ from (Nat.le_trans hb5.size (Nat.le_trans hb6.size (Nat.le_refl _))))
    clear ho7
    go_wp2_with fail
    refine (add_n (((((((q0.below hb1).below hb2).below hb3).below hb4).below hb5).below hb6).below hb7) (Num.zero _) (by decide) (by decide)).mono ?_
    rintro e w8 ⟨v8, rfl, ho8, hn8, hb8⟩
    have g_v8 := (GoodRow.of_n ho8 hn8 (by decide)).lower (show w4.heap.size ≤ _ from (Nat.le_trans hb5.size (Nat.le_trans hb6.size (Nat.le_trans hb7.size (Nat.le_refl _)))))
    clear ho8
    go_wp2_with fail
    refine (of_n 1 (by decide) _).mono ?_
    rintro e w9 ⟨v9, rfl, ho9, hn9, hb9⟩
    have g_v9 := (GoodRow.of_n ho9 hn9 (by decide)).lower (show w4.heap.size ≤ _ from (Nat.le_trans hb5.size (Nat.le_trans hb6.size (Nat.le_trans hb7.size (Nat.le_trans hb8.size (Nat.le_refl _))))))
    clear ho9
    go_wp2_with fail
    refine (mul_n (((((((((q0.below hb1).below hb2).below hb3).below hb4).below hb5).below hb6).below hb7).below hb8).below hb9) hn9 (by decide) (by decide)).mono ?_
    rintro e w10 ⟨v10, rfl, ho10, hn10, hb10⟩
    have g_v10 := (GoodRow.of_n ho10 hn10 (by decide)).lower (show w4.heap.size ≤ _ from (Nat.le_trans hb5.size (Nat.le_trans hb6.size (Nat.le_trans hb7.size (Nat.le_trans hb8.size (Nat.le_trans hb9.size (Nat.le_refl _)))))))
    clear ho10
    go_wp2_with fail
    refine (mulAdd_n ((((((((((q0.below hb1).below hb2).below hb3).below hb4).below hb5).below hb6).below hb7).below hb8).below hb9).below hb10) (by decide) 1 0 (by decide) (by decide)).mono ?_
    rintro e w11 ⟨v11, rfl, ho11, hn11, hb11⟩
    have g_v11 := (GoodRow.of_n ho11 hn11 (by decide)).lower (show w4.heap.size ≤ _ from (Nat.le_trans hb5.size (Nat.le_trans hb6.size (Nat.le_trans hb7.size (Nat.le_trans hb8.size (Nat.le_trans hb9.size (Nat.le_trans hb10.size (Nat.le_refl _))))))))
    clear ho11
    go_wp2_with fail
    refine (shl_n (((((((((((q0.below hb1).below hb2).below hb3).below hb4).below hb5).below hb6).below hb7).below hb8).below hb9).below hb10).below hb11) (by decide) _ 8 (by unfold shc; split <;> (try split) <;> omega)).mono ?_
    rintro e w12 ⟨v12, rfl, ho12, hn12, hb12⟩
    have g_v12 := (GoodRow.of_n ho12 hn12 (by decide)).lower (show w4.heap.size ≤ _ from (Nat.le_trans hb5.size (Nat.le_trans hb6.size (Nat.le_trans hb7.size (Nat.le_trans hb8.size (Nat.le_trans hb9.size (Nat.le_trans hb10.size (Nat.le_trans hb11.size (Nat.le_refl _)))))))))
    clear ho12
    go_wp2_with fail
    refine (shr_n ((((((((((((q0.below hb1).below hb2).below hb3).below hb4).below hb5).below hb6).below hb7).below hb8).below hb9).below hb10).below hb11).below hb12) (by decide) 0 (by decide)).mono ?_
    rintro e w13 ⟨v13, rfl, ho13, hn13, hb13⟩
    have g_v13 := (GoodRow.of_n ho13 hn13 (by decide)).lower (show w4.heap.size ≤ _ from (Nat.le_trans hb5.size (Nat.le_trans hb6.size (Nat.le_trans hb7.size (Nat.le_trans hb8.size (Nat.le_trans hb9.size (Nat.le_trans hb10.size (Nat.le_trans hb11.size (Nat.le_trans hb12.size (Nat.le_refl _))))))))))
    clear ho13
    go_wp2_with fail
    refine (add_n (((((((((((((q0.below hb1).below hb2).below hb3).below hb4).below hb5).below hb6).below hb7).below hb8).below hb9).below hb10).below hb11).below hb12).below hb13) (((((((((((((q1.below hb1).below hb2).below hb3).below hb4).below hb5).below hb6).below hb7).below hb8).below hb9).below hb10).below hb11).below hb12).below hb13) (by decide) (by decide)).mono ?_
    rintro e w14 ⟨v14, rfl, ho14, hn14, hb14⟩
    have g_v14 := (GoodRow.of_n ho14 hn14 (by decide)).lower (show w4.heap.size ≤ _ from (Nat.le_trans hb5.size (Nat.le_trans hb6.size (Nat.le_trans hb7.size (Nat.le_trans hb8.size (Nat.le_trans hb9.size (Nat.le_trans hb10.size (Nat.le_trans hb11.size (Nat.le_trans hb12.size (Nat.le_trans hb13.size (Nat.le_refl _)))))))))))
    clear ho14
    go_wp2_with fail
    refine (mul_n ((((((((((((((q0.below hb1).below hb2).below hb3).below hb4).below hb5).below hb6).below hb7).below hb8).below hb9).below hb10).below hb11).below hb12).below hb13).below hb14) ((((((((((((((q1.below hb1).below hb2).below hb3).below hb4).below hb5).below hb6).below hb7).below hb8).below hb9).below hb10).below hb11).below hb12).below hb13).below hb14) (by decide) (by decide)).mono ?_
    rintro e w15 ⟨v15, rfl, ho15, hn15, hb15⟩
    have g_v15 := (GoodRow.of_n ho15 hn15 (by decide)).lower (show w4.heap.size ≤ _ from (Nat.le_trans hb5.size (Nat.le_trans hb6.size (Nat.le_trans hb7.size (Nat.le_trans hb8.size (Nat.le_trans hb9.size (Nat.le_trans hb10.size (Nat.le_trans hb11.size (Nat.le_trans hb12.size (Nat.le_trans hb13.size (Nat.le_trans hb14.size (Nat.le_refl _))))))))))))
    clear ho15
    have BB_4 := below_then (Below.refl w4.heap.size w4) (Nat.le_refl _) hb5
    have BB_5 := below_then BB_4 BB_4.size hb6
    have BB_6 := below_then BB_5 BB_5.size hb7
    have BB_7 := below_then BB_6 BB_6.size hb8
    have BB_8 := below_then BB_7 BB_7.size hb9
    have BB_9 := below_then BB_8 BB_8.size hb10
    have BB_10 := below_then BB_9 BB_9.size hb11
    have BB_11 := below_then BB_10 BB_10.size hb12
    have BB_12 := below_then BB_11 BB_11.size hb13
    have BB_13 := below_then BB_12 BB_12.size hb14
    have BB_14 := below_then BB_13 BB_13.size hb15
    have HB0 := Lib.hid BB_14
    have BA_0 := below_then (Below.refl w.heap.size w) (Nat.le_refl _) hb1
    have BA_1 := below_then BA_0 BA_0.size hb2
    have BA_2 := below_then BA_1 BA_1.size hb3
    have BA_3 := below_then BA_2 BA_2.size hb4
    have HBA := Lib.hid BA_3
    have K_hx3 := Lib.hid (hx3.below hb4)
    have K_hx4 := Lib.hid hx4
    have K_h0 := Lib.hid ((((h0.below hb1).below hb2).below hb3).below hb4)
    have K_h1 := Lib.hid ((((h1.below hb1).below hb2).below hb3).below hb4)
    have G_v5 := Lib.hid ((((((((((g_v5.below hb6).below hb7).below hb8).below hb9).below hb10).below hb11).below hb12).below hb13).below hb14).below hb15)
    have G_v6 := Lib.hid (((((((((g_v6.below hb7).below hb8).below hb9).below hb10).below hb11).below hb12).below hb13).below hb14).below hb15)
    have G_v7 := Lib.hid ((((((((g_v7.below hb8).below hb9).below hb10).below hb11).below hb12).below hb13).below hb14).below hb15)
    have G_v8 := Lib.hid (((((((g_v8.below hb9).below hb10).below hb11).below hb12).below hb13).below hb14).below hb15)
    have G_v9 := Lib.hid ((((((g_v9.below hb10).below hb11).below hb12).below hb13).below hb14).below hb15)
    have G_v10 := Lib.hid (((((g_v10.below hb11).below hb12).below hb13).below hb14).below hb15)
    have G_v11 := Lib.hid ((((g_v11.below hb12).below hb13).below hb14).below hb15)
    have G_v12 := Lib.hid (((g_v12.below hb13).below hb14).below hb15)
    have G_v13 := Lib.hid ((g_v13.below hb14).below hb15)
    have G_v14 := Lib.hid (g_v14.below hb15)
    have G_v15 := Lib.hid g_v15
    clear g_v5 g_v6 g_v7 g_v8 g_v9 g_v10 g_v11 g_v12 g_v13 g_v14 g_v15
    clear hb1 hb2 hb3 hb4 hb5 hb6 hb7 hb8 hb9 hb10 hb11 hb12 hb13 hb14 hb15 h0 h1 q0 q1 HF hx3 hx4 BB_4 BB_5 BB_6 BB_7 BB_8 BB_9 BB_10 BB_11 BB_12 BB_13 BB_14 BA_0 BA_1 BA_2 BA_3
    clear hn7 hn8 hn10 hn11 hn12 hn13 hn14 hn15 hn9 hn6
    obtain ⟨A_v7, n_v7, c_v7, rfl⟩ := G_v7.out.shp
    obtain ⟨A_v8, n_v8, c_v8, rfl⟩ := G_v8.out.shp
    obtain ⟨A_v10, n_v10, c_v10, rfl⟩ := G_v10.out.shp
    obtain ⟨A_v11, n_v11, c_v11, rfl⟩ := G_v11.out.shp
    obtain ⟨A_v12, n_v12, c_v12, rfl⟩ := G_v12.out.shp
    obtain ⟨A_v13, n_v13, c_v13, rfl⟩ := G_v13.out.shp
    obtain ⟨A_v5, n_v5, c_v5, rfl⟩ := G_v5.out.shp
    obtain ⟨A_v6, n_v6, c_v6, rfl⟩ := G_v6.out.shp
    obtain ⟨A_v14, n_v14, c_v14, rfl⟩ := G_v14.out.shp
    obtain ⟨A_v15, n_v15, c_v15, rfl⟩ := G_v15.out.shp
    have HALL : ∀ v ∈ ([.slice A_v7 n_v7 c_v7, .slice A_v8 n_v8 c_v8, .slice A_v10 n_v10 c_v10, .slice A_v11 n_v11 c_v11, .slice A_v12 n_v12 c_v12, .slice A_v13 n_v13 c_v13, .slice A_v5 n_v5 c_v5, .slice A_v6 n_v6 c_v6, .slice A_v14 n_v14 c_v14, .slice A_v15 n_v15 c_v15] : List Value), GoodRow w15 w4.heap.size v := by
      intro v hv
      simp only [List.mem_cons, List.not_mem_nil, or_false] at hv
      rcases hv with rfl | rfl | rfl | rfl | rfl | rfl | rfl | rfl | rfl | rfl
      · exact G_v7.out
      · exact G_v8.out
      · exact G_v10.out
      · exact G_v11.out
      · exact G_v12.out
      · exact G_v13.out
      · exact G_v5.out
      · exact G_v6.out
      · exact G_v14.out
      · exact G_v15.out
    obtain ⟨vs, hvs⟩ : ∃ vs : List Value, vs = [.slice A_v7 n_v7 c_v7, .slice A_v8 n_v8 c_v8, .slice A_v10 n_v10 c_v10, .slice A_v11 n_v11 c_v11, .slice A_v12 n_v12 c_v12, .slice A_v13 n_v13 c_v13, .slice A_v5 n_v5 c_v5, .slice A_v6 n_v6 c_v6, .slice A_v14 n_v14 c_v14, .slice A_v15 n_v15 c_v15] := ⟨_, rfl⟩
    have HVL : vs.length = 10 := by rw [hvs]; rfl
    rw [← hvs] at HALL
    have HG : Hid (∀ v ∈ vs, GoodRow (w15.alloc (.cells #[.slice A_v7 n_v7 c_v7, .slice A_v8 n_v8 c_v8, .slice A_v10 n_v10 c_v10, .slice A_v11 n_v11 c_v11, .slice A_v12 n_v12 c_v12, .slice A_v13 n_v13 c_v13, .slice A_v5 n_v5 c_v5, .slice A_v6 n_v6 c_v6, .slice A_v14 n_v14 c_v14, .slice A_v15 n_v15 c_v15] 31)) w4.heap.size v) := Lib.hid fun v hv => (HALL v hv).below (below_alloc (Below.refl _ _) _)
    have HGL : Hid ((w15.alloc (.cells #[.slice A_v7 n_v7 c_v7, .slice A_v8 n_v8 c_v8, .slice A_v10 n_v10 c_v10, .slice A_v11 n_v11 c_v11, .slice A_v12 n_v12 c_v12, .slice A_v13 n_v13 c_v13, .slice A_v5 n_v5 c_v5, .slice A_v6 n_v6 c_v6, .slice A_v14 n_v14 c_v14, .slice A_v15 n_v15 c_v15] 31)).heap[w15.heap.size]? = some (.cells vs.toArray 31 (0, 0))) := by rw [hvs]; exact Lib.hid (heap_alloc_new _ _)
    have HBL : Hid (Below w4.heap.size w4 (w15.alloc (.cells #[.slice A_v7 n_v7 c_v7, .slice A_v8 n_v8 c_v8, .slice A_v10 n_v10 c_v10, .slice A_v11 n_v11 c_v11, .slice A_v12 n_v12 c_v12, .slice A_v13 n_v13 c_v13, .slice A_v5 n_v5 c_v5, .slice A_v6 n_v6 c_v6, .slice A_v14 n_v14 c_v14, .slice A_v15 n_v15 c_v15] 31))) := Lib.hid (below_alloc HB0.out _)
    have HV2 := Lib.hid HVL
    clear HALL HVL hvs HB0 G_v5 G_v6 G_v7 G_v8 G_v9 G_v10 G_v11 G_v12 G_v13 G_v14 G_v15
    go_wp2_with fail
    generalize w15.heap.size = gl at *
    go_loopw [15, 16] (fun i k wr => ∃ t : Nat, i = .int .i64 t ∧ t ≤ 10 ∧ Hid (∀ v ∈ vs, GoodRow wr w4.heap.size v) ∧ Hid (wr.heap[gl]? = some (.cells vs.toArray 31 (0, 0))) ∧ Hid (Below w4.heap.size w4 wr)) (fun i _ _ => 10 - (intOf i).toNat)
    case atStart => exact ⟨0, rfl, by omega, HG, HGL, HBL⟩
    case round =>
      clear HG HGL HBL
      obtain ⟨t, rfl, ht, HG, HGL, HBL⟩ := hrel
      by_cases htk : t < 10
      · have hcell := cell_of_row wr gl t vs.toArray _ (0, 0) HGL.out
        obtain ⟨v, hv⟩ : ∃ v, vs[t]? = some v := ⟨_, List.getElem?_eq_getElem (by have := HV2.out; omega)⟩
        rw [List.getElem?_toArray, hv] at hcell
        have HM := Lib.hid (List.mem_of_getElem? hv)
        clear hv
        rcases HG.out v HM.out with h_ | ⟨g, m, cap, cur, h_, hm, -⟩
        · subst h_
          go_wp2
          go_loopw [16] (fun k wr' => k = .int .i64 0 ∧ wr' = wr) (fun _ _ => 0)
          case atStart => exact ⟨rfl, rfl⟩
          case round =>
            obtain ⟨rfl, rfl⟩ := hrel
            go_wp2
            go_roundw
            case rel => exact ⟨t + 1, by go_num, by omega, HG, HGL, HBL⟩
            case measure => simp [intOf]; omega
        · subst h_
          have HC := Lib.hid hcell
          clear hcell
          go_wp2
          go_loopw [16] (fun k wr => ∃ s : Nat, k = .int .i64 s ∧ s ≤ m ∧ Hid (∀ v ∈ vs, GoodRow wr w4.heap.size v) ∧ Hid (wr.heap[gl]? = some (.cells vs.toArray 31 (0, 0))) ∧ Hid (Below w4.heap.size w4 wr) ∧ Hid (wr.cell? ⟨gl, t, none⟩ = some (.slice (some ⟨g, 0, none⟩) m cap))) (fun k _ => m - (intOf k).toNat)
          case atStart => exact ⟨0, rfl, by omega, HG, HGL, HBL, HC⟩
          case round =>
            clear HG HGL HBL HC
            obtain ⟨s, rfl, hs, HG, HGL, HBL, HC⟩ := hrel
            have hcell := HC.out
            by_cases hsm : s < m
            · obtain ⟨x, hx, hfz, hgB, cur', hcur⟩ := (HG.out _ HM.out).cell s hsm
              have HNE := Lib.hid (GoodRow.far (t := 31) hcur HGL.out (by decide))
              have HGB := Lib.hid hgB
              clear hcur hgB HC
              go_wp2
              go_roundw
              case rel =>
                refine ⟨s + 1, by go_num, by omega, ?_, ?_, ?_, ?_⟩
                · exact Lib.hid fun v hv => (HG.out v hv).set_ _ _ _
                · exact Lib.hid ((Below.heap_setCell wr ⟨g, s, none⟩ _ gl (fun e => HNE.out e.symm)).trans HGL.out)
                · exact Lib.hid (HBL.out.setCell (p := ⟨g, s, none⟩) HGB.out _)
                · exact Lib.hid ((World.cell?_setCell_other _ _ _ _ (by intro e; simp at e; exact HNE.out e.1)).trans hcell)
              case measure => simp [intOf]; omega
            · obtain rfl : s = m := by omega
              go_wp2
              go_roundw
              case rel => exact ⟨t + 1, by go_num, by omega, HG, HGL, HBL⟩
              case measure => simp [intOf]; omega
      · obtain rfl : t = 10 := by omega
        have hb := HBL.out
        have r0 := K_h0.out.below hb
        have r1 := K_h1.out.below hb
        have r2 := K_hx3.out.rd.below hb
        have r3 := K_hx4.out.rd.below hb
        go_wp2_with fail
        refine (same_any r0 r2 (by have := E.out.1; omega)).mono ?_
        rintro e wa ⟨rfl, hba⟩
        go_wp2_with fail
        refine (same_any (r1.below hba) (r3.below hba) (by have := E.out.2; omega)).mono ?_
        rintro e wb ⟨rfl, hbb⟩
        go_wp2
        have B1 := below_then HBA.out HBA.out.size hb
        have B2 := below_then B1 B1.size hba
        have B3 := below_then B2 B2.size hbb
        go_ret
        exact ⟨rfl, B3⟩
  · have HF := Lib.hid (fun W => few2 (T := 22) 20 s0 s1 W false (by simp; omega))
    clear h0 h1 hall
    obtain ⟨A0, c0, rfl⟩ := s0
    obtain ⟨A1, c1, rfl⟩ := s1
    generalize l0.length = k0 at *
    generalize l1.length = k1 at *
    go_enter Try.func11, Try.ntmps11
    go_wp2_with fail
    refine (awake_any _).mono ?_
    rintro e w1 ⟨rfl, hb1⟩
    go_wp2_with fail
    refine (HF.out _).mono ?_
    rintro e w2 ⟨rfl, hb2⟩
    go_wp2_with fail
    refine (awake_any _).mono ?_
    rintro e w3 ⟨rfl, hb3⟩
    go_wp2_with fail
    have B_0 := below_then (Below.refl w.heap.size w) (Nat.le_refl _) hb1
    have B_1 := below_then B_0 B_0.size hb2
    have B_2 := below_then B_1 B_1.size hb3
    go_ret
    exact ⟨rfl, B_2⟩
end Go.Proofs.Ytmfkabebhbecgaa.Keeps
