/- natural.Add as a walk: the sum's digits in a new slice. The closure that carries is met by a contract of its own. Condition: both slices read as fewer than 2^44 digits. -/
import Derived.Test.YthadkjekagfjfaaN7
namespace Go.Proofs.Ythadkjekagfjfaa.N
open Go.RowKit Go.Proofs.Ythadkjekagfjfaa.Dig Go.Proofs.YthadkjekagfjfaaW.PrintWords Go.Proofs.YthadkjekagfjfaaW.PrintLast Go.Proofs.YthadkjekagfjfaaW.PrintMore
set_option linter.unusedVariables false

theorem digit_any {x y c k s : Int} {g : Nat} {w : World} (hx : 0 ≤ x) (hx2 : x < 4294967296) (hy : 0 ≤ y) (hy2 : y < 4294967296) (hc : 0 ≤ c) (hc2 : c < 4294967296) (he : x + y + c = k * 4294967296 + s) (h0 : 0 ≤ s) (h1 : s < 4294967296)
    (hB : Blk w g [c]) : Calls Try.prog 69 #[.int .u32 x, .int .u32 y, .pointer (some ⟨g, 0, none⟩)] w fun e w' => e = .returned (.int .u32 s) ∧ w' = w.setCell ⟨g, 0, none⟩ (.int .u32 k) := by
  have hcell : w.cell? ⟨g, 0, none⟩ = some (.int .u32 c) := hB.cell 0 (by simp)
  have hfz := hB.frozen 0
  have HE := Lib.hid he
  clear he hB
  go_enter Try.func69, Try.ntmps69
  go_wp2_with (go_at_call 65; refine (add32_to _ hx hx2 hy hy2 hc hc2 HE.out h0 h1).mono ?_; rintro e w' ⟨rfl, rfl⟩)
  go_ret
  exact ⟨rfl, rfl⟩

/-- What is known after i rounds of Add, the carry being c. -/
def AD (x y o : List Int) (i : Nat) (c : Int) : Prop := NOk o ∧ o.length = x.length + 1 ∧ nv (x.take i) + nv (y.take i) = nv (o.take i) + BB ^ i * c.toNat
theorem AD.step {x y o : List Int} {i : Nat} {c p q s k : Int} (h : AD x y o i c) (hi : i < x.length) (hp : p = x.getD i 0) (hq : q = y.getD i 0) (hp0 : 0 ≤ p) (hq0 : 0 ≤ q) (hc : 0 ≤ c) (he : p + q + c = k * 4294967296 + s) (hs0 : 0 ≤ s) (hs1 : s < 4294967296) (hk : 0 ≤ k) : AD x y (o.set i s) (i + 1) k := by
  obtain ⟨ho, hl, hv⟩ := h
  refine ⟨ho.set_ i hs0 hs1, by simpa using hl, ?_⟩
  rw [nv_set_take _ _ _ (by omega), nv_take_any x, nv_take_any y, ← hp, ← hq, Nat.pow_succ]
  obtain ⟨p, rfl⟩ := Int.eq_ofNat_of_zero_le hp0
  obtain ⟨q, rfl⟩ := Int.eq_ofNat_of_zero_le hq0
  obtain ⟨c, rfl⟩ := Int.eq_ofNat_of_zero_le hc
  obtain ⟨s, rfl⟩ := Int.eq_ofNat_of_zero_le hs0
  obtain ⟨k, rfl⟩ := Int.eq_ofNat_of_zero_le hk
  simp only [Int.toNat_natCast] at hv ⊢
  have h1 : p + q + c = BB * k + s := by rw [BB_eq]; omega
  have h2 : BB ^ i * (p + q + c) = BB ^ i * (BB * k + s) := by rw [h1]
  rw [Nat.mul_add, Nat.mul_add, Nat.mul_add, ← Nat.mul_assoc] at h2
  omega
theorem AD.stop {x y o : List Int} {c : Int} (h : AD x y o x.length c) (hc : 0 ≤ c) (hc2 : c < 4294967296) (hyx : y.length ≤ x.length) : NOk (o.set x.length c) ∧ nv (o.set x.length c) = nv x + nv y ∧ (o.set x.length c).length = x.length + 1 := by
  obtain ⟨ho, hl, hv⟩ := h
  refine ⟨ho.set_ _ hc hc2, ?_, by simpa using hl⟩
  have := nv_set_take o x.length c (by omega)
  rw [List.take_of_length_le (by simp; omega)] at this
  rw [List.take_length, List.take_of_length_le hyx] at hv
  rw [this, hv]

set_option maxHeartbeats 2000000 in
theorem add_any {v1 v2 : Value} {l1 l2 : List Int} {w : World} (h1 : Rd w v1 l1) (h2 : Rd w v2 l2) (hl1 : l1.length ≤ 17592186044416) (hl2 : l2.length ≤ 17592186044416) :
    Calls Try.prog 56 #[v1, v2] w (Made w (nv l1 + nv l2)) := by
  have HT1 := Lib.hid (trim_any h1)
  have HT2 := Lib.hid (trim_any h2)
  have hn1 := nd_len_le h1.ok
  have hn2 := nd_len_le h2.ok
  have hk1 := nok_nd (nv l1)
  have hv1 := nv_nd (nv l1)
  have hk2 := nok_nd (nv l2)
  have hv2 := nv_nd (nv l2)
  clear h1 h2
  generalize nv l1 = n at *
  generalize nv l2 = m at *
  generalize nd n = x at *
  generalize nd m = y at *
  have HKx := Lib.hid hk1
  have HVx := Lib.hid hv1
  have HKy := Lib.hid hk2
  have HVy := Lib.hid hv2
  obtain ⟨kx, hx⟩ : ∃ k, k = x.length := ⟨_, rfl⟩
  obtain ⟨ky, hy⟩ : ∃ k, k = y.length := ⟨_, rfl⟩
  have hkx : kx ≤ 17592186044416 := by omega
  have hky : ky ≤ 17592186044416 := by omega
  have HX := Lib.hid hx
  have HY := Lib.hid hy
  clear hk1 hv1 hk2 hv2 hx hy hn1 hn2 hl1 hl2
  by_cases hlt : kx < ky
  · have hmk := make_arr 23 Try.underlying23 (ky + 1) (by omega)
    rw [show (((ky + 1 : Nat)) : Int) = (ky : Int) + 1 from by omega] at hmk
    go_enter Try.func56, Try.ntmps56
    go_wp2_with fail
    refine HT1.out.mono ?_
    rintro e w' ⟨⟨v', rfl, ⟨_, A', c', rfl, hc', hC'⟩, -⟩, rfl⟩
    have HCx := Lib.hid hC'
    clear hC' hc'
    go_wp2_with fail
    refine HT2.out.mono ?_
    rintro e w' ⟨⟨v'', rfl, ⟨_, A'', c'', rfl, hc', hC'⟩, -⟩, rfl⟩
    have HCy := Lib.hid hC'
    rw [← HX.out, ← HY.out]
    clear hC' hc'
    go_wp2_with fail
    clear hmk
    have HB0 := Lib.hid ((Blk.new w (List.replicate (ky + 1) 0)).alloc (.cells #[.int .u32 0] 59))
    have HN0 := Lib.hid (Blk.new (w.alloc (.cells (arr (List.replicate (ky + 1) 0)) 59)) [0])
    have HW0 := Lib.hid (((Below.refl w.heap.size w).alloc (Nat.le_refl _) (.cells (arr (List.replicate (ky + 1) 0)) 59)).alloc (by simp) (.cells #[.int .u32 0] 59))
    go_loopw [29] (fun i wr => ∃ (j : Nat) (c : Int) (o : List Int), i = .int .i64 j ∧ j ≤ kx ∧ 0 ≤ c ∧ c ≤ 1 ∧ Hid (AD y x o j c) ∧ Hid (Blk wr w.heap.size o) ∧ Hid (Blk wr (w.heap.size + 1) [c]) ∧ Hid (Below w.heap.size w wr)) (fun i _ => kx - (intOf i).toNat)
    case atStart =>
      exact ⟨0, 0, _, rfl, Nat.zero_le _, by omega, by omega, Lib.hid ⟨nok_zeros _, by simp [HY.out], by simp [nv]⟩, HB0, by rw [World.size_alloc] at HN0; exact HN0, HW0⟩
    case round =>
      clear HB0 HN0 HW0 HT1 HT2
      obtain ⟨j, c, o, rfl, hjk, hc0, hc1, HM, HB, HN, HW⟩ := hrel
      have hsz : w.heap.size + 1 < wr.heap.size := HN.out.lt
      have HL := Lib.hid (HM.out.2.1)
      by_cases hj : j < kx
      · obtain ⟨ad, hA, hcell⟩ := at_nat (Kd.C_below HCy.out HW.out) (i := j) (by have := HY.out; omega)
        subst hA
        obtain ⟨p, hp⟩ : ∃ d, d = y.getD j 0 := ⟨_, rfl⟩
        have hpr := HKy.out.at_ j
        rw [← hp] at hcell hpr
        have HP := Lib.hid hp
        clear hp
        obtain ⟨hp0, hp1⟩ := hpr
        obtain ⟨ad2, hA2, hcell2⟩ := at_nat (Kd.C_below HCx.out HW.out) (i := j) (by have := HX.out; omega)
        subst hA2
        obtain ⟨q, hq⟩ : ∃ d, d = x.getD j 0 := ⟨_, rfl⟩
        have hqr := HKx.out.at_ j
        rw [← hq] at hcell2 hqr
        have HQ := Lib.hid hq
        clear hq
        obtain ⟨hq0, hq1⟩ := hqr
        obtain ⟨kk, s, he, hs0, hs1, hk0⟩ := split32 (p + q + c) (by omega)
        have hk1 : kk ≤ 1 := by omega
        have HE := Lib.hid he
        clear he
        obtain ⟨old, hold⟩ : ∃ old : Int, wr.cell? ⟨w.heap.size, j, none⟩ = some (.int .u32 old) := ⟨_, HB.out.cell j (by have := HL.out; have := HY.out; omega)⟩
        have hfz := HB.out.frozen j
        have HB2 := Lib.hid (HB.out.far (p := ⟨w.heap.size + 1, 0, none⟩) (by simp) (.int .u32 kk))
        have HN2 := Lib.hid (HN.out.set_ 0 kk)
        have HW2 := Lib.hid (HW.out.setCell (p := ⟨w.heap.size + 1, 0, none⟩) (by simp) (.int .u32 kk))
        have HD := Lib.hid (digit_any hp0 hp1 hq0 hq1 hc0 (by omega) HE.out hs0 hs1 HN.out)
        go_wp2_with (go_at_call 69; refine HD.out.mono ?_; rintro e w' ⟨rfl, rfl⟩)
        go_roundw
        case rel => exact ⟨j + 1, kk, o.set j s, by go_num, by omega, by omega, by omega, Lib.hid (HM.out.step (by have := HY.out; omega) HP.out HQ.out hp0 hq0 hc0 HE.out hs0 hs1 hk0), Lib.hid (HB2.out.set_ j s), Lib.hid (HN2.out.far (p := ⟨w.heap.size, j, none⟩) (by simp) _), Lib.hid (HW2.out.setCell (p := ⟨w.heap.size, j, none⟩) (Nat.le_refl _) _)⟩
        case measure => simp [intOf]; omega
      · obtain rfl : j = kx := by omega
        obtain ⟨W1, hW1⟩ : ∃ W : World, W = wr := ⟨_, rfl⟩
        subst hW1
        go_wp2
        go_loopw [10] (fun i wr => ∃ (z : Nat) (c : Int) (o : List Int), i = .int .i64 z ∧ j ≤ z ∧ z ≤ ky ∧ 0 ≤ c ∧ c ≤ 1 ∧ Hid (AD y x o z c) ∧ Hid (Blk wr w.heap.size o) ∧ Hid (Blk wr (w.heap.size + 1) [c]) ∧ Hid (Below w.heap.size w wr)) (fun i _ => ky - (intOf i).toNat)
        case atStart => exact ⟨j, c, o, rfl, Nat.le_refl _, by omega, hc0, hc1, HM, HB, HN, HW⟩
        case round =>
          clear HM HB HN HW HL hc0 hc1 hsz
          obtain ⟨z, c, o, rfl, hjz, hzk, hc0, hc1, HM, HB, HN, HW⟩ := hrel
          have hsz : w.heap.size + 1 < wr.heap.size := HN.out.lt
          have HL := Lib.hid (HM.out.2.1)
          by_cases hz : z < ky
          · obtain ⟨ad, hA, hcell⟩ := at_nat (Kd.C_below HCy.out HW.out) (i := z) (by have := HY.out; omega)
            subst hA
            obtain ⟨p, hp⟩ : ∃ d, d = y.getD z 0 := ⟨_, rfl⟩
            have hpr := HKy.out.at_ z
            rw [← hp] at hcell hpr
            have HP := Lib.hid hp
            clear hp
            obtain ⟨hp0, hp1⟩ := hpr
            have HQ := Lib.hid (show (0 : Int) = x.getD z 0 by rw [List.getD_eq_getElem?_getD, List.getElem?_eq_none (by have := HX.out; omega)]; rfl)
            obtain ⟨kk, s, he, hs0, hs1, hk0⟩ := split32 (p + 0 + c) (by omega)
            have hk1 : kk ≤ 1 := by omega
            have HE := Lib.hid he
            clear he
            obtain ⟨old, hold⟩ : ∃ old : Int, wr.cell? ⟨w.heap.size, z, none⟩ = some (.int .u32 old) := ⟨_, HB.out.cell z (by have := HL.out; have := HY.out; omega)⟩
            have hfz := HB.out.frozen z
            have HB2 := Lib.hid (HB.out.far (p := ⟨w.heap.size + 1, 0, none⟩) (by simp) (.int .u32 kk))
            have HN2 := Lib.hid (HN.out.set_ 0 kk)
            have HW2 := Lib.hid (HW.out.setCell (p := ⟨w.heap.size + 1, 0, none⟩) (by simp) (.int .u32 kk))
            have HD := Lib.hid (digit_any hp0 hp1 (Int.le_refl 0) (by omega) hc0 (by omega) HE.out hs0 hs1 HN.out)
            go_wp2_with (go_at_call 69; refine HD.out.mono ?_; rintro e w' ⟨rfl, rfl⟩)
            go_roundw
            case rel => exact ⟨z + 1, kk, o.set z s, by go_num, by omega, by omega, by omega, by omega, Lib.hid (HM.out.step (by have := HY.out; omega) HP.out HQ.out hp0 (Int.le_refl 0) hc0 HE.out hs0 hs1 hk0), Lib.hid (HB2.out.set_ z s), Lib.hid (HN2.out.far (p := ⟨w.heap.size, z, none⟩) (by simp) _), Lib.hid (HW2.out.setCell (p := ⟨w.heap.size, z, none⟩) (Nat.le_refl _) _)⟩
            case measure => simp [intOf]; omega
          · obtain rfl : z = ky := by omega
            obtain ⟨old, hold⟩ : ∃ old : Int, wr.cell? ⟨w.heap.size, z, none⟩ = some (.int .u32 old) := ⟨_, HB.out.cell z (by have := HL.out; have := HY.out; omega)⟩
            have hfz := HB.out.frozen z
            have hcc : wr.cell? ⟨w.heap.size + 1, 0, none⟩ = some (.int .u32 c) := HN.out.cell 0 (by simp)
            have hm2 := HM.out
            rw [HY.out] at hm2
            obtain ⟨s1, s2, s3⟩ := hm2.stop hc0 (by omega) (by have := HY.out; have := HX.out; omega)
            rw [← HY.out] at s1 s2 s3
            have HB2 := Lib.hid (HB.out.set_ z c)
            have HO := Lib.hid (HB2.out.own (Nat.le_refl _) (z + 1) (by omega) (by unfold maxLen; omega) (by rw [List.take_of_length_le (by omega)]; exact s1))
            rw [List.take_of_length_le (by omega), s3] at HO
            have HT3 := Lib.hid (trim_any HO.out.rd)
            rw [s2, HVy.out, HVx.out, Nat.add_comm m n] at HT3
            have HW2 := Lib.hid (HW.out.setCell (p := ⟨w.heap.size, z, none⟩) (Nat.le_refl _) (.int .u32 c))
            clear s1 s2 s3 hm2
            go_wp2_with (go_at_call 63; refine HT3.out.mono ?_; rintro e w' ⟨⟨v2, rfl, -, hown⟩, rfl⟩; have HQ := Lib.hid (hown _ HO.out); clear hown)
            go_ret
            exact ⟨_, rfl, HQ.out, HW2.out⟩
  · have hmk := make_arr 23 Try.underlying23 (kx + 1) (by omega)
    rw [show (((kx + 1 : Nat)) : Int) = (kx : Int) + 1 from by omega] at hmk
    go_enter Try.func56, Try.ntmps56
    go_wp2_with fail
    refine HT1.out.mono ?_
    rintro e w' ⟨⟨v', rfl, ⟨_, A', c', rfl, hc', hC'⟩, -⟩, rfl⟩
    have HCx := Lib.hid hC'
    clear hC' hc'
    go_wp2_with fail
    refine HT2.out.mono ?_
    rintro e w' ⟨⟨v'', rfl, ⟨_, A'', c'', rfl, hc', hC'⟩, -⟩, rfl⟩
    have HCy := Lib.hid hC'
    rw [← HX.out, ← HY.out]
    clear hC' hc'
    go_wp2_with fail
    clear hmk
    have HB0 := Lib.hid ((Blk.new w (List.replicate (kx + 1) 0)).alloc (.cells #[.int .u32 0] 59))
    have HN0 := Lib.hid (Blk.new (w.alloc (.cells (arr (List.replicate (kx + 1) 0)) 59)) [0])
    have HW0 := Lib.hid (((Below.refl w.heap.size w).alloc (Nat.le_refl _) (.cells (arr (List.replicate (kx + 1) 0)) 59)).alloc (by simp) (.cells #[.int .u32 0] 59))
    go_loopw [29] (fun i wr => ∃ (j : Nat) (c : Int) (o : List Int), i = .int .i64 j ∧ j ≤ ky ∧ 0 ≤ c ∧ c ≤ 1 ∧ Hid (AD x y o j c) ∧ Hid (Blk wr w.heap.size o) ∧ Hid (Blk wr (w.heap.size + 1) [c]) ∧ Hid (Below w.heap.size w wr)) (fun i _ => ky - (intOf i).toNat)
    case atStart =>
      exact ⟨0, 0, _, rfl, Nat.zero_le _, by omega, by omega, Lib.hid ⟨nok_zeros _, by simp [HX.out], by simp [nv]⟩, HB0, by rw [World.size_alloc] at HN0; exact HN0, HW0⟩
    case round =>
      clear HB0 HN0 HW0 HT1 HT2
      obtain ⟨j, c, o, rfl, hjk, hc0, hc1, HM, HB, HN, HW⟩ := hrel
      have hsz : w.heap.size + 1 < wr.heap.size := HN.out.lt
      have HL := Lib.hid (HM.out.2.1)
      by_cases hj : j < ky
      · obtain ⟨ad, hA, hcell⟩ := at_nat (Kd.C_below HCx.out HW.out) (i := j) (by have := HX.out; omega)
        subst hA
        obtain ⟨p, hp⟩ : ∃ d, d = x.getD j 0 := ⟨_, rfl⟩
        have hpr := HKx.out.at_ j
        rw [← hp] at hcell hpr
        have HP := Lib.hid hp
        clear hp
        obtain ⟨hp0, hp1⟩ := hpr
        obtain ⟨ad2, hA2, hcell2⟩ := at_nat (Kd.C_below HCy.out HW.out) (i := j) (by have := HY.out; omega)
        subst hA2
        obtain ⟨q, hq⟩ : ∃ d, d = y.getD j 0 := ⟨_, rfl⟩
        have hqr := HKy.out.at_ j
        rw [← hq] at hcell2 hqr
        have HQ := Lib.hid hq
        clear hq
        obtain ⟨hq0, hq1⟩ := hqr
        obtain ⟨kk, s, he, hs0, hs1, hk0⟩ := split32 (p + q + c) (by omega)
        have hk1 : kk ≤ 1 := by omega
        have HE := Lib.hid he
        clear he
        obtain ⟨old, hold⟩ : ∃ old : Int, wr.cell? ⟨w.heap.size, j, none⟩ = some (.int .u32 old) := ⟨_, HB.out.cell j (by have := HL.out; have := HX.out; omega)⟩
        have hfz := HB.out.frozen j
        have HB2 := Lib.hid (HB.out.far (p := ⟨w.heap.size + 1, 0, none⟩) (by simp) (.int .u32 kk))
        have HN2 := Lib.hid (HN.out.set_ 0 kk)
        have HW2 := Lib.hid (HW.out.setCell (p := ⟨w.heap.size + 1, 0, none⟩) (by simp) (.int .u32 kk))
        have HD := Lib.hid (digit_any hp0 hp1 hq0 hq1 hc0 (by omega) HE.out hs0 hs1 HN.out)
        go_wp2_with (go_at_call 69; refine HD.out.mono ?_; rintro e w' ⟨rfl, rfl⟩)
        go_roundw
        case rel => exact ⟨j + 1, kk, o.set j s, by go_num, by omega, by omega, by omega, Lib.hid (HM.out.step (by have := HX.out; omega) HP.out HQ.out hp0 hq0 hc0 HE.out hs0 hs1 hk0), Lib.hid (HB2.out.set_ j s), Lib.hid (HN2.out.far (p := ⟨w.heap.size, j, none⟩) (by simp) _), Lib.hid (HW2.out.setCell (p := ⟨w.heap.size, j, none⟩) (Nat.le_refl _) _)⟩
        case measure => simp [intOf]; omega
      · obtain rfl : j = ky := by omega
        obtain ⟨W1, hW1⟩ : ∃ W : World, W = wr := ⟨_, rfl⟩
        subst hW1
        go_wp2
        go_loopw [10] (fun i wr => ∃ (z : Nat) (c : Int) (o : List Int), i = .int .i64 z ∧ j ≤ z ∧ z ≤ kx ∧ 0 ≤ c ∧ c ≤ 1 ∧ Hid (AD x y o z c) ∧ Hid (Blk wr w.heap.size o) ∧ Hid (Blk wr (w.heap.size + 1) [c]) ∧ Hid (Below w.heap.size w wr)) (fun i _ => kx - (intOf i).toNat)
        case atStart => exact ⟨j, c, o, rfl, Nat.le_refl _, by omega, hc0, hc1, HM, HB, HN, HW⟩
        case round =>
          clear HM HB HN HW HL hc0 hc1 hsz
          obtain ⟨z, c, o, rfl, hjz, hzk, hc0, hc1, HM, HB, HN, HW⟩ := hrel
          have hsz : w.heap.size + 1 < wr.heap.size := HN.out.lt
          have HL := Lib.hid (HM.out.2.1)
          by_cases hz : z < kx
          · obtain ⟨ad, hA, hcell⟩ := at_nat (Kd.C_below HCx.out HW.out) (i := z) (by have := HX.out; omega)
            subst hA
            obtain ⟨p, hp⟩ : ∃ d, d = x.getD z 0 := ⟨_, rfl⟩
            have hpr := HKx.out.at_ z
            rw [← hp] at hcell hpr
            have HP := Lib.hid hp
            clear hp
            obtain ⟨hp0, hp1⟩ := hpr
            have HQ := Lib.hid (show (0 : Int) = y.getD z 0 by rw [List.getD_eq_getElem?_getD, List.getElem?_eq_none (by have := HY.out; omega)]; rfl)
            obtain ⟨kk, s, he, hs0, hs1, hk0⟩ := split32 (p + 0 + c) (by omega)
            have hk1 : kk ≤ 1 := by omega
            have HE := Lib.hid he
            clear he
            obtain ⟨old, hold⟩ : ∃ old : Int, wr.cell? ⟨w.heap.size, z, none⟩ = some (.int .u32 old) := ⟨_, HB.out.cell z (by have := HL.out; have := HX.out; omega)⟩
            have hfz := HB.out.frozen z
            have HB2 := Lib.hid (HB.out.far (p := ⟨w.heap.size + 1, 0, none⟩) (by simp) (.int .u32 kk))
            have HN2 := Lib.hid (HN.out.set_ 0 kk)
            have HW2 := Lib.hid (HW.out.setCell (p := ⟨w.heap.size + 1, 0, none⟩) (by simp) (.int .u32 kk))
            have HD := Lib.hid (digit_any hp0 hp1 (Int.le_refl 0) (by omega) hc0 (by omega) HE.out hs0 hs1 HN.out)
            go_wp2_with (go_at_call 69; refine HD.out.mono ?_; rintro e w' ⟨rfl, rfl⟩)
            go_roundw
            case rel => exact ⟨z + 1, kk, o.set z s, by go_num, by omega, by omega, by omega, by omega, Lib.hid (HM.out.step (by have := HX.out; omega) HP.out HQ.out hp0 (Int.le_refl 0) hc0 HE.out hs0 hs1 hk0), Lib.hid (HB2.out.set_ z s), Lib.hid (HN2.out.far (p := ⟨w.heap.size, z, none⟩) (by simp) _), Lib.hid (HW2.out.setCell (p := ⟨w.heap.size, z, none⟩) (Nat.le_refl _) _)⟩
            case measure => simp [intOf]; omega
          · obtain rfl : z = kx := by omega
            obtain ⟨old, hold⟩ : ∃ old : Int, wr.cell? ⟨w.heap.size, z, none⟩ = some (.int .u32 old) := ⟨_, HB.out.cell z (by have := HL.out; have := HX.out; omega)⟩
            have hfz := HB.out.frozen z
            have hcc : wr.cell? ⟨w.heap.size + 1, 0, none⟩ = some (.int .u32 c) := HN.out.cell 0 (by simp)
            have hm2 := HM.out
            rw [HX.out] at hm2
            obtain ⟨s1, s2, s3⟩ := hm2.stop hc0 (by omega) (by have := HX.out; have := HY.out; omega)
            rw [← HX.out] at s1 s2 s3
            have HB2 := Lib.hid (HB.out.set_ z c)
            have HO := Lib.hid (HB2.out.own (Nat.le_refl _) (z + 1) (by omega) (by unfold maxLen; omega) (by rw [List.take_of_length_le (by omega)]; exact s1))
            rw [List.take_of_length_le (by omega), s3] at HO
            have HT3 := Lib.hid (trim_any HO.out.rd)
            rw [s2, HVx.out, HVy.out] at HT3
            have HW2 := Lib.hid (HW.out.setCell (p := ⟨w.heap.size, z, none⟩) (Nat.le_refl _) (.int .u32 c))
            clear s1 s2 s3 hm2
            go_wp2_with (go_at_call 63; refine HT3.out.mono ?_; rintro e w' ⟨⟨v2, rfl, -, hown⟩, rfl⟩; have HQ := Lib.hid (hown _ HO.out); clear hown)
            go_ret
            exact ⟨_, rfl, HQ.out, HW2.out⟩
end Go.Proofs.Ythadkjekagfjfaa.N
