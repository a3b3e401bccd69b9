/- natural.Mul as a walk: the product's digits in a new slice, or nothing for 0. Condition: both slices read as fewer than 2^43 digits. -/
import Derived.Test.YthadkjekagfjfaaN8
namespace Go.Proofs.Ythadkjekagfjfaa.N
open Go.RowKit Go.Proofs.Ythadkjekagfjfaa.Dig Go.Proofs.YthadkjekagfjfaaW.PrintWords Go.Proofs.YthadkjekagfjfaaW.PrintLast Go.Proofs.YthadkjekagfjfaaW.PrintMore
set_option linter.unusedVariables false

/-- After i rows. -/
def MU (x y o : List Int) (i : Nat) : Prop :=
  NOk o ∧ o.length = x.length + y.length ∧ nv (o.take (i + y.length)) = nv (x.take i) * nv y ∧ ∀ t, i + y.length ≤ t → o.getD t 0 = 0
/-- After t digits of the row i, begun over o0. -/
def MI (y o0 o : List Int) (i : Nat) (p : Int) (t : Nat) (c : Int) : Prop :=
  NOk o ∧ o.length = o0.length ∧ nv (o.take (i + t)) + BB ^ (i + t) * c.toNat = nv (o0.take (i + t)) + BB ^ i * (p.toNat * nv (y.take t)) ∧ ∀ u, i + t ≤ u → o.getD u 0 = o0.getD u 0

theorem MU.skip {x y o : List Int} {i : Nat} (h : MU x y o i) (hi : i < x.length) (h0 : x.getD i 0 = 0) : MU x y o (i + 1) := by
  obtain ⟨ho, hl, hv, hz⟩ := h
  refine ⟨ho, hl, ?_, fun t ht => hz t (by omega)⟩
  rw [show i + 1 + y.length = (i + y.length) + 1 from by omega, nv_take_any, hz _ (Nat.le_refl _), nv_take_any x, h0, hv]
  simp

theorem MI.start {x y o : List Int} {i : Nat} (h : MU x y o i) (p : Int) : MI y o o i p 0 0 := by
  obtain ⟨ho, hl, hv, hz⟩ := h
  exact ⟨ho, rfl, by simp [nv], fun _ _ => rfl⟩

theorem mi_num {O O0 Y P c c2 p q r s : Nat} (h : O + P * c = O0 + Y) (he : p * q + r + c = c2 * BB + s) : O + P * s + P * BB * c2 = O0 + P * r + (Y + P * (p * q)) := by
  have h1 : P * (p * q + r + c) = P * (c2 * BB + s) := by rw [he]
  rw [Nat.mul_add, Nat.mul_add, Nat.mul_add] at h1
  rw [Nat.mul_assoc P BB c2, Nat.mul_comm BB c2]
  omega

theorem MI.step {y o0 o : List Int} {i t : Nat} {p c q r s c2 : Int} (h : MI y o0 o i p t c) (ht : i + t < o0.length) (hq : q = y.getD t 0) (hr : r = o.getD (i + t) 0) (hp0 : 0 ≤ p) (hq0 : 0 ≤ q) (hr0 : 0 ≤ r) (hc : 0 ≤ c) (he : p * q + r + c = c2 * 4294967296 + s) (hs0 : 0 ≤ s) (hs1 : s < 4294967296) (hc2 : 0 ≤ c2) :
    MI y o0 (o.set (i + t) s) i p (t + 1) c2 := by
  obtain ⟨ho, hl, hv, hz⟩ := h
  refine ⟨ho.set_ _ hs0 hs1, by simpa using hl, ?_, fun u hu => ?_⟩
  · rw [← Nat.add_assoc, nv_set_take _ _ _ (by omega), nv_take_any o0, ← hz _ (Nat.le_refl _), nv_take_any y, ← hq, ← hr, Nat.pow_succ]
    obtain ⟨p, rfl⟩ := Int.eq_ofNat_of_zero_le hp0
    obtain ⟨q, rfl⟩ := Int.eq_ofNat_of_zero_le hq0
    obtain ⟨r, rfl⟩ := Int.eq_ofNat_of_zero_le hr0
    obtain ⟨c, rfl⟩ := Int.eq_ofNat_of_zero_le hc
    obtain ⟨s, rfl⟩ := Int.eq_ofNat_of_zero_le hs0
    obtain ⟨c2, rfl⟩ := Int.eq_ofNat_of_zero_le hc2
    simp only [Int.toNat_natCast] at hv ⊢
    have e : p * q + r + c = c2 * BB + s := by
      have : ((p * q : Nat) : Int) = (p : Int) * q := Int.natCast_mul _ _
      rw [BB_eq]; omega
    have := mi_num hv e
    have e2 : BB ^ (i + t) * (p * q) = BB ^ i * (p * (BB ^ t * q)) := by rw [Nat.pow_add, Nat.mul_assoc, Nat.mul_left_comm (BB ^ t)]
    rw [this, Nat.mul_add, Nat.mul_add, e2]
  · rw [← hz u (by omega), List.getD_eq_getElem?_getD, List.getD_eq_getElem?_getD, List.getElem?_set_ne (by omega)]

theorem MI.stop {x y o0 o : List Int} {i : Nat} {p c : Int} (h : MI y o0 o i p y.length c) (hu : MU x y o0 i) (hi : i < x.length) (hp : p = x.getD i 0) (hc : 0 ≤ c) (hc1 : c < 4294967296) : MU x y (o.set (i + y.length) c) (i + 1) := by
  obtain ⟨ho, hl, hv, hz⟩ := h
  obtain ⟨ho0, hl0, hv0, hz0⟩ := hu
  refine ⟨ho.set_ _ hc hc1, by simp; omega, ?_, fun t ht => ?_⟩
  · rw [show i + 1 + y.length = (i + y.length) + 1 from by omega, nv_set_take _ _ _ (by omega), hv, hv0, nv_take_any x, ← hp, Nat.add_mul, List.take_length, Nat.mul_assoc]
  · rw [List.getD_eq_getElem?_getD, List.getElem?_set_ne (by omega), ← List.getD_eq_getElem?_getD, hz t (by omega), hz0 t (by omega)]

theorem MU.stop {x y o : List Int} (h : MU x y o x.length) : nv o = nv x * nv y := by
  obtain ⟨_, hl, hv, _⟩ := h
  rw [List.take_of_length_le (by omega), List.take_length] at hv
  exact hv

set_option maxHeartbeats 400000 in
theorem mul_zero {v1 v2 : Value} {l1 l2 : List Int} {w : World} (h1 : Rd w v1 l1) (h2 : Rd w v2 l2) (h0 : nv l1 * nv l2 = 0) :
    Calls Try.prog 46 #[v1, v2] w (Made w (nv l1 * nv l2)) := by
  have HT1 := Lib.hid (trim_any h1)
  have HT2 := Lib.hid (trim_any h2)
  clear h1 h2
  generalize nv l1 = n at *
  generalize nv l2 = m at *
  have HZ := Lib.hid h0
  rcases Nat.mul_eq_zero.1 h0 with rfl | rfl
  · rw [nd_zero] at HT1
    clear h0
    go_enter Try.func46, Try.ntmps46
    go_wp2_with fail
    refine HT1.out.mono ?_
    rintro e w' ⟨⟨v', rfl, ⟨_, A', c', rfl, hc', hC'⟩, -⟩, rfl⟩
    go_wp2_with fail
    refine HT2.out.mono ?_
    rintro e w' ⟨⟨v'', rfl, ⟨_, A'', c'', rfl, hc'', hC''⟩, -⟩, rfl⟩
    go_wp2
    go_ret
    exact ⟨_, rfl, by rw [HZ.out]; exact Own.nil _ _, Below.refl _ _⟩
  · rw [nd_zero] at HT2
    clear h0
    go_enter Try.func46, Try.ntmps46
    go_wp2_with fail
    refine HT1.out.mono ?_
    rintro e w' ⟨⟨v', rfl, ⟨_, A', c', rfl, hc', hC'⟩, -⟩, rfl⟩
    go_wp2_with fail
    refine HT2.out.mono ?_
    rintro e w' ⟨⟨v'', rfl, ⟨_, A'', c'', rfl, hc'', hC''⟩, -⟩, rfl⟩
    by_cases hx : (((nd n).length : Int) == 0) = true
    · go_wp2
      go_ret
      exact ⟨_, rfl, by rw [HZ.out]; exact Own.nil _ _, Below.refl _ _⟩
    · have hx := Bool.eq_false_iff.2 hx
      go_wp2
      go_ret
      exact ⟨_, rfl, by rw [HZ.out]; exact Own.nil _ _, Below.refl _ _⟩

set_option maxRecDepth 100000 in
set_option maxHeartbeats 2000000 in
theorem mul_pos {v1 v2 : Value} {l1 l2 : List Int} {w : World} (h1 : Rd w v1 l1) (h2 : Rd w v2 l2) (hl1 : l1.length ≤ 8796093022208) (hl2 : l2.length ≤ 8796093022208) (h01 : nv l1 ≠ 0) (h02 : nv l2 ≠ 0) :
    Calls Try.prog 46 #[v1, v2] w (Made w (nv l1 * nv l2)) := by
  have HT1 := Lib.hid (trim_any h1)
  have HT2 := Lib.hid (trim_any h2)
  have hn1 := nd_len_le h1.ok
  have hn2 := nd_len_le h2.ok
  have hk1 := nok_nd (nv l1)
  have hv1 := nv_nd (nv l1)
  have hk2 := nok_nd (nv l2)
  have hv2 := nv_nd (nv l2)
  have hp1 : (nd (nv l1)).length ≠ 0 := fun h => h01 (nd_len0.1 h)
  have hp2 : (nd (nv l2)).length ≠ 0 := fun h => h02 (nd_len0.1 h)
  clear h1 h2 h01 h02
  generalize nv l1 = n at *
  generalize nv l2 = m at *
  generalize nd n = x at *
  generalize nd m = y at *
  have HKx := Lib.hid hk1
  have HVx := Lib.hid hv1
  have HKy := Lib.hid hk2
  have HVy := Lib.hid hv2
  obtain ⟨kx, hx⟩ : ∃ k, k = x.length := ⟨_, rfl⟩
  obtain ⟨ky, hy⟩ : ∃ k, k = y.length := ⟨_, rfl⟩
  have hkx : kx ≤ 8796093022208 := by omega
  have hky : ky ≤ 8796093022208 := by omega
  have hqx : 0 < kx := by omega
  have hqy : 0 < ky := by omega
  have HX := Lib.hid hx
  have HY := Lib.hid hy
  have z1 : ((kx : Int) == 0) = false := by rw [beq_eq_false_iff_ne]; omega
  have z2 : ((ky : Int) == 0) = false := by rw [beq_eq_false_iff_ne]; omega
  clear hk1 hv1 hk2 hv2 hx hy hn1 hn2 hl1 hl2 hp1 hp2
  have hmk := make_arr 23 Try.underlying23 (kx + ky) (by omega)
  rw [Int.natCast_add] at hmk
  obtain ⟨i0, hi0, hz0, hz1, hz2⟩ := info_parts infoU
  have HI := Lib.hid (And.intro hi0 hz1)
  clear hi0 hz0 hz1 hz2
  go_enter Try.func46, Try.ntmps46
  go_wp2_with fail
  refine HT1.out.mono ?_
  rintro e w' ⟨⟨v', rfl, ⟨_, A', c', rfl, hc', hC'⟩, -⟩, rfl⟩
  have HCx := Lib.hid hC'
  clear hC' hc'
  go_wp2_with fail
  refine HT2.out.mono ?_
  rintro e w' ⟨⟨v'', rfl, ⟨_, A'', c'', rfl, hc', hC'⟩, -⟩, rfl⟩
  have HCy := Lib.hid hC'
  rw [← HX.out, ← HY.out]
  clear hC' hc'
  go_wp2_with fail
  clear hmk
  have HB0 := Lib.hid (Blk.new w (List.replicate (kx + ky) 0))
  have HW0 := Lib.hid ((Below.refl w.heap.size w).alloc (Nat.le_refl _) (.cells (arr (List.replicate (kx + ky) 0)) 59))
  go_loopw [35] (fun i wr => ∃ (j : Nat) (o : List Int), i = .int .i64 j ∧ j ≤ kx ∧ Hid (MU x y o j) ∧ Hid (Blk wr w.heap.size o) ∧ Hid (Below w.heap.size w wr)) (fun i _ => kx - (intOf i).toNat)
  case atStart =>
    refine ⟨0, _, rfl, Nat.zero_le _, Lib.hid ⟨nok_zeros _, by simp [HX.out, HY.out], ?_, fun t _ => ?_⟩, HB0, HW0⟩
    · have : nv (List.replicate (kx + ky) 0) = 0 := val_zeros _ _
      simp [nv, List.take_replicate, val_zeros]
    · rw [List.getD_eq_getElem?_getD, List.getElem?_replicate]; split <;> rfl
  case round =>
    clear HB0 HW0 HT1 HT2
    obtain ⟨j, o, rfl, hjk, HM, HB, HW⟩ := hrel
    have hsz : w.heap.size < wr.heap.size := HB.out.lt
    have HL := Lib.hid (HM.out.2.1)
    by_cases hj : j < kx
    · obtain ⟨ad, hA, hcell⟩ := at_nat (Kd.C_below HCx.out HW.out) (i := j) (by have := HX.out; omega)
      subst hA
      obtain ⟨p, hp⟩ : ∃ d, d = x.getD j 0 := ⟨_, rfl⟩
      have hpr := HKx.out.at_ j
      rw [← hp] at hcell hpr
      have HP := Lib.hid hp
      clear hp
      obtain ⟨hp0, hp1⟩ := hpr
      by_cases h0 : p = 0
      · have h0b : (p == 0) = true := by simp [h0]
        have H0 := Lib.hid h0
        clear h0
        go_wp2
        go_roundw
        case rel => exact ⟨j + 1, o, by go_num, by omega, Lib.hid (HM.out.skip (by have := HX.out; omega) (by rw [← HP.out, H0.out])), HB, HW⟩
        case measure => simp [intOf]; omega
      · have h0b : (p == 0) = false := by simp [h0]
        clear h0
        have hcut := cut_mid (P := Try.prog) 23 59 .i64 .i64 Try.underlying23 HI.out.1 1 HI.out.2 (some ⟨w.heap.size, 0, none⟩) (kx + ky) (kx + ky) j (j + ky) (by omega) (by omega) (by omega) (by omega)
        have hcut2 : ∀ W : World, (Instr.slice 23 (.slice (some ⟨w.heap.size, 0, none⟩) (kx + ky) (kx + ky)) (some (.int .i64 j)) (some (.int .i64 ((j : Int) + ky))) none).run Try.prog W = .ok (.slice (some ⟨w.heap.size, j, none⟩) ky (kx + ky - j)) W := by
          intro W
          rw [hcut W, if_neg (by omega), show ((j : Int) + ky).toNat - (j : Int).toNat = ky from by omega, show kx + ky - (j : Int).toNat = kx + ky - j from by omega, Option.map_some, Nat.mul_one, Int.toNat_natCast, add_plain]
        clear hcut
        obtain ⟨W1, hW1⟩ : ∃ W : World, W = wr := ⟨_, rfl⟩
        subst hW1
        go_wp2
        go_loopw [8, 12, 13, 14, 51] (fun c a1 a2 a3 i wr => ∃ (t : Nat) (c' : Int) (o2 : List Int), c = .int .u32 c' ∧ i = .int .i64 t ∧ t ≤ ky ∧ 0 ≤ c' ∧ c' < 4294967296 ∧ Hid (MI y o o2 j p t c') ∧ Hid (Blk wr w.heap.size o2) ∧ Hid (Below w.heap.size w wr)) (fun _ _ _ _ i _ => ky - (intOf i).toNat)
        case atStart => exact ⟨0, 0, o, rfl, rfl, Nat.zero_le _, by omega, by omega, Lib.hid (MI.start HM.out p), HB, HW⟩
        case round =>
          clear hcut2 hsz hcell
          obtain ⟨t, c, o2, rfl, rfl, htk, hc0, hc1, HI2, HB2, HW2⟩ := hrel
          have hsz : w.heap.size < wr.heap.size := HB2.out.lt
          have HL2 := Lib.hid (HI2.out.2.1)
          by_cases ht : t < ky
          · obtain ⟨ad2, hA2, hcell2⟩ := at_nat (Kd.C_below HCy.out HW2.out) (i := t) (by have := HY.out; omega)
            subst hA2
            obtain ⟨q, hq⟩ : ∃ d, d = y.getD t 0 := ⟨_, rfl⟩
            have hqr := HKy.out.at_ t
            rw [← hq] at hcell2 hqr
            have HQ := Lib.hid hq
            clear hq
            obtain ⟨hq0, hq1⟩ := hqr
            have hbound : j + t < o2.length := by have := HL2.out; have := HL.out; have := HX.out; have := HY.out; omega
            have hold := HB2.out.cell (j + t) hbound
            obtain ⟨r, hr⟩ : ∃ d, d = o2.getD (j + t) 0 := ⟨_, rfl⟩
            have hrr := HI2.out.1.at_ (j + t)
            rw [← hr] at hold hrr
            have HR := Lib.hid hr
            clear hr
            obtain ⟨hr0, hr1⟩ := hrr
            have hfz := HB2.out.frozen (j + t)
            obtain ⟨hi, lo, he1, hlo0, hlo1, hhi0⟩ := split32 (p * q) (Int.mul_nonneg hp0 hq0)
            obtain ⟨ka, sa, he2, hsa0, hsa1, hka0⟩ := split32 (lo + r + 0) (by omega)
            obtain ⟨kb, sb, he3, hsb0, hsb1, hkb0⟩ := split32 (sa + c + 0) (by omega)
            have hP := (mul32_bound hp0 hp1 hq0 hq1).2
            have hsum1 : hi + ka ≤ 4294967295 := by omega
            have hsum2 : hi + ka + kb ≤ 4294967295 := by omega
            have E1 := Lib.hid he1
            have E2 := Lib.hid he2
            have E3 := Lib.hid he3
            have HST := Lib.hid (HI2.out.step (by have := HL2.out; omega) HQ.out HR.out hp0 hq0 hr0 hc0 (by omega : p * q + r + c = (hi + ka + kb) * 4294967296 + sb) hsb0 hsb1 (by omega))
            clear he1 he2 he3 hP hbound
            go_wp2_with fail
            refine (mul32_to _ hp0 hp1 hq0 hq1 E1.out hlo0 hlo1).mono ?_
            rintro e w' ⟨rfl, rfl⟩
            go_wp2_with fail
            refine (add32_to _ hlo0 hlo1 hr0 hr1 (Int.le_refl 0) (by omega) E2.out hsa0 hsa1).mono ?_
            rintro e w' ⟨rfl, rfl⟩
            go_wp2_with fail
            refine (add32_to _ hsa0 hsa1 hc0 hc1 (Int.le_refl 0) (by omega) E3.out hsb0 hsb1).mono ?_
            rintro e w' ⟨rfl, rfl⟩
            go_wp2_with fail
            go_roundw
            case rel => exact ⟨t + 1, hi + ka + kb, o2.set (j + t) sb, rfl, by go_num, by omega, by omega, by omega, HST, Lib.hid (HB2.out.set_ _ sb), Lib.hid (HW2.out.setCell (p := ⟨w.heap.size, j + t, none⟩) (Nat.le_refl _) _)⟩
            case measure => simp [intOf]; omega
          · obtain rfl : t = ky := by omega
            have hm2 := HI2.out
            rw [HY.out] at hm2
            have hs := hm2.stop HM.out (by have := HX.out; omega) HP.out hc0 hc1
            rw [← HY.out] at hs
            have HS := Lib.hid hs
            clear hs hm2
            obtain ⟨old, hold⟩ : ∃ old : Int, wr.cell? ⟨w.heap.size, j + t, none⟩ = some (.int .u32 old) := ⟨_, HB2.out.cell (j + t) (by have := HL2.out; have := HL.out; have := HX.out; have := HY.out; omega)⟩
            have hfz := HB2.out.frozen (j + t)
            go_wp2
            go_roundw
            case rel => exact ⟨j + 1, o2.set (j + t) c, by go_num, by omega, HS, Lib.hid (HB2.out.set_ _ c), Lib.hid (HW2.out.setCell (p := ⟨w.heap.size, j + t, none⟩) (Nat.le_refl _) _)⟩
            case measure => simp [intOf]; omega
    · obtain rfl : j = kx := by omega
      have hm2 := HM.out
      rw [HX.out] at hm2
      have s1 := hm2.stop
      have HO := Lib.hid (HB.out.own (Nat.le_refl _) (j + ky) (by have := HL.out; have := HX.out; have := HY.out; omega) (by have := HL.out; have := HX.out; have := HY.out; unfold maxLen; omega) (HM.out.1.take _))
      rw [List.take_of_length_le (by have := HL.out; have := HX.out; have := HY.out; omega), HL.out, ← HX.out, ← HY.out] at HO
      have HT3 := Lib.hid (trim_any HO.out.rd)
      rw [s1, HVx.out, HVy.out] at HT3
      clear s1 hm2
      go_wp2_with (go_at_call 63; refine HT3.out.mono ?_; rintro e w' ⟨⟨v2, rfl, -, hown⟩, rfl⟩; have HQ := Lib.hid (hown _ HO.out); clear hown)
      go_ret
      exact ⟨_, rfl, HQ.out, HW.out⟩

theorem mul_any {v1 v2 : Value} {l1 l2 : List Int} {w : World} (h1 : Rd w v1 l1) (h2 : Rd w v2 l2) (hl1 : l1.length ≤ 8796093022208) (hl2 : l2.length ≤ 8796093022208) :
    Calls Try.prog 46 #[v1, v2] w (Made w (nv l1 * nv l2)) := by
  by_cases h : nv l1 * nv l2 = 0
  · exact mul_zero h1 h2 h
  · exact mul_pos h1 h2 hl1 hl2 (fun e => h (by rw [e, Nat.zero_mul])) (fun e => h (by rw [e, Nat.mul_zero]))
end Go.Proofs.Ythadkjekagfjfaa.N
