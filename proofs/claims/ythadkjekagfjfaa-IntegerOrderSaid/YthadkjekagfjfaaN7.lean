/- natural.Sub as a walk: the difference's digits in a new slice and true, or nothing and false where the second number is greater. Condition: the first slice reads as fewer than 2^44 digits. -/
import Derived.Test.YthadkjekagfjfaaN6
namespace Go.Proofs.Ythadkjekagfjfaa.N
open Go.RowKit Go.Proofs.Ythadkjekagfjfaa.Dig Go.Proofs.YthadkjekagfjfaaW.PrintWords Go.Proofs.YthadkjekagfjfaaW.PrintLast Go.Proofs.YthadkjekagfjfaaW.PrintMore
set_option linter.unusedVariables false

theorem nv_take_any (l : List Int) (k : Nat) : nv (l.take (k + 1)) = nv (l.take k) + BB ^ k * (l.getD k 0).toNat := by
  rcases Nat.lt_or_ge k l.length with h | h
  · exact nv_take_succ l k h
  · rw [List.take_of_length_le h, List.take_of_length_le (by omega), List.getD_eq_getElem?_getD, List.getElem?_eq_none h]; simp

/-- What is known after i rounds of Sub. -/
def SU (x y o : List Int) (i : Nat) (b : Int) : Prop := NOk o ∧ o.length = x.length ∧ nv (x.take i) + BB ^ i * b.toNat = nv (o.take i) + nv (y.take i)
theorem SU.step {x y o : List Int} {i : Nat} {b p q s k : Int} (h : SU x y o i b) (hi : i < x.length) (hp : p = x.getD i 0) (hq : q = y.getD i 0) (hp0 : 0 ≤ p) (hq0 : 0 ≤ q) (hb : 0 ≤ b) (he : p - q - b = s - k * 4294967296) (hs0 : 0 ≤ s) (hs1 : s < 4294967296) (hk : 0 ≤ k) : SU x y (o.set i s) (i + 1) k := by
  obtain ⟨ho, hl, hv⟩ := h
  refine ⟨ho.set_ i hs0 hs1, by simpa using hl, ?_⟩
  rw [nv_set_take _ _ _ (by omega), nv_take_any x, nv_take_any y, ← hp, ← hq, Nat.pow_succ]
  obtain ⟨p, rfl⟩ := Int.eq_ofNat_of_zero_le hp0
  obtain ⟨q, rfl⟩ := Int.eq_ofNat_of_zero_le hq0
  obtain ⟨b, rfl⟩ := Int.eq_ofNat_of_zero_le hb
  obtain ⟨s, rfl⟩ := Int.eq_ofNat_of_zero_le hs0
  obtain ⟨k, rfl⟩ := Int.eq_ofNat_of_zero_le hk
  simp only [Int.toNat_natCast] at hv ⊢
  have h1 : p + BB * k = s + q + b := by rw [BB_eq]; omega
  have h2 : BB ^ i * (p + BB * k) = BB ^ i * (s + q + b) := by rw [h1]
  rw [Nat.mul_add, Nat.mul_add, Nat.mul_add, ← Nat.mul_assoc] at h2
  omega
theorem SU.stop {x y o : List Int} {b : Int} (h : SU x y o x.length b) (hle : nv y ≤ nv x) (hyx : y.length ≤ x.length) : nv o = nv x - nv y := by
  obtain ⟨ho, hl, hv⟩ := h
  rw [List.take_length, List.take_of_length_le (by omega), List.take_of_length_le hyx] at hv
  have h1 := nv_lt ho
  rw [hl] at h1
  rcases Nat.eq_zero_or_pos b.toNat with h0 | h0
  · rw [h0] at hv; simp at hv; omega
  · have : BB ^ x.length * 1 ≤ BB ^ x.length * b.toNat := Nat.mul_le_mul_left _ h0
    omega

/-- A difference is handed back. -/
def SubMade (w : World) (n : Nat) (e : Ending) (w' : World) : Prop := ∃ v, e = .returned (.tuple #[v, .bool true]) ∧ Own w' w.heap.size v (nd n) ∧ Below w.heap.size w w'

set_option maxHeartbeats 400000 in
theorem sub_less {v1 v2 : Value} {l1 l2 : List Int} {w : World} (h1 : Rd w v1 l1) (h2 : Rd w v2 l2) (hlt : nv l1 < nv l2) :
    Calls Try.prog 57 #[v1, v2] w fun e w' => e = .returned (.tuple #[.slice none 0 0, .bool false]) ∧ Drawn0 w w' := by
  have HC := Lib.hid (cmp_any h1 h2)
  rw [cmpv_lt hlt] at HC
  clear h1 h2 hlt
  go_enter Try.func57, Try.ntmps57
  go_wp2_with fail
  refine HC.out.mono ?_
  rintro e w' ⟨rfl, ⟨nq, rfl⟩⟩
  go_wp2_with fail
  go_ret2
  exact ⟨rfl, ⟨⟨_, rfl⟩⟩⟩

theorem len_mono {n m : Nat} (h : n ≤ m) : (nd n).length ≤ (nd m).length := by
  rcases Nat.lt_or_ge (nd m).length (nd n).length with h1 | h1
  · have := lt_of_len h1; omega
  · exact h1

set_option maxHeartbeats 1000000 in
theorem sub_any {v1 v2 : Value} {l1 l2 : List Int} {w : World} (h1 : Rd w v1 l1) (h2 : Rd w v2 l2) (hle : nv l2 ≤ nv l1) (hl : l1.length ≤ 17592186044416) :
    Calls Try.prog 57 #[v1, v2] w (SubMade w (nv l1 - nv l2)) := by
  have HC := Lib.hid (cmp_any h1 h2)
  have hc0 : decide (cmpv (nv l1) (nv l2) < 0) = false := by unfold cmpv; rw [if_neg (by omega)]; split <;> rfl
  have HT1 := Lib.hid (fun n => trim_any (h1.drewN n))
  have HT2 := Lib.hid (fun n => trim_any (h2.drewN n))
  have hn := nd_len_le h1.ok
  have hk1 := nok_nd (nv l1)
  have hv1 := nv_nd (nv l1)
  have hk2 := nok_nd (nv l2)
  have hv2 := nv_nd (nv l2)
  have hlen := len_mono hle
  clear h1 h2
  generalize nv l1 = n at *
  generalize nv l2 = m at *
  generalize nd n = x at *
  generalize nd m = y at *
  have HK1 := Lib.hid hk1
  have HV1 := Lib.hid hv1
  have HK2 := Lib.hid hk2
  have HV2 := Lib.hid hv2
  obtain ⟨k, hx⟩ : ∃ k, k = x.length := ⟨_, rfl⟩
  obtain ⟨k2, hy⟩ : ∃ k, k = y.length := ⟨_, rfl⟩
  have hkl : k ≤ 17592186044416 := by omega
  have hkk : k2 ≤ k := by omega
  have HX := Lib.hid hx
  have HY := Lib.hid hy
  have HLE := Lib.hid hle
  clear hk1 hv1 hk2 hv2 hx hy hn hl hlen hle
  generalize cmpv n m = cv at *
  have hmk := make_arr 23 Try.underlying23 k (by omega)
  go_enter Try.func57, Try.ntmps57
  go_wp2_with fail
  refine HC.out.mono ?_
  rintro e w' ⟨rfl, ⟨nq, rfl⟩⟩
  go_wp2_with fail
  refine (HT1.out nq).mono ?_
  rintro e w' ⟨⟨v', rfl, ⟨_, A', c', rfl, hc', hC'⟩, -⟩, rfl⟩
  have HC1 := Lib.hid (show Kd.C (Kd.int .u32) w A' x.length x from hC')
  clear hC' hc'
  go_wp2_with fail
  refine (HT2.out nq).mono ?_
  rintro e w' ⟨⟨v'', rfl, ⟨_, A'', c'', rfl, hc', hC'⟩, -⟩, rfl⟩
  have HC2 := Lib.hid (show Kd.C (Kd.int .u32) w A'' y.length y from hC')
  rw [← HX.out, ← HY.out]
  clear hC' hc'
  go_wp2_with fail
  clear hmk hc0
  have HB0 := Lib.hid (Blk.new (w.drewN nq) (List.replicate k 0))
  have HW0 := Lib.hid ((pw_below_drewN (Below.refl w.heap.size w) nq).alloc (Nat.le_refl _) (.cells (arr (List.replicate k 0)) 59))
  go_loopw [7, 24] (fun b i wr => ∃ (b' : Int) (j : Nat) (o : List Int), b = .int .u32 b' ∧ i = .int .i64 j ∧ j ≤ k ∧ 0 ≤ b' ∧ b' ≤ 1 ∧ Hid (SU x y o j b') ∧ Hid (Blk wr w.heap.size o) ∧ Hid (Below w.heap.size w wr)) (fun _ i _ => k - (intOf i).toNat)
  case atStart =>
    exact ⟨0, 0, _, rfl, rfl, Nat.zero_le _, by omega, by omega, Lib.hid ⟨nok_zeros _, by simp [HX.out], by simp [nv]⟩, HB0, HW0⟩
  case round =>
    clear HB0 HW0 HT1 HT2 HC
    obtain ⟨b, j, o, rfl, rfl, hjk, hb0, hb1, HM, HB, HW⟩ := hrel
    have hsz : w.heap.size < wr.heap.size := HB.out.lt
    have HL := Lib.hid (HM.out.2.1)
    by_cases hj : j < k
    · obtain ⟨ad, hA, hcell⟩ := at_nat (Kd.C_below HC1.out HW.out) (i := j) (by have := HX.out; omega)
      subst hA
      obtain ⟨p, hp⟩ : ∃ d, d = x.getD j 0 := ⟨_, rfl⟩
      have hpr := HK1.out.at_ j
      rw [← hp] at hcell hpr
      have HP := Lib.hid hp
      clear hp
      obtain ⟨hp0, hp1⟩ := hpr
      obtain ⟨old, hold⟩ : ∃ old : Int, wr.cell? ⟨w.heap.size, j, none⟩ = some (.int .u32 old) := ⟨_, HB.out.cell j (by have := HL.out; have := HX.out; omega)⟩
      have hfz := HB.out.frozen j
      obtain ⟨q, hq⟩ : ∃ d, d = y.getD j 0 := ⟨_, rfl⟩
      have hqr := HK2.out.at_ j
      rw [← hq] at hqr
      obtain ⟨hq0, hq1⟩ := hqr
      obtain ⟨s, kk, he, hs0, hs1, hk0, hk1⟩ := sub32_split hp0 hp1 hq0 hq1 hb0 hb1
      have HE := Lib.hid he
      clear he
      by_cases hj2 : j < k2
      · obtain ⟨ad2, hA2, hcell2⟩ := at_nat (Kd.C_below HC2.out HW.out) (i := j) (by have := HY.out; omega)
        subst hA2
        rw [← hq] at hcell2
        have HQ := Lib.hid hq
        clear hq
        go_wp2_with (go_at_call 70; refine (sub32_to _ hp0 hp1 hq0 hq1 hb0 hb1 HE.out hs0 hs1).mono ?_; rintro e w' ⟨rfl, rfl⟩)
        go_roundw
        case rel => exact ⟨kk, j + 1, o.set j s, rfl, by go_num, by omega, by omega, by omega, Lib.hid (HM.out.step (by have := HX.out; omega) HP.out HQ.out hp0 hq0 hb0 HE.out hs0 hs1 hk0), Lib.hid (HB.out.set_ j s), Lib.hid (HW.out.setCell (p := ⟨w.heap.size, j, none⟩) (Nat.le_refl _) _)⟩
        case measure => simp [intOf]; omega
      · have hq' : q = 0 := by rw [hq, List.getD_eq_getElem?_getD, List.getElem?_eq_none (by have := HY.out; omega)]; rfl
        subst hq'
        have HQ := Lib.hid hq
        clear hq
        go_wp2_with (go_at_call 70; refine (sub32_to _ hp0 hp1 hq0 hq1 hb0 hb1 HE.out hs0 hs1).mono ?_; rintro e w' ⟨rfl, rfl⟩)
        go_roundw
        case rel => exact ⟨kk, j + 1, o.set j s, rfl, by go_num, by omega, by omega, by omega, Lib.hid (HM.out.step (by have := HX.out; omega) HP.out HQ.out hp0 hq0 hb0 HE.out hs0 hs1 hk0), Lib.hid (HB.out.set_ j s), Lib.hid (HW.out.setCell (p := ⟨w.heap.size, j, none⟩) (Nat.le_refl _) _)⟩
        case measure => simp [intOf]; omega
    · obtain rfl : j = k := by omega
      have hm2 := HM.out
      rw [HX.out] at hm2
      have s1 := hm2.stop (by rw [HV1.out, HV2.out]; exact HLE.out) (by have := HX.out; have := HY.out; omega)
      have HO := Lib.hid (HB.out.own (Nat.le_refl _) j (by have := HL.out; have := HX.out; omega) (by have := HL.out; have := HX.out; unfold maxLen; omega) (HM.out.1.take _))
      rw [List.take_of_length_le (by have := HL.out; have := HX.out; omega), HL.out, ← HX.out] at HO
      have HT3 := Lib.hid (trim_any HO.out.rd)
      rw [s1, HV1.out, HV2.out] at HT3
      clear s1 hm2
      go_wp2_with (go_at_call 63; refine HT3.out.mono ?_; rintro e w' ⟨⟨v2, rfl, -, hown⟩, rfl⟩; have HQ := Lib.hid (hown _ HO.out); clear hown)
      go_ret2
      exact ⟨_, rfl, HQ.out, HW.out⟩
end Go.Proofs.Ythadkjekagfjfaa.N
