/- natural.DivSmall as a walk: the quotient's digits in a new slice and the remainder, or nothing for 0. Condition: the slice reads as fewer than 2^44 digits; the divisor is below 2^32. -/
import Derived.Test.YtmfkabebhbecgaaN5
namespace Go.Proofs.Ytmfkabebhbecgaa.N
open Go.RowKit Go.Proofs.Ytmfkabebhbecgaa.Dig Go.Proofs.YtmfkabebhbecgaaW.PrintWords Go.Proofs.YtmfkabebhbecgaaW.PrintLast Go.Proofs.YtmfkabebhbecgaaW.PrintMore
set_option linter.unusedVariables false

theorem nv_drop (l : List Int) (i : Nat) (hi : i < l.length) : nv (l.drop i) = (l.getD i 0).toNat + BB * nv (l.drop (i + 1)) := by
  rw [List.drop_eq_getElem_cons hi, List.getD_eq_getElem?_getD, List.getElem?_eq_getElem hi]; rfl
theorem nv_set_drop (l : List Int) (i : Nat) (d : Int) (hi : i < l.length) : nv ((l.set i d).drop i) = d.toNat + BB * nv (l.drop (i + 1)) := by
  rw [nv_drop _ _ (by simpa using hi), List.drop_set_of_lt (by omega)]
  simp [hi]

/-- What is known when the digits from i on have been divided. -/
def DV (x y : List Int) (d : Nat) (i : Nat) (r : Int) : Prop := NOk y ∧ y.length = x.length ∧ nv (x.drop i) = nv (y.drop i) * d + r.toNat
theorem DV.step {x y : List Int} {d i : Nat} {r e q s : Int} (h : DV x y d (i + 1) r) (hi : i < x.length) (he : e = x.getD i 0) (he0 : 0 ≤ e) (hr : 0 ≤ r) (h1 : r * 4294967296 + e = q * d + s) (hq : 0 ≤ q) (hq2 : q < 4294967296) (hs : 0 ≤ s) : DV x (y.set i q) d i s := by
  obtain ⟨ho, hl, hv⟩ := h
  refine ⟨ho.set_ i hq hq2, by simpa using hl, ?_⟩
  rw [nv_set_drop _ _ _ (by omega), nv_drop _ _ hi, ← he, hv]
  obtain ⟨e, rfl⟩ := Int.eq_ofNat_of_zero_le he0
  obtain ⟨r, rfl⟩ := Int.eq_ofNat_of_zero_le hr
  obtain ⟨q, rfl⟩ := Int.eq_ofNat_of_zero_le hq
  obtain ⟨s, rfl⟩ := Int.eq_ofNat_of_zero_le hs
  simp only [Int.toNat_natCast, BB_eq]
  have h2 : ((q * d : Nat) : Int) = (q : Int) * d := Int.natCast_mul _ _
  generalize nv (y.drop (i + 1)) = Q
  rw [Nat.add_mul, Nat.mul_add, Nat.mul_assoc]
  omega

/-- A quotient and a remainder are handed back. -/
def DivMade (w : World) (n d : Nat) (e : Ending) (w' : World) : Prop := ∃ v, e = .returned (.tuple #[v, .int .u32 (n % d : Nat), .bool true]) ∧ Own w' w.heap.size v (nd (n / d)) ∧ Below w.heap.size w w'

theorem divSmall_zero (v : Value) (w : World) : Calls Try.prog 22 #[v, .int .u32 0] w fun e w' => e = .returned (.tuple #[.slice none 0 0, .int .u32 0, .bool false]) ∧ w = w' := by
  go_enter Try.func22, Try.ntmps22
  go_wp2
  go_ret3
  exact ⟨rfl, rfl⟩

theorem DV.stop {x y : List Int} {d : Nat} {r : Int} (h : DV x y d 0 r) (hr : 0 ≤ r) (hrd : r < d) : nv y = nv x / d ∧ r = ((nv x % d : Nat) : Int) := by
  obtain ⟨_, _, hv⟩ := h
  rw [List.drop_zero, List.drop_zero] at hv
  obtain ⟨r, rfl⟩ := Int.eq_ofNat_of_zero_le hr
  rw [Int.toNat_natCast] at hv
  rw [hv, Nat.add_comm, Nat.add_mul_div_right _ _ (by omega), Nat.div_eq_of_lt (by omega), Nat.add_mul_mod_self_right, Nat.mod_eq_of_lt (by omega)]
  omega

set_option maxHeartbeats 1000000 in
theorem divSmall_any {v : Value} {l : List Int} {w : World} (h : Rd w v l) (hl : l.length ≤ 17592186044416) (d : Nat) (hd0 : 0 < d) (hd1 : d ≤ 4294967295) :
    Calls Try.prog 22 #[v, .int .u32 d] w (DivMade w (nv l) d) := by
  have HT := Lib.hid (trim_any h)
  have hn := nd_len_le h.ok
  have hk := nok_nd (nv l)
  have hv := nv_nd (nv l)
  clear h
  generalize nv l = n at *
  generalize nd n = x at *
  have HK := Lib.hid hk
  have HV := Lib.hid hv
  obtain ⟨k, hx⟩ : ∃ k, k = x.length := ⟨_, rfl⟩
  have hkl : k ≤ 17592186044416 := by omega
  have HX := Lib.hid hx
  have hdz : ((d : Int) == 0) = false := by rw [beq_eq_false_iff_ne]; omega
  clear hk hv hx hn hl
  have hmk := make_arr 31 Try.underlying31 k (by omega)
  go_enter Try.func22, Try.ntmps22
  go_wp2_with fail
  refine HT.out.mono ?_
  rintro e w' ⟨⟨v', rfl, ⟨_, A', c', rfl, hc', hC'⟩, -⟩, rfl⟩
  have HC := Lib.hid hC'
  rw [← HX.out]
  clear hC' hc'
  go_wp2_with fail
  clear hmk
  have HB0 := Lib.hid (Blk.new w (List.replicate k 0))
  have HW0 := Lib.hid ((Below.refl w.heap.size w).alloc (Nat.le_refl _) (.cells (arr (List.replicate k 0)) 23))
  go_loopw [8, 9] (fun r i wr => ∃ (z r' : Int) (y : List Int), r = .int .u32 r' ∧ i = .int .i64 z ∧ -1 ≤ z ∧ z < k ∧ 0 ≤ r' ∧ r' < d ∧ Hid (DV x y d (z + 1).toNat r') ∧ Hid (Blk wr w.heap.size y) ∧ Hid (Below w.heap.size w wr)) (fun _ i _ => (intOf i + 1).toNat)
  case atStart =>
    refine ⟨(k : Int) - 1, 0, _, rfl, rfl, by omega, by omega, by omega, by omega, Lib.hid ⟨nok_zeros _, by simp [HX.out], ?_⟩, HB0, HW0⟩
    rw [List.drop_of_length_le (by have := HX.out; omega), List.drop_of_length_le (by simp)]
    simp [nv]
  case round =>
    clear HB0 HW0 HT
    obtain ⟨z, r, y, rfl, rfl, hz1, hz2, hr0, hr1, HM, HB, HW⟩ := hrel
    have hsz : w.heap.size < wr.heap.size := HB.out.lt
    have HL := Lib.hid (HM.out.2.1)
    by_cases hz : z < 0
    · obtain rfl : z = -1 := by omega
      obtain ⟨s1, s2⟩ := HM.out.stop hr0 hr1
      have HO := Lib.hid (HB.out.own (Nat.le_refl _) k (by have := HL.out; have := HX.out; omega) (by have := HL.out; have := HX.out; unfold maxLen; omega) (HM.out.1.take _))
      rw [List.take_of_length_le (by have := HL.out; have := HX.out; omega), HL.out, ← HX.out] at HO
      have HT2 := Lib.hid (trim_any HO.out.rd)
      rw [s1, HV.out] at HT2
      rw [HV.out] at s2
      have HS := Lib.hid s2
      clear s1 s2
      go_wp2_with (go_at_call 42; refine HT2.out.mono ?_; rintro e w' ⟨⟨v2, rfl, -, hown⟩, rfl⟩; have HQ := Lib.hid (hown _ HO.out); clear hown)
      go_ret3
      exact ⟨_, by rw [← HS.out]; rfl, HQ.out, HW.out⟩
    · obtain ⟨i, rfl⟩ := Int.eq_ofNat_of_zero_le (by omega : 0 ≤ z)
      have hik : i < k := by omega
      obtain ⟨ad, hA, hcell⟩ := at_nat (Kd.C_below HC.out HW.out) (i := i) (by have := HX.out; omega)
      subst hA
      obtain ⟨e, he⟩ : ∃ d, d = x.getD i 0 := ⟨_, rfl⟩
      have hdr := HK.out.at_ i
      rw [← he] at hcell hdr
      have HE := Lib.hid he
      clear he
      obtain ⟨he0, he1⟩ := hdr
      obtain ⟨old, hold⟩ : ∃ old : Int, wr.cell? ⟨w.heap.size, i, none⟩ = some (.int .u32 old) := ⟨_, HB.out.cell i (by have := HL.out; have := HX.out; omega)⟩
      have hfz := HB.out.frozen i
      obtain ⟨q, s, h1, hs0, hs1, hq0, hq1⟩ := div32_split hr0 hr1 he0 he1
      have H1 := Lib.hid h1
      clear h1 hz hz1
      go_wp2_with (go_at_call 45; refine (div32_to _ hr0 hr1 he0 he1 (by omega) H1.out hs0 hs1).mono ?_; rintro e w' ⟨rfl, ⟨nq, rfl⟩⟩)
      go_roundw
      case rel => exact ⟨(i : Int) - 1, s, y.set i q, rfl, rfl, by omega, by omega, by omega, by omega, Lib.hid (by rw [show ((i : Int) - 1 + 1).toNat = i from by omega]; exact HM.out.step (by have := HX.out; omega) HE.out he0 hr0 H1.out hq0 hq1 hs0), Lib.hid (HB.out.set_ i q), Lib.hid (pw_below_drewN (HW.out.setCell (p := ⟨w.heap.size, i, none⟩) (Nat.le_refl _) _) nq)⟩
      case measure => simp [intOf]
end Go.Proofs.Ytmfkabebhbecgaa.N
