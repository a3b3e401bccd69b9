/- natural.MulAdd as a walk: the digits of a * m + c in a new slice. Condition: the slice reads as fewer than 2^44 digits; m and c are below 2^32. -/
import Derived.Test.YtmfkabebhbecgaaN4
import Derived.Test.YtmfkabebhbecgaaBits
namespace Go.Proofs.Ytmfkabebhbecgaa.N
open Go.RowKit Go.Proofs.Ytmfkabebhbecgaa.Dig Go.Proofs.YtmfkabebhbecgaaW.PrintWords Go.Proofs.YtmfkabebhbecgaaW.PrintLast Go.Proofs.YtmfkabebhbecgaaW.PrintMore
set_option linter.unusedVariables false

theorem NOk.at_ {l : List Int} (h : NOk l) (i : Nat) : 0 ≤ l.getD i 0 ∧ l.getD i 0 < 4294967296 := Ok.at_ h (by decide) i
theorem NOk.set_ {l : List Int} (h : NOk l) (i : Nat) {d : Int} (h0 : 0 ≤ d) (h1 : d < 4294967296) : NOk (l.set i d) := fun x hx => by
  rcases List.mem_or_eq_of_mem_set hx with h2 | rfl
  · exact h x h2
  · exact ⟨h0, h1⟩
theorem nok_zeros (n : Nat) : NOk (List.replicate n 0) := Ok.replicate (by decide) n
theorem nv_take_succ (l : List Int) (k : Nat) (hk : k < l.length) : nv (l.take (k + 1)) = nv (l.take k) + BB ^ k * (l.getD k 0).toNat := val_take_succ BB l k hk
theorem nv_set_take (l : List Int) (k : Nat) (d : Int) (hk : k < l.length) : nv ((l.set k d).take (k + 1)) = nv (l.take k) + BB ^ k * d.toNat := by
  rw [nv_take_succ _ _ (by simpa using hk), List.take_set_of_le (Nat.le_refl _)]
  simp [hk]
theorem nv_take_all (l : List Int) : nv (l.take l.length) = nv l := by rw [List.take_length]

theorem muladd_step {X Y P m c s cc d : Nat} {c0 : Nat} (h : Y + P * c = X * m + c0) (he : d * m + c = cc * BB + s) : Y + P * s + P * BB * cc = (X + P * d) * m + c0 := by
  have h1 : P * (d * m + c) = P * (cc * BB + s) := by rw [he]
  rw [Nat.mul_add, Nat.mul_add] at h1
  rw [Nat.add_mul, Nat.mul_assoc P BB cc, Nat.mul_comm BB cc, Nat.mul_assoc P d m]
  omega

/-- What is known after i rounds of MulAdd. -/
def MA (x y : List Int) (m c0 : Nat) (i : Nat) (c : Int) : Prop :=
  NOk y ∧ y.length = x.length + 1 ∧ nv (y.take i) + BB ^ i * c.toNat = nv (x.take i) * m + c0

theorem MA.step {x y : List Int} {m c0 i : Nat} {c d hi lo k s : Int} (h : MA x y m c0 i c) (hi_ : i < x.length) (hd : d = x.getD i 0) (hd0 : 0 ≤ d) (hc : 0 ≤ c) (h1 : d * m = hi * 4294967296 + lo) (h2 : lo + c + 0 = k * 4294967296 + s) (h3 : 0 ≤ s) (h4 : s < 4294967296) (h5 : 0 ≤ hi + k) :
    MA x (y.set i s) m c0 (i + 1) (hi + k) := by
  obtain ⟨ho, hl, hv⟩ := h
  refine ⟨ho.set_ i h3 h4, by simpa using hl, ?_⟩
  rw [nv_set_take _ _ _ (by omega), nv_take_succ _ _ hi_, ← hd, Nat.pow_succ]
  refine muladd_step hv ?_
  obtain ⟨d, rfl⟩ := Int.eq_ofNat_of_zero_le hd0
  obtain ⟨c, rfl⟩ := Int.eq_ofNat_of_zero_le hc
  obtain ⟨s, rfl⟩ := Int.eq_ofNat_of_zero_le h3
  obtain ⟨z, hz⟩ := Int.eq_ofNat_of_zero_le h5
  rw [hz]
  simp only [Int.toNat_natCast, BB_eq]
  have : ((d * m : Nat) : Int) = (d : Int) * m := Int.natCast_mul _ _
  omega

theorem MA.stop {x y : List Int} {m c0 : Nat} {c : Int} (h : MA x y m c0 x.length c) (hc : 0 ≤ c) (hc2 : c < 4294967296) : NOk (y.set x.length c) ∧ nv (y.set x.length c) = nv x * m + c0 ∧ (y.set x.length c).length = x.length + 1 := by
  obtain ⟨ho, hl, hv⟩ := h
  refine ⟨ho.set_ _ hc hc2, ?_, by simpa using hl⟩
  have := nv_set_take y x.length c (by omega)
  rw [List.take_of_length_le (by simp; omega)] at this
  rw [this, hv, List.take_length]

set_option maxHeartbeats 1000000 in
theorem mulAdd_any {v : Value} {l : List Int} {w : World} (h : Rd w v l) (hl : l.length ≤ 17592186044416) (m c0 : Nat) (hm : m ≤ 4294967295) (hc : c0 ≤ 4294967295) :
    Calls Try.prog 19 #[v, .int .u32 m, .int .u32 c0] w (Made w (nv l * m + c0)) := by
  have HT := Lib.hid (trim_any h)
  have hn := nd_len_le h.ok
  have hk := nok_nd (nv l)
  have hv := nv_nd (nv l)
  clear h
  generalize nv l = n at *
  generalize nd n = x at *
  have HK := Lib.hid hk
  have HV := Lib.hid hv
  obtain ⟨k, hx⟩ : ∃ k, k = x.length := ⟨_, rfl⟩
  have hkl : k ≤ 17592186044416 := by omega
  have HX := Lib.hid hx
  clear hk hv hx hn hl
  have hmk := make_arr 31 Try.underlying31 (k + 1) (by omega)
  rw [show (((k + 1 : Nat)) : Int) = (k : Int) + 1 from by omega] at hmk
  go_enter Try.func19, Try.ntmps19
  go_wp2_with fail
  refine HT.out.mono ?_
  rintro e w' ⟨⟨v', rfl, ⟨_, A', c', rfl, hc', hC'⟩, -⟩, rfl⟩
  have HC := Lib.hid hC'
  rw [← HX.out]
  clear hC' hc'
  go_wp2_with fail
  clear hmk
  have HB0 := Lib.hid (Blk.new w (List.replicate (k + 1) 0))
  have HW0 := Lib.hid ((Below.refl w.heap.size w).alloc (Nat.le_refl _) (.cells (arr (List.replicate (k + 1) 0)) 23))
  have hs0 : w.heap.size < (w.alloc (.cells (arr (List.replicate (k + 1) 0)) 23)).heap.size := by simp
  go_loopw [2, 22] (fun c i wr => ∃ (j : Nat) (z : Int) (y : List Int), c = .int .u32 z ∧ i = .int .i64 j ∧ j ≤ k ∧ 0 ≤ z ∧ z < 4294967296 ∧ Hid (MA x y m c0 j z) ∧ Hid (Blk wr w.heap.size y) ∧ Hid (Below w.heap.size w wr)) (fun _ i _ => k - (intOf i).toNat)
  case atStart =>
    refine ⟨0, (c0 : Int), _, rfl, rfl, Nat.zero_le _, by omega, by omega, Lib.hid ⟨nok_zeros _, by simp [HX.out], ?_⟩, HB0, HW0⟩
    simp [nv]
  case round =>
    clear HB0 HW0 hs0 HT
    obtain ⟨j, z, y, rfl, rfl, hjk, hz0, hz1, HM, HB, HW⟩ := hrel
    have hsz : w.heap.size < wr.heap.size := HB.out.lt
    have HL := Lib.hid (HM.out.2.1)
    by_cases hj : j < k
    · obtain ⟨ad, hA, hcell⟩ := at_nat (Kd.C_below HC.out HW.out) (i := j) (by have := HX.out; omega)
      subst hA
      obtain ⟨d, hd⟩ : ∃ d, d = x.getD j 0 := ⟨_, rfl⟩
      have hdr := HK.out.at_ j
      rw [← hd] at hcell hdr
      have HD := Lib.hid hd
      clear hd
      obtain ⟨hd0, hd1⟩ := hdr
      obtain ⟨old, hold⟩ : ∃ old : Int, wr.cell? ⟨w.heap.size, j, none⟩ = some (.int .u32 old) := ⟨_, HB.out.cell j (by have := HL.out; have := HX.out; omega)⟩
      have hfz := HB.out.frozen j
      obtain ⟨hi, lo, he1, hlo0, hlo1, hhi0⟩ := split32 (d * m) (Int.mul_nonneg hd0 (by omega))
      obtain ⟨kk, s, he2, hs0, hs1, hkk0⟩ := split32 (lo + z + 0) (by omega)
      have hP := (mul32_bound hd0 hd1 (by omega : (0 : Int) ≤ m) (by omega)).2
      have hsum : hi + kk ≤ 4294967295 := by omega
      have E1 := Lib.hid he1
      have E2 := Lib.hid he2
      clear he1 he2 hP
      go_wp2_with (first
        | (go_at_call 43; refine (mul32_to _ hd0 hd1 (by omega) (by omega) E1.out hlo0 hlo1).mono ?_; rintro e w' ⟨rfl, rfl⟩)
        | (go_at_call 44; refine (add32_to _ hlo0 hlo1 hz0 hz1 (by omega) (by omega) E2.out hs0 hs1).mono ?_; rintro e w' ⟨rfl, rfl⟩))
      go_roundw
      case rel => exact ⟨j + 1, hi + kk, y.set j s, rfl, by go_num, by omega, by omega, by omega, Lib.hid (HM.out.step (by have := HX.out; omega) HD.out hd0 hz0 E1.out E2.out hs0 hs1 (by omega)), Lib.hid (HB.out.set_ j s), Lib.hid (HW.out.setCell (p := ⟨w.heap.size, j, none⟩) (Nat.le_refl _) _)⟩
      case measure => simp [intOf]; omega
    · obtain rfl : j = k := by omega
      obtain ⟨old, hold⟩ : ∃ old : Int, wr.cell? ⟨w.heap.size, j, none⟩ = some (.int .u32 old) := ⟨_, HB.out.cell j (by have := HL.out; have := HX.out; omega)⟩
      have hfz := HB.out.frozen j
      have hm2 := HM.out
      rw [HX.out] at hm2
      obtain ⟨s1, s2, s3⟩ := hm2.stop hz0 hz1
      rw [← HX.out] at s1 s2 s3
      have HB2 := Lib.hid (HB.out.set_ j z)
      have HO := Lib.hid (HB2.out.own (Nat.le_refl _) (j + 1) (by omega) (by unfold maxLen; omega) (by rw [List.take_of_length_le (by omega)]; exact s1))
      rw [List.take_of_length_le (by omega), s3] at HO
      have HT2 := Lib.hid (trim_any HO.out.rd)
      rw [s2, HV.out] at HT2
      have HW2 := Lib.hid (HW.out.setCell (p := ⟨w.heap.size, j, none⟩) (Nat.le_refl _) (.int .u32 z))
      clear s1 s2 s3 hm2
      go_wp2_with (go_at_call 42; refine HT2.out.mono ?_; rintro e w' ⟨⟨v2, rfl, -, hown⟩, rfl⟩; have HQ := Lib.hid (hown _ HO.out); clear hown)
      go_ret
      exact ⟨_, rfl, HQ.out, HW2.out⟩
end Go.Proofs.Ytmfkabebhbecgaa.N
