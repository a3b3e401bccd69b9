/- cylinderref01.Mul as a walk: the product of two numbers as bits. Condition: the slices of ints read as the bits of numbers, fewer than 2^33 each. -/
import Derived.Test.YthadkjekagfjfaaR5
namespace Go.Proofs.Ythadkjekagfjfaa.N
open Go.RowKit Go.Proofs.Ythadkjekagfjfaa.Dig Go.Proofs.YthadkjekagfjfaaW.PrintWords Go.Proofs.YthadkjekagfjfaaW.PrintLast Go.Proofs.YthadkjekagfjfaaW.PrintMore
set_option linter.unusedVariables false

/-- What is known of the words of the product, k words of the row i being done, carry c pending. -/
def MW (x y o : List Int) (m i k c : Nat) : Prop :=
  Ok WW o ∧ o.length = x.length + y.length ∧ val WW o + c * WW ^ (i + k) = val WW (x.take i) * m + (x.getD i 0).toNat * val WW (y.take k) * WW ^ i ∧ ∀ j, i + y.length ≤ j → o.getD j 0 = 0
theorem MW.step {x y o : List Int} {m i k c a b d : Nat} (h : MW x y o m i k c) (hk : k < y.length) (hi : i < x.length) (ha : (a : Int) = x.getD i 0) (hb : (b : Int) = y.getD k 0) (hd : (d : Int) = o.getD (i + k) 0) :
    MW x y (o.set (i + k) (((d + a * b + c) % 32768 : Nat) : Int)) m i (k + 1) ((d + a * b + c) / 32768) := by
  obtain ⟨ho, hl, hv, hz⟩ := h
  refine ⟨Ok.set_ ho _ (Int.natCast_nonneg _) (Int.ofNat_lt.2 (Nat.mod_lt _ (by decide))), by rw [List.length_set]; exact hl, ?_, fun j hj => ?_⟩
  · have h1 := val_set WW o (i + k) (((d + a * b + c) % 32768 : Nat) : Int) (by omega)
    have h2 := val_take_succ WW y k hk
    rw [← hd, Int.toNat_natCast, Int.toNat_natCast] at h1
    rw [← ha, Int.toNat_natCast] at hv ⊢
    rw [← hb, Int.toNat_natCast] at h2
    rw [h2]
    have h3 : WW ^ (i + k) * ((d + a * b + c) % 32768 + 32768 * ((d + a * b + c) / 32768)) = WW ^ (i + k) * (d + a * b + c) := by rw [Nat.mod_add_div]
    have e1 : (d + a * b + c) / 32768 * WW ^ (i + (k + 1)) = WW ^ (i + k) * (32768 * ((d + a * b + c) / 32768)) := by
      rw [show i + (k + 1) = i + k + 1 from rfl, Nat.pow_succ, Nat.mul_comm _ (WW ^ (i + k) * WW), Nat.mul_assoc]; rfl
    have e2 : a * (val WW (y.take k) + WW ^ k * b) * WW ^ i = a * val WW (y.take k) * WW ^ i + WW ^ (i + k) * (a * b) := by
      rw [Nat.mul_add, Nat.add_mul, Nat.pow_add]
      congr 1
      rw [Nat.mul_comm (a * (WW ^ k * b)), Nat.mul_left_comm a, ← Nat.mul_assoc]
    rw [e1, e2]
    rw [Nat.mul_add] at h3
    rw [Nat.mul_add, Nat.mul_add] at h3
    rw [Nat.mul_comm c] at hv
    omega
  · rw [List.getD_eq_getElem?_getD, List.getElem?_set_ne (by omega), ← List.getD_eq_getElem?_getD]
    exact hz j hj
theorem MW.row {x y o : List Int} {m i c : Nat} (h : MW x y o m i y.length c) (hi : i < x.length) (hy : val WW y = m) (hc : c < 32768) :
    MW x y (o.set (i + y.length) (c : Int)) m (i + 1) 0 0 := by
  obtain ⟨ho, hl, hv, hz⟩ := h
  refine ⟨Ok.set_ ho _ (Int.natCast_nonneg _) (Int.ofNat_lt.2 hc), by rw [List.length_set]; exact hl, ?_, fun j hj => ?_⟩
  · have h1 := val_set WW o (i + y.length) (c : Int) (by omega)
    have h2 := val_take_succ WW x i hi
    rw [hz _ (Nat.le_refl _), Int.toNat_natCast] at h1
    rw [List.take_length, hy] at hv
    rw [h2, List.take_zero, val_nil, Nat.add_mul, Nat.mul_zero, Nat.zero_mul]
    have e : WW ^ i * (x.getD i 0).toNat * m = (x.getD i 0).toNat * m * WW ^ i := by rw [Nat.mul_assoc, Nat.mul_comm]
    rw [Nat.mul_comm c] at hv
    simp at h1
    omega
  · rw [List.getD_eq_getElem?_getD, List.getElem?_set_ne (by omega), ← List.getD_eq_getElem?_getD]
    exact hz j (by omega)
theorem MW.start (x y : List Int) (m : Nat) : MW x y (List.replicate (x.length + y.length) 0) m 0 0 0 :=
  ⟨Ok.replicate (by decide) _, List.length_replicate, by simp [val_zeros], fun j _ => by
    rw [List.getD_eq_getElem?_getD, List.getElem?_replicate]
    split <;> rfl⟩
theorem MW.stop {x y o : List Int} {m : Nat} (h : MW x y o m x.length 0 0) : val WW o = val WW x * m := by
  obtain ⟨_, _, hv, _⟩ := h
  rw [List.take_length] at hv
  simp at hv
  exact hv
theorem MW.carry {a b d c : Nat} (ha : a < 32768) (hb : b < 32768) (hd : d < 32768) (hc : c < 32768) : d + a * b + c < 1073741824 ∧ (d + a * b + c) / 32768 < 32768 ∧ a * b ≤ 1073676289 := by
  have h1 : a * b ≤ 32767 * 32767 := Nat.mul_le_mul (by omega) (by omega)
  omega

set_option maxHeartbeats 2000000 in
theorem mulB_any {va vb : Value} {n m : Nat} {w : World} (ha : Bt w va n) (hb : Bt w vb m) (hn : (bt n).length ≤ 8053063680) (hm : (bt m).length ≤ 8053063680) :
    Calls Try.prog 47 #[va, vb] w (MadeB w (n * m)) := by
  have HX := Lib.hid (words_any ha (by omega))
  have hY0 : ∀ w' : World, Below w.heap.size w w' → Calls Try.prog 66 #[vb] w' (MadeW w' (wd m)) := fun w' hb' => words_any (hb.below hb') (by omega)
  have HY := Lib.hid hY0
  clear hY0
  have hX : wl n ≤ 536870912 := by unfold wl; omega
  have hY : wl m ≤ 536870912 := by unfold wl; omega
  have hvx := wd_val n
  have hvy := wd_val m
  have hox := wd_ok n
  have hoy := wd_ok m
  have hlx := wd_len n
  have hly := wd_len m
  clear ha hb hn hm
  generalize wd n = x at *
  generalize wd m = y at *
  generalize wl n = X at *
  generalize wl m = Y at *
  have HLX := Lib.hid hlx
  have HLY := Lib.hid hly
  have HVX := Lib.hid hvx
  have HVY := Lib.hid hvy
  have HOX := Lib.hid hox
  have HOY := Lib.hid hoy
  clear hlx hly hvx hvy hox hoy
  go_enter Try.func47, Try.ntmps47
  go_wp2_with fail
  refine HX.out.mono ?_
  rintro e w1 ⟨gx, rfl, hgx, hbx, hb1⟩
  rw [HLX.out]
  go_wp2_with fail
  refine (HY.out _ hb1).mono ?_
  rintro e w2 ⟨gy, rfl, hgy, hby, hb2⟩
  rw [HLY.out]
  obtain ⟨M, hM⟩ : ∃ M, M = X + Y := ⟨_, rfl⟩
  have hMi : ((X : Int) + Y) = (M : Int) := by omega
  have hMb : M ≤ 1073741824 := by omega
  have hmk : ∀ W : World, _ := fun W => make_arrI M (by omega) W
  have HM := Lib.hid hM
  have hxg := hbx.lt
  have hyg := hby.lt
  have hsz := hb2.size
  have HBX := Lib.hid (((hbx.then_ hb2).alloc (.cells (arrI (List.replicate M 0)) 3)))
  have HBY := Lib.hid (hby.alloc (.cells (arrI (List.replicate M 0)) 3))
  have HBO := Lib.hid (BlkI.new w2 (List.replicate M 0))
  have hB2 := below_then hb1 hb1.size hb2
  have HW := Lib.hid (below_alloc hB2 (.cells (arrI (List.replicate M 0)) 3))
  obtain ⟨go, hgo⟩ : ∃ go, go = w2.heap.size := ⟨_, rfl⟩
  have HG := Lib.hid (show gx ≠ go ∧ gy ≠ go ∧ w.heap.size ≤ go from ⟨by omega, by omega, by rw [hgo]; exact hB2.size⟩)
  clear hbx hby hM hxg hyg hsz hB2 hb1 hb2 hgx hgy HX HY
  go_wp2
  rw [← hgo] at HBO ⊢
  clear hgo hmk
  go_loopw [8] (fun iv wr => ∃ (i : Nat) (o : List Int), iv = .int .i64 i ∧ i ≤ X ∧ Hid (MW x y o m i 0 0) ∧ Hid (BlkI wr go o) ∧ Hid (BlkI wr gx x) ∧ Hid (BlkI wr gy y) ∧ Hid (Below w.heap.size w wr)) (fun iv _ => X - (intOf iv).toNat)
  case atStart => exact ⟨0, _, rfl, by omega, Lib.hid (by have h := MW.start x y m; rw [HLX.out, HLY.out, ← HM.out] at h; exact h), HBO, HBX, HBY, HW⟩
  case round =>
    clear HBO HBX HBY HW
    obtain ⟨i, o, rfl, hi, HMI, HBO, HBX, HBY, HW⟩ := hrel
    by_cases hiX : i < X
    · obtain ⟨aa, haa⟩ : ∃ a, a = x.getD i 0 := ⟨_, rfl⟩
      have har := HOX.out.at_ (by decide) i
      rw [← haa] at har
      obtain ⟨a, rfl⟩ := Int.eq_ofNat_of_zero_le har.1
      have ha1 : a < 32768 := by have := WW_eq; omega
      have HA := Lib.hid haa
      clear haa har
      go_wp2
      go_loopw [9, 10] (fun cv kv wr => ∃ (k c : Nat) (o : List Int), cv = .int .i64 c ∧ kv = .int .i64 k ∧ k ≤ Y ∧ c < 32768 ∧ Hid (MW x y o m i k c) ∧ Hid (BlkI wr go o) ∧ Hid (BlkI wr gx x) ∧ Hid (BlkI wr gy y) ∧ Hid (Below w.heap.size w wr)) (fun _ kv _ => Y - (intOf kv).toNat)
      case atStart => exact ⟨0, 0, o, rfl, rfl, by omega, by omega, HMI, HBO, HBX, HBY, HW⟩
      case round =>
        clear HBO HBX HBY HW HMI o
        obtain ⟨k, c, o, rfl, rfl, hk, hc, HMI, HBO, HBX, HBY, HW⟩ := hrel
        have hol : o.length = M := by rw [HMI.out.2.1, HLX.out, HLY.out, HM.out]
        have hMX := HM.out
        by_cases hkY : k < Y
        · obtain ⟨bb, hbb⟩ : ∃ b, b = y.getD k 0 := ⟨_, rfl⟩
          obtain ⟨dd, hdd⟩ : ∃ d, d = o.getD (i + k) 0 := ⟨_, rfl⟩
          have hbr := HOY.out.at_ (by decide) k
          have hdr := HMI.out.1.at_ (by decide) (i + k)
          have c1 := HBX.out.cell i (by rw [HLX.out]; exact hiX)
          have c2 := HBY.out.cell k (by rw [HLY.out]; exact hkY)
          have c3 := HBO.out.cell (i + k) (by omega)
          have hfz := HBO.out.frozen (i + k)
          rw [← HA.out] at c1
          rw [← hbb] at hbr c2
          rw [← hdd] at hdr c3
          obtain ⟨b, rfl⟩ := Int.eq_ofNat_of_zero_le hbr.1
          obtain ⟨d, rfl⟩ := Int.eq_ofNat_of_zero_le hdr.1
          have hb1 : b < 32768 := by have := WW_eq; omega
          have hd1 : d < 32768 := by have := WW_eq; omega
          obtain ⟨m1, m2, m3⟩ := MW.carry ha1 hb1 hd1 hc
          have hst := HMI.out.step (by rw [HLY.out]; exact hkY) (by rw [HLX.out]; exact hiX) HA.out hbb hdd
          obtain ⟨p, hp⟩ : ∃ p, p = a * b := ⟨_, rfl⟩
          have hpi : (a : Int) * (b : Int) = (p : Int) := by rw [hp]; push_cast; rfl
          rw [← hp] at m1 m2 m3 hst
          have HSt := Lib.hid hst
          have HMX := Lib.hid hMX
          have hik : i + k < M := by omega
          clear hst hbb hdd hbr hdr hp hMX hol
          go_wp2
          go_quiet (fail)
          go_wp2
          rw [show (((d : Int) + p + c) % 32768) = (((d + p + c) % 32768 : Nat) : Int) by omega]
          refine ⟨⟨k + 1, (d + p + c) / 32768, _, by go_num, by go_num, by omega, m2, HSt, ?_, ?_, ?_, ?_⟩, by simp [intOf]; omega⟩
          · exact Lib.hid ((HBO.out.drewN _).set_ (i + k) _)
          · exact Lib.hid ((HBX.out.drewN _).far (p := ⟨go, i + k, none⟩) HG.out.1 _)
          · exact Lib.hid ((HBY.out.drewN _).far (p := ⟨go, i + k, none⟩) HG.out.2.1 _)
          · exact Lib.hid ((pw_below_drewN HW.out _).setCell (p := ⟨go, i + k, none⟩) HG.out.2.2 _)
        · obtain rfl : k = Y := by omega
          have hiM : i + k < M := by omega
          have c3 := HBO.out.cell (i + k) (by omega)
          have hfz := HBO.out.frozen (i + k)
          rw [HMI.out.2.2.2 (i + k) (by rw [HLY.out]; exact Nat.le_refl _)] at c3
          have hrow := HMI.out
          rw [← HLY.out] at hrow
          have hr2 := hrow.row (by rw [HLX.out]; exact hiX) HVY.out hc
          rw [HLY.out] at hr2
          have HSt := Lib.hid hr2
          have HMX := Lib.hid hMX
          clear hrow hr2 hMX hol
          go_wp2
          refine ⟨⟨i + 1, _, by go_num, by omega, HSt, ?_, ?_, ?_, ?_⟩, by simp [intOf]; omega⟩
          · exact Lib.hid (HBO.out.set_ (i + k) _)
          · exact Lib.hid (HBX.out.far (p := ⟨go, i + k, none⟩) HG.out.1 _)
          · exact Lib.hid (HBY.out.far (p := ⟨go, i + k, none⟩) HG.out.2.1 _)
          · exact Lib.hid (HW.out.setCell (p := ⟨go, i + k, none⟩) HG.out.2.2 _)
    · obtain rfl : i = X := by omega
      have hval := HMI.out
      have hol : o.length = M := by rw [HMI.out.2.1, HLX.out, HLY.out, HM.out]
      rw [← HLX.out] at hval
      have hv := hval.stop
      rw [HVX.out] at hv
      have hbits := bits_any (HBO.out.reads (by omega)) (Nat.le_refl _) HMI.out.1 (by omega)
      rw [hv, hol] at hbits
      have HBits := Lib.hid hbits
      clear hval hol hv hbits
      go_wp2_with fail
      refine HBits.out.mono ?_
      rintro e w' ⟨v', rfl, hv', hb'⟩
      have HV := Lib.hid hv'
      have HB' := Lib.hid hb'
      clear hv' hb'
      go_wp2
      go_ret
      exact ⟨_, rfl, HV.out, below_then HW.out HW.out.size HB'.out⟩
end Go.Proofs.Ythadkjekagfjfaa.N
