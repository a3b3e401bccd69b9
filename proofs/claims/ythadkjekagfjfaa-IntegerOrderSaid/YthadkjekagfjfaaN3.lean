/- natural.Cmp as a walk: it returns -1, 0 or 1 as the numbers compare. Condition: both slices read as digits. -/
import Derived.Test.YthadkjekagfjfaaN2
namespace Go.Proofs.Ythadkjekagfjfaa.N
open Go.RowKit Go.Proofs.Ythadkjekagfjfaa.Dig Go.Proofs.YthadkjekagfjfaaW.PrintWords Go.Proofs.YthadkjekagfjfaaW.PrintLast Go.Proofs.YthadkjekagfjfaaW.PrintMore
set_option linter.unusedVariables false

/-- -1, 0 or 1. -/
def cmpv (n m : Nat) : Int := if n < m then -1 else if m < n then 1 else 0
theorem cmpv_lt {n m : Nat} (h : n < m) : cmpv n m = -1 := if_pos h
theorem cmpv_gt {n m : Nat} (h : m < n) : cmpv n m = 1 := by unfold cmpv; rw [if_neg (by omega), if_pos h]
theorem cmpv_eq {n m : Nat} (h : n = m) : cmpv n m = 0 := by unfold cmpv; rw [if_neg (by omega), if_neg (by omega)]
theorem cmpv_range (n m : Nat) : -1 ≤ cmpv n m ∧ cmpv n m ≤ 1 := by unfold cmpv; split <;> (try split) <;> omega

theorem lt_of_len {n m : Nat} (h : (nd n).length < (nd m).length) : n < m := by
  have h1 : n < BB ^ (nd n).length := dg_len_lt BB2 n
  have h0 : m ≠ 0 := by rintro rfl; simp [nd_zero] at h
  have h2 : BB ^ ((nd m).length - 1) ≤ m := dg_len_ge BB2 h0
  have h3 : BB ^ (nd n).length ≤ BB ^ ((nd m).length - 1) := Nat.pow_le_pow_right (by decide) (by omega)
  omega

theorem lt_of_top {b : Nat} {l m : List Int} (hl : Ok b l) (hm : Ok b m) (he : l.length = m.length) (i : Nat) (hi : i < l.length) (hd : l.drop (i + 1) = m.drop (i + 1)) (ht : l.getD i 0 < m.getD i 0) (hb : 0 < b) : val b l < val b m := by
  have h1 := val_split b l (i + 1) (by omega)
  have h2 := val_split b m (i + 1) (by omega)
  rw [val_take_succ b l i hi] at h1
  rw [val_take_succ b m i (by omega), ← hd] at h2
  have h3 := val_lt (hl.take i)
  rw [List.length_take, Nat.min_eq_left (by omega)] at h3
  have a1 := hl.at_ hb i
  have a2 := hm.at_ hb i
  have h4 : b ^ i * ((l.getD i 0).toNat + 1) ≤ b ^ i * (m.getD i 0).toNat := Nat.mul_le_mul_left _ (by omega)
  rw [Nat.mul_add] at h4
  omega

theorem drop_step {l m : List Int} (he : l.length = m.length) (i : Nat) (hi : i < l.length) (hd : l.drop (i + 1) = m.drop (i + 1)) (h : l.getD i 0 = m.getD i 0) : l.drop i = m.drop i := by
  rw [List.drop_eq_getElem_cons hi, List.drop_eq_getElem_cons (by omega : i < m.length), hd]
  congr 1
  simpa [List.getD_eq_getElem?_getD, List.getElem?_eq_getElem hi, List.getElem?_eq_getElem (by omega : i < m.length)] using h

set_option maxHeartbeats 800000 in
theorem cmp_any {v1 v2 : Value} {l1 l2 : List Int} {w : World} (h1 : Rd w v1 l1) (h2 : Rd w v2 l2) :
    Calls Try.prog 54 #[v1, v2] w fun e w' => e = .returned (.int .i64 (cmpv (nv l1) (nv l2))) ∧ Drawn0 w w' := by
  have C1 := Lib.hid (trim_any h1)
  have C2 := Lib.hid (trim_any h2)
  clear h1 h2
  have hk1 := nok_nd (nv l1)
  have hk2 := nok_nd (nv l2)
  have hv1 := nv_nd (nv l1)
  have hv2 := nv_nd (nv l2)
  have L1 := @lt_of_len (nv l1) (nv l2)
  have L2 := @lt_of_len (nv l2) (nv l1)
  generalize nv l1 = n at *
  generalize nv l2 = m at *
  generalize nd n = x at *
  generalize nd m = y at *
  rcases Nat.lt_trichotomy x.length y.length with hlt | heq | hgt
  · have E := cmpv_lt (L1 hlt)
    rw [E]
    clear E L1 L2 hk1 hk2 hv1 hv2
    go_enter Try.func54, Try.ntmps54
    go_wp2_with fail
    refine C1.out.mono ?_
    rintro e w' ⟨⟨v', rfl, ⟨_, A', c', rfl, hc', hC'⟩, -⟩, rfl⟩
    go_wp2_with fail
    refine C2.out.mono ?_
    rintro e w' ⟨⟨v'', rfl, ⟨_, A'', c'', rfl, hc'', hC''⟩, -⟩, rfl⟩
    go_wp2
    go_ret
    exact ⟨rfl, Drawn0.refl _⟩
  · clear L1 L2
    have he : x.length = y.length := heq
    have HE := Lib.hid he
    have HK1 := Lib.hid hk1
    have HK2 := Lib.hid hk2
    obtain ⟨k, hk⟩ : ∃ k, k = x.length := ⟨_, rfl⟩
    have hk2 : k = y.length := hk.trans he
    have HX := Lib.hid hk
    have HY := Lib.hid hk2
    clear he heq hk hk2 hk1
    have HV1 := Lib.hid hv1
    have HV2 := Lib.hid hv2
    clear hv1 hv2
    go_enter Try.func54, Try.ntmps54
    go_wp2_with fail
    refine C1.out.mono ?_
    rintro e w' ⟨⟨v', rfl, ⟨_, A', c', rfl, hc', hC'⟩, -⟩, rfl⟩
    go_wp2_with fail
    refine C2.out.mono ?_
    rintro e w' ⟨⟨v'', rfl, ⟨_, A'', c'', rfl, hc'', hC''⟩, -⟩, rfl⟩
    have D1 := Lib.hid hC'
    have D2 := Lib.hid hC''
    have hm := Kd.C_max hC'
    rw [← HX.out] at hm hc' ⊢
    rw [← HY.out] at hc'' ⊢
    clear hC' hC''
    go_wp2
    go_loopw [5] (fun v wr => ∃ z : Int, -1 ≤ z ∧ z < k ∧ v = .int .i64 z ∧ Hid (∀ i : Nat, z < i → x.drop i = y.drop i) ∧ Drawn0 w wr) (fun v _ => (intOf v + 1).toNat)
    case atStart => exact ⟨(k : Int) - 1, by omega, by omega, rfl, Lib.hid fun i hi => by rw [List.drop_of_length_le (by have := HX.out; omega), List.drop_of_length_le (by have := HY.out; omega)], Drawn0.refl _⟩
    case round =>
      obtain ⟨z, hz1, hz2, rfl, HZ, hd⟩ := hrel
      by_cases hz : z < 0
      · obtain rfl : z = -1 := by omega
        have he : n = m := by
          have := HZ.out 0 (by omega)
          rw [List.drop_zero, List.drop_zero] at this
          rw [← HV1.out, ← HV2.out, this]
        have E := Lib.hid (cmpv_eq he)
        clear he
        go_wp2
        go_ret
        exact ⟨by rw [E.out]; rfl, hd⟩
      · obtain ⟨i, rfl⟩ := Int.eq_ofNat_of_zero_le (by omega : 0 ≤ z)
        have hik : i < k := by omega
        obtain ⟨ad1, e1, c1⟩ := at_nat D1.out (i := i) (by have := HX.out; omega)
        obtain ⟨ad2, e2, c2⟩ := at_nat D2.out (i := i) (by have := HY.out; omega)
        subst e1 e2
        obtain ⟨nq, rfl⟩ := hd.out
        obtain ⟨d1, hd1⟩ : ∃ d, d = x.getD i 0 := ⟨_, rfl⟩
        obtain ⟨d2, hd2⟩ : ∃ d, d = y.getD i 0 := ⟨_, rfl⟩
        rw [← hd1] at c1
        rw [← hd2] at c2
        have HD1 := Lib.hid hd1
        have HD2 := Lib.hid hd2
        clear hd1 hd2 hz hz1
        have HT := Lib.hid (HZ.out (i + 1) (by omega))
        rcases Int.lt_trichotomy d1 d2 with hlt | heq | hgt
        · have E := Lib.hid (cmpv_lt (show n < m by rw [← HV1.out, ← HV2.out]; exact lt_of_top HK1.out HK2.out HE.out i (by have := HX.out; omega) HT.out (by rw [← HD1.out, ← HD2.out]; exact hlt) (by decide)))
          go_wp2
          go_quiet (fail)
          go_wp2
          go_quiet (fail)
          go_wp2
          go_ret
          exact ⟨by rw [E.out]; rfl, by repeat (first | exact Drawn0.refl _ | apply Drawn0.step)⟩
        · have hge1 : ¬ d2 < d1 := by omega
          have hge2 : ¬ d1 < d2 := by omega
          have HQ := Lib.hid heq
          clear heq
          go_wp2
          go_quiet (fail)
          go_wp2
          go_quiet (fail)
          go_wp2
          go_roundw
          case rel =>
            refine ⟨(i : Int) - 1, by omega, by omega, rfl, Lib.hid fun j hj => ?_, by repeat (first | exact Drawn0.refl _ | apply Drawn0.step)⟩
            rcases Nat.eq_or_lt_of_le (show i ≤ j by omega) with e | e
            · rw [← e]
              exact drop_step HE.out i (by have := HX.out; omega) HT.out (by rw [← HD1.out, ← HD2.out]; exact HQ.out)
            · exact HZ.out j (by omega)
          case measure => simp [intOf]
        · have E := Lib.hid (cmpv_gt (show m < n by rw [← HV1.out, ← HV2.out]; exact lt_of_top HK2.out HK1.out HE.out.symm i (by have := HY.out; omega) HT.out.symm (by rw [← HD1.out, ← HD2.out]; exact hgt) (by decide)))
          go_wp2
          go_quiet (fail)
          go_wp2
          go_ret
          exact ⟨by rw [E.out]; rfl, by repeat (first | exact Drawn0.refl _ | apply Drawn0.step)⟩
  · have E := cmpv_gt (L2 hgt)
    rw [E]
    clear E L1 L2 hk1 hk2 hv1 hv2
    go_enter Try.func54, Try.ntmps54
    go_wp2_with fail
    refine C1.out.mono ?_
    rintro e w' ⟨⟨v', rfl, ⟨_, A', c', rfl, hc', hC'⟩, -⟩, rfl⟩
    go_wp2_with fail
    refine C2.out.mono ?_
    rintro e w' ⟨⟨v'', rfl, ⟨_, A'', c'', rfl, hc'', hC''⟩, -⟩, rfl⟩
    go_wp2
    go_ret
    exact ⟨rfl, Drawn0.refl _⟩
end Go.Proofs.Ythadkjekagfjfaa.N
