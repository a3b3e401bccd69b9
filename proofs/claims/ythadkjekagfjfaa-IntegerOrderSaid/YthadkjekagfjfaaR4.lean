/- cylinderref01.Up and Down as walks: shifts of bits. Conditions: the slices of ints read as the bits of numbers, fewer than 2^34; the places are at most 2^33 and not negative. -/
import Derived.Test.YthadkjekagfjfaaR3
namespace Go.Proofs.Ythadkjekagfjfaa.N
open Go.RowKit Go.Proofs.Ythadkjekagfjfaa.Dig Go.Proofs.YthadkjekagfjfaaW.PrintWords Go.Proofs.YthadkjekagfjfaaW.PrintLast Go.Proofs.YthadkjekagfjfaaW.PrintMore
set_option linter.unusedVariables false

theorem bt_shl_len (n s : Nat) (h : n ≠ 0) : (bt (n * 2 ^ s)).length = (bt n).length + s := by
  have h1 := bl_lt n
  have h2 := bl_ge h
  have h3 := bl_pos h
  obtain ⟨m, hm⟩ : ∃ m, bl n = m + 1 := ⟨bl n - 1, by omega⟩
  change bl _ = bl n + s
  rw [hm] at h1 h2 ⊢
  rw [Nat.add_sub_cancel] at h2
  have e : m + 1 + s = (m + s) + 1 := by omega
  rw [e]
  apply bl_eq
  · rw [Nat.pow_add]; exact Nat.mul_le_mul_right _ h2
  · rw [show m + s + 1 = (m + 1) + s by omega, Nat.pow_add]; exact Nat.mul_lt_mul_of_pos_right h1 (Nat.pow_pos (by decide))
theorem bt_shl (n s : Nat) (h : n ≠ 0) : List.replicate s 0 ++ bt n = bt (n * 2 ^ s) := by
  refine ok_unique two2 _ _ ((Ok.replicate (by decide) s).append (bt_ok n)) (bt_ok _) ?_ ?_
  · rw [bt_shl_len n s h, List.length_append, List.length_replicate, Nat.add_comm]
  · rw [val_append, val_zeros, List.length_replicate, bt_val, bt_val, Nat.zero_add, Nat.mul_comm]
theorem bt_drop (n s : Nat) : (bt n).drop s = bt (n / 2 ^ s) := by
  rcases Nat.lt_or_ge (bt n).length s with h | h
  · rw [List.drop_of_length_le (by omega), Nat.div_eq_of_lt, bt_zero]
    exact Nat.lt_of_lt_of_le (bt_lt n) (Nat.pow_le_pow_right (by decide) (by omega))
  · have e := val_split 2 (bt n) s h
    have hlt := val_lt ((bt_ok n).take s)
    rw [List.length_take, Nat.min_eq_left h] at hlt
    rw [bt_val] at e
    have hv : val 2 ((bt n).drop s) = n / 2 ^ s := by
      generalize val 2 ((bt n).drop s) = y at *
      generalize val 2 ((bt n).take s) = x at *
      rw [e, Nat.add_mul_div_left _ _ (Nat.pow_pos (by decide)), Nat.div_eq_of_lt hlt, Nat.zero_add]
    refine ok_unique two2 _ _ ((bt_ok n).drop s) (bt_ok _) ?_ (by rw [hv, bt_val])
    rw [List.length_drop]
    have c : ∀ k, (bt (n / 2 ^ s)).length ≤ k ↔ (bt n).length ≤ s + k := fun k => by
      rw [bt_len, bt_len, Nat.div_lt_iff_lt_mul (Nat.pow_pos (by decide)), Nat.pow_add, Nat.mul_comm]
    have d1 := (c ((bt n).length - s)).2 (by omega)
    have d2 := (c (bt (n / 2 ^ s)).length).1 (Nat.le_refl _)
    omega

set_option maxHeartbeats 1000000 in
theorem upB_any {v : Value} {n : Nat} {w : World} (h : Bt w v n) (hn : (bt n).length ≤ 17179869184) (s : Nat) (hs : s ≤ 8589934592) :
    Calls Try.prog 15 #[v, .int .i64 s] w (MadeB w (n * 2 ^ s)) := by
  obtain ⟨A, c, rfl, hc, hC⟩ := h
  have HC := Lib.hid hC
  generalize hk : (bt n).length = k at *
  have HK := Lib.hid hk
  obtain ⟨i0, hi0, hz0, hz1, hz2⟩ := info_parts infoI
  have HI := Lib.hid (And.intro hi0 (And.intro hz0 (And.intro hz1 hz2)))
  clear hC hi0 hz0 hz1 hz2 hk
  have hk0 : k = 0 ↔ n = 0 := by rw [← HK.out, bt_len0]
  go_enter Try.func15, Try.ntmps15
  go_wp2
  go_loopw [5, 6] (fun out i wr => ∃ t : Nat, i = .int .i64 t ∧ t ≤ s ∧ (k = 0 → t = 0) ∧ Hid (OwnI wr w.heap.size out (List.replicate t 0)) ∧ Hid (Below w.heap.size w wr)) (fun _ i _ => s - (intOf i).toNat)
  case atStart => exact ⟨0, rfl, by omega, fun _ => rfl, Lib.hid (OwnI.nil _ _), Lib.hid (Below.refl _ _)⟩
  case round =>
    obtain ⟨t, rfl, ht, hkt, HR, HW⟩ := hrel
    by_cases h0 : k = 0
    · obtain rfl := hkt h0
      obtain rfl := hk0.1 h0
      subst h0
      by_cases hs0 : 0 < s
      · have HFin := Lib.hid (show List.replicate 0 0 ++ bt 0 = bt (0 * 2 ^ s) from by simp [bt_zero])
        have HR2 := Lib.hid (show wr.ownsRow w.heap.size 3 1 _ 0 (encs (Value.int .i64) (List.replicate 0 0)) from OwnI.row List.length_replicate HR.out)
        have hrd : (Kd.int .i64).C wr A 0 (bt 0) := Kd.C_below HC.out HW.out
        have HRD := Lib.hid (show App.Reads wr wr.heap.size 1 A 0 (encs (Value.int .i64) (bt 0)) by have h2 := reads_of_int (l := bt 0) (by rw [HK.out]; exact hrd); rw [HK.out] at h2; exact h2)
        clear hrd
        go_wp2_with (at_builtin; refine App.wpList_append_any _ rfl _ _ _ rfl w.heap.size 3 i0 (.int .i64 0) 1 8 Try.underlying28 HI.out.1 HI.out.2.1 HI.out.2.2.1 HI.out.2.2.2 rfl (by omega) _ 0 (encs (Value.int .i64) (List.replicate 0 0)) ?s1 HR2.out wr.heap.size A 0 c (encs (Value.int .i64) (bt 0)) ?s2 HRD.out ?a1 ?a2 ?a3 ?a4 ?_; (case s1 => rfl); (case s2 => rfl); (case a1 => intro u hu; simp [encs] at hu; obtain ⟨_, _, rfl⟩ := hu; rfl); (case a2 => unfold maxLen; omega); (case a3 => omega); (case a4 => have := HW.out.size; omega))
        intro v' w1 hown hg hat
        have HB3 := Lib.hid (HW.out.grown hg HW.out.size (fun k hk => own_base HR2.out k hk))
        have hown2 : OwnI w1 w.heap.size v' (bt (0 * 2 ^ s)) := by
          unfold OwnI
          rw [← HFin.out, List.length_append, List.length_replicate, HK.out]
          simpa [encs] using hown
        have HO := Lib.hid hown2
        clear hown hg hat hown2
        go_wp2
        go_ret
        exact ⟨_, rfl, HO.out.rd, HB3.out⟩
      · have HFin := Lib.hid (show List.replicate 0 0 ++ bt 0 = bt (0 * 2 ^ s) from by simp [bt_zero])
        have HR2 := Lib.hid (show wr.ownsRow w.heap.size 3 1 _ 0 (encs (Value.int .i64) (List.replicate 0 0)) from OwnI.row List.length_replicate HR.out)
        have hrd : (Kd.int .i64).C wr A 0 (bt 0) := Kd.C_below HC.out HW.out
        have HRD := Lib.hid (show App.Reads wr wr.heap.size 1 A 0 (encs (Value.int .i64) (bt 0)) by have h2 := reads_of_int (l := bt 0) (by rw [HK.out]; exact hrd); rw [HK.out] at h2; exact h2)
        clear hrd
        go_wp2_with (at_builtin; refine App.wpList_append_any _ rfl _ _ _ rfl w.heap.size 3 i0 (.int .i64 0) 1 8 Try.underlying28 HI.out.1 HI.out.2.1 HI.out.2.2.1 HI.out.2.2.2 rfl (by omega) _ 0 (encs (Value.int .i64) (List.replicate 0 0)) ?s1 HR2.out wr.heap.size A 0 c (encs (Value.int .i64) (bt 0)) ?s2 HRD.out ?a1 ?a2 ?a3 ?a4 ?_; (case s1 => rfl); (case s2 => rfl); (case a1 => intro u hu; simp [encs] at hu; obtain ⟨_, _, rfl⟩ := hu; rfl); (case a2 => unfold maxLen; omega); (case a3 => omega); (case a4 => have := HW.out.size; omega))
        intro v' w1 hown hg hat
        have HB3 := Lib.hid (HW.out.grown hg HW.out.size (fun k hk => own_base HR2.out k hk))
        have hown2 : OwnI w1 w.heap.size v' (bt (0 * 2 ^ s)) := by
          unfold OwnI
          rw [← HFin.out, List.length_append, List.length_replicate, HK.out]
          simpa [encs] using hown
        have HO := Lib.hid hown2
        clear hown hg hat hown2
        go_wp2
        go_ret
        exact ⟨_, rfl, HO.out.rd, HB3.out⟩
    · have hk1 : 0 < k := by omega
      by_cases hts : t < s
      · go_wp2_with (at_builtin; refine wpList_appI wr rfl _ _ rfl w _ t (List.replicate t 0) List.length_replicate ?s1 HR.out _ ?s2 HW.out (by omega) ?_; (case s1 => rfl); (case s2 => rfl))
        intro v' w1 hown hb
        rw [show List.replicate t 0 ++ [(0 : Int)] = List.replicate (t + 1) 0 from (List.replicate_succ' ..).symm] at hown
        have HR3 := Lib.hid hown
        have HW3 := Lib.hid hb
        clear hown hb
        go_wp2
        go_roundw
        case rel => exact ⟨t + 1, by go_num, by omega, fun e => absurd e h0, HR3, HW3⟩
        case measure => simp [intOf]; omega
      · obtain rfl : t = s := by omega
        have HFin := Lib.hid (show List.replicate t 0 ++ bt n = bt (n * 2 ^ t) from bt_shl n t (fun e => h0 (hk0.2 e)))
        have HR2 := Lib.hid (show wr.ownsRow w.heap.size 3 1 _ t (encs (Value.int .i64) (List.replicate t 0)) from OwnI.row List.length_replicate HR.out)
        have hrd : (Kd.int .i64).C wr A k (bt n) := Kd.C_below HC.out HW.out
        have HRD := Lib.hid (show App.Reads wr wr.heap.size 1 A k (encs (Value.int .i64) (bt n)) by have h2 := reads_of_int (l := bt n) (by rw [HK.out]; exact hrd); rw [HK.out] at h2; exact h2)
        clear hrd
        go_wp2_with (at_builtin; refine App.wpList_append_any _ rfl _ _ _ rfl w.heap.size 3 i0 (.int .i64 0) 1 8 Try.underlying28 HI.out.1 HI.out.2.1 HI.out.2.2.1 HI.out.2.2.2 rfl (by omega) _ t (encs (Value.int .i64) (List.replicate t 0)) ?s1 HR2.out wr.heap.size A k c (encs (Value.int .i64) (bt n)) ?s2 HRD.out ?a1 ?a2 ?a3 ?a4 ?_; (case s1 => rfl); (case s2 => rfl); (case a1 => intro u hu; simp [encs] at hu; obtain ⟨_, _, rfl⟩ := hu; rfl); (case a2 => unfold maxLen; omega); (case a3 => omega); (case a4 => have := HW.out.size; omega))
        intro v' w1 hown hg hat
        have HB3 := Lib.hid (HW.out.grown hg HW.out.size (fun k hk => own_base HR2.out k hk))
        have hown2 : OwnI w1 w.heap.size v' (bt (n * 2 ^ t)) := by
          unfold OwnI
          rw [← HFin.out, List.length_append, List.length_replicate, HK.out]
          simpa [encs] using hown
        have HO := Lib.hid hown2
        clear hown hg hat hown2
        go_wp2
        go_ret
        exact ⟨_, rfl, HO.out.rd, HB3.out⟩
end Go.Proofs.Ythadkjekagfjfaa.N
