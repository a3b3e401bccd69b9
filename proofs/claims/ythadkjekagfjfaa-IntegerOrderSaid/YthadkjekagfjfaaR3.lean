/- cylinderref01.bit, Cmp, Add, Sub as walks. Conditions: the slices of ints read as the bits of numbers, fewer than 2^35; Sub's second number is not greater. -/
import Derived.Test.YthadkjekagfjfaaR2
namespace Go.Proofs.Ythadkjekagfjfaa.N
open Go.RowKit Go.Proofs.Ythadkjekagfjfaa.Dig Go.Proofs.YthadkjekagfjfaaW.PrintWords Go.Proofs.YthadkjekagfjfaaW.PrintLast Go.Proofs.YthadkjekagfjfaaW.PrintMore
attribute [local go_sem] max2_int min2_int
set_option linter.unusedVariables false

/-- append(out, y) for a slice of ints of the call's own. -/
theorem wpList_appI {ops : Array Oper} {rest : List Oper} {o : Oper} {a : Act} {Q : Exit → Act → World → Prop} (wr : World) (hgd : o.guard = none) (s x : Operand)
    (ho : o.op = .call { callee := .builtin .append, args := #[s, x], argTypes := #[28, 28] }) (w0 : World) (v : Value) (t : Nat) (l : List Int) (hl : l.length = t) (hs : a.eval s = v) (hown : OwnI wr w0.heap.size v l) (y : Int)
    (hx : a.eval x = .slice (some ⟨wr.heap.size, 0, none⟩) 1 1) (hb : Below w0.heap.size w0 wr) (ht : t ≤ 1099511627776)
    (h : ∀ v' w', OwnI w' w0.heap.size v' (l ++ [y]) → Below w0.heap.size w0 w' → wpList Try.prog ops Q rest (a.put o.dst v') w') : wpList Try.prog ops Q (o :: rest) a (wr.alloc (.cells #[.int .i64 y] 3)) := by
  obtain ⟨i0, hi0, hz0, hz1, hz2⟩ := info_parts infoI
  have hsz := hb.size
  refine App.wpList_append_any _ hgd s x 28 ho w0.heap.size 3 i0 (.int .i64 0) 1 8 Try.underlying28 hi0 hz0 hz1 hz2 rfl (by omega) v t (encs (Value.int .i64) l) hs (OwnI.row hl (hown.alloc _)) _ (some ⟨wr.heap.size, 0, none⟩) 1 1 (encs (Value.int .i64) [y]) hx (reads_new1 wr y) ?_ ?_ ?_ ?_ ?_
  · intro u hu; simp [encs] at hu; subst hu; rfl
  · unfold maxLen; omega
  · omega
  · simp; omega
  · intro v' w' hown' hg _
    exact h v' w' (OwnI.snoc hl hown') ((below_alloc hb _).grown hg (by simp; omega) (fun k hk => own_base hown k hk))

theorem bitB_any {v : Value} {n : Nat} {w : World} (h : Bt w v n) (i : Nat) (hi : i ≤ 9223372036854775807) :
    Calls Try.prog 55 #[v, .int .i64 i] w fun e w' => e = .returned (.int .i64 (n / 2 ^ i % 2 : Nat)) ∧ w = w' := by
  obtain ⟨A, c, rfl, hc, hC⟩ := h
  have hm := Kd.C_max hC
  have HC := Lib.hid hC
  obtain ⟨k, hk⟩ : ∃ k, k = (bt n).length := ⟨_, rfl⟩
  have HK := Lib.hid hk
  rw [← hk] at hc hm ⊢
  clear hC hk
  by_cases hik : i < k
  · obtain ⟨ad, hA, hcell⟩ := at_nat HC.out (i := i) (by have := HK.out; omega)
    subst hA
    rw [bt_at] at hcell
    generalize n / 2 ^ i % 2 = e at *
    go_enter Try.func55, Try.ntmps55
    go_wp2
    go_ret
    exact ⟨rfl, rfl⟩
  · have hz : n / 2 ^ i % 2 = 0 := by
      rw [Nat.div_eq_of_lt]
      exact (bt_len i n).1 (by have := HK.out; omega)
    rw [hz]
    clear hz
    go_enter Try.func55, Try.ntmps55
    go_wp2
    go_ret
    exact ⟨rfl, rfl⟩

theorem add_step (n m t : Nat) : ((n + m) / 2 ^ t % 2 = (n / 2 ^ t % 2 + m / 2 ^ t % 2 + (n % 2 ^ t + m % 2 ^ t) / 2 ^ t) % 2) ∧
    (n % 2 ^ (t + 1) + m % 2 ^ (t + 1)) / 2 ^ (t + 1) = (n / 2 ^ t % 2 + m / 2 ^ t % 2 + (n % 2 ^ t + m % 2 ^ t) / 2 ^ t) / 2 := by
  have hp : 0 < 2 ^ t := Nat.pow_pos (by decide)
  have h1 := Nat.div_add_mod n (2 ^ t)
  have h2 := Nat.div_add_mod m (2 ^ t)
  constructor
  · have e : n + m = (n % 2 ^ t + m % 2 ^ t) + 2 ^ t * (n / 2 ^ t + m / 2 ^ t) := by rw [Nat.mul_add]; omega
    rw [e, Nat.add_mul_div_left _ _ hp]
    omega
  · rw [mod_bit, mod_bit, Nat.pow_succ, ← Nat.div_div_eq_div_mul]
    have e : n % 2 ^ t + 2 ^ t * (n / 2 ^ t % 2) + (m % 2 ^ t + 2 ^ t * (m / 2 ^ t % 2)) = (n % 2 ^ t + m % 2 ^ t) + 2 ^ t * (n / 2 ^ t % 2 + m / 2 ^ t % 2) := by rw [Nat.mul_add]; omega
    rw [e, Nat.add_mul_div_left _ _ hp, Nat.add_comm]

set_option maxHeartbeats 1000000 in
theorem addB_any {va vb : Value} {n m : Nat} {w : World} (ha : Bt w va n) (hb : Bt w vb m) (hn : (bt n).length ≤ 34359738368) (hm : (bt m).length ≤ 34359738368) :
    Calls Try.prog 59 #[va, vb] w (MadeB w (n + m)) := by
  have HA := Lib.hid ha
  have HB := Lib.hid hb
  have h1 := bt_lt n
  have h2 := bt_lt m
  obtain ⟨A, c, rfl, hc, -⟩ := ha
  obtain ⟨A2, c2, rfl, hc2, -⟩ := hb
  generalize hk : (bt n).length = k at *
  generalize hk2 : (bt m).length = k2 at *
  have H1 := Lib.hid h1
  have H2 := Lib.hid h2
  clear h1 h2 hk hk2
  go_enter Try.func59, Try.ntmps59
  go_wp2
  go_loopw [5, 6, 7] (fun out cy i wr => ∃ t c : Nat, cy = .int .i64 c ∧ i = .int .i64 t ∧ t ≤ max k k2 + 1 ∧ Hid (OwnI wr w.heap.size out (lo 2 (n + m) t)) ∧ Hid (c = (n % 2 ^ t + m % 2 ^ t) / 2 ^ t) ∧ Hid (Below w.heap.size w wr)) (fun _ _ i _ => max k k2 + 1 - (intOf i).toNat)
  case atStart => exact ⟨0, 0, rfl, rfl, by omega, Lib.hid (OwnI.nil _ _), Lib.hid (by simp [Nat.mod_one]), Lib.hid (Below.refl _ _)⟩
  case round =>
    obtain ⟨t, cy, rfl, rfl, ht, HR, HC, HW⟩ := hrel
    obtain ⟨s1, s2⟩ := add_step n m t
    rw [← HC.out] at s1 s2
    have hcy : cy ≤ 1 := by
      have h1 := Nat.mod_lt n (show 0 < 2 ^ t from Nat.pow_pos (by decide))
      have h2 := Nat.mod_lt m (show 0 < 2 ^ t from Nat.pow_pos (by decide))
      have : cy < 2 := by rw [HC.out, Nat.div_lt_iff_lt_mul (Nat.pow_pos (by decide))]; omega
      omega
    have hlast : max k k2 < t → cy = 0 := fun h => by
      have h1 : n < 2 ^ max k k2 := Nat.lt_of_lt_of_le H1.out (Nat.pow_le_pow_right (by decide) (Nat.le_max_left _ _))
      have h2 : m < 2 ^ max k k2 := Nat.lt_of_lt_of_le H2.out (Nat.pow_le_pow_right (by decide) (Nat.le_max_right _ _))
      have h3 : 2 ^ (max k k2 + 1) ≤ 2 ^ t := Nat.pow_le_pow_right (by decide) h
      rw [Nat.pow_succ] at h3
      rw [HC.out]
      apply Nat.div_eq_of_lt
      have h4 := Nat.mod_le n (2 ^ t)
      have h5 := Nat.mod_le m (2 ^ t)
      omega
    obtain ⟨b1, hb1⟩ : ∃ b, b = n / 2 ^ t % 2 := ⟨_, rfl⟩
    obtain ⟨b2, hb2⟩ : ∃ b, b = m / 2 ^ t % 2 := ⟨_, rfl⟩
    rw [← hb1, ← hb2] at s1 s2
    have h1b : b1 ≤ 1 := by omega
    have h2b : b2 ≤ 1 := by omega
    have H3 := Lib.hid hb1
    have H4 := Lib.hid hb2
    have H5 := Lib.hid s1
    have H6 := Lib.hid s2
    clear hb1 hb2 s1 s2
    by_cases hc1 : t < k
    · have hmx : t < max k k2 + 1 := by omega
      go_wp2_with fail
      refine (bitB_any (HA.out.below HW.out) t (by omega)).mono ?_
      rw [← H3.out]
      rintro e w_ ⟨rfl, rfl⟩
      go_wp2_with fail
      refine (bitB_any (HB.out.below HW.out) t (by omega)).mono ?_
      rw [← H4.out]
      rintro e w_ ⟨rfl, rfl⟩
      go_wp2_with (at_builtin; refine wpList_appI wr rfl _ _ rfl w _ t (lo 2 (n + m) t) (lo_len _ _ _) ?s1 HR.out _ ?s2 HW.out (by omega) ?_; (case s1 => rfl); (case s2 => rfl))
      intro v' w1 hown hb
      rw [show (((b1 : Int) + b2 + cy) % 2) = (((n + m) / 2 ^ t % 2 : Nat) : Int) by rw [H5.out]; omega] at hown
      have HR3 := Lib.hid hown
      have HW3 := Lib.hid hb
      clear hown hb
      go_wp2
      go_roundw
      case rel =>
        refine ⟨t + 1, (b1 + b2 + cy) / 2, ?_, by go_num, by omega, by rw [lo]; exact HR3, Lib.hid H6.out.symm, HW3⟩
        go_num
      case measure => simp [intOf]; omega
    · by_cases hc2 : t < k2
      · have hmx : t < max k k2 + 1 := by omega
        go_wp2_with fail
        refine (bitB_any (HA.out.below HW.out) t (by omega)).mono ?_
        rw [← H3.out]
        rintro e w_ ⟨rfl, rfl⟩
        go_wp2_with fail
        refine (bitB_any (HB.out.below HW.out) t (by omega)).mono ?_
        rw [← H4.out]
        rintro e w_ ⟨rfl, rfl⟩
        go_wp2_with (at_builtin; refine wpList_appI wr rfl _ _ rfl w _ t (lo 2 (n + m) t) (lo_len _ _ _) ?s1 HR.out _ ?s2 HW.out (by omega) ?_; (case s1 => rfl); (case s2 => rfl))
        intro v' w1 hown hb
        rw [show (((b1 : Int) + b2 + cy) % 2) = (((n + m) / 2 ^ t % 2 : Nat) : Int) by rw [H5.out]; omega] at hown
        have HR3 := Lib.hid hown
        have HW3 := Lib.hid hb
        clear hown hb
        go_wp2
        go_roundw
        case rel =>
          refine ⟨t + 1, (b1 + b2 + cy) / 2, ?_, by go_num, by omega, by rw [lo]; exact HR3, Lib.hid H6.out.symm, HW3⟩
          go_num
        case measure => simp [intOf]; omega
      · by_cases hc3 : 0 < cy
        · have hmx : t < max k k2 + 1 := by
            rcases Nat.lt_or_ge (max k k2) t with h | h
            · have := hlast h; omega
            · omega
          go_wp2_with fail
          refine (bitB_any (HA.out.below HW.out) t (by omega)).mono ?_
          rw [← H3.out]
          rintro e w_ ⟨rfl, rfl⟩
          go_wp2_with fail
          refine (bitB_any (HB.out.below HW.out) t (by omega)).mono ?_
          rw [← H4.out]
          rintro e w_ ⟨rfl, rfl⟩
          go_wp2_with (at_builtin; refine wpList_appI wr rfl _ _ rfl w _ t (lo 2 (n + m) t) (lo_len _ _ _) ?s1 HR.out _ ?s2 HW.out (by omega) ?_; (case s1 => rfl); (case s2 => rfl))
          intro v' w1 hown hb
          rw [show (((b1 : Int) + b2 + cy) % 2) = (((n + m) / 2 ^ t % 2 : Nat) : Int) by rw [H5.out]; omega] at hown
          have HR3 := Lib.hid hown
          have HW3 := Lib.hid hb
          clear hown hb
          go_wp2
          go_roundw
          case rel =>
            refine ⟨t + 1, (b1 + b2 + cy) / 2, ?_, by go_num, by omega, by rw [lo]; exact HR3, Lib.hid H6.out.symm, HW3⟩
            go_num
          case measure => simp [intOf]; omega
        · obtain rfl : cy = 0 := by omega
          have hs : n + m < 2 ^ t := by
            have h1 : n < 2 ^ t := Nat.lt_of_lt_of_le H1.out (Nat.pow_le_pow_right (by decide) (by omega))
            have h2 : m < 2 ^ t := Nat.lt_of_lt_of_le H2.out (Nat.pow_le_pow_right (by decide) (by omega))
            have h3 := HC.out
            rw [Nat.mod_eq_of_lt h1, Nat.mod_eq_of_lt h2] at h3
            have hp : 0 < 2 ^ t := Nat.pow_pos (by decide)
            have h4 := (Nat.div_eq_zero_iff_lt hp).1 h3.symm
            exact h4
          have HT := Lib.hid (trimI_any HR.out.rd (lo_ok 2 (n + m) (by decide) t))
          rw [lo_full hs] at HT
          clear hs hlast
          go_wp2_with fail
          refine HT.out.mono ?_
          rintro e w' ⟨⟨v', rfl, hv'⟩, rfl⟩
          have HV := Lib.hid hv'
          clear hv'
          go_wp2
          go_ret
          exact ⟨_, rfl, HV.out, HW.out⟩

theorem sub_step (n m t : Nat) (h : m ≤ n) (w : Nat) (hw : w = if n % 2 ^ t < m % 2 ^ t then 1 else 0) :
    (((n - m) / 2 ^ t % 2 : Nat) : Int) = (if ((n / 2 ^ t % 2 : Nat) : Int) - (m / 2 ^ t % 2 : Nat) - w < 0 then ((n / 2 ^ t % 2 : Nat) : Int) - (m / 2 ^ t % 2 : Nat) - w + 2 else ((n / 2 ^ t % 2 : Nat) : Int) - (m / 2 ^ t % 2 : Nat) - w) ∧
    (if n % 2 ^ (t + 1) < m % 2 ^ (t + 1) then 1 else 0) = (if ((n / 2 ^ t % 2 : Nat) : Int) - (m / 2 ^ t % 2 : Nat) - w < 0 then 1 else 0) := by
  have hp : 0 < 2 ^ t := Nat.pow_pos (by decide)
  have h1 := Nat.div_add_mod n (2 ^ t)
  have h2 := Nat.div_add_mod m (2 ^ t)
  have r1 := Nat.mod_lt n hp
  have r2 := Nat.mod_lt m hp
  rw [mod_bit, mod_bit]
  have key : (n - m) / 2 ^ t = n / 2 ^ t - m / 2 ^ t - w ∧ m / 2 ^ t + w ≤ n / 2 ^ t := by
    have hle : m / 2 ^ t + w ≤ n / 2 ^ t := by
      have h3 : m / 2 ^ t ≤ n / 2 ^ t := Nat.div_le_div_right h
      rcases Nat.eq_or_lt_of_le h3 with e | e
      · rw [hw, if_neg]
        · omega
        · rw [e] at h2
          omega
      · rw [hw]; split <;> omega
    refine ⟨?_, hle⟩
    obtain ⟨d, hd⟩ : ∃ d, n / 2 ^ t = m / 2 ^ t + w + d := ⟨n / 2 ^ t - (m / 2 ^ t + w), by omega⟩
    rw [hd, Nat.mul_add, Nat.mul_add] at h1
    have e : n - m = (n % 2 ^ t + 2 ^ t * w - m % 2 ^ t) + 2 ^ t * d := by
      have : m % 2 ^ t ≤ n % 2 ^ t + 2 ^ t * w := by
        rw [hw]; split <;> omega
      omega
    rw [e, Nat.add_mul_div_left _ _ hp, Nat.div_eq_of_lt]
    · omega
    · rw [hw]; split <;> omega
  obtain ⟨k1, k2⟩ := key
  have hw1 : w ≤ 1 := by rw [hw]; split <;> omega
  constructor
  · rw [k1]
    split <;> omega
  · have ha : n / 2 ^ t % 2 = 0 ∨ n / 2 ^ t % 2 = 1 := by omega
    have hb : m / 2 ^ t % 2 = 0 ∨ m / 2 ^ t % 2 = 1 := by omega
    rcases ha with ha | ha <;> rcases hb with hb | hb <;> rw [ha, hb] <;> rw [hw] <;> by_cases hc : n % 2 ^ t < m % 2 ^ t <;> simp [hc] <;> omega

set_option maxHeartbeats 1000000 in
theorem subB_any {va vb : Value} {n m : Nat} {w : World} (ha : Bt w va n) (hb : Bt w vb m) (hn : (bt n).length ≤ 34359738368) (hle : m ≤ n) :
    Calls Try.prog 60 #[va, vb] w (MadeB w (n - m)) := by
  have HA := Lib.hid ha
  have HB := Lib.hid hb
  have h1 := bt_lt n
  obtain ⟨A, c, rfl, hc, -⟩ := ha
  obtain ⟨A2, c2, rfl, hc2, -⟩ := hb
  generalize hk : (bt n).length = k at *
  generalize hk2 : (bt m).length = k2 at *
  have H1 := Lib.hid h1
  have HLe := Lib.hid hle
  clear h1 hk hk2 hle
  go_enter Try.func60, Try.ntmps60
  go_wp2
  go_loopw [5, 6, 7] (fun out cy i wr => ∃ t c : Nat, cy = .int .i64 c ∧ i = .int .i64 t ∧ t ≤ k ∧ c ≤ 1 ∧ Hid (OwnI wr w.heap.size out (lo 2 (n - m) t)) ∧ Hid (c = if n % 2 ^ t < m % 2 ^ t then 1 else 0) ∧ Hid (Below w.heap.size w wr)) (fun _ _ i _ => k - (intOf i).toNat)
  case atStart => exact ⟨0, 0, rfl, rfl, by omega, by omega, Lib.hid (OwnI.nil _ _), Lib.hid (by simp [Nat.mod_one]), Lib.hid (Below.refl _ _)⟩
  case round =>
    obtain ⟨t, cy, rfl, rfl, ht, hcy, HR, HC, HW⟩ := hrel
    obtain ⟨s1, s2⟩ := sub_step n m t HLe.out cy HC.out
    obtain ⟨b1, hb1⟩ : ∃ b, b = n / 2 ^ t % 2 := ⟨_, rfl⟩
    obtain ⟨b2, hb2⟩ : ∃ b, b = m / 2 ^ t % 2 := ⟨_, rfl⟩
    rw [← hb1, ← hb2] at s1 s2
    have h1b : b1 ≤ 1 := by omega
    have h2b : b2 ≤ 1 := by omega
    have H3 := Lib.hid hb1
    have H4 := Lib.hid hb2
    have H5 := Lib.hid s1
    have H6 := Lib.hid s2
    clear hb1 hb2 s1 s2
    by_cases htk : t < k
    · go_wp2_with fail
      refine (bitB_any (HA.out.below HW.out) t (by omega)).mono ?_
      rw [← H3.out]
      rintro e w_ ⟨rfl, rfl⟩
      go_wp2_with fail
      refine (bitB_any (HB.out.below HW.out) t (by omega)).mono ?_
      rw [← H4.out]
      rintro e w_ ⟨rfl, rfl⟩
      by_cases hneg : (b1 : Int) - b2 - cy < 0
      · have hneg2 := hneg
        have H7 := Lib.hid (show ((b1 : Int) - b2 - cy + 2 : Int) = (((n - m) / 2 ^ t % 2 : Nat) : Int) by rw [H5.out, if_pos hneg2])
        have H8 := Lib.hid (show 1 = if n % 2 ^ (t + 1) < m % 2 ^ (t + 1) then 1 else 0 by rw [H6.out, if_pos hneg2])
        go_wp2_with (at_builtin; refine wpList_appI wr rfl _ _ rfl w _ t (lo 2 (n - m) t) (lo_len _ _ _) ?s1 HR.out _ ?s2 HW.out (by omega) ?_; (case s1 => rfl); (case s2 => rfl))
        intro v' w1 hown hb
        rw [H7.out] at hown
        have HR3 := Lib.hid hown
        have HW3 := Lib.hid hb
        clear hown hb
        go_wp2
        go_roundw
        case rel => exact ⟨t + 1, 1, rfl, by go_num, by omega, by omega, by rw [lo]; exact HR3, H8, HW3⟩
        case measure => simp [intOf]; omega
      · have hneg2 := hneg
        have hneg3 : 0 ≤ (b1 : Int) - b2 - cy := by omega
        have H7 := Lib.hid (show ((b1 : Int) - b2 - cy : Int) = (((n - m) / 2 ^ t % 2 : Nat) : Int) by rw [H5.out, if_neg hneg2])
        have H8 := Lib.hid (show 0 = if n % 2 ^ (t + 1) < m % 2 ^ (t + 1) then 1 else 0 by rw [H6.out, if_neg hneg2])
        go_wp2_with (at_builtin; refine wpList_appI wr rfl _ _ rfl w _ t (lo 2 (n - m) t) (lo_len _ _ _) ?s1 HR.out _ ?s2 HW.out (by omega) ?_; (case s1 => rfl); (case s2 => rfl))
        intro v' w1 hown hb
        rw [H7.out] at hown
        have HR3 := Lib.hid hown
        have HW3 := Lib.hid hb
        clear hown hb
        go_wp2
        go_roundw
        case rel => exact ⟨t + 1, 0, rfl, by go_num, by omega, by omega, by rw [lo]; exact HR3, H8, HW3⟩
        case measure => simp [intOf]; omega
    · obtain rfl : t = k := by omega
      have hs : n - m < 2 ^ t := Nat.lt_of_le_of_lt (Nat.sub_le _ _) H1.out
      have HT := Lib.hid (trimI_any HR.out.rd (lo_ok 2 (n - m) (by decide) t))
      rw [lo_full hs] at HT
      clear hs
      go_wp2_with fail
      refine HT.out.mono ?_
      rintro e w' ⟨⟨v', rfl, hv'⟩, rfl⟩
      have HV := Lib.hid hv'
      clear hv'
      go_wp2
      go_ret
      exact ⟨_, rfl, HV.out, HW.out⟩

theorem cmp_bits {n m t : Nat} (h : n / 2 ^ (t + 1) = m / 2 ^ (t + 1)) : (n / 2 ^ t % 2 = m / 2 ^ t % 2 → n / 2 ^ t = m / 2 ^ t) ∧ (n / 2 ^ t % 2 < m / 2 ^ t % 2 → n < m) := by
  rw [Nat.pow_succ, ← Nat.div_div_eq_div_mul, ← Nat.div_div_eq_div_mul] at h
  refine ⟨fun h1 => by omega, fun h1 => ?_⟩
  rcases Nat.lt_or_ge n m with h2 | h2
  · exact h2
  · have := Nat.div_le_div_right (c := 2 ^ t) h2
    omega

set_option maxHeartbeats 1000000 in
theorem cmpB_any {va vb : Value} {n m : Nat} {w : World} (ha : Bt w va n) (hb : Bt w vb m) (hn : (bt n).length ≤ 34359738368) (hm : (bt m).length ≤ 34359738368) :
    Calls Try.prog 27 #[va, vb] w fun e w' => e = .returned (.int .i64 (cmpv n m)) ∧ Below w.heap.size w w' := by
  have HA := Lib.hid ha
  have HB := Lib.hid hb
  have h1 := bt_lt n
  have h2 := bt_lt m
  obtain ⟨A, c, rfl, hc, -⟩ := ha
  obtain ⟨A2, c2, rfl, hc2, -⟩ := hb
  generalize hk : (bt n).length = k at *
  generalize hk2 : (bt m).length = k2 at *
  obtain ⟨K, hK, hK2⟩ : ∃ K : Nat, (K : Int) = max (k : Int) k2 ∧ K = max k k2 := ⟨max k k2, by omega, rfl⟩
  have h3 : n < 2 ^ K := Nat.lt_of_lt_of_le h1 (Nat.pow_le_pow_right (by decide) (by omega))
  have h4 : m < 2 ^ K := Nat.lt_of_lt_of_le h2 (Nat.pow_le_pow_right (by decide) (by omega))
  have HE := Lib.hid (show n / 2 ^ K = m / 2 ^ K by rw [Nat.div_eq_of_lt h3, Nat.div_eq_of_lt h4])
  have hKl : K ≤ 34359738368 := by omega
  have hKm : (if (k : Int) < (k2 : Int) then (k2 : Int) else (k : Int)) = (K : Int) := by split <;> omega
  have hKm2 : (if k < k2 then (k2 : Int) else (k : Int)) = (K : Int) := by split <;> omega
  clear h1 h2 h3 h4 hk hk2 hK hK2
  go_enter Try.func27, Try.ntmps27
  go_wp2
  clear hKm hKm2
  go_loopw [5] (fun i wr => ∃ (z : Int), i = .int .i64 z ∧ -1 ≤ z ∧ z < K ∧ Hid (n / 2 ^ (z + 1).toNat = m / 2 ^ (z + 1).toNat) ∧ Hid (Below w.heap.size w wr)) (fun i _ => (intOf i + 1).toNat)
  case atStart => exact ⟨(K : Int) - 1, rfl, by omega, by omega, Lib.hid (by rw [show ((K : Int) - 1 + 1).toNat = K by omega]; exact HE.out), Lib.hid (Below.refl _ _)⟩
  case round =>
    obtain ⟨z, rfl, hz, hzK, HZ, HW⟩ := hrel
    rcases (show z < 0 ∨ 0 ≤ z by omega) with hneg | hpos
    · obtain rfl : z = -1 := by omega
      have he := HZ.out
      simp at he
      have HEq := Lib.hid he
      clear he
      go_wp2
      go_ret
      exact ⟨ret_int (cmpv_eq HEq.out).symm, HW.out⟩
    · obtain ⟨t, rfl⟩ := Int.eq_ofNat_of_zero_le hpos
      have hz2 := HZ.out
      rw [show ((t : Int) + 1).toNat = t + 1 by omega] at hz2
      obtain ⟨s1, s2⟩ := cmp_bits hz2
      obtain ⟨-, s3⟩ := cmp_bits hz2.symm
      obtain ⟨b1, hb1⟩ : ∃ b, b = n / 2 ^ t % 2 := ⟨_, rfl⟩
      obtain ⟨b2, hb2⟩ : ∃ b, b = m / 2 ^ t % 2 := ⟨_, rfl⟩
      rw [← hb1, ← hb2] at s1 s2
      rw [← hb1, ← hb2] at s3
      have h1b : b1 ≤ 1 := by omega
      have h2b : b2 ≤ 1 := by omega
      have H3 := Lib.hid hb1
      have H4 := Lib.hid hb2
      clear hb1 hb2 hz2 HZ
      by_cases hbb : b1 = b2
      · have H5 := Lib.hid (s1 hbb)
        subst hbb
        clear s1 s2 s3
        go_wp2_with fail
        refine (bitB_any (HA.out.below HW.out) t (by omega)).mono ?_
        rw [← H3.out]
        rintro e w_ ⟨rfl, rfl⟩
        go_wp2_with fail
        refine (bitB_any (HB.out.below HW.out) t (by omega)).mono ?_
        rw [← H4.out]
        rintro e w_ ⟨rfl, rfl⟩
        go_wp2
        go_roundw
        case rel => exact ⟨(t : Int) - 1, rfl, by omega, by omega, Lib.hid (by rw [show ((t : Int) - 1 + 1).toNat = t by omega]; exact H5.out), HW⟩
        case measure => simp [intOf]
      · have hne : ((b1 : Int) == (b2 : Int)) = false := by simp; omega
        have hfin : cmpv n m = (b1 : Int) - b2 := by
          rcases Nat.lt_or_gt_of_ne hbb with h | h
          · rw [cmpv_lt (s2 h)]; omega
          · rw [cmpv_gt (s3 h)]; omega
        have HFin := Lib.hid hfin
        clear s1 s2 s3 hfin
        go_wp2_with fail
        refine (bitB_any (HA.out.below HW.out) t (by omega)).mono ?_
        rw [← H3.out]
        rintro e w_ ⟨rfl, rfl⟩
        go_wp2_with fail
        refine (bitB_any (HB.out.below HW.out) t (by omega)).mono ?_
        rw [← H4.out]
        rintro e w_ ⟨rfl, rfl⟩
        go_wp2_with fail
        refine (bitB_any (HA.out.below HW.out) t (by omega)).mono ?_
        rw [← H3.out]
        rintro e w_ ⟨rfl, rfl⟩
        go_wp2_with fail
        refine (bitB_any (HB.out.below HW.out) t (by omega)).mono ?_
        rw [← H4.out]
        rintro e w_ ⟨rfl, rfl⟩
        go_wp2
        go_ret
        exact ⟨ret_int HFin.out.symm, HW.out⟩
end Go.Proofs.Ythadkjekagfjfaa.N
