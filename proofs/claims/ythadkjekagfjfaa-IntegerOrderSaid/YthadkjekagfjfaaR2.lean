/- cylinderref01.To and Is as walks: the digits of a number that is given as bits, and whether digits are those. Conditions: the slice of ints reads as the bits of a number, fewer than 2^35. -/
import Derived.Test.YthadkjekagfjfaaR1
namespace Go.Proofs.Ythadkjekagfjfaa.N
open Go.RowKit Go.Proofs.Ythadkjekagfjfaa.Dig Go.Proofs.YthadkjekagfjfaaW.PrintWords Go.Proofs.YthadkjekagfjfaaW.PrintLast Go.Proofs.YthadkjekagfjfaaW.PrintMore
set_option linter.unusedVariables false

theorem lo_take (b n k : Nat) : (lo b n (k + 1)).take k = lo b n k := by
  rw [lo, List.take_left' (lo_len b n k)]
theorem lo_last (b n k : Nat) : (lo b n (k + 1)).getD k 0 = ((n / b ^ k % b : Nat) : Int) := by
  rw [lo, List.getD_eq_getElem?_getD, List.getElem?_append_right (by rw [lo_len]; exact Nat.le_refl _), lo_len, Nat.sub_self]
  rfl
theorem mod_bit (n t : Nat) : n % 2 ^ (t + 1) = n % 2 ^ t + 2 ^ t * (n / 2 ^ t % 2) := by rw [Nat.pow_succ, Nat.mod_mul]

/-- The digits of what has been read after t bits. -/
def toL (n t : Nat) : List Int := lo BB (n % 2 ^ t) ((t + 31) / 32)
theorem toL_len (n t : Nat) : (toL n t).length = (t + 31) / 32 := lo_len _ _ _
theorem toL_zero (n : Nat) : toL n 0 = [] := rfl
theorem toL_app (n q : Nat) : toL n (32 * q) ++ [0] = lo BB (n % 2 ^ (32 * q)) (q + 1) := by
  unfold toL
  rw [show (32 * q + 31) / 32 = q by omega, lo, ← BB_pow]
  congr 2
  rw [Nat.div_eq_of_lt (Nat.mod_lt _ (Nat.pow_pos (by decide)))]
  rfl
theorem toL_at (n q s : Nat) (hs : s < 32) : (lo BB (n % 2 ^ (32 * q + s)) (q + 1)).getD q 0 = ((n % 2 ^ (32 * q + s) / BB ^ q : Nat) : Int) ∧ n % 2 ^ (32 * q + s) / BB ^ q < 2 ^ s := by
  have h1 : n % 2 ^ (32 * q + s) / BB ^ q < 2 ^ s := by
    rw [Nat.div_lt_iff_lt_mul (Nat.pow_pos (by decide)), BB_pow, ← Nat.pow_add, Nat.add_comm]
    exact Nat.mod_lt _ (Nat.pow_pos (by decide))
  refine ⟨?_, h1⟩
  rw [lo_last, Nat.mod_eq_of_lt]
  refine Nat.lt_of_lt_of_le h1 ?_
  exact Nat.pow_le_pow_right (by decide) (by omega : s ≤ 32)
theorem toL_step (n q s x e : Nat) (hs : s < 32) (hx : x = n % 2 ^ (32 * q + s) / BB ^ q) (he : e = n / 2 ^ (32 * q + s) % 2) :
    (lo BB (n % 2 ^ (32 * q + s)) (q + 1)).set q ((x + e * 2 ^ s : Nat) : Int) = toL n (32 * q + s + 1) := by
  obtain ⟨_, h2⟩ := toL_at n q s hs
  rw [← hx] at h2
  have hp : 2 ^ (s + 1) ≤ BB := Nat.pow_le_pow_right (by decide) (by omega : s + 1 ≤ 32)
  have hl : (lo BB (n % 2 ^ (32 * q + s)) (q + 1)).length = q + 1 := lo_len _ _ _
  have hb : x + e * 2 ^ s < BB := by
    have : e ≤ 1 := by omega
    have h3 : e * 2 ^ s ≤ 1 * 2 ^ s := Nat.mul_le_mul_right _ this
    rw [Nat.pow_succ] at hp
    omega
  have hk : (32 * q + s + 1 + 31) / 32 = q + 1 := by omega
  refine ok_unique BB2 _ _ ?_ (lo_ok _ _ (by decide) _) (by rw [List.length_set, hl, toL_len, hk]) ?_
  · exact NOk.set_ (lo_ok _ _ (by decide) _) q (Int.natCast_nonneg _) (by rw [BB_eq] at hb; omega)
  · have h4 := nv_set_take (lo BB (n % 2 ^ (32 * q + s)) (q + 1)) q ((x + e * 2 ^ s : Nat) : Int) (by omega)
    rw [List.take_of_length_le (by rw [List.length_set]; omega), lo_take, Int.toNat_natCast] at h4
    change nv _ = val BB (toL n (32 * q + s + 1))
    rw [h4]
    unfold nv toL
    rw [lo_val, lo_val, hk, mod_bit, Nat.mod_eq_of_lt (a := n % 2 ^ (32 * q + s) + _)]
    · have h5 := Nat.div_add_mod (n % 2 ^ (32 * q + s)) (BB ^ q)
      rw [← hx] at h5
      rw [← he, show 2 ^ (32 * q + s) * e = BB ^ q * (e * 2 ^ s) by rw [Nat.pow_add, ← BB_pow, Nat.mul_assoc, Nat.mul_comm e], Nat.mul_add]
      omega
    · rw [← mod_bit]
      refine Nat.lt_of_lt_of_le (Nat.mod_lt _ (Nat.pow_pos (by decide))) ?_
      rw [BB_pow]
      exact Nat.pow_le_pow_right (by decide) (by omega)
theorem nd_len_bt (n : Nat) : (nd n).length = ((bt n).length + 31) / 32 := by
  have a := fun k => nd_len k n
  have b := fun k => bt_len (32 * k) n
  have c : ∀ k, (nd n).length ≤ k ↔ (bt n).length ≤ 32 * k := fun k => by rw [a k, b k, BB_pow]
  have d1 := (c (((bt n).length + 31) / 32)).2 (by omega)
  have d2 := (c (nd n).length).1 (Nat.le_refl _)
  omega
theorem toL_done (n : Nat) : toL n (bt n).length = nd n := by
  have h1 := nd_len_bt n
  refine ok_unique BB2 _ _ (lo_ok _ _ (by decide) _) (nok_nd n) (by rw [toL_len, h1]) ?_
  unfold toL
  rw [lo_val, Nat.mod_eq_of_lt (bt_lt n), ← h1]
  change _ = nv (nd n)
  rw [nv_nd, Nat.mod_eq_of_lt]
  exact dg_len_lt BB2 n

theorem row_alloc {w : World} {B e n : Nat} {v : Value} {xs : List Value} (h : w.ownsRow B e 1 v n xs) (o : Obj) : (w.alloc o).ownsRow B e 1 v n xs := by
  refine own_move h fun k hk => ?_
  have := own_lt h k hk
  exact Below.heap_alloc w o k this
theorem reads_newU (w : World) (x : Int) : App.Reads (w.alloc (.cells #[.int .u32 x] 59)) (w.alloc (.cells #[.int .u32 x] 59)).heap.size 1 (some ⟨w.heap.size, 0, none⟩) 1 (encs (Value.int .u32) [x]) := by
  refine ⟨rfl, fun _ => ⟨_, rfl, by simp, fun j u hu => ?_⟩⟩
  match j, hu with
  | 0, hu =>
    simp [encs] at hu
    subst hu
    rw [add_plain]
    simp [World.cell?_alloc_at]

set_option maxHeartbeats 1000000 in
theorem to_any {v : Value} {n : Nat} {w : World} (h : Bt w v n) (hn : (bt n).length ≤ 34359738368) :
    Calls Try.prog 71 #[v] w (Made w n) := by
  have hlen := hn
  have HT := Lib.hid (trimI_any h (bt_ok n))
  rw [bt_val] at HT
  have HD := Lib.hid (toL_done n)
  clear hn
  obtain ⟨k, hk⟩ : ∃ k, k = (bt n).length := ⟨_, rfl⟩
  rw [← hk] at hlen HD
  have HK := Lib.hid hk
  clear hk
  obtain ⟨i0, hi0, hz0, hz1, hz2⟩ := info_parts infoU
  have HI := Lib.hid (And.intro hi0 (And.intro hz0 (And.intro hz1 hz2)))
  clear hi0 hz0 hz1 hz2 h
  go_enter Try.func71, Try.ntmps71
  go_wp2_with fail
  refine HT.out.mono ?_
  rintro e w' ⟨⟨v', rfl, ⟨A, c, rfl, hc, hC⟩⟩, rfl⟩
  have HC := Lib.hid hC
  rw [← HK.out] at hc ⊢
  clear hC HT
  go_wp2
  go_loopw [3, 4] (fun out i wr => ∃ t : Nat, i = .int .i64 t ∧ t ≤ k ∧ Hid (wr.ownsRow w.heap.size 59 1 out ((t + 31) / 32) (encs (Value.int .u32) (toL n t))) ∧ Hid (Below w.heap.size w wr)) (fun _ i _ => k - (intOf i).toNat)
  case atStart => exact ⟨0, rfl, by omega, Lib.hid ⟨rfl, .inl ⟨rfl, rfl⟩⟩, Lib.hid (Below.refl _ _)⟩
  case round =>
    obtain ⟨t, rfl, ht, HR, HW⟩ := hrel
    by_cases htk : t < k
    · obtain ⟨q, s, hts, hs⟩ : ∃ q s : Nat, t = 32 * q + s ∧ s < 32 := ⟨t / 32, t % 32, by omega, by omega⟩
      have e3 : ((t : Int) / 32) = (q : Int) := by omega
      have e4 : ((t : Int) % 32) = (s : Int) := by omega
      obtain ⟨ad, hA, -⟩ := at_nat (Kd.C_below HC.out HW.out) (i := t) (by have := HK.out; omega)
      subst hA
      obtain ⟨e, he⟩ : ∃ e, e = n / 2 ^ t % 2 := ⟨_, rfl⟩
      have HE := Lib.hid he
      have he1 : e ≤ 1 := by omega
      obtain ⟨a1, a2⟩ := toL_at n q s hs
      obtain ⟨x, hx⟩ : ∃ x, x = n % 2 ^ (32 * q + s) / BB ^ q := ⟨_, rfl⟩
      rw [← hx] at a1 a2
      have hxb : x < 4294967296 := Nat.lt_of_lt_of_le a2 (Nat.pow_le_pow_right (by decide) (by omega : s ≤ 32))
      have hst := toL_step n q s x e hs hx (by rw [he, hts])
      rw [← hts] at hst a1
      have HSt := Lib.hid hst
      have HX0 := Lib.hid a1
      have HQ := Lib.hid (show (t + 1 + 31) / 32 = q + 1 by omega)
      have hsum : x + e * 2 ^ s < 4294967296 := by
        have : e * 2 ^ s ≤ 1 * 2 ^ s := Nat.mul_le_mul_right _ he1
        have h2 : 2 ^ (s + 1) ≤ 2 ^ 32 := Nat.pow_le_pow_right (by decide) (by omega : s + 1 ≤ 32)
        rw [Nat.pow_succ] at h2
        omega
      have HSum := Lib.hid hsum
      clear hst a1 a2 hx he hsum
      have HTS := Lib.hid hts
      by_cases hs0 : s = 0
      · subst hs0
        clear hts
        have hrow := HR.out
        rw [show (t + 31) / 32 = q by have := HTS.out; omega] at hrow
        have HR1 := Lib.hid hrow
        clear hrow HR
        go_wp2_with (at_builtin; refine App.wpList_append_any _ rfl _ _ _ rfl w.heap.size 59 i0 (.int .u32 0) 1 4 Try.underlying22 HI.out.1 HI.out.2.1 HI.out.2.2.1 HI.out.2.2.2 rfl (by omega) _ q (encs (Value.int .u32) (toL n t)) rfl (row_alloc HR1.out _) _ (some ⟨wr.heap.size, 0, none⟩) 1 1 (encs (Value.int .u32) [0]) rfl (reads_newU wr 0) ?a1 ?a2 ?a3 ?a4 ?_)
        case a1 => intro u hu; simp [encs] at hu; subst hu; rfl
        case a2 => unfold maxLen; omega
        case a3 => omega
        case a4 => have := HW.out.size; simp; omega
        intro v2 w1 hown hg hat
        have hrow : w1.ownsRow w.heap.size 59 1 v2 (q + 1) (encs (Value.int .u32) (lo BB (n % 2 ^ t) (q + 1))) := by
          have e := toL_app n q
          rw [show 32 * q = t from HTS.out.symm] at e
          rw [← e]
          simpa [encs] using hown
        have hbelow := (below_alloc HW.out (.cells #[.int .u32 0] 59)).grown hg (by have := HW.out.size; simp; omega) (fun k hk => own_base HR1.out k hk)
        obtain ⟨g, cap, rfl, hgb, hglt⟩ := hrow.form (by omega)
        have HRow := Lib.hid (show Row w1 w.heap.size g (q + 1) cap (lo BB (n % 2 ^ t) (q + 1)) from hrow)
        have HG := Lib.hid hgb
        obtain ⟨ad2, hA2, hcell⟩ := at_nat (Kd.C_below HC.out hbelow) (i := t) (by have := HK.out; omega)
        injection hA2 with hA2
        subst hA2
        rw [bt_at, ← HE.out] at hcell
        clear hown hg hat hrow hgb hglt
        have hcu := HRow.out.cell (lo_len _ _ _) q (by omega)
        have hfz := HRow.out.frozen q
        have hgl := HG.out
        rw [HX0.out] at hcu
        have HB2 := Lib.hid hbelow
        clear hbelow
        go_wp2
        go_region
        go_wp2
        have hv : (((x : Int) + e) % 4294967296) = ((x + e * 2 ^ 0 : Nat) : Int) := by have := HSum.out; omega
        rw [hv]
        refine ⟨⟨t + 1, rfl, by omega, ?_, Lib.hid (below_drew (HB2.out.setCell (p := ⟨g, q, none⟩) HG.out _))⟩, by simp [intOf]; omega⟩
        rw [HQ.out, ← HSt.out]
        exact Lib.hid (HRow.out.set_ q _)
      · have hrow := HR.out
        rw [show (t + 31) / 32 = q + 1 by have := HTS.out; omega] at hrow
        have hrow2 : toL n t = lo BB (n % 2 ^ t) (q + 1) := by unfold toL; rw [show (t + 31) / 32 = q + 1 by have := HTS.out; omega]
        rw [hrow2] at hrow
        obtain ⟨g, cap, rfl, hgb, hglt⟩ := hrow.form (by omega)
        have HRow := Lib.hid (show Row wr w.heap.size g (q + 1) cap (lo BB (n % 2 ^ t) (q + 1)) from hrow)
        have HG := Lib.hid hgb
        obtain ⟨ad2, hA2, hcell⟩ := at_nat (Kd.C_below HC.out HW.out) (i := t) (by have := HK.out; omega)
        injection hA2 with hA2
        subst hA2
        rw [bt_at, ← HE.out] at hcell
        have hbelow := HW.out
        have hs1 : (0 : Int) < s := by omega
        have hs2 : ((s : Int) == 0) = false := by simp; omega
        clear hrow2 hrow hgb hglt HR hts
        have hcu := HRow.out.cell (lo_len _ _ _) q (by omega)
        have hfz := HRow.out.frozen q
        have hgl := HG.out
        rw [HX0.out] at hcu
        have HB2 := Lib.hid hbelow
        clear hbelow
        go_wp2
        go_region
        go_wp2
        have hv : (((x : Int) + (e : Int) * 2 ^ s) % 4294967296) = ((x + e * 2 ^ s : Nat) : Int) := by
          have h5 : (e : Int) * 2 ^ s = ((e * 2 ^ s : Nat) : Int) := by rw [Int.natCast_mul, Int.natCast_pow]; rfl
          rw [h5]
          have := HSum.out
          omega
        rw [hv]
        refine ⟨⟨t + 1, rfl, by omega, ?_, Lib.hid (below_drew (HB2.out.setCell (p := ⟨g, q, none⟩) HG.out _))⟩, by simp [intOf]; omega⟩
        rw [HQ.out, ← HSt.out]
        exact Lib.hid (HRow.out.set_ q _)
    · obtain rfl : t = k := by omega
      go_wp2
      go_ret
      refine ⟨_, rfl, ?_, HW.out⟩
      have h1 := HR.out
      have h2 := toL_len n t
      rw [HD.out] at h1 h2
      rw [← h2] at h1
      exact own_of_row (nok_nd n) h1

set_option maxHeartbeats 1000000 in
theorem is_any {va vb : Value} {l : List Int} {n : Nat} {w : World} (ha : Rd w va l) (hl : l.length ≤ 8796093022208) (hb : Bt w vb n) (hn : (bt n).length ≤ 34359738368) :
    Calls Try.prog 62 #[va, vb] w fun e w' => e = .returned (.bool (decide (l = nd n))) ∧ Below w.heap.size w w' := by
  have HT := Lib.hid (to_any hb hn)
  obtain ⟨ho, A, c, rfl, hc, hC⟩ := ha
  have HA := Lib.hid hC
  have hlen : (nd n).length ≤ 1073741824 := by rw [nd_len_bt]; omega
  obtain ⟨k, hk⟩ : ∃ k, k = l.length := ⟨_, rfl⟩
  have HK := Lib.hid hk
  rw [← hk] at hc hl ⊢
  clear hC hb hn ho hk
  go_enter Try.func62, Try.ntmps62
  go_wp2_with fail
  refine HT.out.mono ?_
  rintro e w1 ⟨v, rfl, hown, hb1⟩
  obtain ⟨_, A2, c2, rfl, hc2, hC2⟩ := hown.rd
  have H2 := Lib.hid hC2
  have H1 := Lib.hid (Kd.C_below HA.out hb1)
  have HB := Lib.hid hb1
  obtain ⟨m, hm⟩ : ∃ m, m = (nd n).length := ⟨_, rfl⟩
  have HM := Lib.hid hm
  rw [← hm] at hlen hc2 ⊢
  clear hm hC2 hown HA HT hb1
  by_cases hkm : k = m
  · subst hkm
    go_wp2
    go_loopw [6] (fun i wr => ∃ t : Nat, i = .int .i64 t ∧ t ≤ k ∧ Hid (∀ j, j < t → l.getD j 0 = (nd n).getD j 0) ∧ Hid (Below w1.heap.size w1 wr)) (fun i _ => k - (intOf i).toNat)
    case atStart => exact ⟨0, rfl, by omega, Lib.hid fun j hj => by omega, Lib.hid (Below.refl _ _)⟩
    case round =>
      obtain ⟨t, rfl, ht, HE, HW⟩ := hrel
      by_cases htk : t < k
      · obtain ⟨ad, hA, hcell⟩ := at_nat (Kd.C_below H1.out HW.out) (i := t) (by have := HK.out; omega)
        obtain ⟨ad2, hA2, hcell2⟩ := at_nat (Kd.C_below H2.out HW.out) (i := t) (by have := HM.out; omega)
        subst hA hA2
        obtain ⟨d, hd⟩ : ∃ d, d = l.getD t 0 := ⟨_, rfl⟩
        obtain ⟨d2, hd2⟩ : ∃ d, d = (nd n).getD t 0 := ⟨_, rfl⟩
        rw [← hd] at hcell
        rw [← hd2] at hcell2
        have HD := Lib.hid hd
        have HD2 := Lib.hid hd2
        clear hd hd2
        by_cases hdd : d = d2
        · subst hdd
          go_wp2
          go_quiet (fail)
          go_wp2
          go_roundw
          case rel =>
            refine ⟨t + 1, by go_num, by omega, Lib.hid fun j hj => ?_, Lib.hid (pw_below_drewN HW.out _)⟩
            rcases Nat.eq_or_lt_of_le (Nat.le_of_lt_succ hj) with e | e
            · rw [e, ← HD.out, ← HD2.out]
            · exact HE.out j e
          case measure => simp [intOf]; omega
        · have hne : (d == d2) = false := by simpa using hdd
          have hne2 : (d != d2) = true := by simpa using hdd
          have HNE := Lib.hid hdd
          clear hdd
          go_wp2
          go_quiet (fail)
          go_wp2
          go_ret
          refine ⟨?_, ?_⟩
          · refine ret_bool (decide_eq_false ?_).symm
            intro e
            exact HNE.out (by rw [HD.out, HD2.out, e])
          · exact below_then HB.out HB.out.size (pw_below_drewN HW.out _)
      · obtain rfl : t = k := by omega
        go_wp2
        go_ret
        refine ⟨ret_bool (decide_eq_true ?_).symm, below_then HB.out HB.out.size HW.out⟩
        apply List.ext_getElem (by rw [← HK.out, ← HM.out])
        intro j h1 h2
        have := HE.out j (by have := HK.out; omega)
        simpa [List.getD_eq_getElem?_getD, List.getElem?_eq_getElem h1, List.getElem?_eq_getElem h2] using this
  · go_wp2
    go_ret
    refine ⟨ret_bool (decide_eq_false ?_).symm, HB.out⟩
    intro e
    exact hkm (by rw [HK.out, HM.out, e])
end Go.Proofs.Ythadkjekagfjfaa.N
