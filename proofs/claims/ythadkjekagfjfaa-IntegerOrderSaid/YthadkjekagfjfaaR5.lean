/- cylinderref01.words and bits as walks: a number as digits in base 2^15, and back. Conditions: the slices of ints read as the bits of a number, fewer than 2^34, or as digits below 2^15, fewer than 2^30. -/
import Derived.Test.YthadkjekagfjfaaR4
namespace Go.Proofs.Ythadkjekagfjfaa.N
open Go.RowKit Go.Proofs.Ythadkjekagfjfaa.Dig Go.Proofs.YthadkjekagfjfaaW.PrintWords Go.Proofs.YthadkjekagfjfaaW.PrintLast Go.Proofs.YthadkjekagfjfaaW.PrintMore
set_option linter.unusedVariables false

/-- The base of the words. -/
def WW : Nat := 32768
theorem WW_eq : WW = 32768 := rfl
theorem WW2 : 2 ≤ WW := by decide
theorem WW_pow (k : Nat) : WW ^ k = 2 ^ (15 * k) := by rw [Nat.pow_mul]; rfl
/-- The words of a number. -/
def wl (n : Nat) : Nat := ((bt n).length + 14) / 15
def wd (n : Nat) : List Int := lo WW n (wl n)
theorem wd_len (n : Nat) : (wd n).length = wl n := lo_len _ _ _
theorem wd_ok (n : Nat) : Ok WW (wd n) := lo_ok _ _ (by decide) _
theorem wd_lt (n : Nat) : n < WW ^ wl n := by
  refine Nat.lt_of_lt_of_le (bt_lt n) ?_
  rw [WW_pow]
  exact Nat.pow_le_pow_right (by decide) (by unfold wl; omega)
theorem wd_val (n : Nat) : val WW (wd n) = n := lo_full (wd_lt n)

theorem val_set (b : Nat) : ∀ (l : List Int) (i : Nat) (d : Int), i < l.length → val b (l.set i d) + b ^ i * (l.getD i 0).toNat = val b l + b ^ i * d.toNat
  | [], i, d, h => by simp at h
  | x :: l, 0, d, _ => by simp [val_cons]; omega
  | x :: l, i + 1, d, h => by
    have := val_set b l i d (by simpa using h)
    simp only [List.set_cons_succ, val_cons, List.getD_cons_succ]
    rw [Nat.pow_succ, Nat.mul_comm (b ^ i), Nat.mul_assoc, Nat.mul_assoc, Nat.add_assoc, ← Nat.mul_add, this, Nat.mul_add, Nat.add_assoc]
theorem Ok.set_ {b : Nat} {l : List Int} (h : Ok b l) (i : Nat) {d : Int} (h0 : 0 ≤ d) (h1 : d < (b : Int)) : Ok b (l.set i d) := fun x hx => by
  rcases List.mem_or_eq_of_mem_set hx with h2 | rfl
  · exact h x h2
  · exact ⟨h0, h1⟩

theorem lo_at (b n : Nat) (hb : 2 ≤ b) (k i : Nat) (hi : i < k) : (lo b n k).getD i 0 = ((n / b ^ i % b : Nat) : Int) := by
  rw [val_digit b hb _ (lo_ok b n (by omega) k), lo_val]
  congr 1
  obtain ⟨j, rfl⟩ : ∃ j, k = i + (j + 1) := ⟨k - i - 1, by omega⟩
  rw [Nat.pow_add, Nat.mod_mul_right_div_self, Nat.pow_succ, Nat.mul_comm (b ^ j), Nat.mod_mul_right_mod]

/-- One bit more in the word of its place. -/
theorem wd_step (n q s x e K : Nat) (hs : s < 15) (hq : q < K) (hx : (x : Int) = (lo WW (n % 2 ^ (15 * q + s)) K).getD q 0) (he : e = n / 2 ^ (15 * q + s) % 2) :
    x < 2 ^ s ∧ (lo WW (n % 2 ^ (15 * q + s)) K).set q ((x + e * 2 ^ s : Nat) : Int) = lo WW (n % 2 ^ (15 * q + s + 1)) K := by
  rw [lo_at WW _ WW2 K q hq] at hx
  have hx2 : x = n % 2 ^ (15 * q + s) / WW ^ q % WW := by exact_mod_cast hx
  have h1 : n % 2 ^ (15 * q + s) / WW ^ q < 2 ^ s := by
    rw [Nat.div_lt_iff_lt_mul (Nat.pow_pos (by decide)), WW_pow, ← Nat.pow_add, Nat.add_comm]
    exact Nat.mod_lt _ (Nat.pow_pos (by decide))
  have hp : 2 ^ (s + 1) ≤ WW := Nat.pow_le_pow_right (by decide) (by omega : s + 1 ≤ 15)
  have hp2 := hp
  rw [Nat.pow_succ] at hp2
  rw [Nat.mod_eq_of_lt (by omega)] at hx2
  rw [← hx2] at h1
  have he1 : e ≤ 1 := by omega
  have h3 : e * 2 ^ s ≤ 1 * 2 ^ s := Nat.mul_le_mul_right _ he1
  refine ⟨h1, ok_unique WW2 _ _ ?_ (lo_ok _ _ (by decide) _) (by rw [List.length_set, lo_len, lo_len]) ?_⟩
  · exact Ok.set_ (lo_ok _ _ (by decide) _) q (Int.natCast_nonneg _) (Int.ofNat_lt.2 (by omega))
  · have h4 := val_set WW (lo WW (n % 2 ^ (15 * q + s)) K) q ((x + e * 2 ^ s : Nat) : Int) (by rw [lo_len]; exact hq)
    rw [lo_at WW _ WW2 K q hq, Int.toNat_natCast, Int.toNat_natCast, ← hx2, Nat.mod_eq_of_lt (a := x) (by omega)] at h4
    have hK : WW ^ (q + 1) ≤ WW ^ K := Nat.pow_le_pow_right (by decide) hq
    have hm1 : n % 2 ^ (15 * q + s) < WW ^ K := by
      refine Nat.lt_of_lt_of_le (Nat.mod_lt _ (Nat.pow_pos (by decide))) (Nat.le_trans ?_ hK)
      rw [WW_pow]
      exact Nat.pow_le_pow_right (by decide) (by omega)
    have hm2 : n % 2 ^ (15 * q + s + 1) < WW ^ K := by
      refine Nat.lt_of_lt_of_le (Nat.mod_lt _ (Nat.pow_pos (by decide))) (Nat.le_trans ?_ hK)
      rw [WW_pow]
      exact Nat.pow_le_pow_right (by decide) (by omega)
    rw [lo_full hm1] at h4
    rw [lo_full hm2, mod_bit, ← he]
    rw [show 2 ^ (15 * q + s) * e = WW ^ q * (e * 2 ^ s) by rw [Nat.pow_add, ← WW_pow, Nat.mul_assoc, Nat.mul_comm e]]
    rw [Nat.mul_add] at h4
    omega

theorem lo_zero (b : Nat) : ∀ k, lo b 0 k = List.replicate k 0
  | 0 => rfl
  | k + 1 => by rw [lo, lo_zero b k, Nat.zero_div, Nat.zero_mod, List.replicate_succ']; rfl

/-- Words are made. -/
def MadeW (w : World) (l : List Int) (e : Ending) (w' : World) : Prop := ∃ g, e = .returned (.slice (some ⟨g, 0, none⟩) l.length l.length) ∧ w.heap.size ≤ g ∧ BlkI w' g l ∧ Below w.heap.size w w'

set_option maxHeartbeats 1000000 in
theorem words_any {v : Value} {n : Nat} {w : World} (h : Bt w v n) (hn : (bt n).length ≤ 17179869184) :
    Calls Try.prog 66 #[v] w (MadeW w (wd n)) := by
  obtain ⟨A, c, rfl, hc, hC⟩ := h
  have HC := Lib.hid hC
  have HE := Lib.hid (wd_len n)
  have hwl : wl n = ((bt n).length + 14) / 15 := rfl
  generalize hk : (bt n).length = k at *
  have HK := Lib.hid hk
  obtain ⟨K, hK⟩ : ∃ K, K = wl n := ⟨_, rfl⟩
  rw [← hK] at hwl HE
  have HKK := Lib.hid hK
  have hKi : (((k : Int) + 14) / 15) = (K : Int) := by omega
  have hmk : ∀ W : World, _ := fun W => make_arrI K (by omega) W
  have hlt : n < 2 ^ k := by rw [← HK.out]; exact bt_lt n
  have HLT := Lib.hid hlt
  have HWL := Lib.hid hwl
  have hKb : K ≤ 1145324613 := by omega
  clear hC hk hK hlt hwl
  go_enter Try.func66, Try.ntmps66
  go_wp2
  have HB := Lib.hid (BlkI.new w (List.replicate K 0))
  have HW := Lib.hid (below_alloc (Below.refl w.heap.size w) (.cells (arrI (List.replicate K 0)) 3))
  clear hmk
  go_loopw [4] (fun i wr => ∃ t : Nat, i = .int .i64 t ∧ t ≤ k ∧ Hid (BlkI wr w.heap.size (lo WW (n % 2 ^ t) K)) ∧ Hid (Below w.heap.size w wr)) (fun i _ => k - (intOf i).toNat)
  case atStart => exact ⟨0, rfl, by omega, by rw [Nat.pow_zero, Nat.mod_one, lo_zero]; exact HB, HW⟩
  case round =>
    clear HB HW
    obtain ⟨t, rfl, ht, HB, HW⟩ := hrel
    by_cases htk : t < k
    · obtain ⟨q, s, hts, hs⟩ : ∃ q s : Nat, t = 15 * q + s ∧ s < 15 := ⟨t / 15, t % 15, by omega, by omega⟩
      have e3 : ((t : Int) / 15) = (q : Int) := by omega
      have e4 : ((t : Int) % 15) = (s : Int) := by omega
      have hqK : q < K := by have := HWL.out; omega
      obtain ⟨ad, hA, hcell⟩ := at_nat (Kd.C_below HC.out HW.out) (i := t) htk
      subst hA
      rw [bt_at] at hcell
      obtain ⟨e, he⟩ : ∃ e, e = n / 2 ^ t % 2 := ⟨_, rfl⟩
      rw [← he] at hcell
      have hcu := HB.out.cell q (by rw [lo_len]; exact hqK)
      have hfz := HB.out.frozen q
      have hxr := (lo_ok WW (n % 2 ^ t) (by decide) K).at_ (by decide) q
      obtain ⟨xx, hxx⟩ : ∃ x, x = (lo WW (n % 2 ^ t) K).getD q 0 := ⟨_, rfl⟩
      rw [← hxx] at hcu hxr
      obtain ⟨x, rfl⟩ := Int.eq_ofNat_of_zero_le hxr.1
      rw [hts] at hxx he
      obtain ⟨hx2, hst⟩ := wd_step n q s x e K hs hqK hxx he
      rw [← hts] at hst
      have hsum : x + e * 2 ^ s < 32768 := by
        have he1 : e ≤ 1 := by omega
        have h3 : e * 2 ^ s ≤ 1 * 2 ^ s := Nat.mul_le_mul_right _ he1
        have hp : 2 ^ (s + 1) ≤ 2 ^ 15 := Nat.pow_le_pow_right (by decide) (by omega : s + 1 ≤ 15)
        rw [Nat.pow_succ] at hp
        omega
      have hy : ∃ y : Nat, y = e * 2 ^ s ∧ y < 32768 := ⟨_, rfl, by omega⟩
      obtain ⟨y, hy0, hy1⟩ := hy
      have hy2 : (e : Int) * 2 ^ s = (y : Int) := by rw [hy0, Int.natCast_mul, Int.natCast_pow]; rfl
      rw [← hy0] at hst hsum
      have HSt := Lib.hid hst
      have he1 : e ≤ 1 := by omega
      have hx1 : x < 32768 := by omega
      clear hst hxx hts hx2 hy0 he hxr
      go_wp2
      go_region
      go_wp2
      refine ⟨⟨t + 1, by go_num, by omega, ?_, Lib.hid (below_drew (HW.out.setCell (p := ⟨w.heap.size, q, none⟩) (Nat.le_refl _) _))⟩, by simp [intOf]; omega⟩
      rw [← HSt.out, Int.natCast_add]
      exact Lib.hid (HB.out.set_ q _)
    · obtain rfl : t = k := by omega
      go_wp2
      go_ret
      have hb := HB.out
      rw [Nat.mod_eq_of_lt HLT.out, HKK.out] at hb
      refine ⟨_, by rw [HE.out]; rfl, Nat.le_refl _, hb, HW.out⟩

theorem word_bit (d s : Nat) (n q : Nat) (hs : s < 15) (h : n / WW ^ q % WW = d) : n / 2 ^ (15 * q + s) % 2 = d / 2 ^ s % 2 := by
  subst h
  have e : WW = 2 ^ s * 2 ^ (15 - s) := by rw [← Nat.pow_add, Nat.add_sub_cancel' (by omega)]; rfl
  rw [Nat.pow_add, ← WW_pow, ← Nat.div_div_eq_div_mul]
  generalize n / WW ^ q = m
  rw [e, Nat.mod_mul_right_div_self]
  obtain ⟨k, hk⟩ : ∃ k, 15 - s = k + 1 := ⟨14 - s, by omega⟩
  rw [hk, Nat.pow_succ, Nat.mul_comm, Nat.mod_mul_right_mod]
theorem lo_fill (b n : Nat) (t r : Nat) (e : Int) (he : e = ((n / b ^ t % b : Nat) : Int)) : (lo b n t ++ List.replicate (r + 1) 0).set t e = lo b n (t + 1) ++ List.replicate r 0 := by
  rw [List.set_append_right _ _ (by rw [lo_len]; exact Nat.le_refl _), lo_len, Nat.sub_self, List.replicate_succ, List.set_cons_zero, lo, he, List.append_assoc, List.singleton_append]

set_option maxHeartbeats 1000000 in
theorem bits_any {A : Option Addr} {c : Nat} {l : List Int} {w : World} (hC : Kd.C (Kd.int .i64) w A l.length l) (hc : l.length ≤ c) (ho : Ok WW l) (hl : l.length ≤ 1073741824) :
    Calls Try.prog 67 #[.slice A l.length c] w (MadeB w (val WW l)) := by
  obtain ⟨K, hK⟩ : ∃ K, K = l.length := ⟨_, rfl⟩
  have hlt := val_lt ho
  rw [← hK] at hc hl hC hlt ⊢
  have HC := Lib.hid hC
  have HO := Lib.hid ho
  have HK := Lib.hid hK
  rw [WW_pow] at hlt
  obtain ⟨N, hN⟩ : ∃ N, N = val WW l := ⟨_, rfl⟩
  rw [← hN] at hlt ⊢
  have HN := Lib.hid hN
  have HLT := Lib.hid hlt
  obtain ⟨M, hM⟩ : ∃ M, M = 15 * K := ⟨_, rfl⟩
  have hMi : (15 * (K : Int)) = (M : Int) := by omega
  have hMb : M ≤ 16106127360 := by omega
  have hmk : ∀ W : World, _ := fun W => make_arrI M (by omega) W
  have HM := Lib.hid hM
  clear hC ho hK hlt hN hM
  go_enter Try.func67, Try.ntmps67
  go_wp2
  have HB := Lib.hid (BlkI.new w (List.replicate M 0))
  have HW := Lib.hid (below_alloc (Below.refl w.heap.size w) (.cells (arrI (List.replicate M 0)) 3))
  clear hmk
  go_loopw [4] (fun i wr => ∃ t : Nat, i = .int .i64 t ∧ t ≤ M ∧ Hid (BlkI wr w.heap.size (lo 2 N t ++ List.replicate (M - t) 0)) ∧ Hid (Below w.heap.size w wr)) (fun i _ => M - (intOf i).toNat)
  case atStart => exact ⟨0, rfl, by omega, HB, HW⟩
  case round =>
    clear HB HW
    obtain ⟨t, rfl, ht, HB, HW⟩ := hrel
    by_cases htk : t < M
    · obtain ⟨q, s, hts, hs⟩ : ∃ q s : Nat, t = 15 * q + s ∧ s < 15 := ⟨t / 15, t % 15, by omega, by omega⟩
      have e3 : ((t : Int) / 15) = (q : Int) := by omega
      have e4 : ((t : Int) % 15) = (s : Int) := by omega
      have hqK : q < K := by have := HM.out; omega
      obtain ⟨ad, hA, hcell⟩ := at_nat (Kd.C_below HC.out HW.out) (i := q) hqK
      subst hA
      obtain ⟨dd, hdd⟩ : ∃ dd, dd = l.getD q 0 := ⟨_, rfl⟩
      have hdr := HO.out.at_ (by decide) q
      rw [← hdd] at hcell hdr
      obtain ⟨d, rfl⟩ := Int.eq_ofNat_of_zero_le hdr.1
      have hd : d < 32768 := by have := WW_eq; omega
      have hvd := val_digit WW WW2 l HO.out q
      rw [← hdd, ← HN.out] at hvd
      have hbit := word_bit d s N q hs (by exact_mod_cast hvd.symm)
      rw [← hts] at hbit
      obtain ⟨e, he⟩ : ∃ e, e = N / 2 ^ t % 2 := ⟨_, rfl⟩
      rw [← he] at hbit
      have he1 : e ≤ 1 := by omega
      obtain ⟨r, hr⟩ : ∃ r, M - t = r + 1 := ⟨M - t - 1, by omega⟩
      have hfill := lo_fill 2 N t r (e : Int) (by rw [he])
      have hln : t < (lo 2 N t ++ List.replicate (M - t) 0).length := by rw [List.length_append, lo_len, List.length_replicate]; omega
      have hold := HB.out.cell t hln
      have hfz := HB.out.frozen t
      have e6 : (d : Int) / 2 ^ s = ((d / 2 ^ s : Nat) : Int) := by rw [Int.natCast_ediv, Int.natCast_pow]; rfl
      have HBit := Lib.hid hbit
      have HFill := Lib.hid hfill
      have HR := Lib.hid hr
      have hx2 : ((d : Int) / 2 ^ s).tmod 2 = (e : Int) := by
        rw [e6]
        generalize d / 2 ^ s = z at *
        rw [Int.tmod_eq_emod_of_nonneg (Int.natCast_nonneg z)]
        omega
      have HX2 := Lib.hid hx2
      clear hx2
      clear hbit hfill hr hvd hdd hdr hts he hln e6
      go_wp2
      rw [HX2.out]
      refine ⟨⟨t + 1, by go_num, by omega, ?_, Lib.hid (HW.out.setCell (p := ⟨w.heap.size, t, none⟩) (Nat.le_refl _) _)⟩, by simp [intOf]; omega⟩
      have h9 := HB.out.set_ t (e : Int)
      rw [HR.out, HFill.out] at h9
      rw [show M - (t + 1) = r by have := HR.out; omega]
      exact Lib.hid h9
    · obtain rfl : t = M := by omega
      have hb := HB.out
      rw [Nat.sub_self, List.replicate_zero, List.append_nil] at hb
      have hrd := hb.rd (by rw [lo_len]; omega)
      rw [lo_len] at hrd
      have HT := Lib.hid (trimI_any hrd (lo_ok 2 N (by decide) t))
      rw [lo_full (by rw [HM.out]; exact HLT.out)] at HT
      clear hb hrd
      go_wp2_with fail
      refine HT.out.mono ?_
      rintro e w' ⟨⟨v', rfl, hv'⟩, rfl⟩
      have HV := Lib.hid hv'
      clear hv'
      go_wp2
      go_ret
      exact ⟨_, rfl, HV.out, HW.out⟩
end Go.Proofs.Ythadkjekagfjfaa.N
