/- natural.BitLen and Bit as walks: the number of digits in base 2, and a digit in base 2, of the number that the slice reads as. Conditions stand at each theorem. -/
import Derived.Test.YthadkjekagfjfaaBl
import Derived.Test.YthadkjekagfjfaaShelf
namespace Go.Proofs.Ythadkjekagfjfaa.N
open Go.RowKit Go.Proofs.Ythadkjekagfjfaa.Dig Go.Proofs.YthadkjekagfjfaaW.PrintWords Go.Proofs.YthadkjekagfjfaaW.PrintLast Go.Proofs.YthadkjekagfjfaaW.PrintMore
set_option linter.unusedVariables false

theorem bl_len32 : ∀ x : Nat, x < 2 ^ 64 → Lib.bitLen x = bl x := by
  intro x
  induction x using Nat.strongRecOn with
  | _ x ih =>
    intro hx
    rcases Nat.eq_zero_or_pos x with rfl | h0
    · decide
    · rw [Lib.bitLen_half x (by omega) hx, ih (x / 2) (by omega) (by omega)]
      unfold bl
      rw [dg_succ (Nat.le_refl 2) (by omega : x ≠ 0), List.length_cons, Nat.add_comm]
theorem bitLen_any {v : Value} {l : List Int} {w : World} (h : Rd w v l) (hl : l.length ≤ 8796093022208) :
    Calls Try.prog 50 #[v] w fun e w' => e = .returned (.int .i64 (bl (nv l) : Nat)) ∧ w = w' := by
  have C := Lib.hid (trim_any h)
  have hn := nd_len_le h.ok
  have hk := nok_nd (nv l)
  have hv := nv_nd (nv l)
  have htop := dg_len_ge BB2 (n := nv l)
  have htl : (nd (nv l)).length ≠ 0 → (nd (nv l)).getD ((nd (nv l)).length - 1) 0 ≠ 0 := fun h0 => by
    have ht := trimL_dg BB2 (nv l)
    change trimL (nd (nv l)) = nd (nv l) at ht
    intro hz
    have h5 := htop (fun e => h0 (by rw [e]; rfl))
    change BB ^ ((nd (nv l)).length - 1) ≤ nv l at h5
    obtain ⟨m, hm⟩ : ∃ m, (nd (nv l)).length = m + 1 := ⟨_, (Nat.succ_pred h0).symm⟩
    have h6 := val_take_succ BB (nd (nv l)) m (by omega)
    rw [List.take_of_length_le (by omega)] at h6
    rw [hm, Nat.add_sub_cancel] at hz h5
    rw [hz] at h6
    have h7 := val_lt (hk.take m)
    rw [List.length_take, Nat.min_eq_left (by omega)] at h7
    change nv (nd (nv l)) = _ at h6
    rw [hv] at h6
    simp at h6
    omega
  clear h htop
  generalize nv l = n at *
  generalize hx : nd n = x at *
  rcases Nat.eq_zero_or_pos x.length with h0 | h0
  · obtain rfl : x = [] := List.length_eq_zero_iff.1 h0
    obtain rfl : n = 0 := by rw [← hv]; rfl
    clear hk hv htl hn h0 hx
    rw [bl_zero]
    go_enter Try.func50, Try.ntmps50
    go_wp2_with (go_at_call 63; refine C.out.mono ?_; rintro e w' ⟨⟨v', rfl, ⟨_, A', c', rfl, hc', hC'⟩, -⟩, rfl⟩)
    go_ret
    exact ⟨rfl, rfl⟩
  · obtain ⟨k, hkk⟩ : ∃ k, x.length = k + 1 := ⟨_, (Nat.succ_pred (by omega)).symm⟩
    have hdr := hk.at_ k
    have ht0 := htl (by omega)
    rw [hkk, Nat.add_sub_cancel] at ht0
    obtain ⟨d, hd⟩ : ∃ d, d = x.getD k 0 := ⟨_, rfl⟩
    rw [← hd] at hdr ht0
    obtain ⟨t, rfl⟩ := Int.eq_ofNat_of_zero_le hdr.1
    have ht : t < 4294967296 := by omega
    have hbl := bl_top hk hkk hd (by omega)
    rw [hv] at hbl
    have hbt : bl t ≤ 32 := (bl_le 32 t).2 ht
    have HS := Lib.hid (fun W : World => Try.bits_Len32 (t : Int) W (by omega) (by omega))
    have HE := Lib.hid (bl_len32 t (by omega))
    rw [hbl]
    clear hbl hv hk htl hx hdr
    generalize bl t = L at *
    have HD := Lib.hid hd
    have HK := Lib.hid hkk
    have hkn : k ≤ 8796093022208 := by omega
    clear hd hkk hn hl h0
    go_enter Try.func50, Try.ntmps50
    go_wp2_with (first
      | (go_at_call 63; refine C.out.mono ?_; rintro e w' ⟨⟨v', rfl, ⟨_, A', c', rfl, hc', hC'⟩, -⟩, rfl⟩; obtain ⟨ad, rfl, hcell⟩ := at_nat hC' (i := k) (by have := HK.out; omega); rw [← HD.out] at hcell; rw [HK.out])
      | (go_at_call 68; refine (HS.out _).mono ?_; rintro e w' ⟨rfl, rfl⟩; rw [Int.toNat_natCast, HE.out]))
    go_ret
    exact ⟨rfl, rfl⟩

theorem and1_u32 (x : Nat) (h : x < 4294967296) : bits .and .u32 (x : Int) 1 = ((x % 2 : Nat) : Int) := by
  have := u32_and_nat x 1 h (by decide)
  rw [Nat.and_one_is_mod] at this
  exact this

theorem bit_any {v : Value} {l : List Int} {w : World} (h : Rd w v l) (hl : l.length ≤ 8796093022208) (i : Int) (hi : -9223372036854775808 ≤ i ∧ i ≤ 9223372036854775807) :
    Calls Try.prog 51 #[v, .int .i64 i] w fun e w' => e = .returned (.int .i64 (bitv (nv l) i)) ∧ w = w' := by
  obtain ⟨hk, A, cp, rfl, hcp, hC⟩ := h
  by_cases hi0 : i < 0
  · have e : bitv (nv l) i = 0 := if_pos hi0
    rw [e]
    clear e hC hcp
    generalize l.length = k at *
    go_enter Try.func51, Try.ntmps51
    go_wp2
    go_ret
    exact ⟨rfl, rfl⟩
  · obtain ⟨m, rfl⟩ := Int.eq_ofNat_of_zero_le (show 0 ≤ i by omega)
    obtain ⟨c, s, rfl, hs⟩ : ∃ c s : Nat, m = 32 * c + s ∧ s < 32 := ⟨m / 32, m % 32, by omega, by omega⟩
    have e0 : bitv (nv l) ((32 * c + s : Nat) : Int) = ((nv l / 2 ^ (32 * c + s) % 2 : Nat) : Int) := by
      unfold bitv
      rw [if_neg (by omega), Int.toNat_natCast]
    rw [e0]
    have e3 : (((32 * c + s : Nat) : Int) / 32) = (c : Int) := by omega
    have e4 : (((32 * c + s : Nat) : Int) % 32) = (s : Int) := by omega
    have hi1 := hi.2
    by_cases hc : c < l.length
    · obtain ⟨ad, rfl, hcell⟩ := at_nat hC hc
      have hdr := hk.at_ c
      obtain ⟨dd, hdd⟩ : ∃ dd, dd = l.getD c 0 := ⟨_, rfl⟩
      rw [← hdd] at hcell hdr
      obtain ⟨d, rfl⟩ := Int.eq_ofNat_of_zero_le hdr.1
      have hd : d < 4294967296 := by omega
      rw [bit_digit hs (digit_val hk hc hdd)]
      generalize hm : 32 * c + s = m at *
      have HM := Lib.hid hm
      clear hm hdd hdr hC hk e0 hi
      generalize l.length = k at *
      go_enter Try.func51, Try.ntmps51
      go_wp2
      have hb : bits BinOp.and IntKind.u32 ((d : Int) / 2 ^ s) 1 = ((d / 2 ^ s % 2 : Nat) : Int) := by
        have e6 : (d : Int) / 2 ^ s = ((d / 2 ^ s : Nat) : Int) := by rw [Int.natCast_ediv, Int.natCast_pow]; rfl
        rw [e6]
        exact and1_u32 _ (Nat.lt_of_le_of_lt (Nat.div_le_self _ _) hd)
      have hw : wrap64 (bits BinOp.and IntKind.u32 ((d : Int) / 2 ^ s) 1) = ((d / 2 ^ s % 2 : Nat) : Int) := by
        rw [hb]
        unfold wrap64
        omega
      go_ret
      exact ⟨ret_int hw, rfl⟩
    · have hz : nv l / 2 ^ (32 * c + s) = 0 := by
        apply Nat.div_eq_of_lt
        refine Nat.lt_of_lt_of_le (nv_lt hk) ?_
        rw [BB_pow]
        exact Nat.pow_le_pow_right (by decide) (by omega)
      rw [hz]
      generalize hm : 32 * c + s = m at *
      have HM := Lib.hid hm
      clear hm hC hk e0 hi hz
      generalize l.length = k at *
      go_enter Try.func51, Try.ntmps51
      go_wp2
      go_ret
      exact ⟨rfl, rfl⟩
end Go.Proofs.Ythadkjekagfjfaa.N
