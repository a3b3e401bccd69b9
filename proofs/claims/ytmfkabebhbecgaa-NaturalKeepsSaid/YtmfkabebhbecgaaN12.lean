/- natural.BitLen and Bit as walks: the number of digits in base 2, and a digit in base 2, of the number that the slice reads as. Conditions stand at each theorem. -/
import Derived.Test.YtmfkabebhbecgaaN11
import Derived.Test.YtmfkabebhbecgaaShelf
namespace Go.Proofs.Ytmfkabebhbecgaa.N
open Go.RowKit Go.Proofs.Ytmfkabebhbecgaa.Dig Go.Proofs.YtmfkabebhbecgaaW.PrintWords Go.Proofs.YtmfkabebhbecgaaW.PrintLast Go.Proofs.YtmfkabebhbecgaaW.PrintMore
set_option linter.unusedVariables false

/-- The number of bits. -/
def bl (n : Nat) : Nat := (dg 2 n).length
theorem bl_le (k n : Nat) : bl n ≤ k ↔ n < 2 ^ k := dg_len (Nat.le_refl 2) k n
theorem bl_zero : bl 0 = 0 := rfl
theorem bl_lt (n : Nat) : n < 2 ^ bl n := dg_len_lt (Nat.le_refl 2) n
theorem bl_ge {n : Nat} (h : n ≠ 0) : 2 ^ (bl n - 1) ≤ n := dg_len_ge (Nat.le_refl 2) h
theorem bl_pos {n : Nat} (h : n ≠ 0) : 0 < bl n := by
  have := bl_lt n
  rcases Nat.eq_zero_or_pos (bl n) with h0 | h0
  · rw [h0] at this; omega
  · exact h0
theorem bl_eq {n k : Nat} (h0 : 2 ^ k ≤ n) (h1 : n < 2 ^ (k + 1)) : bl n = k + 1 := by
  have a := (bl_le (k + 1) n).2 h1
  have b : ¬ bl n ≤ k := fun h => by have := (bl_le k n).1 h; omega
  omega
theorem bl_len32 : ∀ x : Nat, x < 2 ^ 64 → Lib.bitLen x = bl x := by
  intro x
  induction x using Nat.strongRecOn with
  | _ x ih =>
    intro hx
    rcases Nat.eq_zero_or_pos x with rfl | h0
    · decide
    · rw [Lib.bitLen_half x (by omega) hx, ih (x / 2) (by omega) (by omega)]
      unfold bl
      rw [dg_succ (Nat.le_refl 2) (by omega : x ≠ 0), List.length_cons, Nat.add_comm]
theorem BB_pow (k : Nat) : BB ^ k = 2 ^ (32 * k) := by rw [Nat.pow_mul]; rfl
theorem bl_top {l : List Int} {k t : Nat} (h : NOk l) (hl : l.length = k + 1) (ht : (t : Int) = l.getD k 0) (h0 : t ≠ 0) : bl (nv l) = 32 * k + bl t := by
  have hsplit := val_take_succ BB l k (by omega)
  rw [List.take_of_length_le (by omega), ← ht, Int.toNat_natCast] at hsplit
  have hlo := val_lt (h.take k)
  rw [List.length_take, Nat.min_eq_left (by omega)] at hlo
  change nv l = _ at hsplit
  rw [hsplit]
  generalize val BB (l.take k) = lo at *
  have e1 := bl_lt t
  have e2 := bl_ge h0
  have e3 := bl_pos h0
  obtain ⟨m, hm⟩ : ∃ m, bl t = m + 1 := ⟨bl t - 1, by omega⟩
  rw [hm] at e1 e2 ⊢
  rw [Nat.add_sub_cancel] at e2
  have hb : BB ^ k * (t + 1) ≤ BB ^ k * 2 ^ (m + 1) := Nat.mul_le_mul_left _ e1
  have hc : BB ^ k * 2 ^ m ≤ BB ^ k * t := Nat.mul_le_mul_left _ e2
  rw [Nat.mul_add] at hb
  rw [← Nat.add_assoc]
  apply bl_eq
  · rw [Nat.pow_add, ← BB_pow]; omega
  · rw [Nat.add_assoc, Nat.pow_add, ← BB_pow]; omega

theorem bitLen_any {v : Value} {l : List Int} {w : World} (h : Rd w v l) (hl : l.length ≤ 8796093022208) :
    Calls Try.prog 31 #[v] w fun e w' => e = .returned (.int .i64 (bl (nv l) : Nat)) ∧ w = w' := by
  have C := Lib.hid (trim_any h)
  have hn := nd_len_le h.ok
  have hk := nok_nd (nv l)
  have hv := nv_nd (nv l)
  have htop := dg_len_ge BB2 (n := nv l)
  have htl : (nd (nv l)).length ≠ 0 → (nd (nv l)).getD ((nd (nv l)).length - 1) 0 ≠ 0 := fun h0 => by
    have ht := trimL_dg BB2 (nv l)
    change trimL (nd (nv l)) = nd (nv l) at ht
    intro hz
    have h5 := htop (fun e => h0 (by rw [e]; rfl))
    change BB ^ ((nd (nv l)).length - 1) ≤ nv l at h5
    obtain ⟨m, hm⟩ : ∃ m, (nd (nv l)).length = m + 1 := ⟨_, (Nat.succ_pred h0).symm⟩
    have h6 := val_take_succ BB (nd (nv l)) m (by omega)
    rw [List.take_of_length_le (by omega)] at h6
    rw [hm, Nat.add_sub_cancel] at hz h5
    rw [hz] at h6
    have h7 := val_lt (hk.take m)
    rw [List.length_take, Nat.min_eq_left (by omega)] at h7
    change nv (nd (nv l)) = _ at h6
    rw [hv] at h6
    simp at h6
    omega
  clear h htop
  generalize nv l = n at *
  generalize hx : nd n = x at *
  rcases Nat.eq_zero_or_pos x.length with h0 | h0
  · obtain rfl : x = [] := List.length_eq_zero_iff.1 h0
    obtain rfl : n = 0 := by rw [← hv]; rfl
    clear hk hv htl hn h0 hx
    rw [bl_zero]
    go_enter Try.func31, Try.ntmps31
    go_wp2_with (go_at_call 42; refine C.out.mono ?_; rintro e w' ⟨⟨v', rfl, ⟨_, A', c', rfl, hc', hC'⟩, -⟩, rfl⟩)
    go_ret
    exact ⟨rfl, rfl⟩
  · obtain ⟨k, hkk⟩ : ∃ k, x.length = k + 1 := ⟨_, (Nat.succ_pred (by omega)).symm⟩
    have hdr := hk.at_ k
    have ht0 := htl (by omega)
    rw [hkk, Nat.add_sub_cancel] at ht0
    obtain ⟨d, hd⟩ : ∃ d, d = x.getD k 0 := ⟨_, rfl⟩
    rw [← hd] at hdr ht0
    obtain ⟨t, rfl⟩ := Int.eq_ofNat_of_zero_le hdr.1
    have ht : t < 4294967296 := by omega
    have hbl := bl_top hk hkk hd (by omega)
    rw [hv] at hbl
    have hbt : bl t ≤ 32 := (bl_le 32 t).2 ht
    have HS := Lib.hid (fun W : World => Try.bits_Len32 (t : Int) W (by omega) (by omega))
    have HE := Lib.hid (bl_len32 t (by omega))
    rw [hbl]
    clear hbl hv hk htl hx hdr
    generalize bl t = L at *
    have HD := Lib.hid hd
    have HK := Lib.hid hkk
    have hkn : k ≤ 8796093022208 := by omega
    clear hd hkk hn hl h0
    go_enter Try.func31, Try.ntmps31
    go_wp2_with (first
      | (go_at_call 42; refine C.out.mono ?_; rintro e w' ⟨⟨v', rfl, ⟨_, A', c', rfl, hc', hC'⟩, -⟩, rfl⟩; obtain ⟨ad, rfl, hcell⟩ := at_nat hC' (i := k) (by have := HK.out; omega); rw [← HD.out] at hcell; rw [HK.out])
      | (go_at_call 47; refine (HS.out _).mono ?_; rintro e w' ⟨rfl, rfl⟩; rw [Int.toNat_natCast, HE.out]))
    go_ret
    exact ⟨rfl, rfl⟩

theorem and1_u32 (x : Nat) (h : x < 4294967296) : bits .and .u32 (x : Int) 1 = ((x % 2 : Nat) : Int) := by
  have := u32_and_nat x 1 h (by decide)
  rw [Nat.and_one_is_mod] at this
  exact this

/-- A bit, 0 for a negative place. -/
def bitv (n : Nat) (i : Int) : Int := if i < 0 then 0 else ((n / 2 ^ i.toNat % 2 : Nat) : Int)

theorem digit_val {l : List Int} (h : NOk l) {c d : Nat} (hc : c < l.length) (hd : (d : Int) = l.getD c 0) : nv l / BB ^ c % BB = d := by
  have h1 := nv_drop_div l h c (by omega)
  rw [← h1, List.drop_eq_getElem_cons hc]
  unfold nv
  have e : l[c] = (d : Int) := by rw [hd, List.getD_eq_getElem?_getD, List.getElem?_eq_getElem hc]; rfl
  have hb := h.at_ c
  rw [← hd] at hb
  rw [val_cons, e, Int.toNat_natCast, Nat.add_mul_mod_self_left]
  exact Nat.mod_eq_of_lt (by rw [BB_eq]; omega)

theorem bit_digit {n c s d : Nat} (hs : s < 32) (h : n / BB ^ c % BB = d) : n / 2 ^ (32 * c + s) % 2 = d / 2 ^ s % 2 := by
  subst h
  have e : BB = 2 ^ s * 2 ^ (32 - s) := by rw [← Nat.pow_add, Nat.add_sub_cancel' (by omega)]; rfl
  rw [Nat.pow_add, ← BB_pow, ← Nat.div_div_eq_div_mul]
  generalize n / BB ^ c = m
  rw [e, Nat.mod_mul_right_div_self]
  obtain ⟨k, hk⟩ : ∃ k, 32 - s = k + 1 := ⟨31 - s, by omega⟩
  rw [hk, Nat.pow_succ, Nat.mul_comm, Nat.mod_mul_right_mod]

end Go.Proofs.Ytmfkabebhbecgaa.N
