/- The law NaturalFar returns true for every two numbers and leaves what lay in memory as it was. Condition: the numbers are uint16. -/
import Derived.Test.YtmfkabebhbecgaaNum2
import Derived.Test.YtmfkabebhbecgaaL1
namespace Go.Proofs.Ytmfkabebhbecgaa.Far
open Go.RowKit Go.Proofs.Ytmfkabebhbecgaa.Dig Go.Proofs.Ytmfkabebhbecgaa.N Go.Proofs.YtmfkabebhbecgaaW.PrintWords Go.Proofs.YtmfkabebhbecgaaW.PrintLast Go.Proofs.YtmfkabebhbecgaaW.PrintMore
set_option linter.unusedVariables false

theorem bl_shl (n s : Nat) (h : n ≠ 0) : bl (n * 2 ^ s) = bl n + s := by
  have h1 := bl_lt n
  have h2 := bl_ge h
  have h3 := bl_pos h
  obtain ⟨m, hm⟩ : ∃ m, bl n = m + 1 := ⟨bl n - 1, by omega⟩
  rw [hm] at h1 h2 ⊢
  rw [Nat.add_sub_cancel] at h2
  have e : m + 1 + s = (m + s) + 1 := by omega
  rw [e]
  apply bl_eq
  · rw [Nat.pow_add]; exact Nat.mul_le_mul_right _ h2
  · rw [show m + s + 1 = (m + 1) + s by omega, Nat.pow_add]; exact Nat.mul_lt_mul_of_pos_right h1 (Nat.pow_pos (by decide))

theorem shc_far (m : Nat) : shc ((16777216 : Int) + m) = 16777216 := by
  unfold shc
  rw [if_neg (by omega)]
  split <;> omega

set_option maxRecDepth 100000 in
set_option maxHeartbeats 2000000 in
theorem law_any (n m : Nat) (w : World) (hn : n ≤ 65535) (hm : m ≤ 65535) :
    Calls Try.prog 8 #[.int .u16 n, .int .u16 m] w fun e w' => e = .returned (.bool true) ∧ Below w.heap.size w w' := by
  obtain ⟨s, hs⟩ : ∃ s, shc ((16777216 : Int) + m) = s := ⟨_, rfl⟩
  have hs1 : s = 16777216 := hs ▸ shc_far m
  have hsI : (16777216 : Int) = (s : Int) := by omega
  have hs2 : ∀ (W : World) (v : Value) (n i : Nat), Num W v n i → i ≤ 8796093022208 → Calls Try.prog 24 #[v, .int .i64 ((16777216 : Int) + m)] W (MadeN W (n * 2 ^ s) (i + 524288)) := fun W v n i h hi => by
    have := shl_n h hi ((16777216 : Int) + m) 524288 (by omega)
    rw [hs] at this
    exact this
  have HS := Lib.hid hs2
  clear hs2
  by_cases h0 : n = 0
  · subst h0
    clear hs hs1 hsI
    go_enter Try.func8, Try.ntmps8
    go_wp2_with fail
    refine (awake_any _).mono ?_
    rintro e w1 ⟨rfl, hb1⟩
    go_wp2_with fail
    refine (of_n 0 (by decide) _).mono ?_
    rintro e w2 ⟨v2, rfl, ho2, hn2, hb2⟩
    go_wp2_with fail
    refine (HS.out _ _ _ _ hn2 (by decide)).mono ?_
    rintro e w3 ⟨v3, rfl, ho3, hn3, hb3⟩
    rw [Nat.zero_mul] at hn3
    go_wp2_with fail
    refine (isZero_n hn3).mono ?_
    rintro e w_ ⟨rfl, rfl⟩
    have B_0 := below_then (Below.refl w.heap.size w) (Nat.le_refl _) hb1
    have B_1 := below_then B_0 B_0.size hb2
    have B_2 := below_then B_1 B_1.size hb3
    go_wp2
    go_ret
    exact ⟨rfl, B_2⟩
  · have hbl : bl (n * 2 ^ s) = bl n + s := bl_shl n s h0
    have hn16 : bl n ≤ 16 := (bl_le 16 n).2 (by omega)
    have HZ := Lib.hid (show n * 2 ^ s / 2 ^ shr0 ((bl n + s : Nat) + (m : Nat) : Int) = 0 from by
      apply Nat.div_eq_of_lt
      refine Nat.lt_of_lt_of_le (bl_lt _) ?_
      rw [hbl]
      apply Nat.pow_le_pow_right (by decide)
      unfold shr0; omega)
    have HBL := Lib.hid hbl
    have HSI := Lib.hid hsI
    clear hbl hs hs1 hsI
    go_enter Try.func8, Try.ntmps8
    go_wp2_with fail
    refine (awake_any _).mono ?_
    rintro e w1 ⟨rfl, hb1⟩
    go_wp2_with fail
    refine (of_n n (by omega) _).mono ?_
    rintro e w2 ⟨v2, rfl, ho2, hn2, hb2⟩
    go_wp2_with fail
    refine (HS.out _ _ _ _ hn2 (by decide)).mono ?_
    rintro e w3 ⟨v3, rfl, ho3, hn3, hb3⟩
    generalize n * 2 ^ s = N at *
    generalize hL : bl n = L at *
    have hLe : ((L + s : Nat) : Int) = (16777216 : Int) + (L : Int) := by have := HSI.out; omega
    have HL := Lib.hid hL
    clear hL
    generalize hLs : L + s = M at *
    clear hLs
    have HM := Lib.hid hLe
    go_wp2_with fail
    refine (bitLen_n hn3 (by decide)).mono ?_
    rintro e w_ ⟨rfl, rfl⟩
    rw [HBL.out]
    go_wp2_with fail
    refine (of_n n (by omega) _).mono ?_
    rintro e w4 ⟨v4, rfl, ho4, hn4, hb4⟩
    go_wp2_with fail
    refine (bitLen_n hn4 (by decide)).mono ?_
    rintro e w_ ⟨rfl, rfl⟩
    rw [HL.out]
    go_wp2_with fail
    refine (bitLen_n (hn3.below hb4) (by decide)).mono ?_
    rintro e w_ ⟨rfl, rfl⟩
    rw [HBL.out]
    go_wp2_with fail
    refine (shr_n (hn3.below hb4) (by decide) _ (by omega)).mono ?_
    have HZ2 := HZ.out
    rw [HM.out] at HZ2
    rw [HZ2]
    clear HZ2
    rintro e w5 ⟨v5, rfl, ho5, hn5, hb5⟩
    go_wp2_with fail
    refine (isZero_n hn5).mono ?_
    rintro e w_ ⟨rfl, rfl⟩
    have B_0 := below_then (Below.refl w.heap.size w) (Nat.le_refl _) hb1
    have B_1 := below_then B_0 B_0.size hb2
    have B_2 := below_then B_1 B_1.size hb3
    have B_3 := below_then B_2 B_2.size hb4
    have B_4 := below_then B_3 B_3.size hb5
    go_wp2
    go_ret
    exact ⟨rfl, B_4⟩
end Go.Proofs.Ytmfkabebhbecgaa.Far
