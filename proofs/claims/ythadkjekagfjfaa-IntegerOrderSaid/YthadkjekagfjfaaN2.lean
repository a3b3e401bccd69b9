/- natural.IsZero, Uint64, Cmp, Normal, Of and MulAdd as walks: what each call returns for slices that read as digits, in terms of the numbers' values. Conditions stand at each theorem. -/
import Derived.Test.YthadkjekagfjfaaN1
namespace Go.Proofs.Ythadkjekagfjfaa.N
open Go.RowKit Go.Proofs.Ythadkjekagfjfaa.Dig Go.Proofs.YthadkjekagfjfaaW.PrintWords Go.Proofs.YthadkjekagfjfaaW.PrintLast Go.Proofs.YthadkjekagfjfaaW.PrintMore
set_option linter.unusedVariables false

theorem ret_bool {a b : Bool} (h : a = b) : Ending.returned (.bool a) = .returned (.bool b) := by rw [h]
theorem ret_int {k : IntKind} {a b : Int} (h : a = b) : Ending.returned (.int k a) = .returned (.int k b) := by rw [h]

/-- Is the number 0? -/
def isz (n : Nat) : Bool := decide (n = 0)
theorem isz_true {n : Nat} (h : n = 0) : isz n = true := decide_eq_true h
theorem isz_false {n : Nat} (h : n ≠ 0) : isz n = false := decide_eq_false h

theorem isZero_any {v : Value} {l : List Int} {w : World} (h : Rd w v l) :
    Calls Try.prog 58 #[v] w fun e w' => e = .returned (.bool (isz (nv l))) ∧ w = w' := by
  have C := Lib.hid (trim_any h)
  have hl := @nd_len0 (nv l)
  have e : isz (nv l) = (((nd (nv l)).length : Int) == 0) := by
    unfold isz
    rw [Bool.eq_iff_iff, decide_eq_true_iff, beq_iff_eq, ← hl]
    omega
  rw [e]
  clear hl e h
  go_enter Try.func58, Try.ntmps58
  go_wp2_with (go_at_call 63; refine C.out.mono ?_; rintro e w' ⟨⟨v', rfl, ⟨_, A', c', rfl, hc', hC'⟩, -⟩, rfl⟩)
  go_ret
  exact ⟨rfl, rfl⟩

/-- What Uint64 hands back. -/
def u64v (n : Nat) : Nat := if n < 18446744073709551616 then n else 0
def u64ok (n : Nat) : Bool := decide (n < 18446744073709551616)

theorem nd1 {d : Nat} (h : d < BB) (h0 : d ≠ 0) : nd d = [(d : Int)] := by
  unfold nd
  rw [dg_succ BB2 h0, Nat.mod_eq_of_lt h, Nat.div_eq_of_lt h, dg_zero]

theorem list1 {l : List Int} (h : l.length = 1) : ∃ a, l = [a] := by
  match l, h with
  | [a], _ => exact ⟨a, rfl⟩
theorem list2 {l : List Int} (h : l.length = 2) : ∃ a b, l = [a, b] := by
  match l, h with
  | [a, b], _ => exact ⟨a, b, rfl⟩

theorem join32 (a b : Nat) (ha : a < 4294967296) (hb : b < 4294967296) : bits .or .u64 ((b : Int) * 4294967296) (a : Int) = ((a + 4294967296 * b : Nat) : Int) := by
  have h := u64_or_nat (b * 4294967296) a (by omega) (by omega)
  rw [nat_join 32 (b * 4294967296) a (by simp [Nat.mul_mod_left]) ha] at h
  rw [Int.natCast_mul] at h
  rw [show ((4294967296 : Int)) = ((4294967296 : Nat) : Int) from rfl, h]
  congr 1
  omega

set_option maxHeartbeats 400000 in
theorem uint64_any {v : Value} {l : List Int} {w : World} (h : Rd w v l) :
    Calls Try.prog 52 #[v] w fun e w' => e = .returned (.tuple #[.int .u64 (u64v (nv l) : Nat), .bool (u64ok (nv l))]) ∧ Drawn0 w w' := by
  have C := Lib.hid (trim_any h)
  have hv := nv_nd (nv l)
  have hk := nok_nd (nv l)
  have hb : BB ^ 2 = 18446744073709551616 := by decide
  have hl2 := nd_len 2 (nv l)
  rw [hb] at hl2
  clear h
  generalize nv l = n at *
  rcases Nat.lt_or_ge (nd n).length 3 with h3 | h3
  · have hlt : n < 18446744073709551616 := hl2.1 (by omega)
    have e1 : u64v n = n := if_pos hlt
    have e2 : u64ok n = true := decide_eq_true hlt
    rw [e1, e2]
    clear hl2 hb e1 e2
    rcases Nat.lt_or_ge (nd n).length 1 with h1 | h1
    · have h0 : (nd n).length = 0 := by omega
      obtain rfl : n = 0 := nd_len0.1 h0
      clear hv hk h3 h1 h0 hlt
      rw [nd_zero] at C
      go_enter Try.func52, Try.ntmps52
      go_wp2_with (go_at_call 63; refine C.out.mono ?_; rintro e w' ⟨⟨v', rfl, ⟨_, A', c', rfl, hc', hC'⟩, -⟩, rfl⟩)
      go_ret2
      exact ⟨rfl, Drawn0.refl _⟩
    · rcases Nat.lt_or_ge (nd n).length 2 with h2 | h2
      · obtain ⟨a, ha⟩ := list1 (show (nd n).length = 1 by omega)
        rw [ha] at C hv hk
        have ha0 := (Ok.cons_iff.1 hk).1
        have hb : ((BB : Nat) : Int) = 4294967296 := rfl
        rw [hb] at ha0
        have hva : (a.toNat : Nat) = n := by rw [← hv]; simp [nv, val_cons]
        obtain ⟨b, rfl⟩ := Int.eq_ofNat_of_zero_le ha0.1
        obtain rfl : b = n := by simpa using hva
        clear hv hk ha hva h1 h2 h3 hb
        go_enter Try.func52, Try.ntmps52
        go_wp2_with (go_at_call 63; refine C.out.mono ?_; rintro e w' ⟨⟨v', rfl, ⟨_, A', c', rfl, hc', hC'⟩, -⟩, rfl⟩; obtain ⟨ad, rfl, hcell⟩ := at_zero hC' (by simp); replace hcell : w.cell? ad = some (.int .u32 b) := hcell)
        go_ret2
        exact ⟨rfl, Drawn0.refl _⟩
      · obtain ⟨a, b, ha⟩ := list2 (show (nd n).length = 2 by omega)
        rw [ha] at C hv hk
        have ha0 := (Ok.cons_iff.1 hk).1
        have hb0 := (Ok.cons_iff.1 hk.tail).1
        have hb : ((BB : Nat) : Int) = 4294967296 := rfl
        rw [hb] at ha0 hb0
        obtain ⟨a, rfl⟩ := Int.eq_ofNat_of_zero_le ha0.1
        obtain ⟨b, rfl⟩ := Int.eq_ofNat_of_zero_le hb0.1
        have hva : a + 4294967296 * b = n := by rw [← hv]; simp [nv, val_cons, BB]
        have HJ := join32 a b (by omega) (by omega)
        rw [hva] at HJ
        clear hv hk ha hva h1 h2 h3 hb
        go_enter Try.func52, Try.ntmps52
        go_wp2_with (go_at_call 63; refine C.out.mono ?_; rintro e w' ⟨⟨v', rfl, ⟨_, A', c', rfl, hc', hC'⟩, -⟩, rfl⟩; obtain ⟨ad, hA, hcell⟩ := at_zero hC' (by simp); obtain ⟨ad2, hA2, hcell2⟩ := at_nat (i := 1) hC' (by simp); subst hA; injection hA2 with hA2; subst hA2; replace hcell : w.cell? ad = some (.int .u32 a) := hcell; replace hcell2 : w.cell? ⟨ad.block, ad.off + 1, none⟩ = some (.int .u32 b) := by simpa [Addr.add] using hcell2)
        go_quiet (fail)
        go_wp2
        go_ret2
        exact ⟨rfl, ⟨⟨_, rfl⟩⟩⟩
  · have hge : ¬ n < 18446744073709551616 := fun h => by have := hl2.2 h; omega
    have e1 : u64v n = 0 := if_neg hge
    have e2 : u64ok n = false := decide_eq_false hge
    rw [e1, e2]
    clear hl2 hb e1 e2 hge hv hk
    have t0 : (((nd n).length : Int) == 0) = false := by rw [beq_eq_false_iff_ne]; omega
    have t1 : (((nd n).length : Int) == 1) = false := by rw [beq_eq_false_iff_ne]; omega
    have t2 : (((nd n).length : Int) == 2) = false := by rw [beq_eq_false_iff_ne]; omega
    go_enter Try.func52, Try.ntmps52
    go_wp2_with (go_at_call 63; refine C.out.mono ?_; rintro e w' ⟨⟨v', rfl, ⟨_, A', c', rfl, hc', hC'⟩, -⟩, rfl⟩)
    go_ret2
    exact ⟨rfl, Drawn0.refl _⟩
end Go.Proofs.Ythadkjekagfjfaa.N
