/- natural.trim, IsZero, Uint64 and Of as walks: what each call returns for a slice of digits, nil or not, wherever it lies; memory is left as it was. Condition: the slice reads as a list of digits. -/
import Derived.Test.YthadkjekagfjfaaN0
namespace Go.Proofs.Ythadkjekagfjfaa.N
open Go.RowKit Go.Proofs.Ythadkjekagfjfaa.Dig Go.Proofs.YthadkjekagfjfaaW.PrintWords Go.Proofs.YthadkjekagfjfaaW.PrintLast Go.Proofs.YthadkjekagfjfaaW.PrintMore
set_option linter.unusedVariables false

/-- What trim hands back. -/
def Tr (A : Option Addr) (c : Nat) (l : List Int) (e : Ending) : Prop :=
  ∃ A' c', e = .returned (.slice A' (trimL l).length c') ∧ (trimL l).length ≤ c' ∧ ((A' = A ∧ c' = c) ∨ (A' = none ∧ c' = 0 ∧ trimL l = []))

theorem Tr.reads {w : World} {k : IntKind} {A : Option Addr} {c : Nat} {l : List Int} {e : Ending} (h : Tr A c l e) (hC : Kd.C (Kd.int k) w A l.length l) :
    ∃ A' c', e = .returned (.slice A' (trimL l).length c') ∧ (trimL l).length ≤ c' ∧ Kd.C (Kd.int k) w A' (trimL l).length (trimL l) := by
  obtain ⟨A', c', he, hc, ⟨rfl, rfl⟩ | ⟨rfl, rfl, h0⟩⟩ := h
  · refine ⟨A', c', he, hc, ?_⟩
    have := Kd.C_take hC (trimL_le l)
    rwa [← trimL_take l] at this
  · refine ⟨none, 0, he, hc, ?_⟩
    rw [h0]; exact Kd.C_nil _ _

set_option maxHeartbeats 400000 in
theorem trim_tr (A : Option Addr) (c : Nat) (l : List Int) (w : World) (hC : Kd.C (Kd.int .u32) w A l.length l) (hc : l.length ≤ c) :
    Calls Try.prog 63 #[.slice A l.length c] w fun e w' => Tr A c l e ∧ w = w' := by
  have hmax := Kd.C_max hC
  obtain ⟨n, hn⟩ : ∃ n, n = l.length := ⟨_, rfl⟩
  have HC := Lib.hid hC
  obtain ⟨i0, hi, hz0, hz1, hz2⟩ := info_parts infoU
  have HI := Lib.hid hi
  rw [← hn] at hmax hc ⊢
  have HN := Lib.hid hn
  clear hC hn hi hz0 hz1 hz2
  go_enter Try.func63, Try.ntmps63
  go_wp2
  go_loop [3] (fun v => ∃ k : Nat, k ≤ n ∧ v = .int .i64 k ∧ Hid (∀ j, k ≤ j → l.getD j 0 = 0)) (fun v => (intOf v).toNat)
  case atStart => exact ⟨n, Nat.le_refl _, rfl, Lib.hid fun j hj => by rw [List.getD_eq_getElem?_getD, List.getElem?_eq_none (by have := HN.out; omega)]; rfl⟩
  case round =>
    obtain ⟨k, hk, rfl, HZ⟩ := hrel
    cases k with
    | zero =>
      go_wp2
      go_ret
      have ht : (trimL l).length = 0 := trimL_len l 0 (by omega) HZ.out (.inl rfl)
      exact ⟨⟨none, 0, by rw [ht]; rfl, by omega, .inr ⟨rfl, rfl, List.length_eq_zero_iff.1 ht⟩⟩, rfl⟩
    | succ i =>
      have hin : i < n := by omega
      obtain ⟨ad, hA, hcell⟩ := at_nat HC.out (i := i) (by have := HN.out; omega)
      obtain ⟨d, hd⟩ : ∃ d, d = l.getD i 0 := ⟨_, rfl⟩
      rw [← hd] at hcell
      have HD := Lib.hid hd
      subst hA
      clear hd
      by_cases h0 : d = 0
      · have h0b : (d == 0) = true := by simp [h0]
        have H0 := Lib.hid h0
        clear h0
        go_wp2
        go_round
        case rel =>
          refine ⟨i, by omega, by go_num, Lib.hid fun j hj => ?_⟩
          rcases Nat.eq_or_lt_of_le hj with e | e
          · rw [← e, ← HD.out, H0.out]
          · exact HZ.out j (by omega)
        case measure => simp [intOf]
      · have h0b : (d == 0) = false := by simp [h0]
        have H0 := Lib.hid h0
        clear h0
        have hcut := cut_to (P := Try.prog) 23 59 .i64 Try.underlying23 HI.out (some ad) n c ((i : Int) + 1) (by omega) (by omega) hc
        go_wp2
        go_ret
        have ht : (trimL l).length = i + 1 := trimL_len l (i + 1) (by have := HN.out; omega) HZ.out (.inr (by rw [Nat.add_sub_cancel, ← HD.out]; exact H0.out))
        exact ⟨⟨some ad, c, by rw [ht]; rfl, by omega, .inl ⟨rfl, rfl⟩⟩, rfl⟩

/-- trim, as its callers use it: the digits of the number; a row of the call's own stays one. -/
theorem trim_any {v : Value} {l : List Int} {w : World} (h : Rd w v l) :
    Calls Try.prog 63 #[v] w fun e w' => (∃ v', e = .returned v' ∧ Rd w v' (nd (nv l)) ∧ ∀ B, Own w B v l → Own w B v' (nd (nv l))) ∧ w = w' := by
  obtain ⟨ho, A, c, rfl, hc, hC⟩ := h
  refine (trim_tr A c l w hC hc).mono fun e w' ⟨ht, hw⟩ => ⟨?_, hw⟩
  have hl : trimL l = nd (nv l) := trimL_eq BB2 ho
  obtain ⟨A', c', he, hc', hr⟩ := ht.reads hC
  refine ⟨_, he, ⟨nok_nd _, A', c', by rw [hl], by rw [← hl]; exact hc', by rw [← hl]; exact hr⟩, fun B hB => ⟨nok_nd _, ?_⟩⟩
  obtain ⟨A2, c2, he2, _, hx⟩ := ht
  rw [he] at he2
  injection he2 with he2
  injection he2 with e1 _ e2
  subst e1 e2
  rcases hx with ⟨rfl, rfl⟩ | ⟨rfl, rfl, h0⟩
  · have := Kd.R_take (m := (trimL l).length) hB.2 (trimL_le l)
    rw [← trimL_take l] at this
    rw [← hl]
    exact this
  · rw [← hl, h0]; exact Kd.R_nil _ _ _ _ _
end Go.Proofs.Ythadkjekagfjfaa.N
