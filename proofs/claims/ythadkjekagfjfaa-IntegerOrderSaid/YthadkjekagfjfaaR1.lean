/- cylinderref01.Trim and Of as walks: the bits of a number in a slice of ints. Conditions: the bits are 0 or 1; the slices are shorter than 2^35. -/
import Derived.Test.YthadkjekagfjfaaR0
namespace Go.Proofs.Ythadkjekagfjfaa.N
open Go.RowKit Go.Proofs.Ythadkjekagfjfaa.Dig Go.Proofs.YthadkjekagfjfaaW.PrintWords Go.Proofs.YthadkjekagfjfaaW.PrintLast Go.Proofs.YthadkjekagfjfaaW.PrintMore
set_option linter.unusedVariables false

set_option maxHeartbeats 400000 in
theorem trimI_any {v : Value} {l : List Int} {w : World} (h : RdI w v l) (ho : Ok 2 l) :
    Calls Try.prog 43 #[v] w fun e w' => (∃ v', e = .returned v' ∧ Bt w v' (val 2 l)) ∧ w = w' := by
  obtain ⟨A, c, rfl, hc, hC⟩ := h
  have hmax := Kd.C_max hC
  obtain ⟨n, hn⟩ : ∃ n, n = l.length := ⟨_, rfl⟩
  have HC := Lib.hid hC
  have HL := Lib.hid (trimL_eq two2 ho)
  obtain ⟨i0, hi, hz0, hz1, hz2⟩ := info_parts infoI
  have HI := Lib.hid hi
  have fin : ∀ k, k ≤ l.length → (trimL l).length = k → ∀ c', k ≤ c' → ∀ A', (A' = A ∨ k = 0 ∧ A' = none) → Bt w (.slice A' k c') (val 2 l) := fun k hk hkt c' hcc A' hA' => by
    have e1 : bt (val 2 l) = l.take k := by rw [← hkt, ← trimL_take, trimL_eq two2 ho]; rfl
    refine ⟨A', c', by rw [e1, List.length_take, Nat.min_eq_left hk], by rw [e1, List.length_take, Nat.min_eq_left hk]; exact hcc, ?_⟩
    rw [e1]
    rcases hA' with rfl | ⟨rfl, rfl⟩
    · have := Kd.C_take hC (m := k) hk
      exact this
    · exact Kd.C_nil _ _
  have HF := Lib.hid fin
  rw [← hn] at hmax hc ⊢
  have HN := Lib.hid hn
  clear hC hn hi hz0 hz1 hz2 fin
  go_enter Try.func43, Try.ntmps43
  go_wp2
  go_loop [3] (fun v => ∃ k : Nat, k ≤ n ∧ v = .int .i64 k ∧ Hid (∀ j, k ≤ j → l.getD j 0 = 0)) (fun v => (intOf v).toNat)
  case atStart => exact ⟨n, Nat.le_refl _, rfl, Lib.hid fun j hj => by rw [List.getD_eq_getElem?_getD, List.getElem?_eq_none (by have := HN.out; omega)]; rfl⟩
  case round =>
    obtain ⟨k, hk, rfl, HZ⟩ := hrel
    cases k with
    | zero =>
      go_wp2
      go_ret
      have ht : (trimL l).length = 0 := trimL_len l 0 (by omega) HZ.out (.inl rfl)
      exact ⟨⟨_, rfl, HF.out 0 (by omega) ht c (by omega) A (.inl rfl)⟩, rfl⟩
    | succ i =>
      have hin : i < n := by omega
      obtain ⟨ad, hA, hcell⟩ := at_nat HC.out (i := i) (by have := HN.out; omega)
      obtain ⟨d, hd⟩ : ∃ d, d = l.getD i 0 := ⟨_, rfl⟩
      rw [← hd] at hcell
      have HD := Lib.hid hd
      subst hA
      clear hd
      by_cases h0 : d = 0
      · have h0b : (d == 0) = true := by simp [h0]
        have H0 := Lib.hid h0
        clear h0
        go_wp2
        go_round
        case rel =>
          refine ⟨i, by omega, by go_num, Lib.hid fun j hj => ?_⟩
          rcases Nat.eq_or_lt_of_le hj with e | e
          · rw [← e, ← HD.out, H0.out]
          · exact HZ.out j (by omega)
        case measure => simp [intOf]
      · have h0b : (d == 0) = false := by simp [h0]
        have H0 := Lib.hid h0
        clear h0
        have hcut := cut_to (P := Try.prog) 28 3 .i64 Try.underlying28 HI.out (some ad) n c ((i : Int) + 1) (by omega) (by omega) hc
        go_wp2
        go_ret
        have ht : (trimL l).length = i + 1 := trimL_len l (i + 1) (by have := HN.out; omega) HZ.out (.inr (by rw [Nat.add_sub_cancel, ← HD.out]; exact H0.out))
        exact ⟨⟨_, rfl, HF.out (i + 1) (by have := HN.out; omega) ht c (by omega) (some ad) (.inl rfl)⟩, rfl⟩

/-- One more int at the end of a slice of the call's own: the pieces that the law of append asks for. -/
theorem reads_new1 (w : World) (x : Int) : App.Reads (w.alloc (.cells #[.int .i64 x] 3)) (w.alloc (.cells #[.int .i64 x] 3)).heap.size 1 (some ⟨w.heap.size, 0, none⟩) 1 (encs (Value.int .i64) [x]) := by
  refine ⟨rfl, fun _ => ⟨_, rfl, by simp, fun j u hu => ?_⟩⟩
  match j, hu with
  | 0, hu =>
    simp [encs] at hu
    subst hu
    rw [add_plain]
    simp [World.cell?_alloc_at]
theorem OwnI.snoc {w : World} {B : Nat} {v : Value} {l : List Int} {x : Int} {n : Nat} (hl : l.length = n) (h : w.ownsRow B 3 1 v (n + 1) (encs (Value.int .i64) l ++ encs (Value.int .i64) [x])) : OwnI w B v (l ++ [x]) := by
  unfold OwnI
  rw [List.length_append, hl]
  simpa [encs] using h
theorem OwnI.row {w : World} {B : Nat} {v : Value} {l : List Int} {n : Nat} (hl : l.length = n) (h : OwnI w B v l) : w.ownsRow B 3 1 v n (encs (Value.int .i64) l) := hl ▸ h
theorem OwnI.alloc {w : World} {B : Nat} {v : Value} {l : List Int} (h : OwnI w B v l) (o : Obj) : OwnI (w.alloc o) B v l := by
  refine own_move h fun k hk => ?_
  have := own_lt h k hk
  exact Below.heap_alloc w o k this

set_option maxHeartbeats 400000 in
theorem ofI_any {v : Value} {l : List Int} {w : World} (h : Rd w v l) (hl : l.length ≤ 1073741824) :
    Calls Try.prog 61 #[v] w (MadeB w (nv l)) := by
  obtain ⟨ho, A, c, rfl, hc, hC⟩ := h
  obtain ⟨k, hk⟩ : ∃ k, k = l.length := ⟨_, rfl⟩
  have HC := Lib.hid hC
  have HK := Lib.hid hk
  have HO := Lib.hid ho
  rw [← hk] at hc hl ⊢
  obtain ⟨i0, hi0, hz0, hz1, hz2⟩ := info_parts infoI
  have HI := Lib.hid (And.intro hi0 (And.intro hz0 (And.intro hz1 hz2)))
  clear hC hk ho hi0 hz0 hz1 hz2
  generalize hN : nv l = N at *
  have HN := Lib.hid hN
  clear hN
  have hlt : N < 2 ^ (32 * k) := by rw [← HN.out, ← BB_pow, HK.out]; exact nv_lt HO.out
  have HLT := Lib.hid hlt
  clear hlt
  go_enter Try.func61, Try.ntmps61
  go_wp2
  go_loopw [3, 4] (fun out i wr => ∃ t : Nat, i = .int .i64 t ∧ t ≤ 32 * k ∧ Hid (OwnI wr w.heap.size out (lo 2 N t)) ∧ Hid (Below w.heap.size w wr)) (fun _ i _ => 32 * k - (intOf i).toNat)
  case atStart => exact ⟨0, rfl, by omega, Lib.hid (OwnI.nil _ _), Lib.hid (Below.refl _ _)⟩
  case round =>
    obtain ⟨t, rfl, ht, HR, HW⟩ := hrel
    by_cases htk : t < 32 * k
    · obtain ⟨q, s, hts, hs⟩ : ∃ q s : Nat, t = 32 * q + s ∧ s < 32 := ⟨t / 32, t % 32, by omega, by omega⟩
      have e3 : ((t : Int) / 32) = (q : Int) := by omega
      have e4 : ((t : Int) % 32) = (s : Int) := by omega
      obtain ⟨ad, hA, hcell⟩ := at_nat (Kd.C_below HC.out HW.out) (i := q) (by have := HK.out; omega)
      subst hA
      obtain ⟨dd, hdd⟩ : ∃ dd, dd = l.getD q 0 := ⟨_, rfl⟩
      have hdr := HO.out.at_ q
      rw [← hdd] at hcell hdr
      obtain ⟨d, rfl⟩ := Int.eq_ofNat_of_zero_le hdr.1
      have hd : d < 4294967296 := by omega
      have hdig := bit_digit hs (digit_val HO.out (by have := HK.out; omega) hdd)
      rw [← hts, HN.out] at hdig
      obtain ⟨e, he⟩ : ∃ e, e = N / 2 ^ t % 2 := ⟨_, rfl⟩
      rw [← he] at hdig
      have he1 : e ≤ 1 := by omega
      have hx : wrap64 (((d : Int) / 2 ^ s).tmod 2) = (e : Int) := by
        have e6 : (d : Int) / 2 ^ s = ((d / 2 ^ s : Nat) : Int) := by rw [Int.natCast_ediv, Int.natCast_pow]; rfl
        rw [e6, hdig]
        generalize d / 2 ^ s = z
        rw [Int.tmod_eq_emod_of_nonneg (by omega)]
        unfold wrap64
        omega
      have HE := Lib.hid he
      have HX := Lib.hid hx
      clear hdig he hdd hdr hts hx
      go_wp2_with (at_builtin; refine App.wpList_append_any _ rfl _ _ _ rfl w.heap.size 3 i0 (.int .i64 0) 1 8 Try.underlying28 HI.out.1 HI.out.2.1 HI.out.2.2.1 HI.out.2.2.2 rfl (by omega) _ t (encs (Value.int .i64) (lo 2 N t)) rfl (OwnI.row (lo_len 2 N t) (HR.out.alloc _)) _ (some ⟨wr.heap.size, 0, none⟩) 1 1 (encs (Value.int .i64) [_]) rfl (reads_new1 wr _) ?a1 ?a2 ?a3 ?a4 ?_)
      case a1 => intro u hu; simp [encs] at hu; subst hu; rfl
      case a2 => unfold maxLen; omega
      case a3 => omega
      case a4 => have := HW.out.size; simp; omega
      intro v' w1 hown hg hat
      rw [HX.out] at hown
      have HR3 := Lib.hid (OwnI.snoc (lo_len 2 N t) hown)
      have HW3 := Lib.hid ((below_alloc HW.out _).grown hg (by have := HW.out.size; simp; omega) (fun k hk => own_base HR.out k hk))
      clear hown hg hat
      go_wp2
      go_roundw
      case rel => exact ⟨t + 1, by go_num, by omega, by rw [lo, ← HE.out]; exact HR3, HW3⟩
      case measure => simp [intOf]; omega
    · obtain rfl : t = 32 * k := by omega
      have HT := Lib.hid (trimI_any HR.out.rd (lo_ok 2 N (by decide) _))
      rw [lo_full HLT.out] at HT
      go_wp2_with fail
      refine HT.out.mono ?_
      rintro e w' ⟨⟨v', rfl, hv'⟩, rfl⟩
      have HV := Lib.hid hv'
      clear hv'
      go_wp2
      go_ret
      exact ⟨_, rfl, HV.out, HW.out⟩
end Go.Proofs.Ythadkjekagfjfaa.N
