/- natural.Shl as a walk: the digits of a * 2^n in a new slice, n negative counting as 0 and above 2^24 as 2^24; nothing for 0. Condition: the slice reads as fewer than 2^43 digits. -/
import Derived.Test.YthadkjekagfjfaaNum
import Derived.Laws.CopyOwn
namespace Go.Proofs.Ythadkjekagfjfaa.N
open Go.RowKit Go.Proofs.Ythadkjekagfjfaa.Dig Go.Proofs.YthadkjekagfjfaaW.PrintWords Go.Proofs.YthadkjekagfjfaaW.PrintLast Go.Proofs.YthadkjekagfjfaaW.PrintMore
attribute [local go_sem] max2_int min2_int
set_option linter.unusedVariables false

/-- The number of places. -/
def shc (n : Int) : Nat := if n < 0 then 0 else if 16777216 < n then 16777216 else n.toNat
theorem shc_le (n : Int) : shc n ≤ 16777216 := by unfold shc; split <;> (try split) <;> omega

/-- What is known after the digits below i have been shifted by s places, low being what goes over. -/
def SL (o0 o : List Int) (s i : Nat) (low : Int) : Prop :=
  NOk o ∧ o.length = o0.length ∧ nv (o.take i) + BB ^ i * low.toNat = nv (o0.take i) * 2 ^ s ∧ low.toNat < 2 ^ s ∧ ∀ t, i ≤ t → o.getD t 0 = o0.getD t 0

theorem sl_digit {x low s : Nat} (hs : s ≤ 32) (hx : x < 4294967296) (hl : low < 2 ^ s) : x * 2 ^ s % 4294967296 ||| low = x * 2 ^ s % 4294967296 + low ∧ x * 2 ^ s % 4294967296 + low < 4294967296 ∧ x * 2 ^ s / 4294967296 = x / 2 ^ (32 - s) ∧ x / 2 ^ (32 - s) < 2 ^ s := by
  have e : (4294967296 : Nat) = 2 ^ (32 - s) * 2 ^ s := by rw [← Nat.pow_add, Nat.sub_add_cancel hs]
  have h1 : x * 2 ^ s % 4294967296 = x % 2 ^ (32 - s) * 2 ^ s := by rw [e, Nat.mul_mod_mul_right]
  have hp : 0 < 2 ^ s := Nat.pow_pos (by decide)
  have h2 := Nat.mod_lt x (Nat.pow_pos (n := 32 - s) (by decide : 0 < 2))
  refine ⟨nat_join s _ _ (by rw [h1, Nat.mul_mod_left]) hl, ?_, ?_, ?_⟩
  · rw [h1]
    have : (x % 2 ^ (32 - s) + 1) * 2 ^ s ≤ 2 ^ (32 - s) * 2 ^ s := Nat.mul_le_mul_right _ h2
    rw [← e, Nat.add_mul] at this
    omega
  · rw [e, Nat.mul_div_mul_right _ _ hp]
  · rw [Nat.div_lt_iff_lt_mul (Nat.pow_pos (by decide)), Nat.mul_comm, ← e]; exact hx

theorem sl_bits {d z s : Nat} (hs : s ≤ 32) (hd : d < 4294967296) (hz : z < 4294967296) (hl : z < 2 ^ s) : bits .or .u32 ((d : Int) * 2 ^ s % 4294967296) (z : Int) = ((d * 2 ^ s % 4294967296 + z : Nat) : Int) := by
  have e := u32_or_nat (d * 2 ^ s % 4294967296) z (Nat.mod_lt _ (by decide)) hz
  rw [(sl_digit hs hd hl).1] at e
  rw [← e]
  congr 1

theorem SL.start {o : List Int} {i s : Nat} (ho : NOk o) (h0 : nv (o.take i) = 0) : SL o o s i 0 := ⟨ho, rfl, by rw [h0]; simp, Nat.pow_pos (by decide), fun _ _ => rfl⟩
theorem SL.step {o0 o : List Int} {s i : Nat} {low x : Int} (h : SL o0 o s i low) (hs : s ≤ 32) (hi : i < o0.length) (hx : x = o.getD i 0) (hlow : 0 ≤ low) :
    SL o0 (o.set i ((x.toNat * 2 ^ s % 4294967296 + low.toNat : Nat) : Int)) s (i + 1) ((x.toNat / 2 ^ (32 - s) : Nat) : Int) := by
  obtain ⟨ho, hl, hv, hlt, hz⟩ := h
  have hxr := ho.at_ i
  rw [← hx] at hxr
  obtain ⟨x, rfl⟩ := Int.eq_ofNat_of_zero_le hxr.1
  obtain ⟨low, rfl⟩ := Int.eq_ofNat_of_zero_le hlow
  simp only [Int.toNat_natCast] at *
  obtain ⟨d1, d2, d3, d4⟩ := sl_digit hs (by omega : x < 4294967296) hlt
  refine ⟨ho.set_ i (by omega) (by omega), by simpa using hl, ?_, d4, fun t ht => ?_⟩
  · rw [nv_set_take _ _ _ (by omega), nv_take_any o0, ← hz _ (Nat.le_refl _), ← hx, Nat.add_mul, ← hv, Nat.pow_succ, ← d3]
    simp only [Int.toNat_natCast]
    have hdm := Nat.div_add_mod (x * 2 ^ s) 4294967296
    generalize x * 2 ^ s / 4294967296 = q at *
    generalize hr : x * 2 ^ s % 4294967296 = r at *
    rw [Nat.mul_assoc (BB ^ i) x, ← hdm, Nat.mul_add, Nat.mul_add, BB_eq, Nat.mul_assoc]
    omega
  · rw [List.getD_eq_getElem?_getD, List.getElem?_set_ne (by omega), ← List.getD_eq_getElem?_getD]
    exact hz t (by omega)
theorem SL.stop {o0 o : List Int} {s : Nat} {low : Int} (h : SL o0 o s o0.length low) (hs : s ≤ 32) (hlow : 0 ≤ low) (h0 : NOk o0) (hlast : nv o0 < BB ^ (o0.length - 1)) (hpos : 0 < o0.length) : nv o = nv o0 * 2 ^ s := by
  obtain ⟨ho, hl, hv, _, _⟩ := h
  rw [List.take_length, List.take_of_length_le (by omega)] at hv
  have h1 : nv o0 * 2 ^ s < BB ^ o0.length := by
    have e : BB ^ o0.length = BB ^ (o0.length - 1) * BB := by rw [← Nat.pow_succ]; congr 1; omega
    have h2 : 2 ^ s ≤ BB := by rw [BB_eq]; exact Nat.pow_le_pow_right (by decide) hs
    rw [e]
    exact Nat.lt_of_lt_of_le (Nat.mul_lt_mul_of_pos_right hlast (Nat.pow_pos (by decide))) (Nat.mul_le_mul_left _ h2)
  rcases Nat.eq_zero_or_pos low.toNat with h3 | h3
  · rw [h3] at hv; simpa using hv
  · have : BB ^ o0.length * 1 ≤ BB ^ o0.length * low.toNat := Nat.mul_le_mul_left _ h3
    omega

theorem splice_arr (L c k : Nat) (x : List Int) (hk : k = x.length) (h : L = c + k + 1) : splice (encs (Value.int .u32) (List.replicate L 0)) c (encs (Value.int .u32) x) = encs (Value.int .u32) (List.replicate c 0 ++ x ++ [0]) := by
  subst h hk
  unfold splice encs
  rw [← List.map_take, ← List.map_drop, ← List.map_append, ← List.map_append, List.take_replicate, List.drop_replicate, Nat.min_eq_left (by omega), List.length_map]
  simp

set_option maxHeartbeats 2000000 in
theorem shl_any {v : Value} {l : List Int} {w : World} (h : Rd w v l) (hl : l.length ≤ 8796093022208) (n : Int) :
    Calls Try.prog 48 #[v, .int .i64 n] w (Made w (nv l * 2 ^ shc n)) := by
  have HT := Lib.hid (trim_any h)
  have hn := nd_len_le h.ok
  have hk := nok_nd (nv l)
  have hv := nv_nd (nv l)
  clear h
  generalize nv l = a at *
  by_cases h0 : a = 0
  · subst h0
    rw [nd_zero] at HT
    clear hn hk hv hl
    go_enter Try.func48, Try.ntmps48
    go_wp2_with fail
    refine HT.out.mono ?_
    rintro e w' ⟨⟨v', rfl, ⟨_, A', c', rfl, hc', hC'⟩, -⟩, rfl⟩
    go_wp2
    go_ret
    exact ⟨_, rfl, by rw [Nat.zero_mul]; exact Own.nil _ _, Below.refl _ _⟩
  · have hp : (nd a).length ≠ 0 := fun h => h0 (nd_len0.1 h)
    clear h0
    generalize nd a = x at *
    have HK := Lib.hid hk
    have HV := Lib.hid hv
    obtain ⟨k, hx⟩ : ∃ k, k = x.length := ⟨_, rfl⟩
    have hkl : k ≤ 8796093022208 := by omega
    have hk0 : ((k : Int) == 0) = false := by rw [beq_eq_false_iff_ne]; omega
    have hkp : 0 < k := by omega
    have HX := Lib.hid hx
    have hsl := shc_le n
    obtain ⟨m0, e1, e2⟩ : ∃ m0 : Int, (if n < 0 then 0 else n) = m0 ∧ (if 16777216 < m0 then 16777216 else m0) = ((shc n : Nat) : Int) := ⟨_, rfl, by unfold shc; split <;> split <;> (try split) <;> omega⟩
    generalize hsc : shc n = sc at *
    obtain ⟨c, s, hc, hs, hs2⟩ : ∃ c s : Nat, sc = 32 * c + s ∧ s < 32 ∧ c ≤ 524288 := ⟨sc / 32, sc % 32, by omega, by omega, by omega⟩
    have e3 : ((sc : Int) / 32) = (c : Int) := by omega
    have e4 : ((sc : Int) % 32) = (s : Int) := by omega
    have HC0 := Lib.hid hc
    have HSC := Lib.hid hsc
    clear hk hv hx hn hl hp hc hsc
    have hmk := make_arr 23 Try.underlying23 (c + k + 1) (by omega)
    rw [show (((c + k + 1 : Nat)) : Int) = (c : Int) + k + 1 from by omega] at hmk
    have hcut0 := cut_from (P := Try.prog) 23 59 .i64 (i := (info_parts infoU).choose) Try.underlying23 (info_parts infoU).choose_spec.1 1 (info_parts infoU).choose_spec.2.2.1 (some ⟨w.heap.size, 0, none⟩) (c + k + 1) (c + k + 1) c (by omega) (by omega)
    have hcut : ∀ W : World, (Instr.slice 23 (.slice (some ⟨w.heap.size, 0, none⟩) (c + k + 1) (c + k + 1)) (some (.int .i64 c)) none none).run Try.prog W = .ok (.slice (some ⟨w.heap.size, c, none⟩) (k + 1) (k + 1)) W := by
      intro W
      rw [hcut0 W, if_neg (by omega), Int.toNat_natCast, show c + k + 1 - c = k + 1 from by omega, Option.map_some, Nat.mul_one, add_plain]
    clear hcut0
    go_enter Try.func48, Try.ntmps48
    go_wp2_with fail
    refine HT.out.mono ?_
    rintro e w' ⟨⟨v', rfl, ⟨_, A', c', rfl, hc', hC'⟩, -⟩, rfl⟩
    have HC := Lib.hid hC'
    rw [← HX.out]
    clear hC' hc'
    have HB0 := Lib.hid (Blk.new w (List.replicate (c + k + 1) 0))
    have HW0 := Lib.hid ((Below.refl w.heap.size w).alloc (Nat.le_refl _) (.cells (arr (List.replicate (c + k + 1) 0)) 59))
    have HB1 := Lib.hid (show (w.alloc (.cells (arr (List.replicate (c + k + 1) 0)) 59)).heap[w.heap.size]? = some (.cells (encs (Value.int .u32) (List.replicate (c + k + 1) 0)).toArray 59 (0, 0)) from HB0.out)
    have hsz : (Try.prog.info? 59).map (·.size) = some 1 := by kernel_rfl
    have HS := Lib.hid hsz
    clear hsz
    go_wp2_with (with_reducible refine wpList_copy_splice (o := ⟨some 33, _, _, _, _, _⟩) rfl (.tmp 31) (.tmp 32) 23 23 rfl 59 Try.underlying23 HS.out (some ⟨w.heap.size, c, none⟩) A' (k + 1) (k + 1) k c' rfl rfl w.heap.size c (encs (Value.int .u32) (List.replicate (c + k + 1) 0)) 59 HB1.out (encs (Value.int .u32) x) ?a1 ?a2 ?a3 ?a4 w.heap.size w HW0.out (Nat.le_refl _) ?_)
    case a1 => simp [encs, HX.out]
    case a2 =>
      intro hpos
      obtain ⟨ad, e, _⟩ := at_nat HC.out (i := 0) (by have := HX.out; omega)
      have H : ∀ (j : Nat) (v : Value), (encs (Value.int .u32) x)[j]? = some v → (w.alloc (.cells (arr (List.replicate (c + k + 1) 0)) 59)).cell? (ad.add j) = some v := by
        intro j v hj
        have hj' : j < x.length := by have := (List.getElem?_eq_some_iff.1 hj).1; simpa [encs] using this
        obtain ⟨ad3, e3, hc⟩ := at_nat (Kd.C_below HC.out HW0.out) hj'
        rw [e] at e3
        injection e3 with e3
        subst e3
        rw [hc]
        simp [encs, hj'] at hj
        simp [hj', hj]
      first | exact ⟨rfl, ad, e, H⟩ | exact ⟨ad, e, H⟩
    case a3 => simp [encs]; have := HX.out; omega
    case a4 => intro v hv; simp [encs] at hv; obtain ⟨_, _, rfl⟩ := hv; rfl
    intro w2 HG HW2
    rw [splice_arr (c + k + 1) c k x HX.out rfl] at HG
    have HB2 := Lib.hid (show Blk w2 w.heap.size (List.replicate c 0 ++ x ++ [0]) from HG.out)
    have HW3 := Lib.hid HW2
    clear HG HB0 HB1 HW0 HW2 hmk hcut
    obtain ⟨o0, ho0⟩ : ∃ o0, o0 = List.replicate c 0 ++ x ++ [0] := ⟨_, rfl⟩
    have hol : o0.length = c + k + 1 := by rw [ho0, HX.out]; simp; omega
    have hnok : NOk o0 := by rw [ho0]; exact ((nok_zeros c).append HK.out).append (nok_zeros 1)
    have hval : nv o0 = BB ^ c * a := by
      rw [ho0, ← HV.out]
      unfold nv
      rw [val_append, val_append, val_zeros]
      simp [val_cons]
    have hlast : nv o0 < BB ^ (o0.length - 1) := by
      rw [hol, Nat.add_sub_cancel, hval, Nat.pow_add]
      refine Nat.mul_lt_mul_of_pos_left ?_ (Nat.pow_pos (by decide))
      rw [← HV.out, HX.out]
      exact nv_lt HK.out
    have htake : nv (o0.take c) = 0 := by
      rw [ho0, List.append_assoc, List.take_left' (by simp)]
      exact val_zeros _ _
    rw [← ho0] at HB2
    have hfin : nv o0 * 2 ^ s = a * 2 ^ sc := by
      rw [hval, HC0.out, Nat.pow_add, Nat.pow_mul, Nat.mul_comm (BB ^ c), Nat.mul_assoc]
      rfl
    have HL := Lib.hid hol
    have HN := Lib.hid hnok
    have HLast := Lib.hid hlast
    have HTake := Lib.hid htake
    have HFin := Lib.hid hfin
    clear ho0 hol hnok hval hlast htake hfin
    by_cases hs0 : s = 0
    · subst hs0
      have s1 := HFin.out
      rw [Nat.pow_zero, Nat.mul_one] at s1
      have HO := Lib.hid (HB2.out.own (Nat.le_refl _) (c + k + 1) (by have := HL.out; omega) (by have := HL.out; unfold maxLen; omega) (HN.out.take _))
      rw [List.take_of_length_le (by have := HL.out; omega), HL.out] at HO
      have HT3 := Lib.hid (trim_any HO.out.rd)
      rw [s1] at HT3
      clear s1
      go_wp2_with (go_at_call 63; refine HT3.out.mono ?_; rintro e w' ⟨⟨v2, rfl, -, hown⟩, rfl⟩; have HQ := Lib.hid (hown _ HO.out); clear hown)
      go_ret
      exact ⟨_, rfl, HQ.out, HW3.out⟩
    · have hs1 : (0 : Int) < s := by omega
      go_wp2
      go_loopw [8, 9] (fun lw i wr => ∃ (z t : Nat) (o : List Int), lw = .int .u32 z ∧ i = .int .i64 t ∧ c ≤ t ∧ t ≤ c + k + 1 ∧ z < 4294967296 ∧ Hid (SL o0 o s t z) ∧ Hid (Blk wr w.heap.size o) ∧ Hid (Below w.heap.size w wr)) (fun _ i _ => c + k + 1 - (intOf i).toNat)
      case atStart => exact ⟨0, c, o0, rfl, rfl, Nat.le_refl _, by omega, by omega, Lib.hid (SL.start HN.out HTake.out), HB2, HW3⟩
      case round =>
        clear HT HTake HB2 HW3
        obtain ⟨z, t, o, rfl, rfl, hct, htl, hz, HM, HB, HW⟩ := hrel
        have HLo := Lib.hid (HM.out.2.1)
        by_cases ht : t < c + k + 1
        · have hcell := HB.out.cell t (by have := HL.out; have := HLo.out; omega)
          have hdr := HM.out.1.at_ t
          obtain ⟨dd, hdd⟩ : ∃ dd, dd = o.getD t 0 := ⟨_, rfl⟩
          rw [← hdd] at hcell hdr
          obtain ⟨d, rfl⟩ := Int.eq_ofNat_of_zero_le hdr.1
          have hd : d < 4294967296 := by omega
          have HD := Lib.hid hdd
          have hfz := HB.out.frozen t
          clear hdd hdr
          have HBits := Lib.hid (sl_bits (by omega : s ≤ 32) hd hz (by have := HM.out.2.2.2.1; simpa using this))
          have HStep := Lib.hid (HM.out.step (by omega) (by have := HL.out; omega) HD.out (by omega))
          go_wp2
          go_roundw
          case rel =>
            refine ⟨d / 2 ^ (32 - s), t + 1, _, ?_, by go_num, by omega, by omega, ?_, HStep, ?_, ?_⟩
            · rw [Int.natCast_ediv, Int.natCast_pow]; rfl
            · exact Nat.lt_of_le_of_lt (Nat.div_le_self _ _) hd
            · rw [HBits.out]; exact Lib.hid (HB.out.set_ t _)
            · exact Lib.hid (HW.out.setCell (p := ⟨w.heap.size, t, none⟩) (Nat.le_refl _) _)
          case measure => simp [intOf]; omega
        · obtain rfl : t = c + k + 1 := by omega
          have hm2 := HM.out
          rw [← HL.out] at hm2
          have s1 := hm2.stop (by omega) (by omega) HN.out HLast.out (by have := HL.out; omega)
          rw [HFin.out] at s1
          have HO := Lib.hid (HB.out.own (Nat.le_refl _) (c + k + 1) (by have := HLo.out; have := HL.out; omega) (by have := HLo.out; have := HL.out; unfold maxLen; omega) (HM.out.1.take _))
          rw [List.take_of_length_le (by have := HLo.out; have := HL.out; omega), HLo.out, HL.out] at HO
          have HT3 := Lib.hid (trim_any HO.out.rd)
          rw [s1] at HT3
          clear s1 hm2
          go_wp2_with (go_at_call 63; refine HT3.out.mono ?_; rintro e w' ⟨⟨v2, rfl, -, hown⟩, rfl⟩; have HQ := Lib.hid (hown _ HO.out); clear hown)
          go_ret
          exact ⟨_, rfl, HQ.out, HW.out⟩
end Go.Proofs.Ythadkjekagfjfaa.N
