/- natural.Shr as a walk: the digits of a / 2^n, rounded down, in a new slice, n negative counting as 0; nothing for 0. Condition: the slice reads as fewer than 2^43 digits; n is an int64. -/
import Derived.Test.YtmfkabebhbecgaaN10
namespace Go.Proofs.Ytmfkabebhbecgaa.N
open Go.RowKit Go.Proofs.Ytmfkabebhbecgaa.Dig Go.Proofs.YtmfkabebhbecgaaW.PrintWords Go.Proofs.YtmfkabebhbecgaaW.PrintLast Go.Proofs.YtmfkabebhbecgaaW.PrintMore
attribute [local go_sem] max2_int min2_int
set_option linter.unusedVariables false

/-- The digit that Shr stores. -/
def srd (s : Nat) (x y : Int) : Int := ((x.toNat / 2 ^ s + y.toNat % 2 ^ s * 2 ^ (32 - s) : Nat) : Int)
/-- What is known after i digits have been shifted down by s places. -/
def SR (o0 o : List Int) (s i : Nat) : Prop :=
  NOk o ∧ o.length = o0.length ∧ nv (o.take i) * 2 ^ s + (o0.getD 0 0).toNat % 2 ^ s = nv (o0.take i) + (o0.getD i 0).toNat % 2 ^ s * BB ^ i ∧ ∀ t, i ≤ t → o.getD t 0 = o0.getD t 0

theorem sr_digit {x y s : Nat} (hs : s ≤ 32) (hx : x < 4294967296) : x / 2 ^ s + y % 2 ^ s * 2 ^ (32 - s) < 4294967296 ∧ (x / 2 ^ s + y % 2 ^ s * 2 ^ (32 - s)) * 2 ^ s + x % 2 ^ s = x + y % 2 ^ s * 4294967296 ∧ x / 2 ^ s < 2 ^ (32 - s) := by
  have e : (4294967296 : Nat) = 2 ^ (32 - s) * 2 ^ s := by rw [← Nat.pow_add, Nat.sub_add_cancel hs]
  have hp : 0 < 2 ^ s := Nat.pow_pos (by decide)
  have h1 : x / 2 ^ s < 2 ^ (32 - s) := by rw [Nat.div_lt_iff_lt_mul hp, ← e]; exact hx
  have h2 := Nat.mod_lt y hp
  have h3 : (y % 2 ^ s + 1) * 2 ^ (32 - s) ≤ 2 ^ s * 2 ^ (32 - s) := Nat.mul_le_mul_right _ h2
  rw [Nat.mul_comm (2 ^ s), ← e, Nat.add_mul] at h3
  refine ⟨by omega, ?_, h1⟩
  have h4 := Nat.div_add_mod x (2 ^ s)
  rw [Nat.add_mul, Nat.mul_assoc, ← e, Nat.mul_comm (x / 2 ^ s)]
  omega

theorem sr_shl {y s : Nat} (hs : s ≤ 32) (hs0 : 0 < s) : y * 2 ^ (32 - s) % 4294967296 = y % 2 ^ s * 2 ^ (32 - s) := by
  have e : (4294967296 : Nat) = 2 ^ s * 2 ^ (32 - s) := by rw [← Nat.pow_add, Nat.add_sub_cancel' hs]
  rw [e, Nat.mul_mod_mul_right]

theorem sr_bits {x y s : Nat} (hs : s ≤ 32) (hs0 : 0 < s) (hx : x < 4294967296) : bits .or .u32 ((x : Int) / 2 ^ s) ((y : Int) * 2 ^ (32 - s) % 4294967296) = srd s x y := by
  obtain ⟨d1, d2, d3⟩ := sr_digit (x := x) (y := y) hs hx
  have h1 : x / 2 ^ s < 4294967296 := Nat.lt_of_le_of_lt (Nat.div_le_self _ _) hx
  have e := u32_or_nat (x / 2 ^ s) (y * 2 ^ (32 - s) % 4294967296) h1 (Nat.mod_lt _ (by decide))
  rw [Nat.or_comm, nat_join (32 - s) _ _ (by rw [sr_shl hs hs0, Nat.mul_mod_left]) d3, sr_shl hs hs0, Nat.add_comm] at e
  have e5 : (y : Int) * 2 ^ (32 - s) % 4294967296 = ((y % 2 ^ s * 2 ^ (32 - s) : Nat) : Int) := by
    rw [← sr_shl hs hs0, Int.natCast_emod, Int.natCast_mul, Int.natCast_pow]; rfl
  have e6 : (x : Int) / 2 ^ s = ((x / 2 ^ s : Nat) : Int) := by rw [Int.natCast_ediv, Int.natCast_pow]; rfl
  unfold srd
  rw [Int.toNat_natCast, Int.toNat_natCast, ← e, e5, e6]

theorem sr_bits0 {x s : Nat} (hx : x < 4294967296) : bits .or .u32 ((x : Int) / 2 ^ s) 0 = srd s x 0 := by
  have h1 : x / 2 ^ s < 4294967296 := Nat.lt_of_le_of_lt (Nat.div_le_self _ _) hx
  have e := u32_or_nat (x / 2 ^ s) 0 h1 (by decide)
  unfold srd
  rw [Int.toNat_natCast]
  simp only [Int.toNat_zero, Nat.zero_mod, Nat.zero_mul, Nat.add_zero]
  rw [Nat.or_zero] at e
  rw [← e]
  congr 1

theorem SR.start {o : List Int} {s : Nat} (ho : NOk o) : SR o o s 0 := ⟨ho, rfl, by simp [nv], fun _ _ => rfl⟩
theorem SR.step {o0 o : List Int} {s i : Nat} {x y : Int} (h : SR o0 o s i) (h0 : NOk o0) (hs : s ≤ 32) (hi : i < o0.length) (hx : x = o.getD i 0) (hy : y = o.getD (i + 1) 0) : SR o0 (o.set i (srd s x y)) s (i + 1) := by
  obtain ⟨ho, hl, hv, hz⟩ := h
  have hxr := ho.at_ i
  have hyr := ho.at_ (i + 1)
  rw [← hx] at hxr
  rw [← hy] at hyr
  obtain ⟨x, rfl⟩ := Int.eq_ofNat_of_zero_le hxr.1
  obtain ⟨y, rfl⟩ := Int.eq_ofNat_of_zero_le hyr.1
  obtain ⟨d1, d2, d3⟩ := sr_digit (x := x) (y := y) hs (by omega)
  refine ⟨ho.set_ i (by unfold srd; exact Int.natCast_nonneg _) (by unfold srd; simp only [Int.toNat_natCast]; exact Int.ofNat_lt.2 d1), by simpa using hl, ?_, fun t ht => ?_⟩
  · rw [nv_set_take _ _ _ (by omega), nv_take_any o0, ← hz _ (by omega : i ≤ i + 1), ← hy]
    rw [← hz _ (Nat.le_refl _), ← hx] at hv ⊢
    unfold srd
    simp only [Int.toNat_natCast] at *
    generalize x / 2 ^ s + y % 2 ^ s * 2 ^ (32 - s) = q at *
    rw [Nat.add_mul, Nat.mul_assoc, Nat.pow_succ]
    have h5 : BB ^ i * (q * 2 ^ s + x % 2 ^ s) = BB ^ i * (x + y % 2 ^ s * 4294967296) := by rw [d2]
    rw [Nat.mul_add, Nat.mul_add] at h5
    have e1 : y % 2 ^ s * (BB ^ i * BB) = BB ^ i * (y % 2 ^ s * 4294967296) := by rw [Nat.mul_left_comm]; rfl
    have e2 : x % 2 ^ s * BB ^ i = BB ^ i * (x % 2 ^ s) := Nat.mul_comm _ _
    rw [e1]
    rw [e2] at hv
    omega
  · rw [List.getD_eq_getElem?_getD, List.getElem?_set_ne (by omega), ← List.getD_eq_getElem?_getD]
    exact hz t (by omega)
theorem SR.stop {o0 o : List Int} {s : Nat} (h : SR o0 o s o0.length) : nv o = nv o0 / 2 ^ s := by
  obtain ⟨ho, hl, hv, _⟩ := h
  rw [List.take_length, List.take_of_length_le (by omega), List.getD_eq_getElem?_getD (i := o0.length), List.getElem?_eq_none (Nat.le_refl _)] at hv
  have hp : 0 < 2 ^ s := Nat.pow_pos (by decide)
  have hr := Nat.mod_lt (o0.getD 0 0).toNat hp
  simp only [Option.getD_none, Int.toNat_zero, Nat.zero_mod, Nat.zero_mul, Nat.add_zero] at hv
  rw [← hv, Nat.add_comm, Nat.add_mul_div_right _ _ hp, Nat.div_eq_of_lt hr, Nat.zero_add]

theorem nv_drop_div (l : List Int) (h : NOk l) (c : Nat) (hc : c ≤ l.length) : nv (l.drop c) = nv l / BB ^ c := by
  have h1 := val_split BB l c hc
  have h2 := val_lt (h.take c)
  rw [List.length_take, Nat.min_eq_left hc] at h2
  unfold nv
  rw [h1, Nat.add_mul_div_left _ _ (Nat.pow_pos (by decide)), Nat.div_eq_of_lt h2, Nat.zero_add]

/-- A row of digits of the call's own, in the block g from its start. -/
def Row (w : World) (B g m cap : Nat) (o : List Int) : Prop := w.ownsRow B 23 1 (.slice (some ⟨g, 0, none⟩) m cap) m (encs (Value.int .u32) o)
section
variable {w : World} {B g m cap : Nat} {o : List Int}
theorem Row.cell (h : Row w B g m cap o) (hl : o.length = m) (i : Nat) (hi : i < m) : w.cell? ⟨g, i, none⟩ = some (.int .u32 (o.getD i 0)) := by
  rw [World.ownsRow.cellAt h i (by omega)]
  simp [encs, List.getD_eq_getElem?_getD, List.getElem?_eq_getElem (by omega : i < o.length)]
theorem Row.frozen (h : Row w B g m cap o) (i : Nat) : w.frozen? ⟨g, i, none⟩ = false := World.ownsRow.frozenAt h i
theorem Row.set_ (h : Row w B g m cap o) (i : Nat) (x : Int) : Row (w.setCell ⟨g, i, none⟩ (.int .u32 x)) B g m cap (o.set i x) := by
  have h2 := (World.ownsRow.stored h i (.int .u32 x)).1
  unfold Row encs
  rw [List.map_set]
  exact h2
theorem Row.own (h : Row w B g m cap o) (hl : o.length = m) (ho : NOk o) : Own w B (.slice (some ⟨g, 0, none⟩) m cap) o := by
  subst hl
  exact own_of_row ho h
end

/-- The number of places. -/
def shr0 (n : Int) : Nat := n.toNat

set_option maxHeartbeats 2000000 in
theorem shr_any {v : Value} {l : List Int} {w : World} (h : Rd w v l) (hl : l.length ≤ 8796093022208) (n : Int) (hn0 : n ≤ 9223372036854775807) :
    Calls Try.prog 26 #[v, .int .i64 n] w (Made w (nv l / 2 ^ shr0 n)) := by
  have HT := Lib.hid (trim_any h)
  have hn := nd_len_le h.ok
  have hk := nok_nd (nv l)
  have hv := nv_nd (nv l)
  have hlt := dg_len_lt BB2 (nv l)
  change nv l < BB ^ (nd (nv l)).length at hlt
  clear h
  generalize nv l = a at *
  generalize nd a = x at *
  have HK := Lib.hid hk
  have HV := Lib.hid hv
  have HLT := Lib.hid hlt
  obtain ⟨k, hx⟩ : ∃ k, k = x.length := ⟨_, rfl⟩
  have hkl : k ≤ 8796093022208 := by omega
  have HX := Lib.hid hx
  obtain ⟨sc, e1, hsc, hsl⟩ : ∃ sc : Nat, (if n < 0 then 0 else n) = (sc : Int) ∧ sc = shr0 n ∧ sc ≤ 9223372036854775807 := ⟨n.toNat, by split <;> omega, rfl, by omega⟩
  rw [← hsc]
  obtain ⟨c, s, hc, hs⟩ : ∃ c s : Nat, sc = 32 * c + s ∧ s < 32 := ⟨sc / 32, sc % 32, by omega, by omega⟩
  have e3 : ((sc : Int) / 32) = (c : Int) := by omega
  have e4 : ((sc : Int) % 32) = (s : Int) := by omega
  have HC0 := Lib.hid hc
  clear hk hv hx hn hl hlt hsc
  by_cases hck : k ≤ c
  · have hzero : a / 2 ^ sc = 0 := by
      apply Nat.div_eq_of_lt
      refine Nat.lt_of_lt_of_le HLT.out ?_
      have : BB ^ x.length = 2 ^ (32 * x.length) := by rw [Nat.pow_mul]; rfl
      rw [this]
      exact Nat.pow_le_pow_right (by decide) (by have := HX.out; omega)
    rw [hzero]
    clear hzero hc
    go_enter Try.func26, Try.ntmps26
    go_wp2_with fail
    refine HT.out.mono ?_
    rintro e w' ⟨⟨v', rfl, ⟨_, A', c', rfl, hc', hC'⟩, -⟩, rfl⟩
    rw [← HX.out]
    clear hC' hc'
    go_wp2
    go_ret
    exact ⟨_, rfl, Own.nil _ _, Below.refl _ _⟩
  · have hck : c < k := by omega
    clear hc
    obtain ⟨o0, ho0⟩ : ∃ o0, o0 = x.drop c := ⟨_, rfl⟩
    have hol : o0.length = k - c := by rw [ho0, List.length_drop, HX.out]
    have hnok : NOk o0 := by rw [ho0]; exact HK.out.drop c
    have hval : nv o0 / 2 ^ s = a / 2 ^ sc := by
      rw [ho0, nv_drop_div x HK.out c (by have := HX.out; omega), HV.out, Nat.div_div_eq_div_mul, HC0.out, Nat.pow_add, Nat.pow_mul]; rfl
    obtain ⟨i0, hi0, hz0, hz1, hz2⟩ := info_parts infoU
    have HI := Lib.hid (And.intro hi0 (And.intro hz0 (And.intro hz1 hz2)))
    have HO := Lib.hid ho0
    have HL := Lib.hid hol
    have HN := Lib.hid hnok
    have HVal := Lib.hid hval
    clear ho0 hol hnok hval hi0 hz0 hz1 hz2
    obtain ⟨m, hm, hm0⟩ : ∃ m, k = c + m ∧ 0 < m := ⟨k - c, by omega, by omega⟩
    subst hm
    go_enter Try.func26, Try.ntmps26
    go_wp2_with fail
    refine HT.out.mono ?_
    rintro e w' ⟨⟨v', rfl, ⟨_, A', c', rfl, hc', hC'⟩, -⟩, rfl⟩
    rw [← HX.out] at hc' ⊢
    have hcut0 := cut_from (P := Try.prog) 31 23 .i64 Try.underlying31 HI.out.1 1 HI.out.2.2.1 A' (c + m) c' c (by omega) (by omega)
    have hcut : ∀ W : World, (Instr.slice 31 (.slice A' (c + m) c') (some (.int .i64 c)) none none).run Try.prog W = .ok (.slice (A'.map (·.add c)) m (c' - c)) W := by
      intro W
      rw [hcut0 W, if_neg (by omega), Int.toNat_natCast, show c + m - c = m from by omega, Nat.mul_one]
    have HR : App.Reads w w.heap.size 1 (A'.map (·.add c)) m (encs (Value.int .u32) o0) := by
      have hr := Kd.C_drop (m := c) hC' (by have := HX.out; omega) (show x.length ≤ c' by have := HX.out; omega)
      rw [if_neg (by have := HX.out; omega), ← HO.out] at hr
      have hr2 := reads_of_rd hr
      rw [HL.out, show c + m - c = m from by omega] at hr2
      have e7 : c * (Kd.int IntKind.u32).sz = c := Nat.mul_one c
      rw [e7] at hr2
      exact hr2
    have HR2 := Lib.hid HR
    clear hcut0 HR hC'
    go_wp2_with (at_builtin; refine App.wpList_append_any _ rfl _ _ _ rfl w.heap.size 23 i0 (.int .u32 0) 1 4 Try.underlying31 HI.out.1 HI.out.2.1 HI.out.2.2.1 HI.out.2.2.2 rfl (by omega) (.slice none 0 0) 0 [] rfl ⟨by simp, .inl ⟨rfl, rfl⟩⟩ w.heap.size (A'.map (·.add c)) m (c' - c) (encs (Value.int .u32) o0) rfl HR2.out ?a1 ?a2 ?a3 (Nat.le_refl _) ?_)
    case a1 => intro u hu; simp [encs] at hu; obtain ⟨_, _, rfl⟩ := hu; rfl
    case a2 => unfold maxLen; omega
    case a3 => omega
    intro v' w1 hown hg hat
    have HB1 := Lib.hid (((Below.refl w.heap.size w).grown hg (Nat.le_refl _) (by simp [Value.ownBlock])))
    obtain ⟨g, cap, rfl, hgb, hglt⟩ := hown.form hm0
    have HR := Lib.hid (show Row w1 w.heap.size g m cap o0 from hown)
    clear hown hg hat hglt HR2 HO
    have HLm := Lib.hid (show o0.length = m by have := HL.out; omega)
    clear HL
    by_cases hs0 : s = 0
    · subst hs0
      have s1 := HVal.out
      rw [Nat.pow_zero, Nat.div_one] at s1
      have HO := Lib.hid (HR.out.own HLm.out HN.out)
      have HT3 := Lib.hid (trim_any HO.out.rd)
      rw [s1] at HT3
      clear s1
      go_wp2_with (go_at_call 42; refine HT3.out.mono ?_; rintro e w' ⟨⟨v2, rfl, -, hown⟩, rfl⟩; have HQ := Lib.hid (hown _ HO.out); clear hown)
      go_ret
      exact ⟨_, rfl, HQ.out, HB1.out⟩
    · have hs1 : (0 : Int) < s := by omega
      go_wp2
      go_loopw [30] (fun i wr => ∃ (t : Nat) (o : List Int), i = .int .i64 t ∧ t ≤ m ∧ Hid (SR o0 o s t) ∧ Hid (Row wr w.heap.size g m cap o) ∧ Hid (Below w.heap.size w wr)) (fun i _ => m - (intOf i).toNat)
      case atStart => exact ⟨0, o0, rfl, by omega, Lib.hid (SR.start HN.out), HR, HB1⟩
      case round =>
        clear HT HR HB1
        obtain ⟨t, o, rfl, htl, HM, HR, HW⟩ := hrel
        have HLo := Lib.hid (show o.length = m by have := HM.out.2.1; have := HLm.out; omega)
        by_cases ht : t < m
        · have hcell := HR.out.cell HLo.out t ht
          have hdr := HM.out.1.at_ t
          obtain ⟨dd, hdd⟩ : ∃ dd, dd = o.getD t 0 := ⟨_, rfl⟩
          rw [← hdd] at hcell hdr
          obtain ⟨d, rfl⟩ := Int.eq_ofNat_of_zero_le hdr.1
          have hd : d < 4294967296 := by omega
          have HD := Lib.hid hdd
          have hfz := HR.out.frozen t
          clear hdd hdr
          by_cases ht1 : t + 1 < m
          · have hcell1 := HR.out.cell HLo.out (t + 1) ht1
            have hdr1 := HM.out.1.at_ (t + 1)
            obtain ⟨dd, hdd⟩ : ∃ dd, dd = o.getD (t + 1) 0 := ⟨_, rfl⟩
            rw [← hdd] at hcell1 hdr1
            obtain ⟨y, rfl⟩ := Int.eq_ofNat_of_zero_le hdr1.1
            have hy : y < 4294967296 := by omega
            have HY := Lib.hid hdd
            clear hdd hdr1
            have HBits := Lib.hid (sr_bits (s := s) (x := d) (y := y) (by omega) (by omega) hd)
            have HStep := Lib.hid (HM.out.step HN.out (by omega) (by have := HLm.out; omega) HD.out HY.out)
            go_wp2
            refine ⟨⟨t + 1, _, by go_num, by omega, HStep, ?_, ?_⟩, by simp [intOf]; omega⟩
            · rw [HBits.out]; exact Lib.hid (HR.out.set_ t _)
            · exact Lib.hid (HW.out.setCell (p := ⟨g, t, none⟩) hgb _)
          · obtain ⟨yy, hyy⟩ : ∃ y, y = o.getD (t + 1) 0 := ⟨_, rfl⟩
            have hy0 : yy = 0 := by
              rw [hyy, List.getD_eq_getElem?_getD, List.getElem?_eq_none (by have := HLo.out; omega)]; rfl
            subst hy0
            have HBits := Lib.hid (sr_bits0 (s := s) (x := d) hd)
            have HStep := Lib.hid (HM.out.step HN.out (by omega) (by have := HLm.out; omega) HD.out hyy)
            clear hyy
            go_wp2
            refine ⟨⟨t + 1, _, by go_num, by omega, HStep, ?_, ?_⟩, by simp [intOf]; omega⟩
            · rw [HBits.out]; exact Lib.hid (HR.out.set_ t _)
            · exact Lib.hid (HW.out.setCell (p := ⟨g, t, none⟩) hgb _)
        · obtain rfl : t = m := by omega
          have hm2 := HM.out
          rw [← HLm.out] at hm2
          have s1 := hm2.stop
          rw [HVal.out] at s1
          have HO := Lib.hid (HR.out.own HLo.out HM.out.1)
          have HT3 := Lib.hid (trim_any HO.out.rd)
          rw [s1] at HT3
          clear s1 hm2
          go_wp2_with (go_at_call 42; refine HT3.out.mono ?_; rintro e w' ⟨⟨v2, rfl, -, hown⟩, rfl⟩; have HQ := Lib.hid (hown _ HO.out); clear hown)
          go_ret
          exact ⟨_, rfl, HQ.out, HW.out⟩
end Go.Proofs.Ytmfkabebhbecgaa.N
