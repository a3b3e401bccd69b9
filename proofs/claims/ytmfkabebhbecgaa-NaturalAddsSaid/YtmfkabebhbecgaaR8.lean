/- cylinderref01.DivMod as a walk: quotient and remainder of two numbers as bits. Conditions: the slices of ints read as the bits of numbers, fewer than 2^33 each; the divisor is not 0. -/
import Derived.Test.YtmfkabebhbecgaaR7
namespace Go.Proofs.Ytmfkabebhbecgaa.N
open Go.RowKit Go.Proofs.Ytmfkabebhbecgaa.Dig Go.Proofs.YtmfkabebhbecgaaW.PrintWords Go.Proofs.YtmfkabebhbecgaaW.PrintLast Go.Proofs.YtmfkabebhbecgaaW.PrintMore
set_option linter.unusedVariables false

theorem OwnI.far {w : World} {B : Nat} {v : Value} {l : List Int} (h : OwnI w B v l) {p : Addr} (hp : some p.block ≠ v.ownBlock) (u : Value) : OwnI (w.setCell p u) B v l :=
  own_move h fun k hk => Below.heap_setCell w p u k (fun e => hp (by rw [hk, e]))
theorem OwnI.cell {w : World} {B g n cap : Nat} {l : List Int} (h : OwnI w B (.slice (some ⟨g, 0, none⟩) n cap) l) (hl : l.length = n) (i : Nat) (hi : i < n) : w.cell? ⟨g, i, none⟩ = some (.int .i64 (l.getD i 0)) := by
  have h2 := OwnI.row hl h
  rw [World.ownsRow.cellAt h2 i (by omega)]
  simp [encs, List.getD_eq_getElem?_getD, List.getElem?_eq_getElem (by omega : i < l.length)]
theorem OwnI.drewN {w : World} {B : Nat} {v : Value} {l : List Int} (h : OwnI w B v l) (m : Nat) : OwnI (w.drewN m) B v l := h

theorem BlkI.own {w : World} {B g n : Nat} {l : List Int} (h : BlkI w g l) (hB : B ≤ g) (hn : l.length = n) (hm : n ≤ maxLen) : OwnI w B (.slice (some ⟨g, 0, none⟩) n n) l := by
  subst hn
  refine ⟨by simp [encs], .inr ⟨g, l.length, arrI l, rfl, hB, h, Nat.le_refl _, hm, by rw [arrI_size, Nat.mul_one], ?_⟩⟩
  rw [Nat.mul_one]
  simp only [arrI, encs]
  exact List.take_of_length_le (by simp)

/-- Two results, as bits. -/
def MadeB2 (w : World) (n m : Nat) (e : Ending) (w' : World) : Prop := ∃ v v2, e = .returned (.tuple #[v, v2]) ∧ Bt w' v n ∧ Bt w' v2 m ∧ Below w.heap.size w w'

set_option maxRecDepth 100000 in
set_option maxHeartbeats 4000000 in
theorem divMod_any {va vb : Value} {n m : Nat} {w : World} (ha : Bt w va n) (hb : Bt w vb m) (hn : (bt n).length ≤ 8053063680) (hm : (bt m).length ≤ 8053063680) (hm0 : 0 < m) :
    Calls Try.prog 23 #[va, vb] w (MadeB2 w (n / m) (n % m)) := by
  have hY0 : ∀ w' : World, Below w.heap.size w w' → Calls Try.prog 39 #[vb] w' (MadeW w' (wd m)) := fun w' hb' => words_any (hb.below hb') (by omega)
  have HY := Lib.hid hY0
  have hY : wl m ≤ 536870912 := by unfold wl; omega
  have hvy := wd_val m
  have hoy := wd_ok m
  have hly := wd_len m
  have hlty := wd_lt m
  have hltn := bt_lt n
  obtain ⟨A, ca, rfl, hca, hCa⟩ := ha
  have HC := Lib.hid hCa
  clear hb hm hY0 hCa
  generalize wd m = y at *
  generalize wl m = Y at *
  generalize hk : (bt n).length = k at *
  have HK := Lib.hid hk
  have HLY := Lib.hid hly
  have HVY := Lib.hid hvy
  have HOY := Lib.hid hoy
  have HLTY := Lib.hid hlty
  have HLTN := Lib.hid hltn
  have hkb : k ≤ 8053063680 := hn
  have HM0 := Lib.hid hm0
  obtain ⟨i0, hi0, hz0, hz1, hz2⟩ := info_parts infoI
  have HI := Lib.hid (And.intro hi0 (And.intro hz0 (And.intro hz1 hz2)))
  have hmk : ∀ W : World, _ := fun W => make_arrI k (by omega) W
  obtain ⟨S, hS⟩ : ∃ S, S = Y + 1 := ⟨_, rfl⟩
  have hSi : ((Y : Int) + 1) = (S : Int) := by omega
  have hSb : S ≤ 536870913 := by omega
  have hS0 : 0 < S := by omega
  have hmk2 : ∀ W : World, _ := fun W => make_arrI S (by omega) W
  have HS := Lib.hid hS
  clear hk hly hvy hoy hlty hltn hn hm0 hi0 hz0 hz1 hz2 hS
  go_enter Try.func23, Try.ntmps23
  go_wp2_with fail
  refine (HY.out _ (below_alloc (Below.refl _ _) _)).mono ?_
  rintro e w1 ⟨gy, rfl, hgy, hby, hb1⟩
  rw [HLY.out]
  have hY1 := HLY.out
  have hyl := hby.lt
  have hsz1 := hb1.size
  simp at hgy hsz1
  obtain ⟨W2, hW2⟩ : ∃ W2, W2 = w1.alloc (.cells (arrI (List.replicate S 0)) 3) := ⟨_, rfl⟩
  have s2 : W2.heap.size = w1.heap.size + 1 := by rw [hW2]; simp
  have hq1 : BlkI w1 w.heap.size (List.replicate k 0) := (BlkI.new w _).then_ hb1
  have hq2 : BlkI W2 w.heap.size (List.replicate k 0) := by rw [hW2]; exact hq1.alloc _
  have hr2 : BlkI W2 w1.heap.size (List.replicate S 0) := by rw [hW2]; exact BlkI.new _ _
  have hd2 : OwnI W2 w.heap.size (.slice (some ⟨gy, 0, none⟩) Y Y) y := by
    have h5 : BlkI W2 gy y := by rw [hW2]; exact hby.alloc _
    exact h5.own (by omega) hY1 (by unfold maxLen; omega)
  have hB2 : Below w.heap.size w W2 := by
    rw [hW2]
    exact below_alloc (below_then (below_alloc (Below.refl _ _) _) (by simp) hb1) _
  have HD2 := Lib.hid hd2
  have HQ2 := Lib.hid hq2
  have HR2 := Lib.hid hr2
  have HB2 := Lib.hid hB2
  have HSZ := Lib.hid (show W2.heap.size = w1.heap.size + 1 ∧ w.heap.size + 1 ≤ gy ∧ gy < w1.heap.size from ⟨s2, hgy, hyl⟩)
  clear hq1 hq2 hr2 hd2 hB2 hby hb1 hgy hyl hsz1 HY hY1 s2
  have HW2 := Lib.hid hW2
  have HRN := Lib.hid (by have h := reads_new1 W2 0; rw [HSZ.out.1] at h; exact h : App.Reads (W2.alloc (.cells #[.int .i64 0] 3)) (W2.alloc (.cells #[.int .i64 0] 3)).heap.size 1 (some ⟨w1.heap.size + 1, 0, none⟩) 1 (encs (Value.int .i64) [0]))
  clear hW2
  go_wp2_with (at_builtin; rw [← HW2.out]; refine App.wpList_append_any _ rfl _ _ _ rfl w.heap.size 3 i0 (.int .i64 0) 1 8 Try.underlying27 HI.out.1 HI.out.2.1 HI.out.2.2.1 HI.out.2.2.2 rfl (by omega) _ Y (encs (Value.int .i64) y) ?s1 (row_alloc (OwnI.row HLY.out HD2.out) _) _ (some ⟨w1.heap.size + 1, 0, none⟩) 1 1 (encs (Value.int .i64) [0]) ?s2 HRN.out ?a1 ?a2 ?a3 ?a4 ?_; (case s1 => rfl); (case s2 => rfl); (case a1 => intro u hu; simp [encs] at hu; subst hu; rfl); (case a2 => unfold maxLen; omega); (case a3 => omega); (case a4 => have := HB2.out.size; simp; omega))
  intro d' w2 hown hg hat
  have hd3 : OwnI w2 w.heap.size d' (y ++ [0]) := OwnI.snoc HLY.out hown
  have hg3 : ∀ g, g < W2.heap.size → g ≠ gy → w2.heap[g]? = W2.heap[g]? := fun g h1 h2 => by
    rw [hg.block g (by simp; omega) (by simp [Value.ownBlock]; exact h2)]
    exact Below.heap_alloc W2 _ g h1
  have hq3 : BlkI w2 w.heap.size (List.replicate k 0) := (hg3 _ (by have := HSZ.out; omega) (by have := HSZ.out; omega)).trans HQ2.out
  have hr3 : BlkI w2 w1.heap.size (List.replicate S 0) := (hg3 _ (by have := HSZ.out; omega) (by have := HSZ.out; omega)).trans HR2.out
  have hB3 : Below w.heap.size w w2 := (below_alloc HB2.out _).grown hg (by have := HB2.out.size; simp; omega) (by intro g hg; simp [Value.ownBlock] at hg; have := HSZ.out; omega)
  obtain ⟨D, hD⟩ : ∃ D, D = y ++ [0] := ⟨_, rfl⟩
  have hDl : D.length = S := by rw [hD, List.length_append, HLY.out, HS.out]; rfl
  have hDo : Ok WW D := by rw [hD]; exact HOY.out.append (Ok.cons_iff.2 ⟨⟨by decide, by decide⟩, Ok.nil⟩)
  have hDv : val WW D = m := by rw [hD, val_snoc, HVY.out]; simp
  rw [← hD] at hd3
  obtain ⟨gd, cap, hdf, hdb, hdlt⟩ := (OwnI.row hDl hd3).form hS0
  subst hdf
  have hne : gd ≠ w.heap.size ∧ gd ≠ w1.heap.size := by
    have := HSZ.out
    rcases hat with h | h <;> simp [Value.ownBlock] at h <;> omega
  obtain ⟨gq, hgq⟩ : ∃ gq, gq = w.heap.size := ⟨_, rfl⟩
  obtain ⟨gr, hgr⟩ : ∃ gr, gr = w1.heap.size := ⟨_, rfl⟩
  have HNE := Lib.hid (show gd ≠ gq ∧ gd ≠ gr ∧ gq ≠ gr ∧ w.heap.size ≤ gq ∧ w.heap.size ≤ gr by have := HSZ.out; omega)
  rw [← hgq] at hq3
  rw [← hgr] at hr3
  have HQ3 := Lib.hid hq3
  have HR3 := Lib.hid hr3
  have HD3 := Lib.hid hd3
  have HB3 := Lib.hid hB3
  have HDl := Lib.hid hDl
  have HDo := Lib.hid hDo
  have HDv := Lib.hid hDv
  have HQlt := Lib.hid (show n / m < 2 ^ k from Nat.lt_of_le_of_lt (Nat.div_le_self _ _) HLTN.out)
  have HDlt := Lib.hid (show 2 * m < WW ^ S by
    have h1 := HLTY.out
    have h2 : WW ^ S = WW ^ Y * WW := by rw [HS.out, Nat.pow_succ]
    have h3 : WW ^ Y * 2 ≤ WW ^ Y * WW := Nat.mul_le_mul_left _ WW2
    omega)
  rw [← hgq, ← hgr]
  clear hq3 hr3 hd3 hB3 hDl hDo hDv hD hdb hdlt hne hgq hgr hown hg hat hg3 HQ2 HR2 HD2 HB2 HW2 HRN HSZ HLTY HOY HVY HLY HI hmk hmk2
  go_wp2
  go_loopw [10] (fun iv wr => ∃ (z : Int) (q r : List Int), iv = .int .i64 z ∧ -1 ≤ z ∧ z < k ∧ Hid (QI q k (n / m) (z + 1).toNat) ∧ Hid (Ok WW r ∧ r.length = S ∧ val WW r = n / 2 ^ (z + 1).toNat % m) ∧ Hid (BlkI wr gq q) ∧ Hid (BlkI wr gr r) ∧ Hid (OwnI wr w.heap.size (.slice (some ⟨gd, 0, none⟩) S cap) D) ∧ Hid (Below w.heap.size w wr)) (fun iv _ => (intOf iv + 1).toNat)
  case atStart =>
    refine ⟨(k : Int) - 1, _, _, rfl, by omega, by omega, ?_, ?_, HQ3, HR3, HD3, HB3⟩
    · rw [show ((k : Int) - 1 + 1).toNat = k by omega]
      exact Lib.hid (QI.start k _ HQlt.out)
    · rw [show ((k : Int) - 1 + 1).toNat = k by omega, Nat.div_eq_of_lt HLTN.out, Nat.zero_mod]
      exact Lib.hid ⟨Ok.replicate (by decide) _, List.length_replicate, val_zeros _ _⟩
  case round =>
    clear HQ3 HR3 HD3 HB3
    obtain ⟨z, q, r, rfl, hz, hzk, HQ, HV, HBQ, HBR, HBD, HW⟩ := hrel
    rcases (show z < 0 ∨ 0 ≤ z by omega) with hneg | hpos
    · obtain rfl : z = -1 := by omega
      have hq0 := HQ.out
      have hv0 := HV.out
      simp at hq0 hv0
      have hqs := hq0.stop HQlt.out
      have hrd := HBQ.out.rd (by rw [hq0.1]; omega)
      rw [hq0.1, hqs] at hrd
      have HT := Lib.hid (trimI_any hrd (lo_ok 2 (n / m) (by decide) k))
      rw [lo_full HQlt.out] at HT
      have hbits := bits_any (HBR.out.reads (by omega)) (Nat.le_refl _) hv0.1 (by omega)
      rw [hv0.2.1, hv0.2.2] at hbits
      have HBits := Lib.hid hbits
      clear hq0 hv0 hqs hrd hbits HQ HV
      go_wp2_with fail
      refine HT.out.mono ?_
      rintro e w' ⟨⟨v', rfl, hv'⟩, rfl⟩
      have HV1 := Lib.hid hv'
      clear hv'
      go_wp2_with fail
      refine HBits.out.mono ?_
      rintro e w' ⟨v2, rfl, hv2, hb2⟩
      have HV2 := Lib.hid hv2
      have HB2 := Lib.hid hb2
      clear hv2 hb2
      go_wp2
      go_ret2
      exact ⟨_, _, rfl, HV1.out.below HB2.out, HV2.out, below_then HW.out HW.out.size HB2.out⟩
    · obtain ⟨i, rfl⟩ := Int.eq_ofNat_of_zero_le hpos
      have hik : i < k := by omega
      have hq0 := HQ.out
      have hv0 := HV.out
      rw [show ((i : Int) + 1).toNat = i + 1 by omega] at hq0 hv0
      have HQi := Lib.hid hq0
      have HVi := Lib.hid hv0
      clear hq0 hv0 HQ HV
      obtain ⟨ad, hA, hca1⟩ := at_nat (Kd.C_below HC.out HW.out) hik
      subst hA
      rw [bt_at] at hca1
      obtain ⟨b, hb⟩ : ∃ b, b = n / 2 ^ i % 2 := ⟨_, rfl⟩
      rw [← hb] at hca1
      have hb1 : b ≤ 1 := by omega
      have HBi := Lib.hid hb
      clear hb
      go_wp2
      go_loopw [11, 12] (fun cv kv wr => ∃ (t c : Nat) (r' : List Int), cv = .int .i64 c ∧ kv = .int .i64 t ∧ t ≤ S ∧ c ≤ 1 ∧ Hid (DD r r' b t c) ∧ Hid (BlkI wr gq q) ∧ Hid (BlkI wr gr r') ∧ Hid (OwnI wr w.heap.size (.slice (some ⟨gd, 0, none⟩) S cap) D) ∧ Hid (Below w.heap.size w wr)) (fun _ kv _ => S - (intOf kv).toNat)
      case atStart => exact ⟨0, b, r, rfl, rfl, by omega, hb1, Lib.hid (DD.start b HVi.out.1), HBQ, HBR, HBD, HW⟩
      case round =>
        clear HBQ HBR HBD HW hca1
        obtain ⟨t, c, r', rfl, rfl, ht, hc, HDD, HBQ, HBR, HBD, HW⟩ := hrel
        by_cases htS : t < S
        · obtain ⟨xx, hxx⟩ : ∃ x, x = r'.getD t 0 := ⟨_, rfl⟩
          have hxr := HDD.out.1.at_ (by decide) t
          have hlr : r'.length = S := HDD.out.2.1.trans HVi.out.2.1
          have hcell := HBR.out.cell t (by omega)
          have hfz := HBR.out.frozen t
          rw [← hxx] at hxr hcell
          obtain ⟨x, rfl⟩ := Int.eq_ofNat_of_zero_le hxr.1
          have hx1 : x < 32768 := by have := WW_eq; omega
          have HSt := Lib.hid (HDD.out.step (by rw [HVi.out.2.1]; exact htS) hxx)
          clear hxx hxr hlr
          go_wp2
          rw [show ((2 * (x : Int) + c) % 32768) = (((2 * x + c) % 32768 : Nat) : Int) by omega]
          refine ⟨⟨t + 1, (2 * x + c) / 32768, _, by go_num, by go_num, by omega, by omega, HSt, ?_, ?_, ?_, ?_⟩, by simp [intOf]; omega⟩
          · exact Lib.hid (HBQ.out.far (p := ⟨gr, t, none⟩) HNE.out.2.2.1 _)
          · exact Lib.hid (HBR.out.set_ t _)
          · exact Lib.hid (HBD.out.far (p := ⟨gr, t, none⟩) (by simp [Value.ownBlock]; exact fun e => HNE.out.2.1 e.symm) _)
          · exact Lib.hid (HW.out.setCell (p := ⟨gr, t, none⟩) HNE.out.2.2.2.2 _)
        · obtain rfl : t = S := by omega
          have hR1 : Ok WW r' ∧ r'.length = t ∧ val WW r' = 2 * (n / 2 ^ (i + 1) % m) + b := by
            have h1 := HDD.out
            rw [← HVi.out.2.1] at h1
            have h2 := h1.stop (by
              rw [HVi.out.2.2, HVi.out.2.1]
              have := Nat.mod_lt (n / 2 ^ (i + 1)) HM0.out
              have := HDlt.out
              omega)
            exact ⟨HDD.out.1, HDD.out.2.1.trans HVi.out.2.1, by rw [h2, HVi.out.2.2]⟩
          obtain ⟨r1, hr1⟩ : ∃ r1, r1 = r' := ⟨_, rfl⟩
          rw [← hr1] at hR1 HBR
          have HR1 := Lib.hid hR1
          obtain ⟨S, rfl⟩ : ∃ S, S = t := ⟨_, rfl⟩
          clear hR1 hr1 HDD
          go_wp2
          go_loopw [14] (fun kv wr => ∃ (s : Nat), kv = .int .i64 s ∧ s < S ∧ Hid (∀ j, s < j → r1.getD j 0 = D.getD j 0) ∧ Hid (BlkI wr gq q) ∧ Hid (BlkI wr gr r1) ∧ Hid (OwnI wr w.heap.size (.slice (some ⟨gd, 0, none⟩) S cap) D) ∧ Hid (Below w.heap.size w wr)) (fun kv _ => (intOf kv).toNat)
          case atStart =>
            refine ⟨S - 1, by go_num, by omega, Lib.hid fun j hj => ?_, HBQ, HBR, HBD, HW⟩
            rw [List.getD_eq_getElem?_getD, List.getD_eq_getElem?_getD, List.getElem?_eq_none (by have := HR1.out.2.1; omega), List.getElem?_eq_none (by have := HDl.out; omega)]
          case round =>
            clear HBQ HBR HBD HW
            obtain ⟨s, rfl, hsS, HAll, HBQ, HBR, HBD, HW⟩ := hrel
            obtain ⟨xx, hxx⟩ : ∃ x, x = r1.getD s 0 := ⟨_, rfl⟩
            obtain ⟨yy, hyy⟩ : ∃ y, y = D.getD s 0 := ⟨_, rfl⟩
            have hxr := HR1.out.1.at_ (by decide) s
            have hyr := HDo.out.at_ (by decide) s
            have hcx := HBR.out.cell s (by rw [HR1.out.2.1]; exact hsS)
            have hcy := HBD.out.cell HDl.out s hsS
            rw [← hxx] at hxr hcx
            rw [← hyy] at hyr hcy
            obtain ⟨x, rfl⟩ := Int.eq_ofNat_of_zero_le hxr.1
            obtain ⟨y, rfl⟩ := Int.eq_ofNat_of_zero_le hyr.1
            have hx1 : x < 32768 := by have := WW_eq; omega
            have hy1 : y < 32768 := by have := WW_eq; omega
            have HX := Lib.hid hxx
            have HY := Lib.hid hyy
            clear hxx hyy hxr hyr
            by_cases hs0 : 0 < s
            · have hs0I : (0 : Int) < s := by omega
              by_cases hxe : x = y
              · subst hxe
                go_wp2
                go_quiet (fail)
                go_wp2
                go_roundw
                case rel =>
                  refine ⟨s - 1, by go_num, by omega, Lib.hid fun j hj => ?_, Lib.hid (HBQ.out.drewN _), Lib.hid (HBR.out.drewN _), Lib.hid (HBD.out.drewN _), Lib.hid (pw_below_drewN HW.out _)⟩
                  rcases Nat.eq_or_lt_of_le (show s ≤ j by omega) with e | e
                  · rw [← e, ← HX.out, ← HY.out]
                  · exact HAll.out j e
                case measure => simp [intOf]; omega
              · have hne : ((x : Int) == (y : Int)) = false := by simp; omega
                by_cases hxy : x < y
                · have hlt := (cmp_at HR1.out.1 HDo.out (HR1.out.2.1.trans HDl.out.symm) (by rw [HR1.out.2.1]; exact hsS) HAll.out HX.out HY.out).1 hxy
                  rw [HR1.out.2.2, HDv.out] at hlt
                  have hds := (div_step n m i HM0.out).2 (by rw [← HBi.out]; exact hlt)
                  rw [← HBi.out] at hds
                  have HF1 := Lib.hid (HQi.out.zero hds.2)
                  have HF2 := Lib.hid (show Ok WW r1 ∧ r1.length = S ∧ val WW r1 = n / 2 ^ i % m from ⟨HR1.out.1, HR1.out.2.1, by rw [HR1.out.2.2, hds.1]⟩)
                  have hxyI : (x : Int) < y := by omega
                  clear hlt hds
                  go_wp2
                  go_quiet (fail)
                  go_wp2
                  go_quiet (fail)
                  go_wp2
                  refine ⟨⟨(i : Int) - 1, q, r1, rfl, by omega, by omega, ?_, ?_, Lib.hid (HBQ.out.drewN _), Lib.hid (HBR.out.drewN _), Lib.hid (HBD.out.drewN _), Lib.hid (pw_below_drewN HW.out _)⟩, by simp [intOf]⟩
                  · rw [show ((i : Int) - 1 + 1).toNat = i by omega]; exact HF1
                  · rw [show ((i : Int) - 1 + 1).toNat = i by omega]; exact HF2
                · have hge : m ≤ val WW r1 := by
                    obtain ⟨_, c2, c3⟩ := cmp_at HR1.out.1 HDo.out (HR1.out.2.1.trans HDl.out.symm) (by rw [HR1.out.2.1]; exact hsS) HAll.out HX.out HY.out
                    rw [HDv.out] at c2 c3
                    rcases Nat.lt_or_ge y x with h | h
                    · exact Nat.le_of_lt (c2 h)
                    · exact Nat.le_of_eq (c3 (by omega) (by omega)).symm
                  have hds := (div_step n m i HM0.out).1 (by rw [← HBi.out, ← HR1.out.2.2]; exact hge)
                  rw [← HBi.out, ← HR1.out.2.2] at hds
                  have HF1 := Lib.hid (HQi.out.one hik hds.2)
                  have HF2 := Lib.hid hds.1
                  have HGE := Lib.hid hge
                  have hxyI : (y : Int) ≤ x := by omega
                  have hfq := HBQ.out.frozen i
                  have hcq := BlkI.cell HBQ.out i (by rw [HQi.out.1]; exact hik)
                  clear hge hds
                  go_wp2
                  go_quiet (fail)
                  go_wp2
                  go_quiet (fail)
                  go_wp2
                  go_loopw [15, 16] (fun bv jv wr' => ∃ (t bw : Nat) (r2 : List Int), bv = .int .i64 bw ∧ jv = .int .i64 t ∧ t ≤ S ∧ bw ≤ 1 ∧ Hid (DS r1 D r2 t bw) ∧ Hid (BlkI wr' gq (q.set i 1)) ∧ Hid (BlkI wr' gr r2) ∧ Hid (OwnI wr' w.heap.size (.slice (some ⟨gd, 0, none⟩) S cap) D) ∧ Hid (Below w.heap.size w wr')) (fun _ jv _ => S - (intOf jv).toNat)
                  case atStart =>
                    refine ⟨0, 0, r1, rfl, rfl, by omega, by omega, Lib.hid (DS.start D HR1.out.1), ?_, ?_, ?_, ?_⟩
                    · exact Lib.hid ((HBQ.out.drewN _).set_ i 1)
                    · exact Lib.hid ((HBR.out.drewN _).far (p := ⟨gq, i, none⟩) (fun e => HNE.out.2.2.1 e.symm) _)
                    · exact Lib.hid ((HBD.out.drewN _).far (p := ⟨gq, i, none⟩) (by simp [Value.ownBlock]; exact fun e => HNE.out.1 e.symm) _)
                    · exact Lib.hid ((pw_below_drewN HW.out _).setCell (p := ⟨gq, i, none⟩) HNE.out.2.2.2.1 _)
                  case round =>
                    clear HBQ HBR HBD HW hcx hcy hfq hcq hxyI HX HY HAll hxy
                    obtain ⟨t, bw, r2, rfl, rfl, ht, hbw, HDS, HBQ, HBR, HBD, HW⟩ := hrel
                    by_cases htS : t < S
                    · obtain ⟨uu, huu⟩ : ∃ x, x = r2.getD t 0 := ⟨_, rfl⟩
                      obtain ⟨vv, hvv⟩ : ∃ y, y = D.getD t 0 := ⟨_, rfl⟩
                      have hur := HDS.out.1.at_ (by decide) t
                      have hvr := HDo.out.at_ (by decide) t
                      have hcu := HBR.out.cell t (by rw [HDS.out.2.1, HR1.out.2.1]; exact htS)
                      have hfz := HBR.out.frozen t
                      have hcv := HBD.out.cell HDl.out t htS
                      rw [← huu] at hur hcu
                      rw [← hvv] at hvr hcv
                      obtain ⟨u, rfl⟩ := Int.eq_ofNat_of_zero_le hur.1
                      obtain ⟨v, rfl⟩ := Int.eq_ofNat_of_zero_le hvr.1
                      have hu1 : u < 32768 := by have := WW_eq; omega
                      have hv1 : v < 32768 := by have := WW_eq; omega
                      have HU := Lib.hid huu
                      have HVV := Lib.hid hvv
                      clear huu hvv hur hvr
                      by_cases hneg : (u : Int) - v - bw < 0
                      · have HSt := Lib.hid (HDS.out.step (z := u + 32768 - v - bw) (w' := 1) (by rw [HR1.out.2.1]; exact htS) (by rw [HDl.out, HR1.out.2.1]) HU.out HVV.out (by omega) (by omega))
                        go_wp2
                        go_quiet (fail)
                        go_wp2
                        rw [show ((u : Int) - v - bw + 32768) = ((u + 32768 - v - bw : Nat) : Int) by omega]
                        refine ⟨⟨t + 1, 1, _, by go_num, by go_num, by omega, by omega, HSt, ?_, ?_, ?_, ?_⟩, by simp [intOf]; omega⟩
                        · exact Lib.hid ((HBQ.out.drewN _).far (p := ⟨gr, t, none⟩) HNE.out.2.2.1 _)
                        · exact Lib.hid ((HBR.out.drewN _).set_ t _)
                        · exact Lib.hid ((HBD.out.drewN _).far (p := ⟨gr, t, none⟩) (by simp [Value.ownBlock]; exact fun e => HNE.out.2.1 e.symm) _)
                        · exact Lib.hid ((pw_below_drewN HW.out _).setCell (p := ⟨gr, t, none⟩) HNE.out.2.2.2.2 _)
                      · have hneg0 : 0 ≤ (u : Int) - v - bw := by omega
                        have HSt := Lib.hid (HDS.out.step (z := u - v - bw) (w' := 0) (by rw [HR1.out.2.1]; exact htS) (by rw [HDl.out, HR1.out.2.1]) HU.out HVV.out (by omega) (by omega))
                        go_wp2
                        go_quiet (fail)
                        go_wp2
                        rw [show ((u : Int) - v - bw) = ((u - v - bw : Nat) : Int) by omega]
                        refine ⟨⟨t + 1, 0, _, by go_num, by go_num, by omega, by omega, HSt, ?_, ?_, ?_, ?_⟩, by simp [intOf]; omega⟩
                        · exact Lib.hid ((HBQ.out.drewN _).far (p := ⟨gr, t, none⟩) HNE.out.2.2.1 _)
                        · exact Lib.hid ((HBR.out.drewN _).set_ t _)
                        · exact Lib.hid ((HBD.out.drewN _).far (p := ⟨gr, t, none⟩) (by simp [Value.ownBlock]; exact fun e => HNE.out.2.1 e.symm) _)
                        · exact Lib.hid ((pw_below_drewN HW.out _).setCell (p := ⟨gr, t, none⟩) HNE.out.2.2.2.2 _)
                    · obtain rfl : t = S := by omega
                      have hfin := HDS.out
                      rw [← HR1.out.2.1] at hfin
                      have hfv := hfin.stop (by rw [HDl.out, HR1.out.2.1]) (by rw [HDv.out]; exact HGE.out)
                      rw [HDv.out, ← HF2.out] at hfv
                      have HF3 := Lib.hid (show Ok WW r2 ∧ r2.length = t ∧ val WW r2 = n / 2 ^ i % m from ⟨HDS.out.1, HDS.out.2.1.trans HR1.out.2.1, hfv⟩)
                      clear hfin hfv
                      go_wp2
                      refine ⟨⟨(i : Int) - 1, _, r2, by go_num, by omega, by omega, ?_, ?_, HBQ, HBR, HBD, HW⟩, by simp [intOf]⟩
                      · rw [show ((i : Int) - 1 + 1).toNat = i by omega]; exact HF1
                      · rw [show ((i : Int) - 1 + 1).toNat = i by omega]; exact HF3
            · have hs0F : decide ((0 : Int) < (s : Int)) = false := decide_eq_false (by omega)
              by_cases hxy : x < y
              · have hlt := (cmp_at HR1.out.1 HDo.out (HR1.out.2.1.trans HDl.out.symm) (by rw [HR1.out.2.1]; exact hsS) HAll.out HX.out HY.out).1 hxy
                rw [HR1.out.2.2, HDv.out] at hlt
                have hds := (div_step n m i HM0.out).2 (by rw [← HBi.out]; exact hlt)
                rw [← HBi.out] at hds
                have HF1 := Lib.hid (HQi.out.zero hds.2)
                have HF2 := Lib.hid (show Ok WW r1 ∧ r1.length = S ∧ val WW r1 = n / 2 ^ i % m from ⟨HR1.out.1, HR1.out.2.1, by rw [HR1.out.2.2, hds.1]⟩)
                have hxyI : (x : Int) < y := by omega
                clear hlt hds
                go_wp2
                go_quiet (fail)
                go_wp2
                go_quiet (fail)
                go_wp2
                refine ⟨⟨(i : Int) - 1, q, r1, rfl, by omega, by omega, ?_, ?_, Lib.hid (HBQ.out.drewN _), Lib.hid (HBR.out.drewN _), Lib.hid (HBD.out.drewN _), Lib.hid (pw_below_drewN HW.out _)⟩, by simp [intOf]⟩
                · rw [show ((i : Int) - 1 + 1).toNat = i by omega]; exact HF1
                · rw [show ((i : Int) - 1 + 1).toNat = i by omega]; exact HF2
              · have hge : m ≤ val WW r1 := by
                  obtain ⟨_, c2, c3⟩ := cmp_at HR1.out.1 HDo.out (HR1.out.2.1.trans HDl.out.symm) (by rw [HR1.out.2.1]; exact hsS) HAll.out HX.out HY.out
                  rw [HDv.out] at c2 c3
                  rcases Nat.lt_or_ge y x with h | h
                  · exact Nat.le_of_lt (c2 h)
                  · exact Nat.le_of_eq (c3 (by omega) (by omega)).symm
                have hds := (div_step n m i HM0.out).1 (by rw [← HBi.out, ← HR1.out.2.2]; exact hge)
                rw [← HBi.out, ← HR1.out.2.2] at hds
                have HF1 := Lib.hid (HQi.out.one hik hds.2)
                have HF2 := Lib.hid hds.1
                have HGE := Lib.hid hge
                have hxyI : (y : Int) ≤ x := by omega
                have hfq := HBQ.out.frozen i
                have hcq := BlkI.cell HBQ.out i (by rw [HQi.out.1]; exact hik)
                clear hge hds
                go_wp2
                go_quiet (fail)
                go_wp2
                go_quiet (fail)
                go_wp2
                go_loopw [15, 16] (fun bv jv wr' => ∃ (t bw : Nat) (r2 : List Int), bv = .int .i64 bw ∧ jv = .int .i64 t ∧ t ≤ S ∧ bw ≤ 1 ∧ Hid (DS r1 D r2 t bw) ∧ Hid (BlkI wr' gq (q.set i 1)) ∧ Hid (BlkI wr' gr r2) ∧ Hid (OwnI wr' w.heap.size (.slice (some ⟨gd, 0, none⟩) S cap) D) ∧ Hid (Below w.heap.size w wr')) (fun _ jv _ => S - (intOf jv).toNat)
                case atStart =>
                  refine ⟨0, 0, r1, rfl, rfl, by omega, by omega, Lib.hid (DS.start D HR1.out.1), ?_, ?_, ?_, ?_⟩
                  · exact Lib.hid ((HBQ.out.drewN _).set_ i 1)
                  · exact Lib.hid ((HBR.out.drewN _).far (p := ⟨gq, i, none⟩) (fun e => HNE.out.2.2.1 e.symm) _)
                  · exact Lib.hid ((HBD.out.drewN _).far (p := ⟨gq, i, none⟩) (by simp [Value.ownBlock]; exact fun e => HNE.out.1 e.symm) _)
                  · exact Lib.hid ((pw_below_drewN HW.out _).setCell (p := ⟨gq, i, none⟩) HNE.out.2.2.2.1 _)
                case round =>
                  clear HBQ HBR HBD HW hcx hcy hfq hcq hxyI HX HY HAll hxy
                  obtain ⟨t, bw, r2, rfl, rfl, ht, hbw, HDS, HBQ, HBR, HBD, HW⟩ := hrel
                  by_cases htS : t < S
                  · obtain ⟨uu, huu⟩ : ∃ x, x = r2.getD t 0 := ⟨_, rfl⟩
                    obtain ⟨vv, hvv⟩ : ∃ y, y = D.getD t 0 := ⟨_, rfl⟩
                    have hur := HDS.out.1.at_ (by decide) t
                    have hvr := HDo.out.at_ (by decide) t
                    have hcu := HBR.out.cell t (by rw [HDS.out.2.1, HR1.out.2.1]; exact htS)
                    have hfz := HBR.out.frozen t
                    have hcv := HBD.out.cell HDl.out t htS
                    rw [← huu] at hur hcu
                    rw [← hvv] at hvr hcv
                    obtain ⟨u, rfl⟩ := Int.eq_ofNat_of_zero_le hur.1
                    obtain ⟨v, rfl⟩ := Int.eq_ofNat_of_zero_le hvr.1
                    have hu1 : u < 32768 := by have := WW_eq; omega
                    have hv1 : v < 32768 := by have := WW_eq; omega
                    have HU := Lib.hid huu
                    have HVV := Lib.hid hvv
                    clear huu hvv hur hvr
                    by_cases hneg : (u : Int) - v - bw < 0
                    · have HSt := Lib.hid (HDS.out.step (z := u + 32768 - v - bw) (w' := 1) (by rw [HR1.out.2.1]; exact htS) (by rw [HDl.out, HR1.out.2.1]) HU.out HVV.out (by omega) (by omega))
                      go_wp2
                      go_quiet (fail)
                      go_wp2
                      rw [show ((u : Int) - v - bw + 32768) = ((u + 32768 - v - bw : Nat) : Int) by omega]
                      refine ⟨⟨t + 1, 1, _, by go_num, by go_num, by omega, by omega, HSt, ?_, ?_, ?_, ?_⟩, by simp [intOf]; omega⟩
                      · exact Lib.hid ((HBQ.out.drewN _).far (p := ⟨gr, t, none⟩) HNE.out.2.2.1 _)
                      · exact Lib.hid ((HBR.out.drewN _).set_ t _)
                      · exact Lib.hid ((HBD.out.drewN _).far (p := ⟨gr, t, none⟩) (by simp [Value.ownBlock]; exact fun e => HNE.out.2.1 e.symm) _)
                      · exact Lib.hid ((pw_below_drewN HW.out _).setCell (p := ⟨gr, t, none⟩) HNE.out.2.2.2.2 _)
                    · have hneg0 : 0 ≤ (u : Int) - v - bw := by omega
                      have HSt := Lib.hid (HDS.out.step (z := u - v - bw) (w' := 0) (by rw [HR1.out.2.1]; exact htS) (by rw [HDl.out, HR1.out.2.1]) HU.out HVV.out (by omega) (by omega))
                      go_wp2
                      go_quiet (fail)
                      go_wp2
                      rw [show ((u : Int) - v - bw) = ((u - v - bw : Nat) : Int) by omega]
                      refine ⟨⟨t + 1, 0, _, by go_num, by go_num, by omega, by omega, HSt, ?_, ?_, ?_, ?_⟩, by simp [intOf]; omega⟩
                      · exact Lib.hid ((HBQ.out.drewN _).far (p := ⟨gr, t, none⟩) HNE.out.2.2.1 _)
                      · exact Lib.hid ((HBR.out.drewN _).set_ t _)
                      · exact Lib.hid ((HBD.out.drewN _).far (p := ⟨gr, t, none⟩) (by simp [Value.ownBlock]; exact fun e => HNE.out.2.1 e.symm) _)
                      · exact Lib.hid ((pw_below_drewN HW.out _).setCell (p := ⟨gr, t, none⟩) HNE.out.2.2.2.2 _)
                  · obtain rfl : t = S := by omega
                    have hfin := HDS.out
                    rw [← HR1.out.2.1] at hfin
                    have hfv := hfin.stop (by rw [HDl.out, HR1.out.2.1]) (by rw [HDv.out]; exact HGE.out)
                    rw [HDv.out, ← HF2.out] at hfv
                    have HF3 := Lib.hid (show Ok WW r2 ∧ r2.length = t ∧ val WW r2 = n / 2 ^ i % m from ⟨HDS.out.1, HDS.out.2.1.trans HR1.out.2.1, hfv⟩)
                    clear hfin hfv
                    go_wp2
                    refine ⟨⟨(i : Int) - 1, _, r2, by go_num, by omega, by omega, ?_, ?_, HBQ, HBR, HBD, HW⟩, by simp [intOf]⟩
                    · rw [show ((i : Int) - 1 + 1).toNat = i by omega]; exact HF1
                    · rw [show ((i : Int) - 1 + 1).toNat = i by omega]; exact HF3
end Go.Proofs.Ytmfkabebhbecgaa.N
