/- natural.Of and Normal as walks: a new slice of the number's digits without leading zeros. Conditions: Of's number is below 2^64; Normal's slice reads as fewer than 2^44 digits. -/
import Derived.Test.YthadkjekagfjfaaN3
import Derived.Test.YthadkjekagfjfaaApp
namespace Go.Proofs.Ythadkjekagfjfaa.N
open Go.RowKit Go.Proofs.Ythadkjekagfjfaa.Dig Go.Proofs.YthadkjekagfjfaaW.PrintWords Go.Proofs.YthadkjekagfjfaaW.PrintLast Go.Proofs.YthadkjekagfjfaaW.PrintMore
set_option linter.unusedVariables false

theorem nv_two (n : Nat) (h : n ≤ 18446744073709551615) : NOk [((n % 4294967296 : Nat) : Int), ((n / 4294967296 : Nat) : Int)] ∧ nv [((n % 4294967296 : Nat) : Int), ((n / 4294967296 : Nat) : Int)] = n := by
  have hb : ((BB : Nat) : Int) = 4294967296 := rfl
  constructor
  · intro d hd
    rw [hb]
    simp at hd
    omega
  · simp only [nv, val_cons, val_nil, Int.toNat_natCast, BB_eq]
    omega

/-- A number of the call's own is handed back. -/
def Made (w : World) (n : Nat) (e : Ending) (w' : World) : Prop := ∃ v, e = .returned v ∧ Own w' w.heap.size v (nd n) ∧ Below w.heap.size w w'

theorem of_any (n : Nat) (h : n ≤ 18446744073709551615) (w : World) : Calls Try.prog 53 #[.int .u64 n] w (Made w n) := by
  obtain ⟨ho, hv⟩ := nv_two n h
  obtain ⟨a, ha⟩ : ∃ a, a = n % 4294967296 := ⟨_, rfl⟩
  obtain ⟨b, hb⟩ : ∃ b, b = n / 4294967296 := ⟨_, rfl⟩
  have hc1 : ((n : Int) % 4294967296) = (a : Int) := by omega
  have hc2 : ((n : Int) / 4294967296) = (b : Int) := by omega
  have ha2 : (a : Int) ≤ 4294967295 := by omega
  have hb2 : (b : Int) ≤ 4294967295 := by omega
  rw [← ha, ← hb] at ho hv
  clear ha hb h
  have HB := Lib.hid (Blk.new w [(a : Int), (b : Int)])
  have HO := Lib.hid (HB.out.own (Nat.le_refl _) 2 (by simp) (by simp [maxLen]) ho)
  have HT := Lib.hid (trim_any HO.out.rd)
  have HV := Lib.hid hv
  clear hv ho
  go_enter Try.func53, Try.ntmps53
  go_wp2_with fail
  refine HT.out.mono ?_
  rintro e w' ⟨⟨v', rfl, _, hown⟩, rfl⟩
  have ho := hown _ HO.out
  rw [show (List.take 2 [(a : Int), (b : Int)]) = [(a : Int), (b : Int)] from rfl, HV.out] at ho
  have HQ := Lib.hid ho
  clear hown ho HO
  go_wp2
  go_ret
  exact ⟨_, rfl, HQ.out, (Below.refl _ _).alloc (Nat.le_refl _) _⟩

theorem own_of_row {w : World} {B : Nat} {v : Value} {l : List Int} (ho : NOk l) (h : w.ownsRow B 59 1 v l.length (encs (Value.int .u32) l)) : Own w B v l := ⟨ho, Kd.R_of_own h (fun _ _ => trivial)⟩

theorem reads_of_rd {w : World} {A : Option Addr} {l : List Int} (h : Kd.C (Kd.int .u32) w A l.length l) : App.Reads w w.heap.size 1 A l.length (encs (Value.int .u32) l) := by
  refine ⟨by simp [encs], fun hn => ?_⟩
  obtain ⟨ad, e, _⟩ := at_nat h hn
  refine ⟨ad, e, ?_, fun j u hu => ?_⟩
  · obtain ⟨ad2, e2, hc⟩ := at_zero h hn
    rw [e] at e2
    injection e2 with e2
    subst e2
    exact World.block_lt_of_cell? w ad hc
  · have hj : j < l.length := by
      have := (List.getElem?_eq_some_iff.1 hu).1
      simpa [encs] using this
    obtain ⟨ad3, e3, hc⟩ := at_nat h hj
    rw [e] at e3
    injection e3 with e3
    subst e3
    rw [hc]
    simp [encs, hj] at hu
    simp [hj, hu]

theorem normal_any {v : Value} {l : List Int} {w : World} (h : Rd w v l) (hl : l.length ≤ 17592186044416) : Calls Try.prog 49 #[v] w (Made w (nv l)) := by
  have HT := Lib.hid (trim_any h)
  have hn := nd_len_le h.ok
  have hk := nok_nd (nv l)
  clear h
  generalize nv l = n at *
  generalize hx : nd n = x at *
  have HX := Lib.hid hx
  have HK := Lib.hid hk
  obtain ⟨i0, hi0, hz0, hz1, hz2⟩ := info_parts infoU
  have HI := Lib.hid (And.intro hi0 (And.intro hz0 (And.intro hz1 hz2)))
  clear hx hk hi0 hz0 hz1 hz2
  go_enter Try.func49, Try.ntmps49
  go_wp2_with (first
    | (go_at_call 63; refine HT.out.mono ?_; rintro e w' ⟨⟨v', rfl, ⟨_, A', c', rfl, hc', hC'⟩, -⟩, rfl⟩)
    | (at_builtin; refine App.wpList_append_any _ rfl _ _ _ rfl w.heap.size 59 i0 (.int .u32 0) 1 4 Try.underlying23 HI.out.1 HI.out.2.1 HI.out.2.2.1 HI.out.2.2.2 rfl (by omega) (.slice none 0 0) 0 [] rfl ⟨by simp, .inl ⟨rfl, rfl⟩⟩ w.heap.size A' x.length c' (encs (Value.int .u32) x) rfl (reads_of_rd hC') ?a1 ?a2 ?a3 (Nat.le_refl _) ?_))
  case a1 => intro u hu; simp [encs] at hu; obtain ⟨_, _, rfl⟩ := hu; rfl
  case a2 => unfold maxLen; omega
  case a3 => omega
  intro v' w1 hown hg hat
  go_wp2
  go_ret
  refine ⟨_, rfl, ?_, (Below.refl _ _).grown hg (Nat.le_refl _) (by simp [Value.ownBlock])⟩
  rw [HX.out]
  exact own_of_row HK.out hown
end Go.Proofs.Ythadkjekagfjfaa.N
