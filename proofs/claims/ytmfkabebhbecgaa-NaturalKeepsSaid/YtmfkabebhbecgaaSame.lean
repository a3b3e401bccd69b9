/- Rows that a law writes into: what is known of a result's cells while they are written, and cylinderlaw's 'same' over two slices that read alike. -/
import Derived.Test.YtmfkabebhbecgaaNum
import Derived.Test.YtmfkabebhbecgaaFew
namespace Go.Proofs.Ytmfkabebhbecgaa.N
open Go.RowKit Go.Proofs.Ytmfkabebhbecgaa.Dig Go.Proofs.YtmfkabebhbecgaaW.PrintWords Go.Proofs.YtmfkabebhbecgaaW.PrintLast Go.Proofs.YtmfkabebhbecgaaW.PrintMore
set_option linter.unusedVariables false

/-- A slice of uint32 whose row may be written: it lies at B or beyond. -/
def GoodRow (w : World) (B : Nat) (v : Value) : Prop :=
  v = .slice none 0 0 ∨ ∃ g n cap cur, v = .slice (some ⟨g, 0, none⟩) n cap ∧ n ≤ 9223372036854775807 ∧ B ≤ g ∧ w.heap[g]? = some (.cells cur 23 (0, 0)) ∧ ∀ i, i < n → ∃ x : Int, cur[i]? = some (.int .u32 x)
section
variable {w w' : World} {B : Nat} {v : Value} {l : List Int}
theorem GoodRow.below (h : GoodRow w B v) (hb : Below w.heap.size w w') : GoodRow w' B v := by
  rcases h with h | ⟨g, n, cap, cur, rfl, hn, hg, hh, hc⟩
  · exact .inl h
  · refine .inr ⟨g, n, cap, cur, rfl, hn, hg, (hb.block g ?_).trans hh, hc⟩
    exact (Array.getElem?_eq_some_iff.1 hh).1
theorem GoodRow.lower {B' : Nat} (h : GoodRow w B v) (hb : B' ≤ B) : GoodRow w B' v := by
  rcases h with h | ⟨g, n, cap, cur, rfl, hn, hg, hh, hc⟩
  · exact .inl h
  · exact .inr ⟨g, n, cap, cur, rfl, hn, by omega, hh, hc⟩
theorem GoodRow.set_ (h : GoodRow w B v) (b off : Nat) (x : Int) : GoodRow (w.setCell ⟨b, off, none⟩ (.int .u32 x)) B v := by
  rcases h with h | ⟨g, n, cap, cur, rfl, hn, hg, hh, hc⟩
  · exact .inl h
  · by_cases hp : g = b
    · refine .inr ⟨g, n, cap, cur.setIfInBounds off (.int .u32 x), rfl, hn, hg, ?_, fun i hi => ?_⟩
      · subst hp
        simp [World.setCell, Array.getElem?_modify, hh]
      · obtain ⟨y, hy⟩ := hc i hi
        rw [Array.getElem?_setIfInBounds]
        split
        · rename_i e
          subst e
          have := (Array.getElem?_eq_some_iff.1 hy).1
          rw [if_pos this]
          exact ⟨x, rfl⟩
        · exact ⟨y, hy⟩
    · exact .inr ⟨g, n, cap, cur, rfl, hn, hg, (Below.heap_setCell w ⟨b, off, none⟩ _ g hp).trans hh, hc⟩
theorem GoodRow.of_own (h : Own w B v l) (hl : l.length ≤ 9223372036854775807) : GoodRow w B v := by
  obtain ⟨hk, hR⟩ := h
  obtain ⟨A, c, he, hlc, hC⟩ := Kd.R_reads hR
  obtain ⟨inner, ho⟩ := Kd.R_own hR
  rcases ho.2 with ⟨h1, _⟩ | ⟨g, cap, cur, h1, hg, hh, hnc, hcm, hcs, htake⟩
  · exact .inl h1
  · refine .inr ⟨g, l.length, cap, cur, h1, hl, hg, hh, fun i hi => ?_⟩
    obtain ⟨ad, hA, hcell⟩ := at_nat hC hi
    subst he
    injection h1 with h1
    rw [hA] at h1
    injection h1 with h1
    subst h1
    rw [add_plain] at hcell
    rw [cell_of_row w g i cur _ (0, 0) hh] at hcell
    exact ⟨_, hcell⟩
end

theorem GoodRow.of_n {w : World} {B : Nat} {v : Value} {n k : Nat} (ho : Own w B v (nd n)) (hn : Num w v n k) (hk : k ≤ 9223372036854775807) : GoodRow w B v :=
  GoodRow.of_own ho (Nat.le_trans ((nd_len k n).2 hn.lt) hk)
theorem GoodRow.shp {w : World} {B : Nat} {v : Value} (h : GoodRow w B v) : ∃ A n c, v = .slice A n c := by
  rcases h with h | ⟨g, n, cap, cur, h, _⟩
  · exact ⟨_, _, _, h⟩
  · exact ⟨_, _, _, h⟩
theorem GoodRow.cell {w : World} {B g n cap : Nat} (h : GoodRow w B (.slice (some ⟨g, 0, none⟩) n cap)) (i : Nat) (hi : i < n) :
    ∃ x : Int, w.cell? ⟨g, i, none⟩ = some (.int .u32 x) ∧ w.frozen? ⟨g, i, none⟩ = false ∧ B ≤ g ∧ ∃ cur, w.heap[g]? = some (.cells cur 23 (0, 0)) := by
  rcases h with h | ⟨g', n', cap', cur, h, hn, hg, hh, hc⟩
  · simp at h
  · simp only [Value.slice.injEq, Option.some.injEq, Addr.mk.injEq, and_true] at h
    obtain ⟨rfl, rfl, rfl⟩ := h
    obtain ⟨x, hx⟩ := hc i hi
    exact ⟨x, (cell_of_row w g i cur _ (0, 0) hh).trans hx, by simp [World.frozen?, hh], hg, cur, hh⟩
theorem GoodRow.far {w : World} {g t : Nat} {cs : Array Value} {cur : Array Value} {gl : Nat} (h1 : w.heap[g]? = some (.cells cur 23 (0, 0))) (h2 : w.heap[gl]? = some (.cells cs t (0, 0))) (ht : t ≠ 23) : g ≠ gl := by
  rintro rfl
  rw [h1] at h2
  injection h2 with h2
  injection h2 with _ h2
  exact ht h2.symm

theorem sub_good {w : World} {v1 v2 : Value} {n m i j : Nat} (h1 : Num w v1 n i) (h2 : Num w v2 m j) (hi : i ≤ 8796093022208) : Calls Try.prog 33 #[v1, v2] w fun e w' => ∃ v r, e = .returned (.tuple #[v, .bool r]) ∧ GoodRow w' w.heap.size v ∧ Below w.heap.size w w' := by
  rcases Nat.lt_or_ge n m with h | h
  · exact (sub_no h1 h2 h).mono fun e w' hm => ⟨_, _, hm.1, .inl rfl, hm.2⟩
  · refine (sub_n h1 h2 hi h).mono fun e w' hm => ?_
    obtain ⟨v, he, ho, hn, hb⟩ := hm
    exact ⟨_, _, he, GoodRow.of_n ho hn (by omega), hb⟩

theorem same_any {v1 v2 : Value} {l : List Int} {w : World} (h1 : Rd w v1 l) (h2 : Rd w v2 l) (hl : l.length ≤ 8796093022208) :
    Calls Try.prog 36 #[v1, v2] w fun e w' => e = .returned (.bool true) ∧ Below w.heap.size w w' := by
  obtain ⟨hk, A, c, rfl, hc, hC⟩ := h1
  obtain ⟨_, A2, c2, rfl, hc2, hC2⟩ := h2
  obtain ⟨k, hkl⟩ : ∃ k, k = l.length := ⟨_, rfl⟩
  have HK := Lib.hid hkl
  have HO := Lib.hid hk
  have H1 := Lib.hid hC
  have H2 := Lib.hid hC2
  rw [← hkl] at hc hc2 hl ⊢
  clear hC hC2 hkl hk
  go_enter Try.func36, Try.ntmps36
  go_wp2
  go_loopw [5] (fun i wr => ∃ t : Nat, i = .int .i64 t ∧ t ≤ k ∧ Hid (Below w.heap.size w wr)) (fun i _ => k - (intOf i).toNat)
  case atStart => exact ⟨0, rfl, by omega, Lib.hid (Below.refl _ _)⟩
  case round =>
    obtain ⟨t, rfl, ht, HW⟩ := hrel
    by_cases htk : t < k
    · obtain ⟨ad, hA, hcell⟩ := at_nat (Kd.C_below H1.out HW.out) (i := t) (by have := HK.out; omega)
      obtain ⟨ad2, hA2, hcell2⟩ := at_nat (Kd.C_below H2.out HW.out) (i := t) (by have := HK.out; omega)
      subst hA hA2
      generalize l.getD t 0 = d at *
      have HHW := HW
      clear HW
      go_wp2
      go_quiet (fail)
      go_wp2
      go_roundw
      case rel => exact ⟨t + 1, by go_num, by omega, Lib.hid (pw_below_drewN HHW.out _)⟩
      case measure => simp [intOf]; omega
    · obtain rfl : t = k := by omega
      go_wp2
      go_ret
      exact ⟨rfl, HW.out⟩
end Go.Proofs.Ytmfkabebhbecgaa.N
