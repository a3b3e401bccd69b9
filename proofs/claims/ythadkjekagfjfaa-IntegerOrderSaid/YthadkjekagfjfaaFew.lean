/- The law's own helpers as walks: cylinderref01.Few over a list of slices, and awake of cylinderlaw01, which returns true. -/
import Derived.Test.YthadkjekagfjfaaN9
namespace Go.Proofs.Ythadkjekagfjfaa.N
open Go.RowKit Go.Proofs.Ythadkjekagfjfaa.Dig Go.Proofs.YthadkjekagfjfaaW.PrintWords Go.Proofs.YthadkjekagfjfaaW.PrintLast Go.Proofs.YthadkjekagfjfaaW.PrintMore
set_option linter.unusedVariables false

set_option maxHeartbeats 400000 in
theorem few_any (n : Int) (g : Nat) (ls : List Nat) (c : Nat) (w : World) (hl : ls.length ≤ 1000) (hs : ∀ i, i < ls.length → ∃ A c', w.cell? ⟨g, i, none⟩ = some (.slice A (ls.getD i 0) c')) :
    Calls Try.prog 41 #[.int .i64 n, .slice (some ⟨g, 0, none⟩) ls.length c] w fun e w' => e = .returned (.bool (ls.all fun x => decide ((x : Int) ≤ n))) ∧ w = w' := by
  have HS := Lib.hid hs
  obtain ⟨k, hk⟩ : ∃ k, k = ls.length := ⟨_, rfl⟩
  have HK := Lib.hid hk
  rw [← hk] at hl ⊢
  clear hs hk
  go_enter Try.func41, Try.ntmps41
  go_wp2
  go_loop [5] (fun i => ∃ j : Nat, i = .int .i64 j ∧ j ≤ k ∧ Hid ((ls.take j).all (fun x => decide ((x : Int) ≤ n)) = true)) (fun i => k - (intOf i).toNat)
  case atStart => exact ⟨0, rfl, Nat.zero_le _, Lib.hid (by simp)⟩
  case round =>
    obtain ⟨j, rfl, hj, HA⟩ := hrel
    by_cases hjk : j < k
    · obtain ⟨A, c', hcell⟩ := HS.out j (by have := HK.out; omega)
      obtain ⟨d, hd⟩ : ∃ d, d = ls.getD j 0 := ⟨_, rfl⟩
      rw [← hd] at hcell
      have HD := Lib.hid hd
      clear hd
      have hlt : j < ls.length := by have := HK.out; omega
      have HLT := Lib.hid hlt
      clear hlt
      by_cases hdn : (d : Int) ≤ n
      · go_wp2
        go_round
        case rel =>
          refine ⟨j + 1, by go_num, by omega, Lib.hid ?_⟩
          have e : ls[j]'HLT.out = d := by rw [HD.out, List.getD_eq_getElem?_getD, List.getElem?_eq_getElem HLT.out]; rfl
          rw [List.take_succ_eq_append_getElem HLT.out, List.all_append, HA.out, e]
          simp [hdn]
        case measure => simp [intOf]; omega
      · go_wp2
        go_ret
        refine ⟨ret_bool ?_, rfl⟩
        symm
        rw [List.all_eq_false]
        refine ⟨d, ?_, by simpa using hdn⟩
        rw [HD.out, List.getD_eq_getElem?_getD, List.getElem?_eq_getElem HLT.out]
        exact List.getElem_mem _
    · obtain rfl : j = k := by omega
      go_wp2
      go_ret
      refine ⟨ret_bool ?_, rfl⟩
      have := HA.out
      rw [HK.out, List.take_length] at this
      exact this.symm

/-- The value is a slice of n elements. -/
def Shp (v : Value) (n : Nat) : Prop := ∃ A c, v = .slice A n c
theorem Rd.shp {w : World} {v : Value} {l : List Int} (h : Rd w v l) : Shp v l.length := by
  obtain ⟨_, A, c, e, _⟩ := h
  exact ⟨A, c, e⟩

theorem Shp.cells {v : Value} {n : Nat} (h : Shp v n) : v.cells = #[v] := by
  obtain ⟨A, c, rfl⟩ := h
  rfl

theorem few_new (n : Int) (ls : List Nat) (vs : List Value) (T c : Nat) (W : World) (hl : ls.length ≤ 1000) (hv : vs.length = ls.length) (hs : ∀ i, i < ls.length → ∃ v, vs[i]? = some v ∧ Shp v (ls.getD i 0)) :
    Calls Try.prog 41 #[.int .i64 n, .slice (some ⟨W.heap.size, 0, none⟩) ls.length c] (W.alloc (.cells vs.toArray T)) fun e w' => e = .returned (.bool (ls.all fun x => decide ((x : Int) ≤ n))) ∧ Below W.heap.size W w' :=
  (few_any n W.heap.size ls c _ hl (fun i hi => by
    obtain ⟨v, h1, A, c', rfl⟩ := hs i hi
    exact ⟨A, c', by rw [cell_of_row _ _ i _ _ (0, 0) (heap_alloc_new W _)]; simpa using h1⟩)).mono fun e w' ⟨h1, h2⟩ => ⟨h1, by subst h2; exact below_alloc (Below.refl _ _) _⟩

section
variable {v0 v1 v2 : Value} {n0 n1 n2 : Nat} {T : Nat}
theorem few1 (n : Int) (s0 : Shp v0 n0) (W : World) (r : Bool) (hr : decide ((n0 : Int) ≤ n) = r) :
    Calls Try.prog 41 #[.int .i64 n, .slice (some ⟨W.heap.size, 0, none⟩) 1 1] (W.alloc (.cells #[v0] T)) fun e w' => e = .returned (.bool r) ∧ Below W.heap.size W w' := by
  rw [← hr]
  have := few_new n [n0] [v0] T 1 W (by simp) rfl (fun i hi => by
    match i, hi with
    | 0, _ => exact ⟨v0, rfl, s0⟩)
  simpa using this
theorem few2 (n : Int) (s0 : Shp v0 n0) (s1 : Shp v1 n1) (W : World) (r : Bool) (hr : (decide ((n0 : Int) ≤ n) && decide ((n1 : Int) ≤ n)) = r) :
    Calls Try.prog 41 #[.int .i64 n, .slice (some ⟨W.heap.size, 0, none⟩) 2 2] (W.alloc (.cells #[v0, v1] T)) fun e w' => e = .returned (.bool r) ∧ Below W.heap.size W w' := by
  rw [← hr]
  have := few_new n [n0, n1] [v0, v1] T 2 W (by simp) rfl (fun i hi => by
    match i, hi with
    | 0, _ => exact ⟨v0, rfl, s0⟩
    | 1, _ => exact ⟨v1, rfl, s1⟩)
  simpa using this
theorem few3 (n : Int) (s0 : Shp v0 n0) (s1 : Shp v1 n1) (s2 : Shp v2 n2) (W : World) (r : Bool) (hr : (decide ((n0 : Int) ≤ n) && (decide ((n1 : Int) ≤ n) && decide ((n2 : Int) ≤ n))) = r) :
    Calls Try.prog 41 #[.int .i64 n, .slice (some ⟨W.heap.size, 0, none⟩) 3 3] (W.alloc (.cells #[v0, v1, v2] T)) fun e w' => e = .returned (.bool r) ∧ Below W.heap.size W w' := by
  rw [← hr]
  have := few_new n [n0, n1, n2] [v0, v1, v2] T 3 W (by simp) rfl (fun i hi => by
    match i, hi with
    | 0, _ => exact ⟨v0, rfl, s0⟩
    | 1, _ => exact ⟨v1, rfl, s1⟩
    | 2, _ => exact ⟨v2, rfl, s2⟩)
  simpa using this
end
end Go.Proofs.Ythadkjekagfjfaa.N
