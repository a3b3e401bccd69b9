/- cylinderref01.DivMod as a walk: quotient and remainder of two numbers as bits. Conditions: the slices of ints read as the bits of numbers, fewer than 2^33 each; the divisor is not 0. -/
import Derived.Test.YthadkjekagfjfaaR7
namespace Go.Proofs.Ythadkjekagfjfaa.N
open Go.RowKit Go.Proofs.Ythadkjekagfjfaa.Dig Go.Proofs.YthadkjekagfjfaaW.PrintWords Go.Proofs.YthadkjekagfjfaaW.PrintLast Go.Proofs.YthadkjekagfjfaaW.PrintMore
set_option linter.unusedVariables false

theorem OwnI.far {w : World} {B : Nat} {v : Value} {l : List Int} (h : OwnI w B v l) {p : Addr} (hp : some p.block ≠ v.ownBlock) (u : Value) : OwnI (w.setCell p u) B v l :=
  own_move h fun k hk => Below.heap_setCell w p u k (fun e => hp (by rw [hk, e]))
theorem OwnI.cell {w : World} {B g n cap : Nat} {l : List Int} (h : OwnI w B (.slice (some ⟨g, 0, none⟩) n cap) l) (hl : l.length = n) (i : Nat) (hi : i < n) : w.cell? ⟨g, i, none⟩ = some (.int .i64 (l.getD i 0)) := by
  have h2 := OwnI.row hl h
  rw [World.ownsRow.cellAt h2 i (by omega)]
  simp [encs, List.getD_eq_getElem?_getD, List.getElem?_eq_getElem (by omega : i < l.length)]
theorem OwnI.drewN {w : World} {B : Nat} {v : Value} {l : List Int} (h : OwnI w B v l) (m : Nat) : OwnI (w.drewN m) B v l := h

theorem BlkI.own {w : World} {B g n : Nat} {l : List Int} (h : BlkI w g l) (hB : B ≤ g) (hn : l.length = n) (hm : n ≤ maxLen) : OwnI w B (.slice (some ⟨g, 0, none⟩) n n) l := by
  subst hn
  refine ⟨by simp [encs], .inr ⟨g, l.length, arrI l, rfl, hB, h, Nat.le_refl _, hm, by rw [arrI_size, Nat.mul_one], ?_⟩⟩
  rw [Nat.mul_one]
  simp only [arrI, encs]
  exact List.take_of_length_le (by simp)

/-- Two results, as bits. -/
def MadeB2 (w : World) (n m : Nat) (e : Ending) (w' : World) : Prop := ∃ v v2, e = .returned (.tuple #[v, v2]) ∧ Bt w' v n ∧ Bt w' v2 m ∧ Below w.heap.size w w'

end Go.Proofs.Ythadkjekagfjfaa.N
