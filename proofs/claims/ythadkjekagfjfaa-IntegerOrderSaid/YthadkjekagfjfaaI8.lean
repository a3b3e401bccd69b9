/- A variable of a struct that is made in a statement which draws its order: what the statement leaves, wherever the variable's block came to be made. Plain facts about worlds. -/
import Derived.Test.YthadkjekagfjfaaI7
import Derived.Deep.DeepCutAuto
import Derived.Deep.CutBlock
namespace Go.Proofs.Ythadkjekagfjfaa.N
open Go.RowKit Go.Proofs.Ythadkjekagfjfaa.Dig Go.Proofs.YthadkjekagfjfaaW.PrintWords Go.Proofs.YthadkjekagfjfaaW.PrintLast Go.Proofs.YthadkjekagfjfaaW.PrintMore
set_option linter.unusedVariables false

/-- The slot points at a block that holds the reference's integer z; what lay in W is as it was. -/
def LetR (W wx : World) (s : Value) (z : Int) (K : Nat) : Prop :=
  ∃ (g : Nat) (p : Int) (A : Option Addr) (m c : Nat), s = .pointer (some ⟨g, 0, none⟩) ∧ Box wx 30 g (.int .i64 p) (.slice A m c) ∧ ZBI wx p (.slice A m c) z K ∧ Below W.heap.size W wx
theorem LetR.last {W w : World} {p : Int} {A : Option Addr} {m c K : Nat} {z : Int} (h : ZBI w p (.slice A m c) z K) (hb : Below W.heap.size W w) :
    LetR W (w.alloc (.cells #[.int .i64 p, .slice A m c] 30)) (.pointer (some ⟨w.heap.size, 0, none⟩)) z K :=
  ⟨_, _, _, _, _, rfl, Box.new w _ _ _, h.alloc _, below_alloc hb _⟩
theorem LetR.put {W w : World} {g : Nat} {p : Int} {A : Option Addr} {m c K : Nat} {z : Int} (hx : Box w 30 g (.int .i64 0) (.slice none 0 0)) (h : ZBI w p (.slice A m c) z K) (hg : W.heap.size ≤ g) (hb : Below W.heap.size W w) :
    LetR W ((w.setCell ⟨g, 0, none⟩ (.int .i64 p)).setCell ⟨g, 1, none⟩ (.slice A m c)) (.pointer (some ⟨g, 0, none⟩)) z K :=
  ⟨_, _, _, _, _, rfl, (hx.set0 _).set1 _, ⟨h.1, h.2.far hx _ _⟩, (hb.setCell hg _).setCell hg _⟩
/-- The same of an integer. -/
def LetI (W wx : World) (s : Value) (z : Int) (k : Nat) : Prop :=
  ∃ (g : Nat) (b : Bool) (A : Option Addr) (m c : Nat), s = .pointer (some ⟨g, 0, none⟩) ∧ Box wx 25 g (.bool b) (.slice A m c) ∧ ZC wx b (.slice A m c) z k ∧ Below W.heap.size W wx
theorem LetI.last {W w : World} {b : Bool} {A : Option Addr} {m c k : Nat} {z : Int} (h : ZC w b (.slice A m c) z k) (hb : Below W.heap.size W w) :
    LetI W (w.alloc (.cells #[.bool b, .slice A m c] 25)) (.pointer (some ⟨w.heap.size, 0, none⟩)) z k :=
  ⟨_, _, _, _, _, rfl, Box.new w _ _ _, h.alloc _, below_alloc hb _⟩
theorem Rd.far {w : World} {t g : Nat} {v x : Value} {l : List Int} {b : Bool} {A : Option Addr} {n c : Nat} (h : Rd w v l) (hx : Box w t g (.bool b) (.slice A n c)) (u u' : Value) : Rd ((w.setCell ⟨g, 0, none⟩ u).setCell ⟨g, 1, none⟩ u') v l := by
  obtain ⟨ho, A', c', rfl, hc, hC⟩ := h
  refine ⟨ho, A', c', rfl, hc, Kd.C_keep (0 : Int) hC (((KeepBut.refl w g none).set_ 0 u).set_ 1 u') ?_⟩
  intro ad hA hpos hb
  obtain ⟨ad', hA', hcell⟩ := at_nat hC (i := 0) hpos
  obtain rfl : ad = ad' := by rw [hA] at hA'; exact Option.some.inj hA'
  have hb' : (ad.add 0).block = g := hb
  rcases cell_of_box hx hb' hcell with e | e <;> cases e
theorem LetI.put {W w : World} {g : Nat} {b : Bool} {A : Option Addr} {m c k : Nat} {z : Int} (hx : Box w 25 g (.bool false) (.slice none 0 0)) (h : ZC w b (.slice A m c) z k) (hg : W.heap.size ≤ g) (hb : Below W.heap.size W w) :
    LetI W ((w.setCell ⟨g, 0, none⟩ (.bool b)).setCell ⟨g, 1, none⟩ (.slice A m c)) (.pointer (some ⟨g, 0, none⟩)) z k := by
  have hr := h.2.2.far (x := .bool b) hx (.bool b) (.slice A m c)
  refine ⟨_, _, _, _, _, rfl, (hx.set0 _).set1 _, ⟨h.1, ?_, hr⟩, (hb.setCell hg _).setCell hg _⟩
  exact ⟨nd z.natAbs, hr, nv_nd _, (nd_len k _).2 h.2.1.lt⟩
/-- The zero box is ready for its store, a block made later or not. -/
theorem Box.rdyA {w : World} {t g : Nat} {x y : Value} (h : Box w t g x y) : w.cell? ⟨g, 0, none⟩ = some x ∧ w.frozen? ⟨g, 0, none⟩ = false ∧ (∀ u, (w.setCell ⟨g, 0, none⟩ u).cell? ⟨g, 1, none⟩ = some y) ∧ ∀ u, (w.setCell ⟨g, 0, none⟩ u).frozen? ⟨g, 1, none⟩ = false :=
  ⟨h.c0, h.fr 0, fun u => (h.set0 u).c1, fun u => (h.set0 u).fr 1⟩
theorem below_of_alloc {w w1 : World} {o : Obj} (h : Below (w.alloc o).heap.size (w.alloc o) w1) : Below w.heap.size w w1 := below_then (below_alloc (Below.refl _ _) o) (by simp) h
theorem below_of_drewN {w w1 : World} {n : Nat} (h : Below (w.drewN n).heap.size (w.drewN n) w1) : Below w.heap.size w w1 := below_then (pw_below_drewN (Below.refl _ _) n) (Nat.le_refl _) h
theorem below_of_drewN_alloc {w w1 : World} {n : Nat} {o : Obj} (h : Below ((w.drewN n).alloc o).heap.size ((w.drewN n).alloc o) w1) : Below w.heap.size w w1 := below_of_drewN (below_of_alloc h)
end Go.Proofs.Ythadkjekagfjfaa.N
