/- Stores into a struct variable of one's own in a region walked by Flt: the world behind it gets a letter, with what is known of it. Plain laws about worlds. -/
import Derived.Test.YthadkjekagfjfaaI8
import Derived.Test.YthadkjekagfjfaaFlt
namespace Go.Proofs.Ythadkjekagfjfaa.N
open Go.RowKit Go.Proofs.Ythadkjekagfjfaa.Dig Go.Proofs.YthadkjekagfjfaaW.PrintWords Go.Proofs.YthadkjekagfjfaaW.PrintLast Go.Proofs.YthadkjekagfjfaaW.PrintMore
set_option linter.unusedVariables false
set_option maxRecDepth 100000

/-- w' is w with the two cells of block g turned. -/
def Put2 (w w' : World) (t g : Nat) (x y u v : Value) : Prop := Box w t g x y ∧ w' = (w.setCell ⟨g, 0, none⟩ u).setCell ⟨g, 1, none⟩ v
section
variable {w w' : World} {t g : Nat} {x y u v : Value}
theorem Put2.box (h : Put2 w w' t g x y u v) : Box w' t g u v := by
  obtain ⟨hx, rfl⟩ := h
  exact (hx.set0 u).set1 v
theorem Put2.far {t' g' : Nat} {x' y' : Value} (h : Put2 w w' t g x y u v) (hb : Box w t' g' x' y') (hne : g' ≠ g) : Box w' t' g' x' y' := by
  obtain ⟨hx, rfl⟩ := h
  exact (hb.far hne u).far hne v
theorem Put2.below {W : World} {B : Nat} (h : Put2 w w' t g x y u v) (hg : B ≤ g) (hb : Below B W w) : Below B W w' := by
  obtain ⟨hx, rfl⟩ := h
  exact (hb.setCell hg _).setCell hg _
/-- What a box of a sign or a bool and a slice held before its store: no digits and no bits of a number. -/
def Zr (x y : Value) : Prop := (((∃ i, x = .int .i64 i ∧ i ≠ 1) ∨ ∃ b, x = .bool b) ∧ ∃ A m c, y = .slice A m c)
theorem zrZ : Zr (.int .i64 0) (.slice none 0 0) := ⟨.inl ⟨0, rfl, by decide⟩, _, _, _, rfl⟩
theorem zrM {i : Int} {A : Option Addr} {m c : Nat} (h : Hid (i ≠ 1)) : Zr (.int .i64 i) (.slice A m c) := ⟨.inl ⟨i, rfl, h.out⟩, _, _, _, rfl⟩
theorem zrI {b : Bool} {A : Option Addr} {m c : Nat} : Zr (.bool b) (.slice A m c) := ⟨.inr ⟨_, rfl⟩, _, _, _, rfl⟩
theorem Rd.put {s : Value} {l : List Int} (h : Put2 w w' t g x y u v) (hz : Zr x y) (hr : Rd w s l) : Rd w' s l := by
  obtain ⟨hx, rfl⟩ := h
  obtain ⟨ho, A', c', rfl, hc, hC⟩ := hr
  refine ⟨ho, A', c', rfl, hc, Kd.C_keep (0 : Int) hC (((KeepBut.refl w g none).set_ 0 u).set_ 1 v) ?_⟩
  intro ad hA hpos hb
  obtain ⟨ad', hA', hcell⟩ := at_nat hC (i := 0) hpos
  obtain rfl : ad = ad' := by rw [hA] at hA'; exact Option.some.inj hA'
  have hb' : (ad.add 0).block = g := hb
  obtain ⟨hz1, A, m, c, rfl⟩ := hz
  rcases cell_of_box hx hb' hcell with e | e
  · rcases hz1 with ⟨i, rfl, _⟩ | ⟨b, rfl⟩ <;> cases e
  · cases e
theorem Num.put {s : Value} {n k : Nat} (h : Put2 w w' t g x y u v) (hz : Zr x y) (hr : Num w s n k) : Num w' s n k := by
  obtain ⟨l, a, b, c⟩ := hr
  exact ⟨l, Rd.put h hz a, b, c⟩
theorem ZI.put {b : Bool} {s : Value} {z : Int} {k : Nat} (hr : ZI w b s z k) (h : Put2 w w' t g x y u v) (hz : Zr x y) : ZI w' b s z k := ⟨hr.1, Num.put h hz hr.2⟩
theorem ZC.put {b : Bool} {s : Value} {z : Int} {k : Nat} (hr : ZC w b s z k) (h : Put2 w w' t g x y u v) (hz : Zr x y) : ZC w' b s z k := ⟨hr.1, Num.put h hz hr.2.1, Rd.put h hz hr.2.2⟩
theorem BN.put {s : Value} {n K : Nat} (h : Put2 w w' t g x y u v) (hz : Zr x y) (hr : BN w s n K) : BN w' s n K := by
  obtain ⟨hx, rfl⟩ := h
  obtain ⟨⟨A, c, rfl, hc, hC⟩, hK⟩ := hr
  refine ⟨⟨A, c, rfl, hc, Kd.C_keep (0 : Int) hC (((KeepBut.refl w g none).set_ 0 u).set_ 1 v) ?_⟩, hK⟩
  intro ad hA hpos hb
  obtain ⟨ad', hA', hcell⟩ := at_nat hC (i := (bt n).length - 1) (by omega)
  obtain rfl : ad = ad' := by rw [hA] at hA'; exact Option.some.inj hA'
  have hb' : (ad.add ((bt n).length - 1)).block = g := by unfold Addr.add; split <;> exact hb
  have hlast : (bt n).getD ((bt n).length - 1) 0 ≠ 0 := bt_last hpos
  obtain ⟨hz1, A, m, c, rfl⟩ := hz
  rcases cell_of_box hx hb' hcell with e | e
  · rcases hz1 with ⟨i, rfl, hi⟩ | ⟨b, rfl⟩
    · injection e with _ e
      have h2 := (bt_ok n).at_ (by decide) ((bt n).length - 1)
      omega
    · cases e
  · cases e
theorem ZBI.put {p : Int} {s : Value} {z : Int} {K : Nat} (hr : ZBI w p s z K) (h : Put2 w w' t g x y u v) (hz : Zr x y) : ZBI w' p s z K := ⟨hr.1, BN.put h hz hr.2⟩
end

theorem run_storeZ {ρ : Operand → Value} {p q : Operand} {g : Nat} {i : Int} {s x y : Value} {w : World} {t0 : TypeId} {po : String} {af : Array Edge} (hp : ρ p = .pointer (some ⟨g, 0, none⟩)) (A : Option Addr) (m c : Nat) (hs : s = .slice A m c) (hq : ρ q = .agg #[.int .i64 i, s]) (hx : Box w 30 g x y) :
    (execOp ρ ⟨none, .store 30 p q, t0, po, af, none⟩).run Try.prog w = .ok .skip ((w.setCell ⟨g, 0, none⟩ (.int .i64 i)).setCell ⟨g, 1, none⟩ s) := by
  subst hs
  obtain ⟨e0, e1, e2, e3⟩ := hx.rdy (.int .i64 i)
  simp only [execOp, hp, hq]
  go_simp
theorem run_storeI {ρ : Operand → Value} {p q : Operand} {g : Nat} {i : Bool} {s x y : Value} {w : World} {t0 : TypeId} {po : String} {af : Array Edge} (hp : ρ p = .pointer (some ⟨g, 0, none⟩)) (A : Option Addr) (m c : Nat) (hs : s = .slice A m c) (hq : ρ q = .agg #[.bool i, s]) (hx : Box w 25 g x y) :
    (execOp ρ ⟨none, .store 25 p q, t0, po, af, none⟩).run Try.prog w = .ok .skip ((w.setCell ⟨g, 0, none⟩ (.bool i)).setCell ⟨g, 1, none⟩ s) := by
  subst hs
  obtain ⟨e0, e1, e2, e3⟩ := hx.rdy (.bool i)
  simp only [execOp, hp, hq]
  go_simp
theorem put_none (a : Act) (v : Value) : a.put none v = a := rfl
theorem wpList_storeZ {ops : Array Oper} {Q : Exit → Act → World → Prop} {rest : List Oper} {a : Act} {w : World} {p q : Operand} {g : Nat} {i : Int} {A : Option Addr} {m c : Nat} {x y : Value} {t0 : TypeId} {po : String} {af : Array Edge}
    (hx : Box w 30 g x y) (hp : a.eval p = .pointer (some ⟨g, 0, none⟩)) (hq : a.eval q = .agg #[.int .i64 i, .slice A m c])
    (h : ∀ w', Put2 w w' 30 g x y (.int .i64 i) (.slice A m c) → wpList Try.prog ops Q rest a w') : wpList Try.prog ops Q (⟨none, .store 30 p q, t0, po, af, none⟩ :: rest) a w := by
  unfold wpList
  rw [if_pos (by rfl)]
  refine .inl ?_
  unfold Oper.wp
  rw [run_storeZ hp A m c rfl hq hx, Oper.upon_skip]
  exact h _ ⟨hx, rfl⟩
theorem wpList_storeI {ops : Array Oper} {Q : Exit → Act → World → Prop} {rest : List Oper} {a : Act} {w : World} {p q : Operand} {g : Nat} {i : Bool} {A : Option Addr} {m c : Nat} {x y : Value} {t0 : TypeId} {po : String} {af : Array Edge}
    (hx : Box w 25 g x y) (hp : a.eval p = .pointer (some ⟨g, 0, none⟩)) (hq : a.eval q = .agg #[.bool i, .slice A m c])
    (h : ∀ w', Put2 w w' 25 g x y (.bool i) (.slice A m c) → wpList Try.prog ops Q rest a w') : wpList Try.prog ops Q (⟨none, .store 25 p q, t0, po, af, none⟩ :: rest) a w := by
  unfold wpList
  rw [if_pos (by rfl)]
  refine .inl ?_
  unfold Oper.wp
  rw [run_storeI hp A m c rfl hq hx, Oper.upon_skip]
  exact h _ ⟨hx, rfl⟩
theorem zcmp_same (x y : Int) : (zcmp x y == 0) = zsame x y := by
  unfold zsame zcmp
  rw [Bool.eq_iff_iff, beq_iff_eq, decide_eq_true_iff]
  split <;> (try split) <;> omega
/-- The lays of a variable. -/
def fZ (i d : Nat) : Flt := ⟨i, d, .cells #[.int .i64 0, .slice none 0 0] 30⟩
def fI (i d : Nat) : Flt := ⟨i, d, .cells #[.bool false, .slice none 0 0] 25⟩
theorem isFltZ {ops : Array Oper} {i d : Nat} {t0 : TypeId} {po : String} {af : Array Edge} (h : ops[i]? = some ⟨some d, .alloc 30, t0, po, af, none⟩) : isFlt Try.prog ops (fZ i d) :=
  ⟨_, h, rfl, rfl, fun a w => by simp only [execOp]; go_simp; exact ⟨rfl, rfl⟩⟩
theorem isFltI {ops : Array Oper} {i d : Nat} {t0 : TypeId} {po : String} {af : Array Edge} (h : ops[i]? = some ⟨some d, .alloc 25, t0, po, af, none⟩) : isFlt Try.prog ops (fI i d) :=
  ⟨_, h, rfl, rfl, fun a w => by simp only [execOp]; go_simp; exact ⟨rfl, rfl⟩⟩
theorem isFlts {P : Program} {ops : Array Oper} {f : Flt} {A : List Flt} (h : isFlt P ops f) (t : ∀ x ∈ A, isFlt P ops x) : ∀ x ∈ f :: A, isFlt P ops x := fun x hx => by
  rcases List.mem_cons.1 hx with rfl | hx
  · exact h
  · exact t x hx
theorem isFlt0 {P : Program} {ops : Array Oper} : ∀ x ∈ ([] : List Flt), isFlt P ops x := fun x hx => by cases hx
end Go.Proofs.Ythadkjekagfjfaa.N
