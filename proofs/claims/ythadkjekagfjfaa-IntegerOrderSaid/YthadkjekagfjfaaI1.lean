/- Package integer as walks: an integer is a sign and a slice that reads as a number; what made, From, Of, Normal, Neg, Abs, Sign, IsOdd and BitLen return. Conditions stand at each theorem. -/
import Derived.Test.YthadkjekagfjfaaNum2
import Derived.Test.YthadkjekagfjfaaFew
import Derived.Deep.RegionHeld3
namespace Go.Proofs.Ythadkjekagfjfaa.N
open Go.RowKit Go.Proofs.Ythadkjekagfjfaa.Dig Go.Proofs.YthadkjekagfjfaaW.PrintWords Go.Proofs.YthadkjekagfjfaaW.PrintLast Go.Proofs.YthadkjekagfjfaaW.PrintMore
set_option linter.unusedVariables false

/-- The integer of a sign and an absolute value. -/
def sg (b : Bool) (n : Nat) : Int := cond b (-(n : Int)) n
def zneg (z : Int) : Bool := decide (z < 0)
theorem sg_abs (b : Bool) (n : Nat) : (sg b n).natAbs = n := by cases b <;> simp [sg]
theorem sg_neg (b : Bool) (n : Nat) : zneg (sg b n) = (b && decide (0 < n)) := by
  cases b with
  | true => simp [sg, zneg]
  | false =>
    have : ¬ ((n : Int) < 0) := by omega
    simp [sg, zneg, this]
theorem sg_z (z : Int) : sg (zneg z) z.natAbs = z := by
  unfold sg zneg
  by_cases h : z < 0
  · rw [decide_eq_true h, cond_true]; omega
  · rw [decide_eq_false h, cond_false]; omega

/-- A struct of two cells in a block of its own. -/
def Box (w : World) (t : Nat) (g : Nat) (x y : Value) : Prop := w.heap[g]? = some (.cells #[x, y] t (0, 0))
section
variable {w w' : World} {t g : Nat} {x y : Value}
theorem Box.new (w : World) (t : Nat) (x y : Value) : Box (w.alloc (.cells #[x, y] t)) t w.heap.size x y := heap_alloc_new w _
theorem Box.new1 (w : World) (o : Obj) (t : Nat) (x y : Value) : Box ((w.alloc o).alloc (.cells #[x, y] t)) t (w.heap.size + 1) x y := by
  have := Box.new (w.alloc o) t x y
  simpa using this
theorem Box.new2 (w : World) (o o' : Obj) (t : Nat) (x y : Value) : Box (((w.alloc o).alloc o').alloc (.cells #[x, y] t)) t (w.heap.size + 2) x y := by
  have := Box.new ((w.alloc o).alloc o') t x y
  simpa using this
theorem Box.lt (h : Box w t g x y) : g < w.heap.size := by
  rcases Nat.lt_or_ge g w.heap.size with hlt | hge
  · exact hlt
  · unfold Box at h; rw [Array.getElem?_eq_none hge] at h; cases h
theorem Box.c0 (h : Box w t g x y) : w.cell? ⟨g, 0, none⟩ = some x := by
  rw [cell_of_row w g 0 _ _ (0, 0) h]; rfl
theorem Box.c1 (h : Box w t g x y) : w.cell? ⟨g, 1, none⟩ = some y := by
  rw [cell_of_row w g 1 _ _ (0, 0) h]; rfl
theorem Box.fr (h : Box w t g x y) (i : Nat) : w.frozen? ⟨g, i, none⟩ = false := by
  unfold Box at h
  simp [World.frozen?, h]
theorem Box.set0 (h : Box w t g x y) (u : Value) : Box (w.setCell ⟨g, 0, none⟩ u) t g u y := by
  unfold Box at h ⊢
  simp [World.setCell, Array.getElem?_modify, h]
theorem Box.set1 (h : Box w t g x y) (u : Value) : Box (w.setCell ⟨g, 1, none⟩ u) t g x u := by
  unfold Box at h ⊢
  simp [World.setCell, Array.getElem?_modify, h]
theorem Box.rdy (h : Box w t g x y) (u : Value) : w.cell? ⟨g, 0, none⟩ = some x ∧ w.frozen? ⟨g, 0, none⟩ = false ∧ (w.setCell ⟨g, 0, none⟩ u).cell? ⟨g, 1, none⟩ = some y ∧ (w.setCell ⟨g, 0, none⟩ u).frozen? ⟨g, 1, none⟩ = false :=
  ⟨h.c0, h.fr 0, (h.set0 u).c1, (h.set0 u).fr 1⟩
theorem Box.alloc (h : Box w t g x y) (o : Obj) : Box (w.alloc o) t g x y := (Below.heap_alloc w o g h.lt).trans h
theorem Box.drewN (h : Box w t g x y) (n : Nat) : Box (w.drewN n) t g x y := h
theorem Box.drew (h : Box w t g x y) : Box w.drew t g x y := h
theorem Box.then_ (h : Box w t g x y) (hb : Below w.heap.size w w') : Box w' t g x y := (hb.block g h.lt).trans h
theorem Box.below (h : Box w t g x y) (hb : Below w.heap.size w w') : Box w' t g x y := h.then_ hb
theorem Box.far (h : Box w t g x y) {p : Addr} (hp : g ≠ p.block) (u : Value) : Box (w.setCell p u) t g x y := (Below.heap_setCell w p u g hp).trans h
end

/-- A canonical integer of the call's own is handed back. -/
def MadeZ (w : World) (z : Int) (k : Nat) (e : Ending) (w' : World) : Prop :=
  ∃ s, e = .returned (.agg #[.bool (zneg z), s]) ∧ Own w' w.heap.size s (nd z.natAbs) ∧ Num w' s z.natAbs k ∧ Below w.heap.size w w'

theorem Num.slc {w : World} {v : Value} {n k : Nat} (h : Num w v n k) : ∃ A m c, v = .slice A m c ∧ m ≤ k := by
  obtain ⟨l, ⟨_, A, c, e, _⟩, _, hk⟩ := h
  exact ⟨A, l.length, c, e, hk⟩
theorem Own.shp {w : World} {v : Value} {l : List Int} {B : Nat} (h : Own w B v l) : ∃ A c, v = .slice A l.length c := by
  obtain ⟨_, A, c, e, _⟩ := h.rd
  exact ⟨A, c, e⟩

theorem made_z (b : Bool) {s : Value} {n B : Nat} {w w0 : World} (ho : Own w0 B s (nd n)) :
    Calls Try.prog 45 #[.bool b, s] w fun e w' => e = .returned (.agg #[.bool (zneg (sg b n)), s]) ∧ Below w.heap.size w w' := by
  obtain ⟨A, c, rfl⟩ := ho.shp
  have hl := @nd_len0 n
  by_cases h0 : n = 0
  · have e : zneg (sg b n) = false := by rw [sg_neg, h0]; simp
    rw [e, hl.2 h0]
    clear hl ho h0 e
    cases b
    · go_enter Try.func45, Try.ntmps45
      go_wp2
      exact bodyPost_ret (v := .agg #[.bool false, .slice A 0 c]) (by simp [results, Try.results45, go_sem]) rfl ⟨rfl, (Below.refl _ _).alloc (Nat.le_refl _) _⟩
    · go_enter Try.func45, Try.ntmps45
      go_wp2
      exact bodyPost_ret (v := .agg #[.bool false, .slice A 0 c]) (by simp [results, Try.results45, go_sem]) rfl ⟨rfl, (Below.refl _ _).alloc (Nat.le_refl _) _⟩
  · have e : zneg (sg b n) = b := by rw [sg_neg]; simp; omega
    rw [e]
    have hpos : 0 < (nd n).length := Nat.pos_of_ne_zero fun h => h0 (hl.1 h)
    clear hl ho e h0
    generalize (nd n).length = m at *
    cases b
    · go_enter Try.func45, Try.ntmps45
      go_wp2
      exact bodyPost_ret (v := .agg #[.bool false, .slice A m c]) (by simp [results, Try.results45, go_sem]) rfl ⟨rfl, (Below.refl _ _).alloc (Nat.le_refl _) _⟩
    · go_enter Try.func45, Try.ntmps45
      go_wp2
      exact bodyPost_ret (v := .agg #[.bool true, .slice A m c]) (by simp [results, Try.results45, go_sem]) rfl ⟨rfl, (Below.refl _ _).alloc (Nat.le_refl _) _⟩

theorem Own.box {w : World} {B t g i : Nat} {v x y : Value} {l : List Int} (h : Own w B v l) (hx : Box w t g x y) (ht : ∀ q, q ∈ 59 :: (Kd.int .u32).E → q ≠ t) (u : Value) : Own (w.setCell ⟨g, i, none⟩ u) B v l :=
  ⟨h.1, Kd.R_mono (Kd.R_far (p := ⟨g, i, none⟩) (Kd.R_types h.2 hx ht) (fun _ hk => hk.2) u) (fun _ hk => hk.1)⟩

/-- The end of a walk whose result lies in a box. -/
theorem MadeZ.put {w w2 : World} {z : Int} {k B g : Nat} {s x y : Value} (ho : Own w2 B s (nd z.natAbs)) (hB : w.heap.size ≤ B) (hn : z.natAbs < BB ^ k) (hx : Box w2 25 g x y) (hg : w.heap.size ≤ g) (hb : Below w.heap.size w w2) :
    MadeZ w z k (.returned (.agg #[.bool (zneg z), s])) ((w2.setCell ⟨g, 0, none⟩ (.bool (zneg z))).setCell ⟨g, 1, none⟩ s) := by
  have h1 := (ho.box hx (i := 0) (by decide) (.bool (zneg z))).box (hx.set0 (.bool (zneg z))) (i := 1) (by decide) s
  exact ⟨s, rfl, h1.lower hB, Num.of_own h1 hn, (hb.setCell hg _).setCell hg _⟩
theorem Num.abs_lt {w : World} {v : Value} {n k : Nat} (b : Bool) (h : Num w v n k) : (sg b n).natAbs < BB ^ k := by rw [sg_abs]; exact h.lt
theorem Own.sg {w : World} {B : Nat} {v : Value} {n : Nat} (b : Bool) (h : Own w B v (nd n)) : Own w B v (nd (sg b n).natAbs) := by rw [sg_abs]; exact h

set_option maxHeartbeats 400000 in
theorem from_z (b : Bool) {s : Value} {n i : Nat} {w : World} (h : Num w s n i) (hi : i ≤ 8796093022208) :
    Calls Try.prog 20 #[.bool b, s] w (MadeZ w (sg b n) i) := by
  go_enter Try.func20, Try.ntmps20
  go_wp2_with fail
  refine (normal_n (h.alloc _) hi).mono ?_
  rintro e w1 ⟨v1, rfl, ho1, hn1, hb1⟩
  have x1 := (Box.new w _ _ _).then_ hb1
  have B1 := below_then (below_alloc (Below.refl w.heap.size w) _) (by simp) hb1
  go_wp2_with fail
  refine (made_z b ho1).mono ?_
  rintro e w2 ⟨rfl, hb2⟩
  have x2 := x1.then_ hb2
  have B2 := below_then B1 B1.size hb2
  have ho2 := (ho1.below hb2).sg b
  obtain ⟨A, c, rfl⟩ := ho1.shp
  obtain ⟨c0, f0, c1, f1⟩ := x2.rdy (.bool (zneg (sg b n)))
  go_wp2_with fail
  refine bodyPost_ret (results_cell_row rfl _ _ w.heap.size 25 _ (0, 0) _ rfl ((x2.set0 _).set1 _) Try.underlying25 rfl (by kernel_rfl)) rfl ?_
  exact MadeZ.put ho2 (by simp) (hn1.abs_lt b) x2 (Nat.le_refl _) B2

theorem u64_neg (m : Nat) (h0 : 0 < m) (h : m ≤ 9223372036854775808) : IntKind.u64.wrap (-(IntKind.u64.wrap (-(m : Int)))) = (m : Int) := by
  unfold IntKind.wrap
  simp [IntKind.signed, IntKind.bits]
  omega

set_option maxHeartbeats 400000 in
theorem normal_z (b : Bool) {s : Value} {n i : Nat} {w : World} (h : Num w s n i) (hi : i ≤ 8796093022208) :
    Calls Try.prog 21 #[.agg #[.bool b, s]] w (MadeZ w (sg b n) (i)) := by
  obtain ⟨As, ms, cs, rfl, _⟩ := h.slc
  go_enter Try.func21, Try.ntmps21
  go_wp2_with fail
  refine (from_z b ((h.alloc _).alloc _) hi).mono ?_
  rintro e w1 ⟨v1, rfl, ho1, hn1, hb1⟩
  have x1 := (Box.new1 w _ _ _ _).then_ hb1
  have B1 := below_then (below_alloc (below_alloc (Below.refl w.heap.size w) _) _) (by simp; try omega) hb1
  obtain ⟨A, c, rfl⟩ := ho1.shp
  obtain ⟨c0, f0, c1, f1⟩ := x1.rdy (.bool (zneg (sg b n)))
  go_wp2_with fail
  refine bodyPost_ret (results_cell_row rfl _ _ (w.heap.size + 1) 25 _ (0, 0) _ rfl ((x1.set0 _).set1 _) Try.underlying25 rfl (by kernel_rfl)) rfl ?_
  exact MadeZ.put ho1 (by simp; try omega) hn1.lt x1 (by simp) B1

set_option maxHeartbeats 400000 in
theorem abs_z (b : Bool) {s : Value} {n i : Nat} {w : World} (h : Num w s n i) (hi : i ≤ 8796093022208) :
    Calls Try.prog 36 #[.agg #[.bool b, s]] w (MadeZ w (sg false n) (i)) := by
  obtain ⟨As, ms, cs, rfl, _⟩ := h.slc
  go_enter Try.func36, Try.ntmps36
  go_wp2_with fail
  refine (from_z false ((h.alloc _).alloc _) hi).mono ?_
  rintro e w1 ⟨v1, rfl, ho1, hn1, hb1⟩
  have x1 := (Box.new1 w _ _ _ _).then_ hb1
  have B1 := below_then (below_alloc (below_alloc (Below.refl w.heap.size w) _) _) (by simp; try omega) hb1
  obtain ⟨A, c, rfl⟩ := ho1.shp
  obtain ⟨c0, f0, c1, f1⟩ := x1.rdy (.bool (zneg (sg false n)))
  go_wp2_with fail
  refine bodyPost_ret (results_cell_row rfl _ _ (w.heap.size + 1) 25 _ (0, 0) _ rfl ((x1.set0 _).set1 _) Try.underlying25 rfl (by kernel_rfl)) rfl ?_
  exact MadeZ.put ho1 (by simp; try omega) hn1.lt x1 (by simp) B1

set_option maxHeartbeats 400000 in
theorem neg_z (b : Bool) {s : Value} {n i : Nat} {w : World} (h : Num w s n i) (hi : i ≤ 8796093022208) :
    Calls Try.prog 35 #[.agg #[.bool b, s]] w (MadeZ w (sg (!b) n) (i)) := by
  obtain ⟨As, ms, cs, rfl, _⟩ := h.slc
  go_enter Try.func35, Try.ntmps35
  go_wp2_with fail
  refine (from_z (!b) ((h.alloc _).alloc _) hi).mono ?_
  rintro e w1 ⟨v1, rfl, ho1, hn1, hb1⟩
  have x1 := (Box.new1 w _ _ _ _).then_ hb1
  have B1 := below_then (below_alloc (below_alloc (Below.refl w.heap.size w) _) _) (by simp; try omega) hb1
  obtain ⟨A, c, rfl⟩ := ho1.shp
  obtain ⟨c0, f0, c1, f1⟩ := x1.rdy (.bool (zneg (sg (!b) n)))
  go_wp2_with fail
  refine bodyPost_ret (results_cell_row rfl _ _ (w.heap.size + 1) 25 _ (0, 0) _ rfl ((x1.set0 _).set1 _) Try.underlying25 rfl (by kernel_rfl)) rfl ?_
  exact MadeZ.put ho1 (by simp; try omega) hn1.lt x1 (by simp) B1
end Go.Proofs.Ythadkjekagfjfaa.N
