/- Package cylinderref02 as walks: an integer is its sign and the bits of its absolute value; what Make, Of, Is, Neg, Cmp, Add and Mul return. Conditions stand at each theorem. -/
import Derived.Test.YthadkjekagfjfaaI3
namespace Go.Proofs.Ythadkjekagfjfaa.N
open Go.RowKit Go.Proofs.Ythadkjekagfjfaa.Dig Go.Proofs.YthadkjekagfjfaaW.PrintWords Go.Proofs.YthadkjekagfjfaaW.PrintLast Go.Proofs.YthadkjekagfjfaaW.PrintMore
set_option linter.unusedVariables false

theorem cell_of_box {w : World} {t g : Nat} {x y : Value} (h : Box w t g x y) {a : Addr} (ha : a.block = g) {k : IntKind} {z : Int} (hc : w.cell? a = some (.int k z)) : x = .int k z ∨ y = .int k z := by
  unfold Box at h
  unfold World.cell? at hc
  rw [ha, h] at hc
  simp only at hc
  split at hc
  · cases hc
  · rcases hof : a.off with _ | _ | n
    · rw [hof] at hc; left; simpa using hc
    · rw [hof] at hc; right; simpa using hc
    · rw [hof] at hc; simp at hc

theorem bt_last {n : Nat} (h : 0 < (bt n).length) : (bt n).getD ((bt n).length - 1) 0 ≠ 0 := by
  rw [bt_at]
  have h1 : 2 ^ ((bt n).length - 1) ≤ n := by
    rcases Nat.lt_or_ge n (2 ^ ((bt n).length - 1)) with hlt | hge
    · have := (bt_len _ n).2 hlt; omega
    · exact hge
  have h2 := bt_lt n
  have e : 2 ^ (bt n).length = 2 * 2 ^ ((bt n).length - 1) := by
    conv => lhs; rw [show (bt n).length = (bt n).length - 1 + 1 by omega, Nat.pow_succ]
    exact Nat.mul_comm _ _
  have h3 : n / 2 ^ ((bt n).length - 1) = 1 := by
    have hp : 0 < 2 ^ ((bt n).length - 1) := Nat.pow_pos (by decide)
    have a1 : n / 2 ^ ((bt n).length - 1) < 2 := (Nat.div_lt_iff_lt_mul hp).2 (by omega)
    have a2 : 1 ≤ n / 2 ^ ((bt n).length - 1) := (Nat.le_div_iff_mul_le hp).2 (by omega)
    omega
  rw [h3]
  decide

/-- Bits of a number lie in no box of a zero Z. -/
theorem BN.far {w : World} {t g n K : Nat} {u : Value} (h : BN w u n K) (hx : Box w t g (.int .i64 0) (.slice none 0 0)) (v v' : Value) : BN ((w.setCell ⟨g, 0, none⟩ v).setCell ⟨g, 1, none⟩ v') u n K := by
  obtain ⟨⟨A, c, rfl, hc, hC⟩, hK⟩ := h
  refine ⟨⟨A, c, rfl, hc, Kd.C_keep (0 : Int) hC (((KeepBut.refl w g none).set_ 0 v).set_ 1 v') ?_⟩, hK⟩
  intro ad hA hpos hb
  obtain ⟨ad', hA', hcell⟩ := at_nat hC (i := (bt n).length - 1) (by omega)
  obtain rfl : ad = ad' := by rw [hA] at hA'; exact Option.some.inj hA'
  have hb' : (ad.add ((bt n).length - 1)).block = g := by unfold Addr.add; split <;> exact hb
  have hlast : (bt n).getD ((bt n).length - 1) 0 ≠ 0 := bt_last hpos
  rcases cell_of_box hx hb' hcell with e | e
  · injection e with _ e; exact hlast e.symm
  · cases e
theorem BN.nil_far (w : World) {K : Nat} : BN w (.slice none 0 0) 0 K := ⟨Bt.zero w, Nat.zero_le _⟩
theorem BN.drewN {w : World} {v : Value} {n K : Nat} (h : BN w v n K) (m : Nat) : BN (w.drewN m) v n K := h.below (pw_below_drewN (Below.refl _ _) m)
theorem BN.alloc {w : World} {v : Value} {n K : Nat} (h : BN w v n K) (o : Obj) : BN (w.alloc o) v n K := h.below (below_alloc (Below.refl _ _) o)

theorem set_alloc2 (w : World) (t : Nat) (x y a b : Value) : ((w.alloc (.cells #[x, y] t)).setCell ⟨w.heap.size, 0, none⟩ a).setCell ⟨w.heap.size, 1, none⟩ b = w.alloc (.cells #[a, b] t) := by
  rw [World.setCell_alloc_at _ _ _ _ _ rfl, World.setCell_alloc_at _ _ _ _ _ rfl]
  rfl
/-- An integer of the reference is handed back. -/
def MadeZB (w : World) (z : Int) (K : Nat) (e : Ending) (w' : World) : Prop := ∃ u, e = .returned (.agg #[.int .i64 (sgn z), u]) ∧ BN w' u z.natAbs K ∧ Below w.heap.size w w'
theorem MadeZB.put {w w2 : World} {z : Int} {K g : Nat} {u : Value} (hu : BN w2 u z.natAbs K) (hx : Box w2 30 g (.int .i64 0) (.slice none 0 0)) (hg : w.heap.size ≤ g) (hb : Below w.heap.size w w2) :
    MadeZB w z K (.returned (.agg #[.int .i64 (sgn z), u])) ((w2.setCell ⟨g, 0, none⟩ (.int .i64 (sgn z))).setCell ⟨g, 1, none⟩ u) :=
  ⟨u, rfl, hu.far hx _ _, (hb.setCell hg _).setCell hg _⟩
theorem sgn_cases (z : Int) : sgn z = -1 ∨ sgn z = 0 ∨ sgn z = 1 := by unfold sgn; split <;> (try split) <;> simp
theorem sgn_m {z : Int} : sgn z = -1 ↔ z < 0 := by unfold sgn; split <;> (try split) <;> simp <;> omega
theorem sgn_0 {z : Int} : sgn z = 0 ↔ z = 0 := by unfold sgn; split <;> (try split) <;> simp <;> omega
theorem sgn_p {z : Int} : sgn z = 1 ↔ 0 < z := by unfold sgn; split <;> (try split) <;> simp <;> omega

set_option maxHeartbeats 400000 in
theorem make_zero (b : Bool) {u : Value} {n K : Nat} {w : World} (h : BN w u n K) (h0 : n = 0) :
    Calls Try.prog 14 #[.bool b, u] w (MadeZB w (0) K) := by
  have hl := @bt_len0 n
  have hlen := hl.2 h0
  have H0 := Lib.hid h0
  clear hl
  go_enter Try.func14, Try.ntmps14
  go_wp2_with fail
  refine (trim_b (h.alloc _)).mono ?_
  rintro e w1 ⟨⟨v1, rfl, hn1⟩, rfl⟩
  have hx := Box.new w 30 (.int .i64 0) (.slice none 0 0)
  have HN := Lib.hid hn1
  obtain ⟨A, c, rfl⟩ := hn1.shp
  clear hn1
  rw [hlen] at HN
  rw [hlen]
  clear hlen h0
  go_wp2_with fail
  exact bodyPost_ret (v := .agg #[.int .i64 0, .slice none 0 0]) (by simp [results, Try.results14, go_sem]) rfl ⟨_, rfl, BN.nil_far _, below_alloc (Below.refl _ _) _⟩

set_option maxHeartbeats 400000 in
theorem make_neg {u : Value} {n K : Nat} {w : World} (h : BN w u n K) (h0 : n ≠ 0) :
    Calls Try.prog 14 #[.bool true, u] w (MadeZB w (sg true n) K) := by
  have hl := @bt_len0 n
  have hlen : 0 < (bt n).length := Nat.pos_of_ne_zero fun h => h0 (hl.1 h)
  have hs : sgn (sg true n) = -1 := sgn_m.2 (by simp [sg]; omega)
  have hab := sg_abs true n
  have HS := Lib.hid hs
  clear hl hs
  go_enter Try.func14, Try.ntmps14
  go_wp2_with fail
  refine (trim_b (h.alloc _)).mono ?_
  rintro e w1 ⟨⟨v1, rfl, hn1⟩, rfl⟩
  have hx := Box.new w 30 (.int .i64 0) (.slice none 0 0)
  have HN := Lib.hid hn1
  obtain ⟨A, c, rfl⟩ := hn1.shp
  clear hn1
  generalize (bt n).length = m at *
  clear h0
  go_wp2_with fail
  have hmake := MadeZB.put (w := w) (z := sg true n) (K := K) (by rw [hab]; exact HN.out) hx (Nat.le_refl _) (below_alloc (Below.refl _ _) _)
  rw [HS.out] at hmake
  refine bodyPost_ret (v := .agg #[.int .i64 (-1), .slice A m c]) (by simp [results, Try.results14, go_sem]) rfl ?_
  rw [set_alloc2] at hmake
  exact hmake

set_option maxHeartbeats 400000 in
theorem make_pos {u : Value} {n K : Nat} {w : World} (h : BN w u n K) (h0 : n ≠ 0) :
    Calls Try.prog 14 #[.bool false, u] w (MadeZB w (sg false n) K) := by
  have hl := @bt_len0 n
  have hlen : 0 < (bt n).length := Nat.pos_of_ne_zero fun h => h0 (hl.1 h)
  have hs : sgn (sg false n) = 1 := sgn_p.2 (by simp [sg]; omega)
  have hab := sg_abs false n
  have HS := Lib.hid hs
  clear hl hs
  go_enter Try.func14, Try.ntmps14
  go_wp2_with fail
  refine (trim_b (h.alloc _)).mono ?_
  rintro e w1 ⟨⟨v1, rfl, hn1⟩, rfl⟩
  have hx := Box.new w 30 (.int .i64 0) (.slice none 0 0)
  have HN := Lib.hid hn1
  obtain ⟨A, c, rfl⟩ := hn1.shp
  clear hn1
  generalize (bt n).length = m at *
  clear h0
  go_wp2_with fail
  have hmake := MadeZB.put (w := w) (z := sg false n) (K := K) (by rw [hab]; exact HN.out) hx (Nat.le_refl _) (below_alloc (Below.refl _ _) _)
  rw [HS.out] at hmake
  refine bodyPost_ret (v := .agg #[.int .i64 (1), .slice A m c]) (by simp [results, Try.results14, go_sem]) rfl ?_
  rw [set_alloc2] at hmake
  exact hmake

theorem make_b (b : Bool) {u : Value} {n K : Nat} {w : World} (h : BN w u n K) :
    Calls Try.prog 14 #[.bool b, u] w (MadeZB w (sg b n) K) := by
  by_cases h0 : n = 0
  · have e : sg b n = 0 := by subst h0; cases b <;> rfl
    rw [e]
    exact make_zero b h h0
  · cases b
    · exact make_pos h h0
    · exact make_neg h h0

/-- The walk's last line: the result lies in a box. -/
theorem BN.slc {w : World} {n K : Nat} {u : Value} (h : BN w u n K) : ∃ A m c, u = .slice A m c := by
  obtain ⟨A, c, e⟩ := h.shp
  exact ⟨A, _, c, e⟩

set_option maxHeartbeats 400000 in
theorem ofr_b (b : Bool) {s : Value} {n i : Nat} {w : World} (h : Num w s n i) (hi : i ≤ 1073741824) :
    Calls Try.prog 42 #[.bool b, s] w (MadeZB w (sg b n) (32 * i)) := by
  go_enter Try.func42, Try.ntmps42
  go_wp2_with fail
  refine (of_b (h.alloc _) hi).mono ?_
  rintro e w1 ⟨v1, rfl, hn1, hb1⟩
  have x1 := (Box.new w _ _ _).then_ hb1
  have B1 := below_then (below_alloc (Below.refl w.heap.size w) _) (by simp) hb1
  go_wp2_with fail
  refine (make_b b hn1).mono ?_
  rintro e w2 ⟨v2, rfl, hn2, hb2⟩
  have x2 := x1.then_ hb2
  have B2 := below_then B1 B1.size hb2
  obtain ⟨A, m, c, rfl⟩ := BN.slc hn2
  obtain ⟨p0, p1, p2, p3⟩ := x2.rdy (.int .i64 (sgn (sg b n)))
  go_wp2_with fail
  refine bodyPost_ret (results_cell_row rfl _ _ w.heap.size 30 _ (0, 0) _ rfl ((x2.set0 _).set1 _) Try.underlying30 rfl (by kernel_rfl)) rfl ?_
  exact MadeZB.put hn2 x2 (by simp; try omega) B2

set_option maxHeartbeats 400000 in
theorem is_zb {b : Bool} {s : Value} {n i : Nat} {w : World} {z : Int} {u : Value} {K : Nat} (h : Num w s n i) (hr : Rd w s (nd n)) (hu : BN w u z.natAbs K) (hi : i ≤ 8796093022208) (hj : K ≤ 34359738368) (hb : b = zneg z) (hn : n = z.natAbs) :
    Calls Try.prog 44 #[.bool b, s, .agg #[.int .i64 (sgn z), u]] w fun e w' => e = .returned (.bool true) ∧ Below w.heap.size w w' := by
  obtain ⟨A, m, c, rfl⟩ := BN.slc hu
  have HN := Lib.hid hn
  have e : (b == decide (sgn z < 0)) = true := by
    rw [hb, beq_iff_eq]
    unfold zneg
    rw [decide_eq_decide]
    unfold sgn
    split <;> (try split) <;> omega
  obtain ⟨q, hq⟩ : ∃ q, q = decide (sgn z < 0) := ⟨_, rfl⟩
  have HU := Lib.hid hu
  clear hn hu hb
  generalize sgn z = p at *
  cases b <;> (have e1 : decide (p < 0) = _ := (beq_iff_eq.1 e).symm) <;> clear e hq
  all_goals
    go_enter Try.func44, Try.ntmps44
    go_wp2_with fail
    refine (is_yes (h.alloc _) (hr.alloc _) (HU.out.alloc _) hi hj HN.out).mono ?_
    rintro e w1 ⟨rfl, hb1⟩
    have B1 := below_then (below_alloc (Below.refl w.heap.size w) _) (by simp) hb1
    go_wp2_with fail
    go_ret
    exact ⟨rfl, B1⟩

set_option maxHeartbeats 400000 in
theorem negr_b {z : Int} {u : Value} {K : Nat} {w : World} (h : BN w u z.natAbs K) :
    Calls Try.prog 32 #[.agg #[.int .i64 (sgn z), u]] w (MadeZB w (-z) K) := by
  obtain ⟨A, m, c, rfl⟩ := BN.slc h
  have hs : -sgn z = sgn (-z) := by unfold sgn; split <;> (repeat' split) <;> omega
  have hr := sgn_cases z
  have hab : (-z).natAbs = z.natAbs := by omega
  have HS := Lib.hid hs
  have HH := Lib.hid h
  have HA := Lib.hid hab
  clear hs h hab
  rcases hr with hr | hr | hr <;> rw [hr] <;> rw [hr] at HS <;> clear hr
  all_goals
    go_enter Try.func32, Try.ntmps32
    go_wp2_with fail
    refine bodyPost_ret (v := .agg #[.int .i64 _, .slice A m c]) (by simp [results, Try.results32, go_sem] <;> rfl) rfl ⟨.slice A m c, ?_, ?_, below_alloc (below_alloc (Below.refl _ _) _) _⟩
    · first | (rw [← HS.out]; done) | (rw [← HS.out]; rfl)
    · rw [HA.out]; exact (HH.out.alloc _).alloc _
end Go.Proofs.Ythadkjekagfjfaa.N
