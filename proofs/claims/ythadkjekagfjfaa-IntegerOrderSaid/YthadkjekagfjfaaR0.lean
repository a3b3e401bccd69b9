/- Words for the walks over package cylinderref01: a slice of ints that reads as a list, one that is the call's own, a block that is known whole; bits as lists of 0 and 1. Plain facts; no function of the program is entered. -/
import Derived.Test.YthadkjekagfjfaaBl
namespace Go.Proofs.Ythadkjekagfjfaa.N
open Go.RowKit Go.Proofs.Ythadkjekagfjfaa.Dig Go.Proofs.YthadkjekagfjfaaW.PrintWords Go.Proofs.YthadkjekagfjfaaW.PrintLast Go.Proofs.YthadkjekagfjfaaW.PrintMore
set_option linter.unusedVariables false

theorem infoI : (Try.prog.info? 3).map (fun i => (i.zero, i.size, i.bytes)) = some (some (.int .i64 0), 1, 8) := by kernel_rfl

/-- The slice value v reads as the ints l. -/
def RdI (w : World) (v : Value) (l : List Int) : Prop := ∃ A c, v = .slice A l.length c ∧ l.length ≤ c ∧ Kd.C (Kd.int .i64) w A l.length l
/-- The slice value v is the call's own (blocks from B on) and reads as the ints l. -/
def OwnI (w : World) (B : Nat) (v : Value) (l : List Int) : Prop := w.ownsRow B 3 1 v l.length (encs (Value.int .i64) l)

section
variable {w w' : World} {v : Value} {l : List Int} {B : Nat}
theorem RdI.below (h : RdI w v l) (hb : Below w.heap.size w w') : RdI w' v l := by
  obtain ⟨A, c, e, hc, hr⟩ := h
  exact ⟨A, c, e, hc, Kd.C_below hr hb⟩
theorem RdI.drewN (h : RdI w v l) (n : Nat) : RdI (w.drewN n) v l := h.below (pw_below_drewN (Below.refl _ _) n)
theorem RdI.alloc (h : RdI w v l) (o : Obj) : RdI (w.alloc o) v l := h.below (below_alloc (Below.refl _ _) o)
theorem RdI.nil (w : World) : RdI w (.slice none 0 0) [] := ⟨none, 0, rfl, Nat.le_refl _, Kd.C_nil _ _⟩
theorem OwnI.kd (h : OwnI w B v l) : Kd.R (Kd.int .i64) 3 w B (fun _ => True) v l := Kd.R_of_own h (fun _ _ => trivial)
theorem OwnI.rd (h : OwnI w B v l) : RdI w v l := by
  obtain ⟨A, c, e, hc, hr⟩ := Kd.R_reads h.kd
  exact ⟨A, c, e, hc, hr⟩
theorem OwnI.nil (w : World) (B : Nat) : OwnI w B (.slice none 0 0) [] := ⟨rfl, .inl ⟨rfl, rfl⟩⟩
theorem reads_of_int {A : Option Addr} (h : Kd.C (Kd.int .i64) w A l.length l) : App.Reads w w.heap.size 1 A l.length (encs (Value.int .i64) l) := by
  refine ⟨by simp [encs], fun hn => ?_⟩
  obtain ⟨ad, e, hcell⟩ := at_zero h hn
  refine ⟨ad, e, ?_, fun j u hu => ?_⟩
  · unfold World.cell? at hcell
    rcases Nat.lt_or_ge ad.block w.heap.size with hlt | hge
    · exact hlt
    · rw [Array.getElem?_eq_none hge] at hcell; cases hcell
  · have hj : j < l.length := by
      rcases Nat.lt_or_ge j l.length with hlt | hge
      · exact hlt
      · rw [List.getElem?_eq_none (by simpa [encs] using hge)] at hu; cases hu
    obtain ⟨ad2, e2, hc2⟩ := at_nat h hj
    rw [e] at e2
    injection e2 with e2
    subst e2
    rw [hc2]
    simp [encs, List.getElem?_eq_getElem hj, List.getD_eq_getElem?_getD] at hu ⊢
    exact hu
end

/-- A block that is just these ints. -/
def arrI (l : List Int) : Array Value := (l.map (Value.int .i64)).toArray
def BlkI (w : World) (g : Nat) (l : List Int) : Prop := w.heap[g]? = some (.cells (arrI l) 3 (0, 0))

section
variable {w w' : World} {g : Nat} {l : List Int}
theorem arrI_at (l : List Int) (i : Nat) (h : i < l.length) : (arrI l)[i]? = some (.int .i64 (l.getD i 0)) := by
  simp [arrI, h]
theorem arrI_size (l : List Int) : (arrI l).size = l.length := by simp [arrI]
theorem arrI_set (l : List Int) (i : Nat) (x : Int) : (arrI l).setIfInBounds i (.int .i64 x) = arrI (l.set i x) := by
  simp [arrI, List.map_set]
theorem BlkI.lt (h : BlkI w g l) : g < w.heap.size := (Array.getElem?_eq_some_iff.1 h).1
theorem BlkI.cell (h : BlkI w g l) (i : Nat) (hi : i < l.length) : w.cell? ⟨g, i, none⟩ = some (.int .i64 (l.getD i 0)) := by
  rw [cell_of_row w g i _ _ (0, 0) h, arrI_at l i hi]
theorem BlkI.frozen (h : BlkI w g l) (i : Nat) : w.frozen? ⟨g, i, none⟩ = false := by
  unfold BlkI at h
  simp [World.frozen?, h]
theorem BlkI.new (w : World) (l : List Int) : BlkI (w.alloc (.cells (arrI l) 3)) w.heap.size l := heap_alloc_new w _
theorem BlkI.drewN (h : BlkI w g l) (n : Nat) : BlkI (w.drewN n) g l := h
theorem BlkI.alloc (h : BlkI w g l) (o : Obj) : BlkI (w.alloc o) g l := (Below.heap_alloc w o g h.lt).trans h
theorem BlkI.set_ (h : BlkI w g l) (i : Nat) (x : Int) : BlkI (w.setCell ⟨g, i, none⟩ (.int .i64 x)) g (l.set i x) := by
  unfold BlkI at h ⊢
  simp [World.setCell, Array.getElem?_modify, h, arrI_set]
theorem BlkI.far (h : BlkI w g l) {p : Addr} (hp : g ≠ p.block) (u : Value) : BlkI (w.setCell p u) g l := (Below.heap_setCell w p u g hp).trans h
theorem BlkI.below {B : Nat} (h : BlkI w g l) (hb : Below B w w') (hg : g < B) : BlkI w' g l := (hb.block g hg).trans h
theorem BlkI.then_ (h : BlkI w g l) (hb : Below w.heap.size w w') : BlkI w' g l := h.below hb h.lt
theorem BlkI.reads (h : BlkI w g l) (hm : l.length ≤ 9223372036854775807) : Kd.C (Kd.int .i64) w (some ⟨g, 0, none⟩) l.length l :=
  Kd.C_of_reads (d := (0 : Int)) (h1 := fun _ => rfl) ⟨rfl, hm, fun _ => ⟨_, rfl, fun j hj => by rw [add_plain]; exact h.cell j hj⟩⟩
theorem BlkI.rd (h : BlkI w g l) (hm : l.length ≤ 9223372036854775807) : RdI w (.slice (some ⟨g, 0, none⟩) l.length l.length) l := ⟨_, _, rfl, Nat.le_refl _, h.reads hm⟩
end

theorem made_arrI (n : Nat) : madeCells #[.int .i64 0] n = arrI (List.replicate n 0) := by
  apply Array.ext'
  simp only [madeCells, arrI, List.map_replicate]
  apply List.ext_getElem
  · simp
  · intro i h1 h2
    simp [Nat.mod_one]

/-- make([]int, n). -/
theorem make_arrI (n : Nat) (hn : n ≤ 17592186044416) (W : World) :
    (Instr.makeSlice 28 (.int .i64 (n : Int)) (.int .i64 (n : Int))).run Try.prog W = .ok (.slice (some ⟨W.heap.size, 0, none⟩) n n) (W.alloc (.cells (arrI (List.replicate n 0)) 3)) := by
  rw [← made_arrI]
  exact run_make_row' 28 3 (.int .i64 0) 8 Try.underlying28 infoI rfl .i64 .i64 n (by omega) (by omega) W

/-! bits -/
theorem two2 : 2 ≤ 2 := Nat.le_refl 2
/-- The bits of a number. -/
def bt (n : Nat) : List Int := dg 2 n
theorem bt_ok (n : Nat) : Ok 2 (bt n) := ok_dg two2 n
theorem bt_val (n : Nat) : val 2 (bt n) = n := val_dg two2 n
theorem bt_zero : bt 0 = [] := rfl
theorem bt_len (k n : Nat) : (bt n).length ≤ k ↔ n < 2 ^ k := dg_len two2 k n
theorem bt_lt (n : Nat) : n < 2 ^ (bt n).length := dg_len_lt two2 n
theorem bt_nil {n : Nat} : bt n = [] ↔ n = 0 := dg_nil_iff two2
theorem bt_len0 {n : Nat} : (bt n).length = 0 ↔ n = 0 := by rw [List.length_eq_zero_iff, bt_nil]
theorem ok2 {l : List Int} (h : Ok 2 l) (i : Nat) : l.getD i 0 = 0 ∨ l.getD i 0 = 1 := by
  have := h.at_ (by decide) i
  omega
/-- A digit of a value. -/
theorem val_digit (b : Nat) (hb : 2 ≤ b) : ∀ (l : List Int), Ok b l → ∀ i, (l.getD i 0) = ((val b l / b ^ i % b : Nat) : Int)
  | [], _, i => by simp [val]
  | d :: l, h, 0 => by
    have hd := (Ok.cons_iff.1 h).1
    rw [val_cons, Nat.pow_zero, Nat.div_one, Nat.add_mul_mod_self_left, Nat.mod_eq_of_lt (by omega)]
    show d = _
    omega
  | d :: l, h, i + 1 => by
    have hd := (Ok.cons_iff.1 h).1
    have e : val b (d :: l) / b ^ (i + 1) = val b l / b ^ i := by
      have hd1 : d.toNat < b := by omega
      have hb0 : 0 < b := by omega
      rw [val_cons, Nat.pow_succ, Nat.mul_comm (b ^ i), ← Nat.div_div_eq_div_mul, Nat.add_mul_div_left _ _ hb0, Nat.div_eq_of_lt hd1, Nat.zero_add]
    rw [e]
    exact val_digit b hb l h.tail i
theorem bt_at (n i : Nat) : (bt n).getD i 0 = ((n / 2 ^ i % 2 : Nat) : Int) := by
  have := val_digit 2 two2 (bt n) (bt_ok n) i
  rwa [bt_val] at this
/-- The first k digits of a number. -/
def lo (b n : Nat) : Nat → List Int
  | 0 => []
  | k + 1 => lo b n k ++ [((n / b ^ k % b : Nat) : Int)]
theorem lo_len (b n : Nat) : ∀ k, (lo b n k).length = k
  | 0 => rfl
  | k + 1 => by rw [lo, List.length_append, lo_len b n k]; rfl
theorem lo_ok (b n : Nat) (hb : 0 < b) : ∀ k, Ok b (lo b n k)
  | 0 => Ok.nil
  | k + 1 => (lo_ok b n hb k).append (Ok.cons_iff.2 ⟨⟨by omega, Int.ofNat_lt.2 (Nat.mod_lt _ hb)⟩, Ok.nil⟩)
theorem lo_val (b n : Nat) : ∀ k, val b (lo b n k) = n % b ^ k
  | 0 => by simp [lo, Nat.mod_one]
  | k + 1 => by
    rw [lo, val_snoc, lo_val b n k, lo_len, Int.toNat_natCast, Nat.pow_succ, Nat.mod_mul]
theorem lo_full {b n k : Nat} (h : n < b ^ k) : val b (lo b n k) = n := by rw [lo_val, Nat.mod_eq_of_lt h]
/-- Two lists of digits that are as long and of one value are the same. -/
theorem ok_unique {b : Nat} (hb : 2 ≤ b) : ∀ (l m : List Int), Ok b l → Ok b m → l.length = m.length → val b l = val b m → l = m
  | [], [], _, _, _, _ => rfl
  | [], _ :: _, _, _, h, _ => by simp at h
  | _ :: _, [], _, _, h, _ => by simp at h
  | x :: l, y :: m, h1, h2, h3, h4 => by
    have hx := (Ok.cons_iff.1 h1).1
    have hy := (Ok.cons_iff.1 h2).1
    rw [val_cons, val_cons] at h4
    have e1 : x.toNat = y.toNat := by
      have := congrArg (· % b) h4
      simp only [Nat.add_mul_mod_self_left] at this
      rwa [Nat.mod_eq_of_lt (by omega), Nat.mod_eq_of_lt (by omega)] at this
    have e2 : val b l = val b m := by
      rw [e1] at h4
      exact Nat.eq_of_mul_eq_mul_left (by omega : 0 < b) (Nat.add_left_cancel h4)
    rw [ok_unique hb l m h1.tail h2.tail (by simpa using h3) e2, show x = y by omega]

/-- A number as bits, in a slice of ints. -/
def Bt (w : World) (v : Value) (n : Nat) : Prop := RdI w v (bt n)
theorem Bt.below {w w' : World} {v : Value} {n : Nat} (h : Bt w v n) (hb : Below w.heap.size w w') : Bt w' v n := RdI.below h hb
theorem Bt.zero (w : World) : Bt w (.slice none 0 0) 0 := RdI.nil w
def MadeB (w : World) (n : Nat) (e : Ending) (w' : World) : Prop := ∃ v, e = .returned v ∧ Bt w' v n ∧ Below w.heap.size w w'
end Go.Proofs.Ythadkjekagfjfaa.N
