/- Words for the walks over package natural: a slice value that reads as a list of digits, one that is the call's own, and a block that is known whole. Plain facts about worlds; no function of the program is entered. -/
import Derived.Test.YthadkjekagfjfaaDig
import Derived.Test.YthadkjekagfjfaaProg
import Derived.Test.YthadkjekagfjfaaWMore
import Derived.RegionTactic
import Derived.ChangeAlike
import Derived.Outline
import Derived.WalkKit
import Derived.WalkSpells
import Derived.WalkLawsBesides
import Derived.Deep.QuietTactic
import Derived.BigQuiet
import Derived.Lib.Hide
import Derived.Deep.OwnRows
import Derived.Laws.NewBlocks
namespace Go.Proofs.Ythadkjekagfjfaa.N
open Go.RowKit Go.Proofs.Ythadkjekagfjfaa.Dig Go.Proofs.YthadkjekagfjfaaW.PrintWords Go.Proofs.YthadkjekagfjfaaW.PrintLast Go.Proofs.YthadkjekagfjfaaW.PrintMore
set_option linter.unusedVariables false

/-- The base of the digits, and numbers as lists of them. -/
def BB : Nat := 4294967296
theorem BB_eq : BB = 4294967296 := rfl
theorem BB2 : 2 ≤ BB := by decide
def nv (l : List Int) : Nat := val BB l
def nd (n : Nat) : List Int := dg BB n
def NOk (l : List Int) : Prop := Ok BB l
theorem nv_nd (n : Nat) : nv (nd n) = n := val_dg BB2 n
theorem nok_nd (n : Nat) : NOk (nd n) := ok_dg BB2 n
theorem nd_zero : nd 0 = [] := rfl
theorem nd_nil {n : Nat} : nd n = [] ↔ n = 0 := dg_nil_iff BB2
theorem nd_inj {n m : Nat} (h : nd n = nd m) : n = m := dg_inj BB2 h
theorem nd_len0 {n : Nat} : (nd n).length = 0 ↔ n = 0 := by rw [List.length_eq_zero_iff, nd_nil]
theorem nd_len (k n : Nat) : (nd n).length ≤ k ↔ n < BB ^ k := dg_len BB2 k n
theorem nv_lt {l : List Int} (h : NOk l) : nv l < BB ^ l.length := val_lt h
theorem nd_len_le {l : List Int} (h : NOk l) : (nd (nv l)).length ≤ l.length := (nd_len _ _).2 (nv_lt h)

theorem at_nat {w : World} {k : IntKind} {A : Option Addr} {n : Nat} {l : List Int} (h : Kd.C (Kd.int k) w A n l) {i : Nat} (hi : i < n) : ∃ ad, A = some ad ∧ w.cell? (ad.add i) = some (.int k (l.getD i 0)) := by
  obtain ⟨ad, e, hc⟩ := Kd.at_int h (i : Int) (by omega) (by omega)
  exact ⟨ad, e, by simpa [rd] using hc⟩

theorem at_zero {w : World} {k : IntKind} {A : Option Addr} {n : Nat} {l : List Int} (h : Kd.C (Kd.int k) w A n l) (hi : 0 < n) : ∃ ad, A = some ad ∧ w.cell? ad = some (.int k (l.getD 0 0)) := by
  obtain ⟨ad, e, hc⟩ := at_nat h hi
  exact ⟨ad, e, by simpa [Addr.add] using hc⟩

theorem infoU : (Try.prog.info? 59).map (fun i => (i.zero, i.size, i.bytes)) = some (some (.int .u32 0), 1, 4) := by kernel_rfl

/-- The slice value v reads as the digits l. -/
def Rd (w : World) (v : Value) (l : List Int) : Prop := NOk l ∧ ∃ A c, v = .slice A l.length c ∧ l.length ≤ c ∧ Kd.C (Kd.int .u32) w A l.length l
/-- The slice value v is the call's own (blocks from B on) and reads as the digits l. -/
def Own (w : World) (B : Nat) (v : Value) (l : List Int) : Prop := NOk l ∧ Kd.R (Kd.int .u32) 59 w B (fun _ => True) v l

section
variable {w w' : World} {v : Value} {l : List Int} {B : Nat}
theorem Rd.below (h : Rd w v l) (hb : Below w.heap.size w w') : Rd w' v l := by
  obtain ⟨ho, A, c, e, hc, hr⟩ := h
  exact ⟨ho, A, c, e, hc, Kd.C_below hr hb⟩
theorem Rd.drewN (h : Rd w v l) (n : Nat) : Rd (w.drewN n) v l := h.below (pw_below_drewN (Below.refl _ _) n)
theorem Rd.alloc (h : Rd w v l) (o : Obj) : Rd (w.alloc o) v l := h.below (below_alloc (Below.refl _ _) o)
theorem Rd.ok (h : Rd w v l) : NOk l := h.1
theorem Rd.nil (w : World) : Rd w (.slice none 0 0) [] := ⟨Ok.nil, none, 0, rfl, Nat.le_refl _, Kd.C_nil _ _⟩
theorem Own.rd (h : Own w B v l) : Rd w v l := by
  obtain ⟨ho, h⟩ := h
  obtain ⟨A, c, e, hc, hr⟩ := Kd.R_reads h
  exact ⟨ho, A, c, e, hc, hr⟩
theorem Own.ok (h : Own w B v l) : NOk l := h.1
theorem Own.below (h : Own w B v l) (hb : Below w.heap.size w w') : Own w' B v l := ⟨h.1, Kd.R_below h.2 hb⟩
theorem Own.drewN (h : Own w B v l) (n : Nat) : Own (w.drewN n) B v l := h.below (pw_below_drewN (Below.refl _ _) n)
theorem Own.lower {B' : Nat} (h : Own w B v l) (hb : B' ≤ B) : Own w B' v l := ⟨h.1, Kd.R_lower h.2 hb⟩
theorem Own.nil (w : World) (B : Nat) : Own w B (.slice none 0 0) [] := ⟨Ok.nil, Kd.R_nil _ _ _ _ _⟩
end

/-- A block that is just these cells. -/
def arr (l : List Int) : Array Value := (l.map (Value.int .u32)).toArray
def Blk (w : World) (g : Nat) (l : List Int) : Prop := w.heap[g]? = some (.cells (arr l) 59 (0, 0))

section
variable {w w' : World} {g : Nat} {l : List Int}
theorem arr_at (l : List Int) (i : Nat) (h : i < l.length) : (arr l)[i]? = some (.int .u32 (l.getD i 0)) := by
  simp [arr, h]
theorem arr_size (l : List Int) : (arr l).size = l.length := by simp [arr]
theorem arr_set (l : List Int) (i : Nat) (x : Int) : (arr l).setIfInBounds i (.int .u32 x) = arr (l.set i x) := by
  simp [arr, List.map_set]
theorem Blk.lt (h : Blk w g l) : g < w.heap.size := by
  rcases Nat.lt_or_ge g w.heap.size with hlt | hge
  · exact hlt
  · unfold Blk at h; rw [Array.getElem?_eq_none hge] at h; cases h
theorem Blk.cell (h : Blk w g l) (i : Nat) (hi : i < l.length) : w.cell? ⟨g, i, none⟩ = some (.int .u32 (l.getD i 0)) := by
  rw [cell_of_row w g i _ _ (0, 0) h, arr_at l i hi]
theorem Blk.frozen (h : Blk w g l) (i : Nat) : w.frozen? ⟨g, i, none⟩ = false := by
  unfold Blk at h
  simp [World.frozen?, h]
theorem Blk.new (w : World) (l : List Int) : Blk (w.alloc (.cells (arr l) 59)) w.heap.size l := heap_alloc_new w _
theorem Blk.drewN (h : Blk w g l) (n : Nat) : Blk (w.drewN n) g l := h
theorem Blk.alloc (h : Blk w g l) (o : Obj) : Blk (w.alloc o) g l := (Below.heap_alloc w o g h.lt).trans h
theorem Blk.set_ (h : Blk w g l) (i : Nat) (x : Int) : Blk (w.setCell ⟨g, i, none⟩ (.int .u32 x)) g (l.set i x) := by
  unfold Blk at h ⊢
  simp [World.setCell, Array.getElem?_modify, h, arr_set]
theorem Blk.far (h : Blk w g l) {p : Addr} (hp : g ≠ p.block) (u : Value) : Blk (w.setCell p u) g l := (Below.heap_setCell w p u g hp).trans h
theorem Blk.below {B : Nat} (h : Blk w g l) (hb : Below B w w') (hg : g < B) : Blk w' g l := (hb.block g hg).trans h
theorem Blk.then_ (h : Blk w g l) (hb : Below w.heap.size w w') : Blk w' g l := h.below hb h.lt
theorem Blk.reads (h : Blk w g l) (hm : l.length ≤ 9223372036854775807) : Kd.C (Kd.int .u32) w (some ⟨g, 0, none⟩) l.length l :=
  Kd.C_of_reads (d := (0 : Int)) (h1 := fun _ => rfl) ⟨rfl, hm, fun _ => ⟨_, rfl, fun j hj => by rw [add_plain]; exact h.cell j hj⟩⟩
theorem Blk.rd (h : Blk w g l) (ho : NOk l) (hm : l.length ≤ 9223372036854775807) : Rd w (.slice (some ⟨g, 0, none⟩) l.length l.length) l := ⟨ho, _, _, rfl, Nat.le_refl _, h.reads hm⟩
theorem Blk.own {B : Nat} (h : Blk w g l) (hB : B ≤ g) (k : Nat) (hk : k ≤ l.length) (hm : l.length ≤ maxLen) (ho : NOk (l.take k)) : Own w B (.slice (some ⟨g, 0, none⟩) k l.length) (l.take k) := by
  refine ⟨ho, Kd.R_of_own ?_ (fun _ _ => trivial)⟩
  rw [List.length_take, Nat.min_eq_left hk]
  refine ⟨by simp [encs, Nat.min_eq_left hk], .inr ⟨g, l.length, arr l, rfl, hB, h, hk, hm, by rw [arr_size, Nat.mul_one], ?_⟩⟩
  simp [arr, encs, List.map_take]
end

theorem made_arr (n : Nat) : madeCells #[.int .u32 0] n = arr (List.replicate n 0) := by
  apply Array.ext'
  simp only [madeCells, arr, List.map_replicate]
  apply List.ext_getElem
  · simp
  · intro i h1 h2
    simp [Nat.mod_one]

/-- make([]T, n) for digits. -/
theorem make_arr (t : Nat) (ht : Try.prog.underlying t = some (.slice 59)) (n : Nat) (hn : n ≤ 70368744177664) (W : World) :
    (Instr.makeSlice t (.int .i64 (n : Int)) (.int .i64 (n : Int))).run Try.prog W = .ok (.slice (some ⟨W.heap.size, 0, none⟩) n n) (W.alloc (.cells (arr (List.replicate n 0)) 59)) := by
  rw [← made_arr]
  exact run_make_row' t 59 (.int .u32 0) 4 ht infoU rfl .i64 .i64 n (by omega) (by omega) W
end Go.Proofs.Ythadkjekagfjfaa.N
