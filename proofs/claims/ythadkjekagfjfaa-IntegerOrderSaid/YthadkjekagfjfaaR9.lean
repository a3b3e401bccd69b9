/- The contracts of package cylinderref01 said of numbers with a bound on their length. Plain consequences of the walks. -/
import Derived.Test.YthadkjekagfjfaaR8
namespace Go.Proofs.Ythadkjekagfjfaa.N
open Go.RowKit Go.Proofs.Ythadkjekagfjfaa.Dig Go.Proofs.YthadkjekagfjfaaW.PrintWords Go.Proofs.YthadkjekagfjfaaW.PrintLast Go.Proofs.YthadkjekagfjfaaW.PrintMore
set_option linter.unusedVariables false

/-- The slice of ints v reads as the bits of n, at most K of them. -/
def BN (w : World) (v : Value) (n K : Nat) : Prop := Bt w v n ∧ (bt n).length ≤ K
def MadeBN (w : World) (n K : Nat) (e : Ending) (w' : World) : Prop := ∃ v, e = .returned v ∧ BN w' v n K ∧ Below w.heap.size w w'
theorem BN.below {w w' : World} {v : Value} {n K : Nat} (h : BN w v n K) (hb : Below w.heap.size w w') : BN w' v n K := ⟨h.1.below hb, h.2⟩
theorem BN.more {w : World} {v : Value} {n K K' : Nat} (h : BN w v n K) (hk : K ≤ K') : BN w v n K' := ⟨h.1, Nat.le_trans h.2 hk⟩
theorem BN.lt {w : World} {v : Value} {n K : Nat} (h : BN w v n K) : n < 2 ^ K := (bt_len K n).1 h.2
theorem BN.zero (w : World) : BN w (.slice none 0 0) 0 0 := ⟨Bt.zero w, Nat.le_refl _⟩
theorem MadeBN.of {w : World} {n K : Nat} {e : Ending} {w' : World} (hk : n < 2 ^ K) (h : MadeB w n e w') : MadeBN w n K e w' := by
  obtain ⟨v, he, hb, hB⟩ := h
  exact ⟨v, he, ⟨hb, (bt_len K n).2 hk⟩, hB⟩
theorem BN.shp {w : World} {v : Value} {n K : Nat} (h : BN w v n K) : ∃ A c, v = .slice A (bt n).length c := by
  obtain ⟨⟨A, c, he, _⟩, _⟩ := h
  exact ⟨A, c, he⟩

theorem lit1 (W : World) (m : Nat) (hm : m ≤ 4294967295) : Num (W.alloc (.cells #[.int .u32 m] 59)) (.slice (some ⟨W.heap.size, 0, none⟩) 1 1) m 1 := by
  have h : Blk (W.alloc (.cells (arr [(m : Int)]) 59)) W.heap.size [(m : Int)] := Blk.new W _
  have ho : NOk [(m : Int)] := Ok.cons_iff.2 ⟨⟨by omega, by rw [BB_eq]; omega⟩, Ok.nil⟩
  exact ⟨[(m : Int)], h.rd ho (by simp), by simp [nv, val_cons], Nat.le_refl _⟩

theorem lit2 (W : World) (x y : Nat) (hx : x ≤ 4294967295) (hy : y ≤ 4294967295) : Num (W.alloc (.cells #[.int .u32 x, .int .u32 y] 59)) (.slice (some ⟨W.heap.size, 0, none⟩) 2 2) (x + 4294967296 * y) 2 := by
  have h : Blk (W.alloc (.cells (arr [(x : Int), (y : Int)]) 59)) W.heap.size [(x : Int), (y : Int)] := Blk.new W _
  have ho : NOk [(x : Int), (y : Int)] := Ok.cons_iff.2 ⟨⟨by omega, by rw [BB_eq]; omega⟩, Ok.cons_iff.2 ⟨⟨by omega, by rw [BB_eq]; omega⟩, Ok.nil⟩⟩
  exact ⟨[(x : Int), (y : Int)], h.rd ho (by simp), by simp [nv, val_cons, BB_eq], Nat.le_refl _⟩

section
variable {w : World} {v v1 v2 : Value} {n m i j : Nat}
theorem of_b (h : Num w v n i) (hi : i ≤ 1073741824) : Calls Try.prog 61 #[v] w (MadeBN w n (32 * i)) := by
  have hlt := h.lt
  rw [BB_pow] at hlt
  obtain ⟨l, a, rfl, c⟩ := h
  exact (ofI_any a (by omega)).mono fun _ _ hm => MadeBN.of hlt hm
theorem add_b (h1 : BN w v1 n i) (h2 : BN w v2 m j) (hi : i ≤ 34359738368) (hj : j ≤ 34359738368) : Calls Try.prog 59 #[v1, v2] w (MadeBN w (n + m) (max i j + 1)) := by
  have a : n < 2 ^ max i j := Nat.lt_of_lt_of_le h1.lt (Nat.pow_le_pow_right (by decide) (Nat.le_max_left _ _))
  have b : m < 2 ^ max i j := Nat.lt_of_lt_of_le h2.lt (Nat.pow_le_pow_right (by decide) (Nat.le_max_right _ _))
  exact (addB_any h1.1 h2.1 (Nat.le_trans h1.2 hi) (Nat.le_trans h2.2 hj)).mono fun _ _ hm => MadeBN.of (by rw [Nat.pow_succ]; omega) hm
theorem sub_b (h1 : BN w v1 n i) (h2 : BN w v2 m j) (hi : i ≤ 34359738368) (hle : m ≤ n) : Calls Try.prog 60 #[v1, v2] w (MadeBN w (n - m) i) :=
  (subB_any h1.1 h2.1 (Nat.le_trans h1.2 hi) hle).mono fun _ _ hm => MadeBN.of (Nat.lt_of_le_of_lt (Nat.sub_le _ _) h1.lt) hm
theorem mul_b (h1 : BN w v1 n i) (h2 : BN w v2 m j) (hi : i ≤ 8053063680) (hj : j ≤ 8053063680) : Calls Try.prog 47 #[v1, v2] w (MadeBN w (n * m) (i + j)) := by
  have hlt : n * m < 2 ^ (i + j) := by
    rw [Nat.pow_add]
    exact Nat.mul_lt_mul_of_lt_of_le h1.lt (Nat.le_of_lt h2.lt) (Nat.pow_pos (by decide))
  exact (mulB_any h1.1 h2.1 (Nat.le_trans h1.2 hi) (Nat.le_trans h2.2 hj)).mono fun _ _ hm => MadeBN.of hlt hm
theorem cmp_b (h1 : BN w v1 n i) (h2 : BN w v2 m j) (hi : i ≤ 34359738368) (hj : j ≤ 34359738368) : Calls Try.prog 27 #[v1, v2] w fun e w' => e = .returned (.int .i64 (cmpv n m)) ∧ Below w.heap.size w w' :=
  cmpB_any h1.1 h2.1 (Nat.le_trans h1.2 hi) (Nat.le_trans h2.2 hj)
theorem up_b (h : BN w v n i) (hi : i ≤ 17179869184) (s : Nat) (hs : s ≤ 8589934592) : Calls Try.prog 15 #[v, .int .i64 s] w (MadeBN w (n * 2 ^ s) (i + s)) := by
  have hlt : n * 2 ^ s < 2 ^ (i + s) := by rw [Nat.pow_add]; exact Nat.mul_lt_mul_of_pos_right h.lt (Nat.pow_pos (by decide))
  exact (upB_any h.1 (Nat.le_trans h.2 hi) s hs).mono fun _ _ hm => MadeBN.of hlt hm
theorem trim_b (h : BN w v n i) : Calls Try.prog 43 #[v] w fun e w' => (∃ v', e = .returned v' ∧ BN w' v' n i) ∧ w = w' := by
  refine (trimI_any h.1 (bt_ok n)).mono fun e w' ⟨⟨v', he, hv⟩, hw⟩ => ?_
  subst hw
  rw [bt_val] at hv
  exact ⟨⟨v', he, hv, h.2⟩, rfl⟩
theorem is_b (h1 : Num w v1 n i) (hn : Rd w v1 (nd n)) (h2 : BN w v2 m j) (hi : i ≤ 8796093022208) (hj : j ≤ 34359738368) : Calls Try.prog 62 #[v1, v2] w fun e w' => e = .returned (.bool (decide (n = m))) ∧ Below w.heap.size w w' := by
  have hl : (nd n).length ≤ 8796093022208 := Nat.le_trans ((nd_len i n).2 h1.lt) hi
  have e : decide (nd n = nd m) = decide (n = m) := by rw [decide_eq_decide]; exact ⟨nd_inj, fun h => by rw [h]⟩
  rw [← e]
  exact is_any hn hl h2.1 (Nat.le_trans h2.2 hj)
theorem is_yes (h1 : Num w v1 n i) (hn : Rd w v1 (nd n)) (h2 : BN w v2 m j) (hi : i ≤ 8796093022208) (hj : j ≤ 34359738368) (he : n = m) : Calls Try.prog 62 #[v1, v2] w fun e w' => e = .returned (.bool true) ∧ Below w.heap.size w w' := by
  have := is_b h1 hn h2 hi hj
  rwa [decide_eq_true he] at this
end
end Go.Proofs.Ythadkjekagfjfaa.N
