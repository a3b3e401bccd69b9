/- The primes below 1000 with the least exponent at which the powers of 2, 7 and 61 are all 1, and what the search over them shows, given that its parts come out true. Plain facts about natural numbers. -/
import Derived.Test.YtkfpibpoelcalaaNT2
namespace Go.Proofs.Ytkfpibpoelcalaa.NT
set_option linter.unusedVariables false

noncomputable def tab : List (Nat × Nat) := [(997, 996), (991, 990), (983, 982), (977, 488), (971, 970), (967, 966), (953, 952), (947, 946), (941, 940), (937, 936), (929, 928), (919, 918), (911, 182), (907, 906), (887, 886), (883, 882), (881,
  880), (877, 876), (863, 862), (859, 858), (857, 856), (853, 852), (839, 419), (829, 828), (827, 826), (823, 822), (821, 820), (811, 810), (809, 404), (797, 796), (787, 786), (773, 772), (769, 768),
  (761, 760), (757, 756), (751, 750), (743, 742), (739, 738), (733, 732), (727, 363), (719, 359), (709, 708), (701, 700), (691, 690), (683, 682), (677, 676), (673, 672), (661, 660), (659, 658), (653,
  652), (647, 646), (643, 642), (641, 640), (631, 630), (619, 618), (617, 616), (613, 612), (607, 303), (601, 600), (599, 598), (593, 592), (587, 586), (577, 576), (571, 570), (569, 284), (563, 562),
  (557, 556), (547, 546), (541, 540), (523, 522), (521, 520), (509, 508), (503, 251), (499, 498), (491, 490), (487, 486), (479, 239), (467, 466), (463, 462), (461, 460), (457, 456), (449, 224), (443,
  442), (439, 73), (433, 432), (431, 430), (421, 420), (419, 418), (409, 408), (401, 400), (397, 396), (389, 388), (383, 382), (379, 378), (373, 372), (367, 183), (359, 358), (353, 352), (349, 348),
  (347, 346), (337, 336), (331, 330), (317, 316), (313, 312), (311, 310), (307, 306), (293, 292), (283, 282), (281, 280), (277, 276), (271, 135), (269, 268), (263, 262), (257, 256), (251, 250), (241,
  240), (239, 238), (233, 232), (229, 228), (227, 226), (223, 222), (211, 210), (199, 99), (197, 196), (193, 192), (191, 190), (181, 180), (179, 178), (173, 172), (167, 83), (163, 162), (157, 156), (151,
  150), (149, 148), (139, 138), (137, 68), (131, 130), (127, 126), (113, 56), (109, 108), (107, 106), (103, 51), (101, 100), (97, 96), (89, 88), (83, 82), (79, 78), (73, 72), (71, 70), (67, 66), (59,
  58), (53, 52), (47, 23), (43, 42), (41, 40), (37, 36), (31, 30), (29, 28), (23, 22), (19, 18), (17, 16), (13, 12), (11, 10), (5, 4), (3, 2)]

noncomputable def from_ (i : Nat) (l : List (Nat × Nat)) : List (Nat × Nat) := Nat.rec (fun l => l) (fun _ ih l => ih (List.tail l)) i l
theorem from_app : ∀ (a l : List (Nat × Nat)), from_ a.length (a ++ l) = l
  | [], l => rfl
  | x :: a, l => by
    have e : from_ (a.length + 1) (x :: (a ++ l)) = from_ a.length (a ++ l) := rfl
    rw [List.length_cons, List.cons_append, e, from_app a l]
/-- The search below the i-th prime of the table. -/
noncomputable def top (i : Nat) : Bool := List.rec true (fun x t _ => go (nat_lit 24) (Prod.fst x) (Prod.snd x) (List.cons x t)) (from_ i tab)
noncomputable def tops (a k : Nat) : Bool := allLt k fun i => top (Nat.add a i)
/-- An odd number that is no prime, or whose multiples have been looked at. -/
noncomputable def one_ (e : List (Nat × Nat)) (x : Nat) : Bool := or (not (Nat.beq (Nat.gcd x P256) (nat_lit 1))) (stepsOK x (List.rec (Nat.pred x) (fun y _ ih => cond (Nat.beq (Prod.fst y) x) (Prod.snd y) ih) e))
noncomputable def odds (e : List (Nat × Nat)) (a k : Nat) : Bool := allLt k fun i => one_ e (Nat.add a (Nat.mul (nat_lit 2) i))

theorem tops_at {a k i x : Nat} (h : tops a k = true) (hi : i < k) (hx : a + i = x) : top x = true := by subst hx; exact allLt_at h i hi
theorem odds_at {e : List (Nat × Nat)} {a k i x : Nat} (h : odds e a k = true) (hi : i < k) (hx : a + 2 * i = x) : one_ e x = true := by subst hx; exact allLt_at h i hi

noncomputable def small (x : Nat) : Bool := or (Nat.ble x (nat_lit 1)) (or (Nat.beq x (nat_lit 2)) (or (Nat.beq x (nat_lit 7)) (or (Nat.beq x (nat_lit 61)) (or (List.any [2, 3, 5, 7, 11, 13, 17, 19, 23, 29, 31] fun q => (x % q == 0) && (x != q)) (List.any tab fun y => y.1 == x)))))
theorem small_all : allLt 1000 small = true := by decide +kernel
theorem tab_ord : (tab.all fun x => ordOK x.1 x.2 && (3 ≤ x.1 : Bool)) = true := by decide +kernel
theorem tab_mem {r : Nat} (hr : Prime r) (h : r < 1000) (h2 : r ≠ 2) (h7 : r ≠ 7) (h61 : r ≠ 61) : ∃ x, x ∈ tab ∧ x.1 = r := by
  have h1 := allLt_at small_all r h
  have a1 : Nat.ble r 1 = false := by rw [← Bool.not_eq_true, Nat.ble_eq]; have := hr.1; omega
  have a2 : Nat.beq r 2 = false := by rw [← Bool.not_eq_true, Nat.beq_eq]; exact h2
  have a7 : Nat.beq r 7 = false := by rw [← Bool.not_eq_true, Nat.beq_eq]; exact h7
  have a61 : Nat.beq r 61 = false := by rw [← Bool.not_eq_true, Nat.beq_eq]; exact h61
  unfold small at h1
  rw [a1, a2, a7, a61] at h1
  simp only [Bool.false_or, Bool.or_eq_true] at h1
  rcases h1 with h1 | h1
  · exfalso
    obtain ⟨q, hq, hx⟩ := List.any_eq_true.1 h1
    rw [Bool.and_eq_true, beq_iff_eq, bne_iff_ne] at hx
    rcases hr.2 q (Nat.dvd_of_mod_eq_zero hx.1) with e | e
    · subst e; revert hq; decide
    · exact hx.2 e.symm
  · obtain ⟨x, hx, e⟩ := List.any_eq_true.1 h1
    exact ⟨x, hx, by simpa using e⟩

theorem tab_pr : (tab.all fun x => allLt x.1 fun d => or (Nat.ble d (nat_lit 1)) (not (Nat.beq (Nat.mod x.1 d) (nat_lit 0)))) = true := by decide +kernel
theorem tab_prime (x : Nat × Nat) (hx : x ∈ tab) : Prime x.1 := by
  have h3 := List.all_eq_true.1 tab_ord x hx
  rw [Bool.and_eq_true, decide_eq_true_eq] at h3
  refine ⟨by omega, fun d hd => ?_⟩
  have h := List.all_eq_true.1 tab_pr x hx
  have hle := Nat.le_of_dvd (by omega) hd
  by_cases h1 : d = x.1
  · exact .inr h1
  · left
    have h2 := allLt_at h d (by omega)
    have e1 : Nat.beq (Nat.mod x.1 d) 0 = true := by rw [Nat.beq_eq]; exact Nat.mod_eq_zero_of_dvd hd
    rw [e1] at h2
    have h4 : d ≤ 1 := by simpa using h2
    have h0 : d ≠ 0 := fun e => by subst e; obtain ⟨c, hc⟩ := hd; omega
    omega

/-- No composite number below 2^32 passes, if all parts of the search come out true. -/
theorem no_bad_of (hT : ∀ i, i < tab.length → top i = true) (hX : ∀ x, 1000 < x → x < 65536 → x % 2 = 1 → ∃ e, one_ e x = true) (n : Nat) : ¬ Bad n := by
  intro hn
  obtain ⟨h5, hlt, hodd, hnp, hc⟩ := id hn
  have ho := hn.ones
  have h2 : ∀ r, Prime r → r ∣ n → r ≠ 2 ∧ r ≠ 7 ∧ r ≠ 61 := fun r hr hd => by
    obtain ⟨a, b, c⟩ := hn.ones_of hd
    have he : 0 < n - 1 := by omega
    refine ⟨fun e => ?_, fun e => ?_, fun e => ?_⟩
    · exact not_base hr he a (by rw [e]; exact Nat.dvd_refl 2)
    · exact not_base hr he b (by rw [e]; exact Nat.dvd_refl 7)
    · exact not_base hr he c (by rw [e]; exact Nat.dvd_refl 61)
  have hmid : ∀ r, Prime r → r ∣ n → r ≤ 1000 ∨ 65536 ≤ r := fun r hr hd => by
    rcases Nat.lt_or_ge 1000 r with h | h
    · rcases Nat.lt_or_ge r 65536 with h' | h'
      · exfalso
        have hro : r % 2 = 1 := by
          rcases Nat.mod_two_eq_zero_or_one r with e | e
          · exfalso
            have := hr.2 2 (Nat.dvd_of_mod_eq_zero e)
            omega
          · exact e
        obtain ⟨e, he⟩ := hX r h h' hro
        unfold one_ at he
        have hg : Nat.beq (Nat.gcd r P256) 1 = true := by rw [Nat.beq_eq]; exact cop256 hr (by omega)
        rw [hg] at he
        exact steps_no he hn hr hd
      · exact .inr h'
    · exact .inl h
  have hsm : ∃ r, Prime r ∧ r ∣ n ∧ r < 65536 := by
    have : ¬ ∀ d, d ∣ n → d = 1 ∨ d = n := fun h => hnp ⟨by omega, h⟩
    obtain ⟨d, hd⟩ := Classical.not_forall.1 this
    obtain ⟨hd, hne⟩ := Classical.not_imp.1 hd
    obtain ⟨e, rfl⟩ := hd
    have hd1 : d ≠ 1 := fun h => hne (.inl h)
    have he1 : e ≠ 1 := fun h => hne (.inr (by rw [h, Nat.mul_one]))
    have hd0 : 0 < d := Nat.pos_of_ne_zero fun h => by subst h; simp at h5
    have he0 : 0 < e := Nat.pos_of_ne_zero fun h => by subst h; simp at h5
    by_cases hds : d < 65536
    · obtain ⟨r, hr, hrd⟩ := exists_prime d hd1
      have := Nat.le_of_dvd hd0 hrd
      exact ⟨r, hr, Nat.dvd_trans hrd (Nat.dvd_mul_right _ _), by omega⟩
    · by_cases hes : e < 65536
      · obtain ⟨r, hr, hrd⟩ := exists_prime e he1
        have := Nat.le_of_dvd he0 hrd
        exact ⟨r, hr, Nat.dvd_trans hrd (Nat.dvd_mul_left _ _), by omega⟩
      · have := Nat.mul_le_mul (Nat.le_of_not_lt hds) (Nat.le_of_not_lt hes)
        omega
  have h1000 : ¬ Prime 1000 := fun h => absurd (h.2 2 ⟨500, rfl⟩) (by decide)
  have hfac : Fac tab n := fun r hr hd => by
    obtain ⟨a, b, c⟩ := h2 r hr hd
    rcases hmid r hr hd with h | h
    · exact .inl (tab_mem hr (by have : r ≠ 1000 := fun e => h1000 (e ▸ hr); omega) a b c)
    · exact .inr h
  have hall := List.all_eq_true.1 tab_ord
  obtain ⟨r, hr, hrn, hrs⟩ := hsm
  have hex : ∃ x, x ∈ tab ∧ x.1 ∣ n := by
    rcases hfac r hr hrn with ⟨x, hx, e⟩ | h
    · exact ⟨x, hx, by rw [e]; exact hrn⟩
    · omega
  obtain ⟨a, x, t, hl, hxn, ha⟩ := first_dvd tab hex
  have htop := hT a.length (by rw [hl]; simp)
  unfold top at htop
  rw [hl, from_app] at htop
  replace htop : go 24 x.1 x.2 (x :: t) = true := htop
  have hxl : x ∈ tab := by rw [hl]; simp
  have hx1 := hall x hxl
  rw [Bool.and_eq_true, decide_eq_true_eq] at hx1
  have hf' := hfac.next hl ha (m' := n / x.1) (Nat.div_dvd_of_dvd hxn)
  have hLd := ordOK_dvd hx1.1 (hn.ones_of hxn)
  obtain ⟨m, rfl⟩ := hxn
  rw [Nat.mul_div_cancel_left _ (by omega)] at hf'
  refine go_no 24 htop hn (fun hm => ?_) hLd (fun y hy => ?_) hf'
  · subst hm
    rw [Nat.mul_one] at hnp hn
    exact hnp (tab_prime x hxl)
  · have := hall y (by rw [hl]; exact List.mem_append_right _ hy)
    rw [Bool.and_eq_true] at this
    exact this.1
end Go.Proofs.Ytkfpibpoelcalaa.NT
