/- Plain facts about numbers as lists of digits in a base (least significant first): the value of a list, the list of a number without leading zeros, and how the two belong together. No Go in it. Conditions: bases are at least 2; digits lie between 0 and the base. -/
import Derived.Below
namespace Go.Proofs.Ythadkjekagfjfaa.Dig

def val (b : Nat) : List Int → Nat
  | [] => 0
  | d :: l => d.toNat + b * val b l

def Ok (b : Nat) (l : List Int) : Prop := ∀ d ∈ l, 0 ≤ d ∧ d < (b : Int)

def dgf (b : Nat) : Nat → Nat → List Int
  | 0, _ => []
  | f + 1, n => if n = 0 then [] else ((n % b : Nat) : Int) :: dgf b f (n / b)
def dg (b n : Nat) : List Int := dgf b n n

def trimL : List Int → List Int
  | [] => []
  | d :: l => match trimL l with
    | [] => if d = 0 then [] else [d]
    | e :: t => d :: e :: t

section
variable {b : Nat}
theorem dgf_more (hb : 2 ≤ b) : ∀ (f g n : Nat), n ≤ f → n ≤ g → dgf b f n = dgf b g n
  | 0, 0, _, _, _ => rfl
  | 0, g + 1, n, h, _ => by
    obtain rfl : n = 0 := by omega
    simp [dgf]
  | f + 1, 0, n, _, h => by
    obtain rfl : n = 0 := by omega
    simp [dgf]
  | f + 1, g + 1, n, h1, h2 => by
    unfold dgf
    by_cases h : n = 0
    · simp [h]
    · have : n / b < n := Nat.div_lt_self (by omega) (by omega)
      rw [if_neg h, if_neg h, dgf_more hb f g (n / b) (by omega) (by omega)]

@[simp] theorem dg_zero (b : Nat) : dg b 0 = [] := rfl
theorem dg_succ (hb : 2 ≤ b) {n : Nat} (h : n ≠ 0) : dg b n = ((n % b : Nat) : Int) :: dg b (n / b) := by
  obtain ⟨m, rfl⟩ : ∃ m, n = m + 1 := ⟨n - 1, by omega⟩
  have : (m + 1) / b < m + 1 := Nat.div_lt_self (by omega) (by omega)
  unfold dg
  rw [dgf, if_neg h, dgf_more hb m ((m + 1) / b) _ (by omega) (Nat.le_refl _)]
theorem dg_cons (hb : 2 ≤ b) (d n : Nat) (hd : d < b) (h : d ≠ 0 ∨ n ≠ 0) : dg b (d + b * n) = (d : Int) :: dg b n := by
  have hp : 0 < b := by omega
  rw [dg_succ hb, Nat.add_mul_mod_self_left, Nat.mod_eq_of_lt hd, Nat.add_mul_div_left _ _ hp, Nat.div_eq_of_lt hd, Nat.zero_add]
  intro e
  rcases h with h | h
  · omega
  · have : b * n ≠ 0 := Nat.mul_ne_zero (by omega) h
    omega

@[simp] theorem val_nil (b : Nat) : val b [] = 0 := rfl
theorem val_cons (b : Nat) (d : Int) (l : List Int) : val b (d :: l) = d.toNat + b * val b l := rfl
theorem Ok.nil : Ok b [] := fun _ h => by simp at h
theorem Ok.cons_iff {d : Int} {l : List Int} : Ok b (d :: l) ↔ (0 ≤ d ∧ d < (b : Int)) ∧ Ok b l := by simp [Ok]
theorem Ok.tail {d : Int} {l : List Int} (h : Ok b (d :: l)) : Ok b l := (Ok.cons_iff.1 h).2
theorem Ok.append {l m : List Int} (h : Ok b l) (k : Ok b m) : Ok b (l ++ m) := fun d hd => by
  rcases List.mem_append.1 hd with h1 | h1
  · exact h d h1
  · exact k d h1
theorem Ok.left {l m : List Int} (h : Ok b (l ++ m)) : Ok b l := fun d hd => h d (List.mem_append_left _ hd)
theorem Ok.right {l m : List Int} (h : Ok b (l ++ m)) : Ok b m := fun d hd => h d (List.mem_append_right _ hd)
theorem Ok.take {l : List Int} (h : Ok b l) (k : Nat) : Ok b (l.take k) := fun d hd => h d (List.mem_of_mem_take hd)
theorem Ok.drop {l : List Int} (h : Ok b l) (k : Nat) : Ok b (l.drop k) := fun d hd => h d (List.mem_of_mem_drop hd)
theorem Ok.at_ {l : List Int} (h : Ok b l) (hb : 0 < b) (i : Nat) : 0 ≤ l.getD i 0 ∧ l.getD i 0 < (b : Int) := by
  rw [List.getD_eq_getElem?_getD]
  rcases Nat.lt_or_ge i l.length with hi | hi
  · rw [List.getElem?_eq_getElem hi]; exact h _ (List.getElem_mem hi)
  · rw [List.getElem?_eq_none hi]; simp; omega
theorem Ok.replicate (hb : 0 < b) (n : Nat) : Ok b (List.replicate n 0) := fun d hd => by
  rw [(List.mem_replicate.1 hd).2]; omega

theorem val_append (b : Nat) (l m : List Int) : val b (l ++ m) = val b l + b ^ l.length * val b m := by
  induction l with
  | nil => simp
  | cons d l ih => rw [List.cons_append, val_cons, val_cons, ih, List.length_cons, Nat.pow_succ, Nat.mul_add, Nat.add_assoc, Nat.mul_comm (b ^ l.length) b, Nat.mul_assoc]
theorem val_snoc (b : Nat) (l : List Int) (d : Int) : val b (l ++ [d]) = val b l + b ^ l.length * d.toNat := by rw [val_append, val_cons]; simp
theorem val_zeros (b n : Nat) : val b (List.replicate n 0) = 0 := by
  induction n with
  | zero => rfl
  | succ n ih => rw [List.replicate_succ, val_cons, ih]; rfl
theorem val_append_zeros (b : Nat) (l : List Int) (n : Nat) : val b (l ++ List.replicate n 0) = val b l := by rw [val_append, val_zeros]; simp
theorem val_lt {l : List Int} (h : Ok b l) : val b l < b ^ l.length := by
  induction l with
  | nil => simp
  | cons d l ih =>
    have h1 := ih h.tail
    have h2 := (Ok.cons_iff.1 h).1
    rw [val_cons, List.length_cons, Nat.pow_succ, Nat.mul_comm _ b]
    have : b * (val b l + 1) ≤ b * b ^ l.length := Nat.mul_le_mul_left _ h1
    rw [Nat.mul_add] at this
    omega
theorem val_take_succ (b : Nat) (l : List Int) (k : Nat) (hk : k < l.length) : val b (l.take (k + 1)) = val b (l.take k) + b ^ k * (l.getD k 0).toNat := by
  rw [List.take_succ_eq_append_getElem hk, val_snoc, List.length_take, Nat.min_eq_left (by omega), List.getD_eq_getElem?_getD, List.getElem?_eq_getElem hk]; rfl
theorem val_split (b : Nat) (l : List Int) (k : Nat) (hk : k ≤ l.length) : val b l = val b (l.take k) + b ^ k * val b (l.drop k) := by
  have := val_append b (l.take k) (l.drop k)
  rw [List.take_append_drop, List.length_take, Nat.min_eq_left hk] at this
  exact this

theorem val_dg (hb : 2 ≤ b) (n : Nat) : val b (dg b n) = n := by
  induction n using Nat.strongRecOn with
  | ind n ih =>
    by_cases h : n = 0
    · subst h; rfl
    · have : n / b < n := Nat.div_lt_self (by omega) (by omega)
      rw [dg_succ hb h, val_cons, ih _ this, Int.toNat_natCast, Nat.mod_add_div]
theorem ok_dg (hb : 2 ≤ b) (n : Nat) : Ok b (dg b n) := by
  induction n using Nat.strongRecOn with
  | ind n ih =>
    by_cases h : n = 0
    · subst h; exact Ok.nil
    · have : n / b < n := Nat.div_lt_self (by omega) (by omega)
      rw [dg_succ hb h, Ok.cons_iff]
      have := Nat.mod_lt n (by omega : b > 0)
      exact ⟨by omega, ih _ ‹_›⟩
theorem dg_inj (hb : 2 ≤ b) {n m : Nat} (h : dg b n = dg b m) : n = m := by rw [← val_dg hb n, h, val_dg hb]
theorem dg_nil_iff (hb : 2 ≤ b) {n : Nat} : dg b n = [] ↔ n = 0 := by
  constructor
  · intro h
    by_cases h0 : n = 0
    · exact h0
    · rw [dg_succ hb h0] at h; simp at h
  · rintro rfl; rfl
theorem dg_len (hb : 2 ≤ b) (k : Nat) : ∀ n : Nat, (dg b n).length ≤ k ↔ n < b ^ k := by
  induction k with
  | zero =>
    intro n
    rw [Nat.pow_zero, Nat.le_zero, List.length_eq_zero_iff, dg_nil_iff hb]
    omega
  | succ k ih =>
    intro n
    by_cases h : n = 0
    · subst h; simp; exact Nat.pow_pos (by omega)
    · rw [dg_succ hb h, List.length_cons, Nat.succ_le_succ_iff, ih, Nat.pow_succ, Nat.div_lt_iff_lt_mul (by omega)]
theorem dg_len_lt (hb : 2 ≤ b) (n : Nat) : n < b ^ (dg b n).length := (dg_len hb _ n).1 (Nat.le_refl _)
theorem dg_len_ge (hb : 2 ≤ b) {n : Nat} (h : n ≠ 0) : b ^ ((dg b n).length - 1) ≤ n := by
  rcases Nat.lt_or_ge n (b ^ ((dg b n).length - 1)) with h1 | h1
  · have h2 := (dg_len hb _ n).2 h1
    have : (dg b n).length ≠ 0 := by rw [Ne, List.length_eq_zero_iff, dg_nil_iff hb]; exact h
    omega
  · exact h1

theorem trimL_eq (hb : 2 ≤ b) {l : List Int} (h : Ok b l) : trimL l = dg b (val b l) := by
  induction l with
  | nil => rfl
  | cons d l ih =>
    have hd := (Ok.cons_iff.1 h).1
    have ih := ih h.tail
    obtain ⟨e, rfl⟩ := Int.eq_ofNat_of_zero_le hd.1
    have he : e < b := by omega
    rw [trimL, ih, val_cons, Int.toNat_natCast]
    by_cases h0 : val b l = 0
    · rw [h0, Nat.mul_zero, Nat.add_zero, dg_zero]
      by_cases h1 : e = 0
      · subst h1; rfl
      · have := dg_cons hb e 0 he (.inl h1)
        rw [Nat.mul_zero, Nat.add_zero] at this
        rw [this]
        simp; omega
    · rw [dg_cons hb e _ he (.inr h0), dg_succ hb h0]
theorem trimL_take (l : List Int) : trimL l = l.take (trimL l).length := by
  induction l with
  | nil => rfl
  | cons d l ih =>
    rw [trimL]
    cases ht : trimL l with
    | nil => by_cases h : d = 0 <;> simp [h]
    | cons e t =>
      rw [ht] at ih
      simp only [List.length_cons] at ih ⊢
      rw [List.take_succ_cons, ← ih]
theorem trimL_le (l : List Int) : (trimL l).length ≤ l.length := by
  have h := congrArg List.length (trimL_take l)
  rw [List.length_take] at h
  omega
/-- Where the loop of trim stands still. -/
theorem trimL_len (l : List Int) (n : Nat) (h : n ≤ l.length) (hz : ∀ j, n ≤ j → l.getD j 0 = 0) (hn : n = 0 ∨ l.getD (n - 1) 0 ≠ 0) : (trimL l).length = n := by
  induction l generalizing n with
  | nil => simp at h; subst h; rfl
  | cons d l ih =>
    cases n with
    | zero =>
      have h1 := ih 0 (by omega) (fun j _ => by have := hz (j + 1) (by omega); simpa using this) (.inl rfl)
      have hd : d = 0 := by have := hz 0 (by omega); simpa using this
      rw [trimL, List.length_eq_zero_iff.1 h1, hd]
      rfl
    | succ n =>
      have hn := hn.resolve_left (by omega)
      have h1 := ih n (by simpa using h) (fun j hj => by have := hz (j + 1) (by omega); simpa using this) (by
        cases n with
        | zero => exact .inl rfl
        | succ n => exact .inr (by simpa using hn))
      rw [trimL]
      cases ht : trimL l with
      | nil =>
        rw [ht] at h1
        obtain rfl : n = 0 := by simpa using h1.symm
        have hd : d ≠ 0 := by simpa using hn
        simp [hd]
      | cons e t => rw [ht] at h1; simp only [List.length_cons] at h1 ⊢; omega
theorem trimL_dg (hb : 2 ≤ b) (n : Nat) : trimL (dg b n) = dg b n := by rw [trimL_eq hb (ok_dg hb n), val_dg hb]
theorem dg_of_len (hb : 2 ≤ b) {l : List Int} (h : Ok b l) (hl : l = [] ∨ l.getD (l.length - 1) 0 ≠ 0) : l = dg b (val b l) := by
  have h1 := trimL_len l l.length (Nat.le_refl _) (fun j hj => by rw [List.getD_eq_getElem?_getD, List.getElem?_eq_none hj]; rfl) (hl.imp (fun e => by rw [e]; rfl) id)
  have h2 := trimL_take l
  rw [h1, List.take_length] at h2
  rw [← trimL_eq hb h, h2]
end
end Go.Proofs.Ythadkjekagfjfaa.Dig
