/- Regions that draw their order and lay variables of their own beside calls: the lays are set aside, whenever they come up; the rest is walked once. Plain laws about the model's regions; no function of the program is entered. -/
import Derived.OrdersHeld
import Derived.Below
import Derived.Tactics
import Derived.Deep.RegionHeld
namespace Go.Proofs.Ythadkjekagfjfaa.N
open Go Go.RowKit
set_option linter.unusedVariables false
set_option maxRecDepth 100000

/-- An operation that lays a block: its number, the slot that gets the pointer, the block. -/
structure Flt where
  i : Nat
  d : Tmp
  ob : Obj
def fptr (g : Nat) : Value := .pointer (some ⟨g, 0, none⟩)
def putF (γ : Nat → Nat) (done : Nat → Bool) : List Flt → Act → Act
  | [], a => a
  | f :: l, a => putF γ done l (if done f.i then a.put (some f.d) (fptr (γ f.i)) else a)
def putA (γ : Nat → Nat) : List Flt → Act → Act
  | [], a => a
  | f :: l, a => putA γ l (a.put (some f.d) (fptr (γ f.i)))
theorem putF_all {γ : Nat → Nat} {done : Nat → Bool} : ∀ (A : List Flt) (a : Act), (∀ f ∈ A, done f.i = true) → putF γ done A a = putA γ A a
  | [], _, _ => rfl
  | f :: l, a, h => by
    rw [putF, putA, if_pos (h f (by simp)), putF_all l _ fun g hg => h g (by simp [hg])]
theorem putF_none {γ : Nat → Nat} {done : Nat → Bool} : ∀ (A : List Flt) (a : Act), (∀ f ∈ A, done f.i = false) → putF γ done A a = a
  | [], _, _ => rfl
  | f :: l, a, h => by
    rw [putF, if_neg (by rw [h f (by simp)]; simp), putF_none l _ fun g hg => h g (by simp [hg])]
theorem putF_congr {γ γ' : Nat → Nat} {done done' : Nat → Bool} : ∀ (A : List Flt) (a : Act), (∀ f ∈ A, done f.i = done' f.i) → (∀ f ∈ A, done f.i = true → γ f.i = γ' f.i) → putF γ done A a = putF γ' done' A a
  | [], _, _, _ => rfl
  | f :: l, a, h, h' => by
    rw [putF, putF, ← h f (by simp)]
    have ih := fun b => putF_congr (γ := γ) (γ' := γ') (done := done) (done' := done') l b (fun g hg => h g (by simp [hg])) (fun g hg => h' g (by simp [hg]))
    by_cases hd : done f.i = true
    · rw [if_pos hd, if_pos hd, h' f (by simp) hd, ih]
    · rw [if_neg hd, if_neg hd, ih]
theorem putF_put {γ : Nat → Nat} {done : Nat → Bool} {x : Option Tmp} {v : Value} : ∀ (A : List Flt) (a : Act), (∀ f ∈ A, x ≠ some f.d) → putF γ done A (a.put x v) = (putF γ done A a).put x v
  | [], _, _ => rfl
  | f :: l, a, h => by
    rw [putF, putF]
    by_cases hd : done f.i = true
    · rw [if_pos hd, if_pos hd, Act.put_comm a v (fptr (γ f.i)) (fun d hd' => fun e => h f (by simp) (by rw [hd', e])), putF_put l _ fun g hg => h g (by simp [hg])]
    · rw [if_neg hd, if_neg hd, putF_put l _ fun g hg => h g (by simp [hg])]
theorem putF_defers {γ : Nat → Nat} {done : Nat → Bool} {ds : List Deferred} : ∀ (A : List Flt) (a : Act), putF γ done A { a with defers := ds } = { putF γ done A a with defers := ds }
  | [], _ => rfl
  | f :: l, a => by
    rw [putF, putF]
    by_cases hd : done f.i = true
    · rw [if_pos hd, if_pos hd]; exact putF_defers (ds := ds) l (a.put (some f.d) (fptr (γ f.i)))
    · rw [if_neg hd, if_neg hd]; exact putF_defers (ds := ds) l a

/-- How many of L are not listed. -/
def un (l : Array Bool) (L : List Nat) : Nat := (L.filter fun i => !l.getD i true).length
theorem un_cons (l : Array Bool) (i : Nat) (L : List Nat) : un l (i :: L) = (if l.getD i true then 0 else 1) + un l L := by
  unfold un
  rw [List.filter_cons]
  cases h : l.getD i true <;> simp <;> omega
theorem un_out {l : Array Bool} {i : Nat} : ∀ {L : List Nat}, i ∉ L → un (l.setIfInBounds i true) L = un l L
  | [], _ => rfl
  | j :: L, h => by
    rw [un_cons, un_cons, getD_set_ne true (fun e => h (by simp [e])), un_out fun e => h (by simp [e])]
theorem un_set {l : Array Bool} {i : Nat} (hi : l.getD i true = false) : ∀ {L : List Nat}, L.Nodup → i ∈ L → un (l.setIfInBounds i true) L + 1 = un l L
  | [], _, h => by cases h
  | j :: L, hn, h => by
    have hlt : i < l.size := by
      rcases Nat.lt_or_ge i l.size with h' | h'
      · exact h'
      · simp [Array.getElem?_eq_none h'] at hi
    rw [List.nodup_cons] at hn
    rw [un_cons, un_cons]
    by_cases hij : i = j
    · subst hij
      rw [un_out hn.1, hi]
      simp [hlt]
      omega
    · have := un_set hi hn.2 ((List.mem_cons.1 h).resolve_left hij)
      rw [getD_set_ne true hij]
      omega
theorem un_zero {l : Array Bool} {L : List Nat} (h : un l L = 0) : ∀ i ∈ L, l.getD i true = true := fun i hi => by
  unfold un at h
  rw [List.length_eq_zero_iff, List.filter_eq_nil_iff] at h
  simpa using h i hi
theorem un_pos {l : Array Bool} {L : List Nat} (h : un l L ≠ 0) : ∃ i ∈ L, l.getD i true = false := by
  unfold un at h
  obtain ⟨i, hi⟩ := List.exists_mem_of_length_pos (Nat.pos_of_ne_zero h)
  rw [List.mem_filter] at hi
  exact ⟨i, hi.1, by simpa using hi.2⟩

theorem nodup_map_inj {α β : Type} {F : α → β} : ∀ {A : List α}, (A.map F).Nodup → ∀ {f g : α}, f ∈ A → g ∈ A → F f = F g → f = g
  | [], _, _, _, hf, _, _ => by cases hf
  | x :: l, hn, f, g, hf, hg, e => by
    simp only [List.map_cons, List.nodup_cons, List.mem_map, not_exists, not_and] at hn
    rcases List.mem_cons.1 hf with hf' | hf'
    · rcases List.mem_cons.1 hg with hg' | hg'
      · rw [hf', hg']
      · exact absurd (by rw [← hf', e]) (hn.1 g hg')
    · rcases List.mem_cons.1 hg with hg' | hg'
      · exact absurd (by rw [← hg', e]) (hn.1 f hf')
      · exact nodup_map_inj hn.2 hf' hg' e

section
variable {P : Program} {ops : Array Oper} {Q : Exit → Act → World → Prop}

/-- One operation is apart from the set-aside ones. -/
def apartF (ops : Array Oper) (A : List Flt) (o : Oper) : Bool :=
  A.all fun f => !(o.looksAt ops).contains f.d && o.dst != some f.d

theorem execOp_putF {γ : Nat → Nat} {done : Nat → Bool} (o : Oper) (hs : ∀ cs b, o.op ≠ .select cs b) : ∀ (A : List Flt) (a : Act), (∀ f ∈ A, f.d ∉ o.looksAt ops) →
    execOp (putF γ done A a).eval o = execOp a.eval o ∧ Region.wanted o (yielded ops (putF γ done A a).tmps) = Region.wanted o (yielded ops a.tmps)
  | [], _, _ => ⟨rfl, rfl⟩
  | f :: l, a, h => by
    have hf := h f (by simp)
    have ih := fun b => execOp_putF (γ := γ) (done := done) o hs l b fun g hg => h g (by simp [hg])
    rw [putF]
    by_cases hd : done f.i = true
    · rw [if_pos hd, (ih _).1, (ih _).2]
      have hd' : ∀ d, some f.d = some d → d ∉ o.looksAt ops := fun d e => by injection e with e; rwa [← e]
      exact ⟨execOp_put o hs a (some f.d) _ hd', wanted_put o a (some f.d) _ hd'⟩
    · rw [if_neg hd]; exact ih a

theorem wpOp_putF {γ : Nat → Nat} {done : Nat → Bool} {A : List Flt} {j : Nat} {o : Oper} (hj : ops[j]? = some o) (hs : ∀ cs b, o.op ≠ .select cs b) (h1 : ∀ f ∈ A, f.d ∉ o.looksAt ops) (h2 : ∀ f ∈ A, o.dst ≠ some f.d)
    (hQ : ∀ c (a a' : Act) w, a'.defers = a.defers → Q (.panic c) a w → Q (.panic c) a' w) {K K' : Act → World → Prop} (hK : ∀ a w, K a w → K' (putF γ done A a) w) {a : Act} {w : World} (h : wpOp P ops Q j K a w) : wpOp P ops Q j K' (putF γ done A a) w := by
  have hd : ∀ (A : List Flt) (b : Act), (putF γ done A b).defers = b.defers := fun A => by
    induction A with
    | nil => intro b; rfl
    | cons f l ih =>
      intro b
      rw [putF]
      by_cases hd : done f.i = true
      · rw [if_pos hd, ih]; rfl
      · rw [if_neg hd, ih]
  obtain ⟨e1, e2⟩ := execOp_putF (γ := γ) (done := done) (ops := ops) o hs A a h1
  unfold wpOp at *
  simp only [hj] at *
  rw [e2]
  split
  · rename_i hw
    simp only [hw, if_true] at h
    rcases h with h | ⟨hasks, hlets⟩
    case inr => exact .inr ⟨by unfold Oper.asks at *; rw [e1]; exact hasks, hlets⟩
    refine .inl ?_
    unfold Oper.wp at *
    rw [e1]
    generalize (execOp a.eval o).run P w = r at *
    cases r with
    | ok n w' =>
      cases n <;> simp only [Oper.upon] at h ⊢
      case value u => rw [← putF_put A a h2]; exact hK _ _ h
      case skip => rw [← putF_put A a h2]; exact hK _ _ h
      case defer d =>
        have := hK _ _ h
        rw [putF_put A _ h2, putF_defers] at this
        rw [hd A a]
        exact this
      case enter f args =>
        refine Calls.mono h fun e w'' he => ?_
        cases e with
        | returned u => show K' ((putF γ done A a).put o.dst u) w''; rw [← putF_put A a h2]; exact hK _ _ he
        | panicked c => exact hQ _ _ _ _ (hd A a) he
        | outgrown => exact he
      case row row args => exact Rows.mono h fun u w'' he => by rw [← putF_put A a h2]; exact hK _ _ he
    | halt x w' =>
      cases x <;> simp only [Oper.upon] at h ⊢
      case panic u => exact hQ _ _ _ _ (hd A a) h
  · rename_i hw
    simp only [hw] at h
    rw [← putF_put A a h2]
    exact hK _ _ h

/-- The walk of what is not set aside: M, in whatever order; the world may have grown ahead of each; then 'rest', in its one order. -/
def wpFl (P : Program) (ops : Array Oper) (Q : Exit → Act → World → Prop) (B : Nat) (A : List Flt) (M : List Nat) (rest : List Oper) : Nat → Array Bool → Act → World → Prop
  | 0, _, a, w => ∀ w' γ, Below w.heap.size w w' → (∀ f ∈ A, B ≤ γ f.i ∧ w'.heap[γ f.i]? = some f.ob) → (A.map fun f => γ f.i).Nodup → wpList P ops Q rest (putA γ A a) w'
  | n + 1, l, a, w => ∀ i ∈ M, i ∈ Region.ready .any ops l → ∀ w', Below w.heap.size w w' → wpOp P ops Q i (fun a' w'' => Below w'.heap.size w' w'' ∧ wpFl P ops Q B A M rest n (l.setIfInBounds i true) a' w'') a w'

theorem wpFl_grow {B : Nat} {A : List Flt} {M : List Nat} {rest : List Oper} : ∀ (n : Nat) {l : Array Bool} {a : Act} {w w' : World}, Below w.heap.size w w' → wpFl P ops Q B A M rest n l a w → wpFl P ops Q B A M rest n l a w'
  | 0, _, _, _, _, hb, h => fun w2 γ hb2 => h w2 γ (hb.trans (hb2.mono hb.size))
  | n + 1, _, _, _, _, hb, h => fun i hi hr w2 hb2 => h i hi hr w2 (hb.trans (hb2.mono hb.size))

/-- 'rest' comes up in one order alone. -/
def oneB (ops : Array Oper) : List Nat → Array Bool → Bool
  | [], l => (Region.ready .any ops l).isEmpty
  | i :: R, l => (Region.ready .any ops l == [i]) && oneB ops R (l.setIfInBounds i true)
theorem one_sound : ∀ (R : List Nat) (rest : List Oper) (l : Array Bool) (a : Act) (w : World), R.map (fun i => ops[i]?) = rest.map some → oneB ops R l = true → wpList P ops Q rest a w → wpAny P .any ops Q R.length l a w
  | [], [], l, a, w, _, hB, h => ⟨by simpa [oneB] using hB, h⟩
  | i :: R, o :: rest, l, a, w, hr, hB, h => by
    simp only [List.map_cons, List.cons.injEq] at hr
    simp only [oneB, Bool.and_eq_true, beq_iff_eq] at hB
    refine ⟨fun h0 => (by rw [h0] at hB; cases hB.1), fun j hj => ?_⟩
    rw [hB.1, List.mem_singleton] at hj
    subst hj
    have ih := fun a w => one_sound R rest (l.setIfInBounds j true) a w hr.2 hB.2
    unfold wpOp
    simp only [hr.1]
    unfold wpList at h
    split
    · rename_i hw; rw [if_pos hw] at h; exact h.imp (Oper.wp_mono ih) id
    · rename_i hw; rw [if_neg hw] at h; exact ih _ _ h
  | [], _ :: _, _, _, _, hr, _, _ => by simp at hr
  | _ :: _, [], _, _, _, hr, _, _ => by simp at hr

/-- The program's checks on the region: edges go back; nothing of M waits for a set-aside one, looks at its slot or writes it; the rest waits for all. -/
def fltB (ops : Array Oper) (A : List Flt) (M R : List Nat) : Bool :=
  Region.noSelect ops &&
  ((List.range ops.size).all fun j => match ops[j]? with | some o => o.after.all (fun e => decide (e.on < j)) | none => false) &&
  ((List.range ops.size).all fun j => M.contains j || (A.map Flt.i).contains j || R.contains j) &&
  (M.all fun j => decide (j < ops.size) && !(A.map Flt.i).contains j && match ops[j]? with | some o => o.after.all (fun e => !(A.map Flt.i).contains e.on) && apartF ops A o | none => false) &&
  (A.all fun f => decide (f.i < ops.size)) && decide (M.Nodup) && decide ((A.map Flt.i).Nodup) && decide ((A.map Flt.d).Nodup) &&
  (R.all fun j => !M.contains j && !(A.map Flt.i).contains j) && oneB ops R (((List.range ops.size).map fun j => !R.contains j).toArray)

/-- Each of the rest waits, directly or through others, for all of M and A: with every listed array that is closed under what an operation waits for. -/
def ancB (ops : Array Oper) : Nat → Nat → List Nat
  | 0, _ => []
  | n + 1, j => match ops[j]? with | some o => o.after.toList.flatMap fun e => if Region.binds .any e then e.on :: ancB ops n e.on else [] | none => []
def waitsB (ops : Array Oper) (n : Nat) (MA R : List Nat) : Bool := R.all fun j => MA.all fun i => (ancB ops n j).contains i
def Closed (ops : Array Oper) (l : Array Bool) : Prop := ∀ (j : Nat) (o : Oper), ops[j]? = some o → l.getD j false = true → ∀ e ∈ o.after, Region.binds .any e = true → l.getD e.on false = true
theorem anc_listed {l : Array Bool} (hc : Closed ops l) : ∀ (n j : Nat) (o : Oper), ops[j]? = some o → (∀ e ∈ o.after, Region.binds .any e = true → l.getD e.on false = true) → ∀ i ∈ ancB ops n j, l.getD i false = true
  | 0, _, _, _, _, _, h => by simp [ancB] at h
  | n + 1, j, o, ho, ha, i, h => by
    rw [ancB, ho] at h
    simp only [List.mem_flatMap, Array.mem_toList_iff] at h
    obtain ⟨e, he, hi⟩ := h
    by_cases hb : Region.binds .any e = true
    · rw [if_pos hb] at hi
      have h1 := ha e he hb
      rcases List.mem_cons.1 hi with rfl | hi
      · exact h1
      · cases h2 : ops[e.on]? with
        | none => cases n <;> simp [ancB, h2] at hi
        | some o2 => exact anc_listed hc n e.on o2 h2 (fun e2 he2 hb2 => hc e.on o2 h2 h1 e2 he2 hb2) i hi
    · rw [if_neg hb] at hi; cases hi

theorem putF_new {γ γ' : Nat → Nat} {done done' : Nat → Bool} {f : Flt} {g : Nat} : ∀ {A : List Flt} (a : Act), (A.map Flt.i).Nodup → (A.map Flt.d).Nodup → f ∈ A → done f.i = false → done' f.i = true → γ' f.i = g →
    (∀ j, j ≠ f.i → done' j = done j) → (∀ j, j ≠ f.i → γ' j = γ j) → putF γ' done' A a = (putF γ done A a).put (some f.d) (fptr g)
  | [], _, _, _, h, _, _, _, _, _ => by cases h
  | e :: l, a, hi, hd, h, h0, h1, h2, h3, h4 => by
    simp only [List.map_cons, List.nodup_cons, List.mem_map, not_exists, not_and] at hi hd
    rcases List.mem_cons.1 h with rfl | h
    · have hne : ∀ q ∈ l, q.i ≠ f.i := fun q hq => hi.1 q hq
      rw [putF, putF, if_pos h1, if_neg (by rw [h0]; simp), h2, putF_put l a (fun q hq e => by injection e with e; exact hd.1 q hq e.symm)]
      rw [putF_congr l a (fun q hq => h3 _ (hne q hq)) (fun q hq _ => h4 _ (hne q hq))]
    · have hne : e.i ≠ f.i := fun e' => hi.1 f h e'.symm
      rw [putF, putF, h3 _ hne, h4 _ hne]
      exact putF_new _ hi.2 hd.2 h h0 h1 h2 h3 h4

theorem getD_tf {l : Array Bool} {j : Nat} (h : j < l.size) : l.getD j true = l.getD j false := by simp [h]
theorem getD_out {l : Array Bool} {j : Nat} {d : Bool} (h : ¬ j < l.size) : l.getD j d = d := by simp [Array.getElem?_eq_none (by omega : l.size ≤ j)]
theorem closed_set {l : Array Bool} {i : Nat} {o : Oper} (hc : Closed ops l) (ho : ops[i]? = some o) (ha : ∀ e ∈ o.after, Region.binds .any e = true → l.getD e.on false = true) : Closed ops (l.setIfInBounds i true) := fun j o2 h2 hj e he hb => by
  by_cases hij : i = j
  · subst hij
    rw [ho] at h2
    cases h2
    exact getD_set_true (ha e he hb)
  · rw [getD_set_ne false hij] at hj
    exact getD_set_true (hc j o2 h2 hj e he hb)
/-- The least operation that has not come up may come up. -/
theorem ready_least {l : Array Bool} (hs : l.size = ops.size) (hback : ∀ (j : Nat) (o : Oper), ops[j]? = some o → ∀ e ∈ o.after, e.on < j) {i : Nat} (hi : i < ops.size) (h : l.getD i true = false) : Region.ready .any ops l ≠ [] := by
  induction i using Nat.strongRecOn with
  | ind i ih =>
    intro h0
    have ho : ops[i]? = some ops[i] := Array.getElem?_eq_getElem hi
    by_cases hall : ∀ e ∈ ops[i].after, Region.binds .any e = true → l.getD e.on false = true
    · have : i ∈ Region.ready .any ops l := mem_ready.2 ⟨h, _, ho, hall⟩
      rw [h0] at this
      cases this
    · simp only [Classical.not_forall] at hall
      obtain ⟨e, he, hb, hu⟩ := hall
      have hlt := hback i _ ho e he
      refine ih e.on hlt (by omega) ?_ h0
      rw [getD_tf (by omega)]
      simpa using hu

theorem fl_sound {B : Nat} {A : List Flt} {M R : List Nat} {rest : List Oper} (hB : fltB ops A M R = true) (hW : waitsB ops ops.size (M ++ A.map Flt.i) R = true) (hr : R.map (fun i => ops[i]?) = rest.map some)
    (hal : ∀ f ∈ A, ∀ o : Oper, ops[f.i]? = some o → o.dst = some f.d ∧ o.guard = none ∧ ∀ (a : Act) (w : World), (execOp a.eval o).run P w = .ok (.value (fptr w.heap.size)) (w.alloc f.ob))
    (hQ : ∀ c (a a' : Act) w, a'.defers = a.defers → Q (.panic c) a w → Q (.panic c) a' w) :
    ∀ (n : Nat) (l l' : Array Bool) (γ : Nat → Nat) (a : Act) (w w' : World), l.size = ops.size → l'.size = ops.size → (∀ j, j ∉ A.map Flt.i → l[j]? = l'[j]?) → Closed ops l' → (∀ j ∈ R, l'.getD j true = false) →
      n = un l' M + un l' (A.map Flt.i) + R.length → wpFl P ops Q B A M rest (un l' M) l a w → Below w.heap.size w w' → B ≤ w'.heap.size →
      (∀ f ∈ A, l'.getD f.i false = true → B ≤ γ f.i ∧ w'.heap[γ f.i]? = some f.ob) →
      (∀ f ∈ A, ∀ g ∈ A, l'.getD f.i false = true → l'.getD g.i false = true → f.i ≠ g.i → γ f.i ≠ γ g.i) →
      wpAny P .any ops Q n l' (putF γ (fun i => l'.getD i false) A a) w' := by
  simp only [fltB, Bool.and_eq_true, List.all_eq_true, List.mem_range, Bool.or_eq_true, List.contains_iff_mem, decide_eq_true_eq, Bool.not_eq_true'] at hB
  obtain ⟨⟨⟨⟨⟨⟨⟨⟨⟨hsel, hback0⟩, hcls⟩, hM⟩, hAlt⟩, hMn⟩, hAn⟩, hDn⟩, hdisj⟩, hone⟩ := hB
  have hback : ∀ (j : Nat) (o : Oper), ops[j]? = some o → ∀ e ∈ o.after, e.on < j := fun j o ho e he => by
    have hlt : j < ops.size := (Array.getElem?_eq_some_iff.1 ho).1
    have := hback0 j hlt
    rw [ho] at this
    simp only [Array.all_eq_true_iff_forall_mem, decide_eq_true_eq] at this
    exact this e he
  have fin : ∀ (l l' : Array Bool) (γ : Nat → Nat) (a : Act) (w w' : World), l'.size = ops.size → (∀ j ∈ R, l'.getD j true = false) → un l' M = 0 → un l' (A.map Flt.i) = 0 → wpFl P ops Q B A M rest 0 l a w → Below w.heap.size w w' →
      (∀ f ∈ A, l'.getD f.i false = true → B ≤ γ f.i ∧ w'.heap[γ f.i]? = some f.ob) →
      (∀ f ∈ A, ∀ g ∈ A, l'.getD f.i false = true → l'.getD g.i false = true → f.i ≠ g.i → γ f.i ≠ γ g.i) →
      wpAny P .any ops Q R.length l' (putF γ (fun i => l'.getD i false) A a) w' := by
    intro l l' γ a w w' hl' hR h0 h1 hfl hb hbox hdis
    have e : l' = ((List.range ops.size).map fun j => !R.contains j).toArray := by
      apply Array.ext
      · simp [hl']
      · intro j hj1 hj2
        have hj : j < ops.size := by rwa [hl'] at hj1
        simp only [List.getElem_toArray, List.getElem_map, List.getElem_range]
        by_cases hjR : j ∈ R
        · have ht := hR j hjR
          simp only [Array.getD_eq_getD_getElem?, Array.getElem?_eq_getElem hj1, Option.getD_some] at ht
          rw [ht]; simp [hjR]
        · have ht : l'.getD j true = true := by
            rcases hcls j hj with (h | h) | h
            · exact un_zero h0 j h
            · exact un_zero h1 j h
            · exact absurd h hjR
          simp only [Array.getD_eq_getD_getElem?, Array.getElem?_eq_getElem hj1, Option.getD_some] at ht
          rw [ht]; simp [hjR]
    have hone' : oneB ops R l' = true := by rw [e]; exact hone
    have hall : ∀ f ∈ A, l'.getD f.i false = true := fun f hf => by
      have h2 := un_zero h1 f.i (List.mem_map_of_mem hf)
      rwa [getD_tf (by rw [hl']; exact hAlt f hf)] at h2
    rw [putF_all A a hall]
    refine one_sound R rest l' _ w' hr hone' (hfl w' γ hb (fun f hf => hbox f hf (hall f hf)) ?_)
    have hp : A.Pairwise (fun f g => f.i ≠ g.i) := by rw [List.Nodup, List.pairwise_map] at hAn; exact hAn
    rw [List.Nodup, List.pairwise_map]
    exact List.Pairwise.imp_of_mem (fun hf hg hne => hdis _ hf _ hg (hall _ hf) (hall _ hg) hne) hp
  intro n
  induction n with
  | zero =>
    intro l l' γ a w w' hl hl' hrel hcl hR hn hfl hb hBw hbox hdis
    have h0 : un l' M = 0 := by omega
    rw [h0] at hfl
    have := fin l l' γ a w w' hl' hR h0 (by omega) hfl hb hbox hdis
    rwa [show R.length = 0 by omega] at this
  | succ n ih =>
    intro l l' γ a w w' hl hl' hrel hcl hR hn hfl hb hBw hbox hdis
    by_cases h00 : un l' M = 0 ∧ un l' (A.map Flt.i) = 0
    · rw [h00.1] at hfl
      have := fin l l' γ a w w' hl' hR h00.1 h00.2 hfl hb hbox hdis
      rwa [show R.length = n + 1 by omega] at this
    · refine ⟨fun h0 => ?_, fun i hi => ?_⟩
      · exfalso
        by_cases hM0 : un l' M = 0
        · obtain ⟨i, hi, hu⟩ := un_pos (fun h => h00 ⟨hM0, h⟩)
          obtain ⟨f, hf, rfl⟩ := List.mem_map.1 hi
          exact ready_least hl' hback (hAlt f hf) hu h0
        · obtain ⟨i, hi, hu⟩ := un_pos hM0
          exact ready_least hl' hback (hM i hi).1.1 hu h0
      · obtain ⟨hun, o, ho, ha⟩ := mem_ready.1 hi
        have hlt : i < ops.size := (Array.getElem?_eq_some_iff.1 ho).1
        rcases hcls i hlt with (hiM | hiA) | hiR
        · obtain ⟨⟨_, hiA⟩, hchk⟩ := hM i hiM
          rw [ho] at hchk
          simp only [Bool.and_eq_true, Array.all_eq_true_iff_forall_mem, apartF, List.all_eq_true, Bool.not_eq_true'] at hchk
          obtain ⟨hdep, hap⟩ := hchk
          have nA : ∀ k, (A.map Flt.i).contains k = false → k ∉ A.map Flt.i := fun k hk hm => by rw [List.contains_iff_mem.2 hm] at hk; cases hk
          have hiA' := nA i hiA
          have hset := un_set hun hMn hiM
          rw [← hset] at hfl
          have hrd : i ∈ Region.ready .any ops l := by
            refine mem_ready.2 ⟨?_, o, ho, fun e he hb2 => ?_⟩
            · rw [Array.getD_eq_getD_getElem?, hrel i hiA', ← Array.getD_eq_getD_getElem?]; exact hun
            · rw [Array.getD_eq_getD_getElem?, hrel e.on (nA _ (hdep e he)), ← Array.getD_eq_getD_getElem?]; exact ha e he hb2
          have h := hfl i hiM hrd w' hb
          refine wpOp_putF ho (fun cs b => Region.noSelect_spec hsel i o cs b ho) (fun f hf hm => ?_) (fun f hf e => ?_) hQ (fun a' w'' hK => ?_) h
          · have := (hap f hf).1
            rw [List.contains_iff_mem.2 hm] at this
            cases this
          · have := (hap f hf).2
            rw [e] at this
            simp at this
          · have hne : ∀ f ∈ A, i ≠ f.i := fun f hf e => hiA' (by rw [e]; exact List.mem_map_of_mem hf)
            have hd : ∀ f ∈ A, (l'.setIfInBounds i true).getD f.i false = l'.getD f.i false := fun f hf => getD_set_ne false (hne f hf)
            have hRne : ∀ j ∈ R, i ≠ j := fun j hj e => by
              have := (hdisj j hj).1
              rw [← e, List.contains_iff_mem.2 hiM] at this
              cases this
            rw [putF_congr (γ' := γ) (done' := fun j => (l'.setIfInBounds i true).getD j false) A a' (fun f hf => (hd f hf).symm) (fun _ _ _ => rfl)]
            refine ih (l.setIfInBounds i true) (l'.setIfInBounds i true) γ a' w'' w'' (by simpa using hl) (by simpa using hl') (fun j hj => ?_) (closed_set hcl ho ha) (fun j hj => by rw [getD_set_ne true (hRne j hj)]; exact hR j hj) ?_ hK.2 (Below.refl _ _) (Nat.le_trans hBw hK.1.size) ?_ ?_
            · by_cases hij : i = j
              · subst hij; simp [Array.getElem?_setIfInBounds, hl, hl']
              · rw [Array.getElem?_setIfInBounds_ne hij, Array.getElem?_setIfInBounds_ne hij]; exact hrel j hj
            · rw [un_out hiA']; omega
            · intro f hf hfd
              rw [hd f hf] at hfd
              obtain ⟨h1, h2⟩ := hbox f hf hfd
              refine ⟨h1, ?_⟩
              rw [hK.1.block _ (Array.getElem?_eq_some_iff.1 h2).1]
              exact h2
            · intro f hf g hg hfd hgd
              rw [hd f hf] at hfd
              rw [hd g hg] at hgd
              exact hdis f hf g hg hfd hgd
        · obtain ⟨f, hf, rfl⟩ := List.mem_map.1 hiA
          obtain ⟨h1, h2, h3⟩ := hal f hf o ho
          have hfM : f.i ∉ M := fun hm => by
            have := (hM _ hm).1.2
            rw [List.contains_iff_mem.2 hiA] at this
            cases this
          have hRne : ∀ j ∈ R, f.i ≠ j := fun j hj e => by
            have := (hdisj j hj).2
            rw [← e, List.contains_iff_mem.2 hiA] at this
            cases this
          have hun' : l'.getD f.i false = false := by rw [← getD_tf (by rw [hl']; exact hlt)]; exact hun
          have hset := un_set hun hAn hiA
          have hfin : (l'.setIfInBounds f.i true).getD f.i false = true := by simp [hl', hlt]
          unfold wpOp
          simp only [ho]
          rw [if_pos (by simp [Region.wanted, h2])]
          refine .inl ?_
          unfold Oper.wp
          rw [h3, Oper.upon_value, h1]
          rw [← putF_new (γ' := fun j => if j = f.i then w'.heap.size else γ j) (done' := fun j => (l'.setIfInBounds f.i true).getD j false) a hAn hDn hf hun' hfin (if_pos rfl) (fun j hj => getD_set_ne false (Ne.symm hj)) (fun j hj => if_neg hj)]
          have hlt' : ∀ g ∈ A, l'.getD g.i false = true → γ g.i < w'.heap.size := fun g hg hgd => (Array.getElem?_eq_some_iff.1 (hbox g hg hgd).2).1
          have hold : ∀ g ∈ A, (l'.setIfInBounds f.i true).getD g.i false = true → g.i ≠ f.i → l'.getD g.i false = true := fun g hg hgd hne => by rwa [getD_set_ne false (Ne.symm hne)] at hgd
          refine ih l (l'.setIfInBounds f.i true) _ a w (w'.alloc f.ob) hl (by simpa using hl') (fun j hj => ?_) (closed_set hcl ho ha) (fun j hj => by rw [getD_set_ne true (hRne j hj)]; exact hR j hj) ?_ ?_ (hb.alloc hb.size _) ?_ ?_ ?_
          · rw [Array.getElem?_setIfInBounds_ne (fun e => hj (by rw [← e]; exact hiA))]; exact hrel j hj
          · rw [un_out hfM]; omega
          · rw [un_out hfM]; exact hfl
          · have : (w'.alloc f.ob).heap.size = w'.heap.size + 1 := by simp
            omega
          · intro g hg hgd
            by_cases hgf : g.i = f.i
            · have := nodup_map_inj hAn hg hf hgf
              subst this
              rw [if_pos rfl]
              exact ⟨hBw, by show (w'.heap.push g.ob)[w'.heap.size]? = _; simp⟩
            · rw [if_neg hgf]
              have hgd' := hold g hg hgd hgf
              obtain ⟨q1, q2⟩ := hbox g hg hgd'
              exact ⟨q1, by rw [Below.heap_alloc _ _ _ (hlt' g hg hgd')]; exact q2⟩
          · intro g hg k hk hgd hkd hne
            by_cases hgf : g.i = f.i
            · have hkf : k.i ≠ f.i := fun e => hne (hgf.trans e.symm)
              simp only [if_pos hgf, if_neg hkf]
              have := hlt' k hk (hold k hk hkd hkf)
              omega
            · by_cases hkf : k.i = f.i
              · simp only [if_neg hgf, if_pos hkf]
                have := hlt' g hg (hold g hg hgd hgf)
                omega
              · simp only [if_neg hgf, if_neg hkf]
                exact hdis g hg k hk (hold g hg hgd hgf) (hold k hk hkd hkf) hne
        · exfalso
          have hanc := anc_listed hcl ops.size i o ho ha
          have hw2 : ∀ k ∈ M ++ A.map Flt.i, l'.getD k false = true := fun k hk => by
            refine hanc k ?_
            simp only [waitsB, List.all_eq_true, List.contains_iff_mem] at hW
            exact hW i hiR k hk
          refine h00 ⟨?_, ?_⟩
          · apply Classical.byContradiction
            intro hne
            obtain ⟨k, hk, hu⟩ := un_pos hne
            rw [getD_tf (by rw [hl']; exact (hM k hk).1.1), hw2 k (List.mem_append_left _ hk)] at hu
            cases hu
          · apply Classical.byContradiction
            intro hne
            obtain ⟨k, hk, hu⟩ := un_pos hne
            obtain ⟨g, hg, rfl⟩ := List.mem_map.1 hk
            rw [getD_tf (by rw [hl']; exact hAlt g hg), hw2 _ (List.mem_append_right _ hk)] at hu
            cases hu

inductive isRest (ops : Array Oper) : List Nat → List Oper → Prop
  | nil : isRest ops [] []
  | cons {i : Nat} {o : Oper} {R : List Nat} {rest : List Oper} (h : ops.toList[i]? = some o) (t : isRest ops R rest) : isRest ops (i :: R) (o :: rest)
theorem isRest_map {R : List Nat} {rest : List Oper} (h : isRest ops R rest) : R.map (fun i => ops[i]?) = rest.map some := by
  induction h with
  | nil => rfl
  | cons h _ ih => rw [List.map_cons, List.map_cons, ← Array.getElem?_toList, h, ih]
/-- A lay that is set aside. -/
def isFlt (P : Program) (ops : Array Oper) (f : Flt) : Prop := ∃ o : Oper, ops[f.i]? = some o ∧ o.dst = some f.d ∧ o.guard = none ∧ ∀ (a : Act) (w : World), (execOp a.eval o).run P w = .ok (.value (fptr w.heap.size)) (w.alloc f.ob)

/-- THE BEGINNING. -/
theorem wp_region_flt {id : Nat} {a : Act} {w : World} (A : List Flt) (M R : List Nat) (rest : List Oper) (n : Nat) (hm : P.follows .mixedOrders = true)
    (hB : (fltB ops A M R && waitsB ops ops.size (M ++ A.map Flt.i) R && (M.length == n) && (ops.size == M.length + A.length + R.length)) = true) (hr : isRest ops R rest) (hal0 : ∀ f ∈ A, isFlt P ops f)
    (hQ : ∀ c (a a' : Act) w, a'.defers = a.defers → Q (.panic c) a w → Q (.panic c) a' w)
    (h0 : ∀ w1, Below w.heap.size w w1 → wpFl P ops Q w.heap.size A M rest n (Array.replicate ops.size false) a w1) : (Code.region id ops true).wp P Q a w := by
  have h := h0 w.drew ((Below.refl _ _).drew)
  replace hr := isRest_map hr
  simp only [Bool.and_eq_true, beq_iff_eq] at hB
  obtain ⟨⟨⟨hB, hW⟩, hn⟩, hN⟩ := hB
  have hal : ∀ f ∈ A, ∀ o : Oper, ops[f.i]? = some o → o.dst = some f.d ∧ o.guard = none ∧ ∀ (a : Act) (w : World), (execOp a.eval o).run P w = .ok (.value (fptr w.heap.size)) (w.alloc f.ob) := fun f hf o ho => by
    obtain ⟨o', h1, h2⟩ := hal0 f hf
    rw [ho] at h1
    cases h1
    exact h2
  have hu : ∀ L : List Nat, (∀ i ∈ L, i < ops.size) → un (Array.replicate ops.size false) L = L.length := fun L hL => by
    unfold un
    rw [List.filter_eq_self.2 fun i hi => by simp [hL i hi]]
  have hB' := hB
  simp only [fltB, Bool.and_eq_true, List.all_eq_true, List.mem_range, Bool.or_eq_true, List.contains_iff_mem, decide_eq_true_eq, Bool.not_eq_true'] at hB'
  obtain ⟨⟨⟨⟨⟨⟨⟨⟨⟨hsel, hback0⟩, hcls⟩, hM⟩, hAlt⟩, hMn⟩, hAn⟩, hDn⟩, hdisj⟩, hone⟩ := hB'
  have hRlt : ∀ j ∈ R, j < ops.size := fun j hj => by
    have h1 : some j ∈ R.map some := List.mem_map_of_mem hj
    have h2 : ops[j]? ∈ R.map (fun i => ops[i]?) := List.mem_map_of_mem hj
    rw [hr] at h2
    obtain ⟨o, _, ho⟩ := List.mem_map.1 h2
    exact (Array.getElem?_eq_some_iff.1 ho.symm).1
  have h1 := hu M (fun i hi => (hM i hi).1.1)
  have h2 := hu (A.map Flt.i) (fun i hi => by obtain ⟨f, hf, rfl⟩ := List.mem_map.1 hi; exact hAlt f hf)
  refine wp_region_any hm ?_
  have hno : ∀ j d, j < ops.size → (Array.replicate ops.size false).getD j d = false := fun j d hj => by simp [hj]
  have key := fl_sound hB hW hr hal hQ ops.size (Array.replicate ops.size false) (Array.replicate ops.size false) (fun _ => 0) a w.drew w.drew (by simp) (by simp) (fun _ _ => rfl) (fun j o ho hj => by
    rw [hno j false (Array.getElem?_eq_some_iff.1 ho).1] at hj; cases hj) (fun j hj => hno j true (hRlt j hj)) (by rw [h1, h2, List.length_map]; exact hN) (by rw [h1, hn]; exact h) (Below.refl _ _) (Nat.le_refl _)
    (fun f hf hd => by rw [hno _ false (hAlt f hf)] at hd; cases hd) (fun f hf g hg hd => by rw [hno _ false (hAlt f hf)] at hd; cases hd)
  rw [putF_none A a (fun f hf => hno _ false (hAlt f hf))] at key
  exact key

/-! The moves. -/
theorem wpFl_first {S : World → Prop} {B : Nat} {A : List Flt} {M : List Nat} {rest : List Oper} {i : Nat} {oi : Oper} {v : Value} (hi : ops[i]? = some oi) (hsel : ∀ (j : Nat) (o : Oper) cs b, ops[j]? = some o → o.op ≠ .select cs b)
    (hQ : ∀ c a w, Q (.panic c) (a.put oi.dst v) w → Q (.panic c) a w) (hst : ∀ w1 w2, Below w1.heap.size w1 w2 → S w1 → S w2) (hMn : M.Nodup) (hiM : i ∈ M) :
    ∀ (n : Nat) (l : Array Bool) (a : Act) (w : World), un l M = n + 1 →
      (∀ j oj, ops[j]? = some oj → j ≠ i → l.getD j true = false → (∀ e ∈ oj.after, Region.binds .any e = true → e.on ≠ i) → oi.apart ops oj = true) →
      i ∈ Region.ready .any ops l → YieldsIf P ops S oi v a → S w →
      wpFl P ops Q B A M rest n (l.setIfInBounds i true) (a.put oi.dst v) w → wpFl P ops Q B A M rest (n + 1) l a w := by
  intro n
  induction n with
  | zero =>
    intro l a w hu _ hr hy hS H j hjM hj w' hb
    by_cases hji : j = i
    · subst hji; exact hy.wpOp hi (hst _ _ hb hS) ⟨Below.refl _ _, wpFl_grow 0 hb H⟩
    · exfalso
      have h1 := un_set (mem_ready.1 hr).1 hMn hiM
      have h2 := un_zero (l := l.setIfInBounds i true) (L := M) (by omega) j hjM
      rw [getD_set_ne true (Ne.symm hji), (mem_ready.1 hj).1] at h2
      cases h2
  | succ n ih =>
    intro l a w hu hfree hr hy hS H j hjM hj w' hb
    by_cases hji : j = i
    · subst hji; exact hy.wpOp hi (hst _ _ hb hS) ⟨Below.refl _ _, wpFl_grow _ hb H⟩
    · have h1 := H j hjM (ready_mono hj hji) w' hb
      obtain ⟨hjun, oj, hoj, hall⟩ := mem_ready.1 hj
      have hnot : ∀ e ∈ oj.after, Region.binds .any e = true → e.on ≠ i := fun e he hb heq => by
        have h1 := hall e he hb
        have h0 := (mem_ready.1 hr).1
        rw [heq] at h1
        rcases Nat.lt_or_ge i l.size with h' | h'
        · rw [getD_tf h'] at h0; rw [h0] at h1; cases h1
        · rw [getD_out (by omega)] at h1; cases h1
      have h2 := wpOp_putIf hoj (hfree j oj hoj hji hjun hnot) (fun cs b => hsel i oi cs b hi) (fun cs b => hsel j oj cs b hoj) hQ hy h1
      have hfree' : ∀ k ok, ops[k]? = some ok → k ≠ i → (l.setIfInBounds j true).getD k true = false →
          (∀ e ∈ ok.after, Region.binds .any e = true → e.on ≠ i) → oi.apart ops ok = true := fun k ok hk hki hun hno => by
        refine hfree k ok hk hki ?_ hno
        by_cases hjk : j = k
        · subst hjk; exact hjun
        · rw [getD_set_ne true hjk] at hun; exact hun
      have hu' := un_set hjun hMn hjM
      refine wpOp_mono (fun a' w'' h3 => ⟨h3.2.1, ih (l.setIfInBounds j true) a' w'' (by omega) hfree' (ready_mono hr (Ne.symm hji)) h3.1 (hst _ _ h3.2.1 (hst _ _ hb hS)) ?_⟩) h2
      rw [Array.setIfInBounds_comm _ _ hji]
      exact h3.2.2

/-- An operation that yields its value in every world that meets S is taken first. -/
theorem wpFl_take {S : World → Prop} {B : Nat} {A : List Flt} {M : List Nat} {rest : List Oper} {n : Nat} {l : Array Bool} {a : Act} {w : World} (hst : ∀ w1 w2, Below w1.heap.size w1 w2 → S w1 → S w2) (hS : S w) (i : Nat) {oi : Oper} {v : Value} (hi0 : ops.toList[i]? = some oi)
    (hB : (Region.noSelect ops && Region.free .any ops l i && (Region.ready .any ops l).contains i && M.contains i && decide M.Nodup && (un l M == n + 1)) = true)
    (hQ : ∀ c a w, Q (.panic c) (a.put oi.dst v) w → Q (.panic c) a w) (hy : YieldsIf P ops S oi v a)
    (h : wpFl P ops Q B A M rest n (l.setIfInBounds i true) (a.put oi.dst v) w) : wpFl P ops Q B A M rest (n + 1) l a w := by
  have hi : ops[i]? = some oi := by rw [← Array.getElem?_toList]; exact hi0
  simp only [Bool.and_eq_true, decide_eq_true_eq, beq_iff_eq, List.contains_iff_mem] at hB
  obtain ⟨⟨⟨⟨⟨hs, hf⟩, hr⟩, hm⟩, hn⟩, hu⟩ := hB
  exact wpFl_first hi (Region.noSelect_spec hs) hQ hst hn hm n l a w hu (Region.free_spec hi hf) hr hy hS h

/-- The one that comes up (a call), in a world that may have grown. -/
theorem wpFl_call {B : Nat} {A : List Flt} {M : List Nat} {rest : List Oper} {n : Nat} {l : Array Bool} {a : Act} {w : World} (i : Nat) {o : Oper} (hi0 : ops.toList[i]? = some o) (hone : ((Region.ready .any ops l).filter fun j => M.contains j) = [i])
    (h : ∀ w', Below w.heap.size w w' → ∀ K : Act → World → Prop, Shut (∀ a' w'', Below w'.heap.size w' w'' → wpFl P ops Q B A M rest n (l.setIfInBounds i true) a' w'' → K a' w'') → if Region.wanted o (yielded ops a.tmps) = true then Oper.wp P o a w' K Q else K (a.put o.dst undef) w') :
    wpFl P ops Q B A M rest (n + 1) l a w := fun j hj hr w' hb => by
  have : j ∈ (Region.ready .any ops l).filter fun j => M.contains j := List.mem_filter.2 ⟨hr, List.contains_iff_mem.2 hj⟩
  rw [hone, List.mem_singleton] at this
  subst this
  have hi : ops[j]? = some o := by rw [← Array.getElem?_toList]; exact hi0
  exact wpOp_step hi fun K hK => h w' hb K fun a' w'' h1 h2 => hK a' w'' ⟨h1, h2⟩

theorem wpFl_end0 {B : Nat} {M : List Nat} {rest : List Oper} {l : Array Bool} {a : Act} {w : World} (h : ∀ w', Below w.heap.size w w' → wpList P ops Q rest a w') : wpFl P ops Q B [] M rest 0 l a w :=
  fun w' _ hb _ _ => h w' hb
theorem wpFl_end1 {B : Nat} {f1 : Flt} {M : List Nat} {rest : List Oper} {l : Array Bool} {a : Act} {w : World}
    (h : ∀ w' g1, Below w.heap.size w w' → B ≤ g1 → w'.heap[g1]? = some f1.ob → wpList P ops Q rest (a.put (some f1.d) (.pointer (some ⟨g1, 0, none⟩))) w') : wpFl P ops Q B [f1] M rest 0 l a w :=
  fun w' γ hb hx _ => h w' (γ f1.i) hb (hx f1 (by simp)).1 (hx f1 (by simp)).2
theorem wpFl_end2 {B : Nat} {f1 f2 : Flt} {M : List Nat} {rest : List Oper} {l : Array Bool} {a : Act} {w : World}
    (h : ∀ w' g1 g2, Below w.heap.size w w' → B ≤ g1 → B ≤ g2 → w'.heap[g1]? = some f1.ob → w'.heap[g2]? = some f2.ob → g1 ≠ g2 → wpList P ops Q rest ((a.put (some f1.d) (.pointer (some ⟨g1, 0, none⟩))).put (some f2.d) (.pointer (some ⟨g2, 0, none⟩))) w') : wpFl P ops Q B [f1, f2] M rest 0 l a w :=
  fun w' γ hb hx hn => h w' (γ f1.i) (γ f2.i) hb (hx f1 (by simp)).1 (hx f2 (by simp)).1 (hx f1 (by simp)).2 (hx f2 (by simp)).2 (by simp at hn; exact hn)
theorem wpFl_end3 {B : Nat} {f1 f2 f3 : Flt} {M : List Nat} {rest : List Oper} {l : Array Bool} {a : Act} {w : World}
    (h : ∀ w' g1 g2 g3, Below w.heap.size w w' → B ≤ g1 → B ≤ g2 → B ≤ g3 → w'.heap[g1]? = some f1.ob → w'.heap[g2]? = some f2.ob → w'.heap[g3]? = some f3.ob → g1 ≠ g2 → g1 ≠ g3 → g2 ≠ g3 → wpList P ops Q rest (((a.put (some f1.d) (.pointer (some ⟨g1, 0, none⟩))).put (some f2.d) (.pointer (some ⟨g2, 0, none⟩))).put (some f3.d) (.pointer (some ⟨g3, 0, none⟩))) w') : wpFl P ops Q B [f1, f2, f3] M rest 0 l a w :=
  fun w' γ hb hx hn => by
    simp at hn
    exact h w' (γ f1.i) (γ f2.i) (γ f3.i) hb (hx f1 (by simp)).1 (hx f2 (by simp)).1 (hx f3 (by simp)).1 (hx f1 (by simp)).2 (hx f2 (by simp)).2 (hx f3 (by simp)).2 hn.1.1 hn.1.2 hn.2
end
end Go.Proofs.Ythadkjekagfjfaa.N
