/- A statement that draws its order, said by what each operation's value is good for: whatever order is drawn, each operation finds what it looks at, and the memory only grows. -/
import Derived.Test.YtncooadaeifekaaK
namespace Go.Proofs.Ytncooadaeifekaa
open Go.RowKit
section
variable {P : Program} {ops : Array Oper}
def upTo (P : Program) (w : World) (φ : Value → World → Prop) : Result Next → Prop
  | .ok (.value v) w' => Below w.heap.size w w' ∧ φ v w'
  | .ok .skip w' => Below w.heap.size w w' ∧ φ undef w'
  | .ok (.enter f args) w' => Below w.heap.size w w' ∧ Calls P f args w' (fun e w'' => ∃ v, e = .returned v ∧ Below w.heap.size w w'' ∧ φ v w'')
  | _ => False
def Grows (P : Program) (o : Oper) (a : Act) (w : World) (φ : Value → World → Prop) : Prop := upTo P w φ ((execOp a.eval o).run P w)
theorem wp_of_grows {o : Oper} {a : Act} {w : World} {φ : Value → World → Prop} {K : Act → World → Prop} {Q : Exit → Act → World → Prop} (h : Grows P o a w φ)
    (hK : ∀ v w', Below w.heap.size w w' → φ v w' → K (a.put o.dst v) w') : o.wp P a w K Q := by
  unfold Grows at h
  unfold Oper.wp
  generalize (execOp a.eval o).run P w = r at *
  cases r with
  | ok n w' =>
    cases n <;> simp only [upTo] at h <;> simp only [Oper.upon]
    case value v => exact hK _ _ h.1 h.2
    case skip => exact hK _ _ h.1 h.2
    case enter f args => exact h.2.mono fun e w'' ⟨v, he, h1, h2⟩ => by subst he; exact hK _ _ h1 h2
  | halt x w' => simp only [upTo] at h
/-- the operations' slots are unlike; each slot that is looked at and written here is written by an operation that must come before; edges lead back -/
def flowB (ops : Array Oper) (n : Nat) : Bool :=
  (List.range ops.size).all fun i => match ops[i]? with
    | none => false
    | some o =>
      (o.after.all fun e => !Region.binds .any e || decide (e.on < i)) &&
      (match o.dst with | some d => decide (d < n) && ((List.range ops.size).all fun j => j == i || match ops[j]? with | some oj => oj.dst != some d | none => true) | none => true) &&
      ((o.looksAt ops).all fun t => (List.range ops.size).all fun j => match ops[j]? with
        | some oj => oj.dst != some t || o.after.any fun e => Region.binds .any e && e.on == j
        | none => true)
structure Flows (ops : Array Oper) (n : Nat) : Prop where
  back : ∀ (i : Nat) (o : Oper), ops[i]? = some o → ∀ e ∈ o.after, Region.binds .any e = true → e.on < i
  room : ∀ (i : Nat) (o : Oper) (d : Tmp), ops[i]? = some o → o.dst = some d → d < n
  unlike : ∀ (i : Nat) (o : Oper) (d : Tmp), ops[i]? = some o → o.dst = some d → ∀ (j : Nat) (oj : Oper), ops[j]? = some oj → oj.dst = some d → j = i
  looks : ∀ (i : Nat) (o : Oper), ops[i]? = some o → ∀ t ∈ o.looksAt ops, ∀ (j : Nat) (oj : Oper), ops[j]? = some oj → oj.dst = some t → ∃ e ∈ o.after, Region.binds .any e = true ∧ e.on = j
theorem flows_of {n : Nat} (h : flowB ops n = true) : Flows ops n := by
  have key : ∀ (i : Nat) (o : Oper), ops[i]? = some o →
      ((o.after.all fun e => !Region.binds .any e || decide (e.on < i)) = true ∧
      (match o.dst with | some d => decide (d < n) && ((List.range ops.size).all fun j => j == i || match ops[j]? with | some oj => oj.dst != some d | none => true) | none => true) = true) ∧
      ((o.looksAt ops).all fun t => (List.range ops.size).all fun j => match ops[j]? with
        | some oj => oj.dst != some t || o.after.any fun e => Region.binds .any e && e.on == j
        | none => true) = true := by
    intro i o ho
    have hi : i < ops.size := (Array.getElem?_eq_some_iff.1 ho).1
    have h1 := List.all_eq_true.1 h i (List.mem_range.2 hi)
    rw [ho] at h1
    simpa only [Bool.and_eq_true] using h1
  refine ⟨?_, ?_, ?_, ?_⟩
  · intro i o ho e he hb
    have h1 := Array.all_eq_true_iff_forall_mem.1 (key i o ho).1.1 e he
    rw [hb] at h1
    simpa using h1
  · intro i o d ho hd
    have h1 := (key i o ho).1.2
    rw [hd] at h1
    simp only [Bool.and_eq_true, decide_eq_true_eq] at h1
    exact h1.1
  · intro i o d ho hd j oj hj hjd
    have h1 := (key i o ho).1.2
    rw [hd] at h1
    simp only [Bool.and_eq_true] at h1
    have h2 := List.all_eq_true.1 h1.2 j (List.mem_range.2 (Array.getElem?_eq_some_iff.1 hj).1)
    rw [hj] at h2
    simpa [hjd] using h2
  · intro i o ho t ht j oj hj hjd
    have h1 := List.all_eq_true.1 (key i o ho).2 t ht
    have h2 := List.all_eq_true.1 h1 j (List.mem_range.2 (Array.getElem?_eq_some_iff.1 hj).1)
    rw [hj] at h2
    simp only [hjd, bne_self_eq_false, Bool.false_or] at h2
    obtain ⟨e, he, h3⟩ := Array.any_eq_true'.1 h2
    simp only [Bool.and_eq_true, beq_iff_eq] at h3
    exact ⟨e, he, h3.1, h3.2⟩
/-- what holds while the region is on its way -/
structure Flow (ops : Array Oper) (σ : Nat → Value → World → Prop) (a0 : Act) (w0 : World) (listed : Array Bool) (a : Act) (w : World) : Prop where
  below : Below w0.heap.size w0 w
  size : a.tmps.size = a0.tmps.size
  defers : a.defers = a0.defers
  same : ∀ t, (∀ (j : Nat) (oj : Oper), ops[j]? = some oj → oj.dst ≠ some t) → a.tmps[t]? = a0.tmps[t]?
  held : ∀ (j : Nat) (oj : Oper) (d : Tmp), ops[j]? = some oj → oj.dst = some d → listed.getD j false = true → σ j (a.tmps.getD d undef) w
/-- what is owed of one operation -/
def Obl (P : Program) (ops : Array Oper) (σ : Nat → Value → World → Prop) (a0 : Act) (w0 : World) (i : Nat) (o : Oper) : Prop :=
  ∀ a w, Below w0.heap.size w0 w →
    (∀ t, (∀ (j : Nat) (oj : Oper), ops[j]? = some oj → oj.dst ≠ some t) → a.tmps.getD t undef = a0.tmps.getD t undef) →
    (∀ t ∈ o.looksAt ops, ∀ (j : Nat) (oj : Oper), ops[j]? = some oj → oj.dst = some t → σ j (a.tmps.getD t undef) w) →
    if Region.wanted o (yielded ops a.tmps) then Grows P o a w (σ i) else σ i undef w
def unlisted (ops : Array Oper) (listed : Array Bool) : Nat := (List.range ops.size).countP fun i => !listed.getD i true
theorem unlisted_zero {listed : Array Bool} (hs : listed.size = ops.size) (h : unlisted ops listed = 0) (i : Nat) (hi : i < ops.size) : listed.getD i false = true := by
  have h1 := List.countP_eq_zero.1 h i (List.mem_range.2 hi)
  simp only [Bool.not_eq_true, Bool.not_eq_false'] at h1
  rw [Array.getD_eq_getD_getElem?, Array.getElem?_eq_getElem (by omega)] at *
  simpa using h1
theorem countP_set {l : List Nat} {p q : Nat → Bool} {i : Nat} (hn : l.Nodup) (hi : i ∈ l) (hp : p i = true) (hq : q i = false) (h : ∀ j, j ≠ i → p j = q j) : l.countP p = l.countP q + 1 := by
  induction l with
  | nil => cases hi
  | cons x l ih =>
    rw [List.nodup_cons] at hn
    by_cases hx : x = i
    · subst hx
      rw [List.countP_cons_of_pos hp, List.countP_cons_of_neg (by simp [hq])]
      congr 1
      apply List.countP_congr
      intro j hj
      rw [h j (fun e => hn.1 (e ▸ hj))]
    · have hi' : i ∈ l := by
        rcases List.mem_cons.1 hi with e | e
        · exact absurd e.symm hx
        · exact e
      have := ih hn.2 hi'
      have hpq := h x hx
      rw [List.countP_cons, List.countP_cons, this, hpq]
      omega
theorem unlisted_step {listed : Array Bool} (hs : listed.size = ops.size) (i : Nat) (hi : i < ops.size) (hl : listed.getD i true = false) :
    unlisted ops listed = unlisted ops (listed.setIfInBounds i true) + 1 := by
  unfold unlisted
  refine countP_set (i := i) List.nodup_range (List.mem_range.2 hi) (by rw [hl]; rfl) ?_ ?_
  · simp [Array.getD_eq_getD_getElem?, hs, hi]
  · intro j hj
    rw [getD_set_ne true (fun e => hj e.symm)]
theorem ready_nil {n : Nat} (hF : Flows ops n) {listed : Array Bool} (hs : listed.size = ops.size) (h : Region.ready .any ops listed = []) : ∀ i, i < ops.size → listed.getD i false = true := by
  intro i
  induction i using Nat.strongRecOn with
  | ind i ih =>
    intro hi
    by_cases hl : listed.getD i true = true
    · rw [Array.getD_eq_getD_getElem?, Array.getElem?_eq_getElem (by omega)] at *
      simpa using hl
    · have hm : i ∈ Region.ready .any ops listed := by
        rw [mem_ready]
        refine ⟨by simpa using hl, ops[i], Array.getElem?_eq_getElem hi, fun e he hb => ?_⟩
        have := hF.back i ops[i] (Array.getElem?_eq_getElem hi) e he hb
        exact ih e.on this (by omega)
      rw [h] at hm
      cases hm
theorem flow_any {σ : Nat → Value → World → Prop} {a0 : Act} {w0 : World} {Q : Exit → Act → World → Prop} (hF : Flows ops a0.tmps.size)
    (hst : ∀ j v w w', Below w0.heap.size w0 w → σ j v w → Below w.heap.size w w' → σ j v w')
    (hobl : ∀ (i : Nat) (o : Oper), ops[i]? = some o → Obl P ops σ a0 w0 i o)
    (hQ : ∀ a w, Below w0.heap.size w0 w → a.tmps.size = a0.tmps.size → a.defers = a0.defers → (∀ t, (∀ (j : Nat) (oj : Oper), ops[j]? = some oj → oj.dst ≠ some t) → a.tmps[t]? = a0.tmps[t]?) →
      (∀ (j : Nat) (oj : Oper) (d : Tmp), ops[j]? = some oj → oj.dst = some d → σ j (a.tmps.getD d undef) w) → Q .normal a w) :
    ∀ (fuel : Nat) (listed : Array Bool) (a : Act) (w : World), listed.size = ops.size → unlisted ops listed ≤ fuel → Flow ops σ a0 w0 listed a w → wpAny P .any ops Q fuel listed a w := by
  have fin : ∀ (listed : Array Bool) (a : Act) (w : World), (∀ i, i < ops.size → listed.getD i false = true) → Flow ops σ a0 w0 listed a w → Q .normal a w := fun listed a w hall h =>
    hQ a w h.below h.size h.defers h.same fun j oj d hj hd => h.held j oj d hj hd (hall j (Array.getElem?_eq_some_iff.1 hj).1)
  intro fuel
  induction fuel with
  | zero =>
    intro listed a w hs hu h
    have hall := unlisted_zero (ops := ops) hs (by omega)
    refine ⟨?_, fin listed a w hall h⟩
    rcases hr : Region.ready .any ops listed with _ | ⟨x, xs⟩
    · rfl
    · have hm : x ∈ Region.ready .any ops listed := by rw [hr]; simp
      obtain ⟨h1, o, ho, _⟩ := mem_ready.1 hm
      have h2 := hall x (Array.getElem?_eq_some_iff.1 ho).1
      rw [Array.getD_eq_getD_getElem?, Array.getElem?_eq_getElem (by have := (Array.getElem?_eq_some_iff.1 ho).1; omega)] at h1 h2
      simp only [Option.getD_some] at h1 h2
      rw [h1] at h2
      cases h2
  | succ fuel ih =>
    intro listed a w hs hu h
    refine ⟨fun h0 => fin listed a w (ready_nil hF hs h0) h, fun i hi => ?_⟩
    obtain ⟨hl, o, ho, hall⟩ := mem_ready.1 hi
    have hilt := (Array.getElem?_eq_some_iff.1 ho).1
    have hu' : unlisted ops (listed.setIfInBounds i true) ≤ fuel := by
      have := unlisted_step (ops := ops) hs i hilt hl
      omega
    have hget : ∀ t, (∀ (j : Nat) (oj : Oper), ops[j]? = some oj → oj.dst ≠ some t) → a.tmps.getD t undef = a0.tmps.getD t undef := fun t ht => by
      rw [Array.getD_eq_getD_getElem?, Array.getD_eq_getD_getElem?, h.same t ht]
    have hob := hobl i o ho a w h.below hget (fun t ht j oj hj hd => by
      obtain ⟨e, he, hb, hon⟩ := hF.looks i o ho t ht j oj hj hd
      exact h.held j oj t hj hd (by rw [← hon]; exact hall e he hb))
    have next : ∀ v w', Below w.heap.size w w' → σ i v w' → wpAny P .any ops Q fuel (listed.setIfInBounds i true) (a.put o.dst v) w' := fun v w' hb hv => by
      refine ih _ _ _ (by simpa using hs) hu' ⟨below_next h.below hb, ?_, ?_, ?_, ?_⟩
      · cases hd : o.dst <;> simp [Act.put, h.size]
      · cases hd : o.dst <;> simp [Act.put, h.defers]
      · intro t ht
        cases hd : o.dst with
        | none => exact h.same t ht
        | some d =>
          have hne : d ≠ t := fun e => ht i o ho (by rw [hd, e])
          simp only [Act.put, Array.getElem?_setIfInBounds_ne hne]
          exact h.same t ht
      · intro j oj d hj hd hlj
        by_cases hji : j = i
        · subst hji
          rw [ho] at hj
          obtain rfl : o = oj := by simpa using hj
          have hroom := hF.room j o d ho hd
          rw [hd]
          simp only [Act.put, Array.getD_eq_getD_getElem?]
          rw [Array.getElem?_setIfInBounds_self_of_lt (by rw [h.size]; exact hroom)]
          exact hv
        · have hlj' : listed.getD j false = true := by rw [getD_set_ne false (fun e => hji e.symm)] at hlj; exact hlj
          have hold := h.held j oj d hj hd hlj'
          have hgd : (a.put o.dst v).tmps.getD d undef = a.tmps.getD d undef := by
            cases hdi : o.dst with
            | none => rfl
            | some di =>
              have hne : di ≠ d := fun e => hji (hF.unlike i o d ho (by rw [hdi, e]) j oj hj hd)
              simp only [Act.put, Array.getD_eq_getD_getElem?, Array.getElem?_setIfInBounds_ne hne]
          rw [hgd]
          exact hst j _ w w' h.below hold hb
    unfold wpOp
    simp only [ho]
    split
    · next hw =>
      rw [if_pos hw] at hob
      exact .inl (wp_of_grows hob next)
    · next hw =>
      rw [if_neg hw] at hob
      exact next undef w (Below.refl _ _) hob
theorem wp_region_flow {id : Nat} {σ : Nat → Value → World → Prop} {a0 : Act} {w0 : World} {Q : Exit → Act → World → Prop} (hm : P.follows .mixedOrders = true) (hB : flowB ops a0.tmps.size = true)
    (hst : ∀ j v w w', Below w0.heap.size w0 w → σ j v w → Below w.heap.size w w' → σ j v w')
    (hobl : ∀ (i : Nat) (o : Oper), ops[i]? = some o → Obl P ops σ a0 w0 i o)
    (hQ : ∀ a w, Below w0.heap.size w0 w → a.tmps.size = a0.tmps.size → a.defers = a0.defers → (∀ t, (∀ (j : Nat) (oj : Oper), ops[j]? = some oj → oj.dst ≠ some t) → a.tmps[t]? = a0.tmps[t]?) →
      (∀ (j : Nat) (oj : Oper) (d : Tmp), ops[j]? = some oj → oj.dst = some d → σ j (a.tmps.getD d undef) w) → Q .normal a w) : (Code.region id ops true).wp P Q a0 w0 := by
  refine wp_region_any hm (flow_any (flows_of hB) hst hobl hQ _ _ _ _ (by simp) ?_ ?_)
  · unfold unlisted
    exact Nat.le_trans List.countP_le_length (by simp)
  · refine ⟨⟨rfl, rfl, rfl, Nat.le_refl _, fun _ _ => rfl⟩, rfl, rfl, fun _ _ => rfl, fun j oj d hj _ hl => ?_⟩
    have hj' := (Array.getElem?_eq_some_iff.1 hj).1
    simp [Array.getD_eq_getD_getElem?, hj'] at hl
end
end Go.Proofs.Ytncooadaeifekaa
