/- The law of a statement that draws its order, where ONE operation of it turns memory that was there: whatever order is drawn, the others only add memory, before it and behind it. -/
import Derived.Test.YtncooadaeifekaaG4
import Derived.Test.YtncooadaeifekaaK6
namespace Go.Proofs.Ytncooadaeifekaa
open Go.RowKit
section
variable {P : Program} {ops : Array Oper}
/-- the world behind the one operation that turns memory -/
def Mid (ρ : World → World → Prop) (w0 w : World) : Prop := ∃ w1 w2, Below w0.heap.size w0 w1 ∧ ρ w1 w2 ∧ Below w2.heap.size w2 w
theorem Mid.next {ρ : World → World → Prop} {w0 w w' : World} (h : Mid ρ w0 w) (hb : Below w.heap.size w w') : Mid ρ w0 w' := by
  obtain ⟨w1, w2, h1, h2, h3⟩ := h
  exact ⟨w1, w2, h1, h2, below_next h3 hb⟩
def upToM (P : Program) (ρ : World → World → Prop) (w : World) (φ : Value → World → Prop) : Result Next → Prop
  | .ok (.value v) w' => ρ w w' ∧ φ v w'
  | .ok .skip w' => ρ w w' ∧ φ undef w'
  | .ok (.enter f args) w' => w' = w ∧ Calls P f args w' (fun e w'' => ∃ v, e = .returned v ∧ ρ w w'' ∧ φ v w'')
  | _ => False
def GrowsM (P : Program) (ρ : World → World → Prop) (o : Oper) (a : Act) (w : World) (φ : Value → World → Prop) : Prop := upToM P ρ w φ ((execOp a.eval o).run P w)
theorem wp_of_growsM {ρ : World → World → Prop} {o : Oper} {a : Act} {w : World} {φ : Value → World → Prop} {K : Act → World → Prop} {Q : Exit → Act → World → Prop} (h : GrowsM P ρ o a w φ)
    (hK : ∀ v w', ρ w w' → φ v w' → K (a.put o.dst v) w') : o.wp P a w K Q := by
  unfold GrowsM at h
  unfold Oper.wp
  generalize (execOp a.eval o).run P w = r at *
  cases r with
  | ok n w' =>
    cases n <;> simp only [upToM] at h <;> simp only [Oper.upon]
    case value v => exact hK _ _ h.1 h.2
    case skip => exact hK _ _ h.1 h.2
    case enter f args => exact h.2.mono fun e w'' ⟨v, he, h1, h2⟩ => by subst he; exact hK _ _ h1 h2
  | halt x w' => simp only [upToM] at h
/-- what is owed of one operation, in the worlds of T -/
def ObG (ops : Array Oper) (σ : Nat → Value → World → Prop) (a0 : Act) (T : World → Prop) (G : Oper → Act → World → Prop) (N : World → Prop) (o : Oper) : Prop :=
  ∀ a w, T w →
    (∀ t, (∀ (j : Nat) (oj : Oper), ops[j]? = some oj → oj.dst ≠ some t) → a.tmps.getD t undef = a0.tmps.getD t undef) →
    (∀ t ∈ o.looksAt ops, ∀ (j : Nat) (oj : Oper), ops[j]? = some oj → oj.dst = some t → σ j (a.tmps.getD t undef) w) →
    if Region.wanted o (yielded ops a.tmps) then G o a w else N w
def ObN (P : Program) (ops : Array Oper) (σ : Nat → Value → World → Prop) (a0 : Act) (w0 : World) (ρ : World → World → Prop) (i : Nat) (o : Oper) : Prop :=
  ObG ops σ a0 (fun w => Below w0.heap.size w0 w ∨ Mid ρ w0 w) (fun o a w => Grows P o a w (σ i)) (fun w => σ i undef w) o
def ObM (P : Program) (ops : Array Oper) (σ : Nat → Value → World → Prop) (a0 : Act) (w0 : World) (ρ : World → World → Prop) (i : Nat) (o : Oper) : Prop :=
  ObG ops σ a0 (fun w => Below w0.heap.size w0 w) (fun o a w => GrowsM P ρ o a w (σ i)) (fun _ => False) o
structure FlowM (ops : Array Oper) (σ : Nat → Value → World → Prop) (a0 : Act) (w0 : World) (ρ : World → World → Prop) (m : Nat) (listed : Array Bool) (a : Act) (w : World) : Prop where
  phase : if listed.getD m false = true then Mid ρ w0 w else Below w0.heap.size w0 w
  size : a.tmps.size = a0.tmps.size
  defers : a.defers = a0.defers
  same : ∀ t, (∀ (j : Nat) (oj : Oper), ops[j]? = some oj → oj.dst ≠ some t) → a.tmps[t]? = a0.tmps[t]?
  held : ∀ (j : Nat) (oj : Oper) (d : Tmp), ops[j]? = some oj → oj.dst = some d → listed.getD j false = true → σ j (a.tmps.getD d undef) w
theorem flow_anyM {σ : Nat → Value → World → Prop} {a0 : Act} {w0 : World} {Q : Exit → Act → World → Prop} {ρ : World → World → Prop} {m : Nat} (hmS : m < ops.size) (hF : Flows ops a0.tmps.size)
    (hst : ∀ j v w w', σ j v w → Below w.heap.size w w' → σ j v w') (hstM : ∀ j v w w', σ j v w → ρ w w' → σ j v w')
    (hobl : ∀ (i : Nat) (o : Oper), ops[i]? = some o → if i = m then ObM P ops σ a0 w0 ρ i o else ObN P ops σ a0 w0 ρ i o)
    (hQ : ∀ a w, Mid ρ w0 w → a.tmps.size = a0.tmps.size → a.defers = a0.defers → (∀ t, (∀ (j : Nat) (oj : Oper), ops[j]? = some oj → oj.dst ≠ some t) → a.tmps[t]? = a0.tmps[t]?) →
      (∀ (j : Nat) (oj : Oper) (d : Tmp), ops[j]? = some oj → oj.dst = some d → σ j (a.tmps.getD d undef) w) → Q .normal a w) :
    ∀ (fuel : Nat) (listed : Array Bool) (a : Act) (w : World), listed.size = ops.size → unlisted ops listed ≤ fuel → FlowM ops σ a0 w0 ρ m listed a w → wpAny P .any ops Q fuel listed a w := by
  have fin : ∀ (listed : Array Bool) (a : Act) (w : World), (∀ i, i < ops.size → listed.getD i false = true) → FlowM ops σ a0 w0 ρ m listed a w → Q .normal a w := fun listed a w hall h =>
    hQ a w (by have := h.phase; rw [if_pos (hall m hmS)] at this; exact this) h.size h.defers h.same fun j oj d hj hd => h.held j oj d hj hd (hall j (Array.getElem?_eq_some_iff.1 hj).1)
  intro fuel
  induction fuel with
  | zero =>
    intro listed a w hs hu h
    have hall := unlisted_zero (ops := ops) hs (by omega)
    refine ⟨?_, fin listed a w hall h⟩
    rcases hr : Region.ready .any ops listed with _ | ⟨x, xs⟩
    · rfl
    · have hm : x ∈ Region.ready .any ops listed := by rw [hr]; simp
      obtain ⟨h1, o, ho, _⟩ := mem_ready.1 hm
      have h2 := hall x (Array.getElem?_eq_some_iff.1 ho).1
      rw [Array.getD_eq_getD_getElem?, Array.getElem?_eq_getElem (by have := (Array.getElem?_eq_some_iff.1 ho).1; omega)] at h1 h2
      simp only [Option.getD_some] at h1 h2
      rw [h1] at h2
      cases h2
  | succ fuel ih =>
    intro listed a w hs hu h
    refine ⟨fun h0 => fin listed a w (ready_nil hF hs h0) h, fun i hi => ?_⟩
    obtain ⟨hl, o, ho, hall⟩ := mem_ready.1 hi
    have hilt := (Array.getElem?_eq_some_iff.1 ho).1
    have hu' : unlisted ops (listed.setIfInBounds i true) ≤ fuel := by
      have := unlisted_step (ops := ops) hs i hilt hl
      omega
    have hget : ∀ t, (∀ (j : Nat) (oj : Oper), ops[j]? = some oj → oj.dst ≠ some t) → a.tmps.getD t undef = a0.tmps.getD t undef := fun t ht => by
      rw [Array.getD_eq_getD_getElem?, Array.getD_eq_getD_getElem?, h.same t ht]
    have hheld : ∀ t ∈ o.looksAt ops, ∀ (j : Nat) (oj : Oper), ops[j]? = some oj → oj.dst = some t → σ j (a.tmps.getD t undef) w := fun t ht j oj hj hd => by
      obtain ⟨e, he, hb, hon⟩ := hF.looks i o ho t ht j oj hj hd
      exact h.held j oj t hj hd (by rw [← hon]; exact hall e he hb)
    have next : ∀ v w', (if (listed.setIfInBounds i true).getD m false = true then Mid ρ w0 w' else Below w0.heap.size w0 w') → (∀ j u, σ j u w → σ j u w') → σ i v w' → wpAny P .any ops Q fuel (listed.setIfInBounds i true) (a.put o.dst v) w' := fun v w' hph hmv hv => by
      refine ih _ _ _ (by simpa using hs) hu' ⟨hph, ?_, ?_, ?_, ?_⟩
      · cases hd : o.dst <;> simp [Act.put, h.size]
      · cases hd : o.dst <;> simp [Act.put, h.defers]
      · intro t ht
        cases hd : o.dst with
        | none => exact h.same t ht
        | some d =>
          have hne : d ≠ t := fun e => ht i o ho (by rw [hd, e])
          simp only [Act.put, Array.getElem?_setIfInBounds_ne hne]
          exact h.same t ht
      · intro j oj d hj hd hlj
        by_cases hji : j = i
        · subst hji
          rw [ho] at hj
          obtain rfl : o = oj := by simpa using hj
          have hroom := hF.room j o d ho hd
          rw [hd]
          simp only [Act.put, Array.getD_eq_getD_getElem?]
          rw [Array.getElem?_setIfInBounds_self_of_lt (by rw [h.size]; exact hroom)]
          exact hv
        · have hlj' : listed.getD j false = true := by rw [getD_set_ne false (fun e => hji e.symm)] at hlj; exact hlj
          have hold := h.held j oj d hj hd hlj'
          have hgd : (a.put o.dst v).tmps.getD d undef = a.tmps.getD d undef := by
            cases hdi : o.dst with
            | none => rfl
            | some di =>
              have hne : di ≠ d := fun e => hji (hF.unlike i o d ho (by rw [hdi, e]) j oj hj hd)
              simp only [Act.put, Array.getD_eq_getD_getElem?, Array.getElem?_setIfInBounds_ne hne]
          rw [hgd]
          exact hmv j _ hold
    have hob := hobl i o ho
    unfold wpOp
    simp only [ho]
    by_cases him : i = m
    · subst him
      rw [if_pos rfl] at hob
      have hnl : ¬ listed.getD i false = true := by
        rw [Array.getD_eq_getD_getElem?, Array.getElem?_eq_getElem (by omega)] at hl ⊢
        simp only [Option.getD_some] at hl ⊢
        rw [hl]; simp
      have hph := h.phase
      rw [if_neg hnl] at hph
      have hob2 := hob a w hph hget hheld
      have hset : (listed.setIfInBounds i true).getD i false = true := by
        rw [Array.getD_eq_getD_getElem?, Array.getElem?_setIfInBounds_self_of_lt (by omega)]; rfl
      split
      · next hw =>
        rw [if_pos hw] at hob2
        refine .inl (wp_of_growsM hob2 fun v w' hr hv => next v w' ?_ (fun j u hu2 => hstM j u w w' hu2 hr) hv)
        rw [if_pos hset]
        exact ⟨w, w', hph, hr, Below.refl _ _⟩
      · next hw =>
        rw [if_neg hw] at hob2
        exact hob2.elim
    · rw [if_neg him] at hob
      have hset : (listed.setIfInBounds i true).getD m false = listed.getD m false := getD_set_ne false him
      have hor : Below w0.heap.size w0 w ∨ Mid ρ w0 w := by
        have := h.phase
        split at this
        · exact .inr this
        · exact .inl this
      have hph : ∀ w', Below w.heap.size w w' → if (listed.setIfInBounds i true).getD m false = true then Mid ρ w0 w' else Below w0.heap.size w0 w' := fun w' hb => by
        rw [hset]
        have := h.phase
        split at this
        · next hx => rw [if_pos hx]; exact this.next hb
        · next hx => rw [if_neg hx]; exact below_next this hb
      have hob2 := hob a w hor hget hheld
      split
      · next hw =>
        rw [if_pos hw] at hob2
        exact .inl (wp_of_grows hob2 fun v w' hb hv => next v w' (hph w' hb) (fun j u hu2 => hst j u w w' hu2 hb) hv)
      · next hw =>
        rw [if_neg hw] at hob2
        exact next undef w (hph w (Below.refl _ _)) (fun _ _ h => h) hob2
theorem wp_region_flowM {id : Nat} {σ : Nat → Value → World → Prop} {a0 : Act} {w0 : World} {Q : Exit → Act → World → Prop} {ρ : World → World → Prop} {m : Nat} (hmS : m < ops.size) (hm : P.follows .mixedOrders = true) (hB : flowB ops a0.tmps.size = true)
    (hst : ∀ j v w w', σ j v w → Below w.heap.size w w' → σ j v w') (hstM : ∀ j v w w', σ j v w → ρ w w' → σ j v w')
    (hobl : ∀ (i : Nat) (o : Oper), ops[i]? = some o → if i = m then ObM P ops σ a0 w0 ρ i o else ObN P ops σ a0 w0 ρ i o)
    (hQ : ∀ a w, Mid ρ w0 w → a.tmps.size = a0.tmps.size → a.defers = a0.defers → (∀ t, (∀ (j : Nat) (oj : Oper), ops[j]? = some oj → oj.dst ≠ some t) → a.tmps[t]? = a0.tmps[t]?) →
      (∀ (j : Nat) (oj : Oper) (d : Tmp), ops[j]? = some oj → oj.dst = some d → σ j (a.tmps.getD d undef) w) → Q .normal a w) : (Code.region id ops true).wp P Q a0 w0 := by
  refine wp_region_any hm (flow_anyM hmS (flows_of hB) hst hstM hobl hQ _ _ _ _ (by simp) ?_ ?_)
  · unfold unlisted
    exact Nat.le_trans List.countP_le_length (by simp)
  · refine ⟨?_, rfl, rfl, fun _ _ => rfl, fun j oj d hj _ hl => ?_⟩
    · rw [if_neg (by simp [Array.getD_eq_getD_getElem?, hmS])]; exact ⟨rfl, rfl, rfl, Nat.le_refl _, fun _ _ => rfl⟩
    · have hj' := (Array.getElem?_eq_some_iff.1 hj).1
      simp [Array.getD_eq_getD_getElem?, hj'] at hl
/-- G asks of the frame only how the operation runs -/
def Runs (G : Oper → Act → World → Prop) : Prop := ∀ o a b w, execOp a.eval o = execOp b.eval o → G o a w → G o b w
theorem runs_grows (P : Program) (φ : Value → World → Prop) : Runs (fun o a w => Grows P o a w φ) := fun o a b w h hg => by have hg : upTo P w φ ((execOp a.eval o).run P w) := hg; show upTo P w φ ((execOp b.eval o).run P w); rw [← h]; exact hg
theorem runs_growsM (P : Program) (ρ : World → World → Prop) (φ : Value → World → Prop) : Runs (fun o a w => GrowsM P ρ o a w φ) := fun o a b w h hg => by have hg : upToM P ρ w φ ((execOp a.eval o).run P w) := hg; show upToM P ρ w φ ((execOp b.eval o).run P w); rw [← h]; exact hg
theorem obg_det {spec : Spec} {vals : List Value} {a0 : Act} {T : World → Prop} {G : Oper → Act → World → Prop} {N : World → Prop} (hG : Runs G) (hF : Flows ops a0.tmps.size) (hlen : ops.size = vals.length) (hns : Region.noSelect ops = true) {i : Nat} {o : Oper} (ho : ops[i]? = some o)
    (hn : newsOf ops spec o = [])
    (h : ∀ w, T w → if Region.wanted o (yielded ops (putAll ops.toList vals a0).tmps) then G o (putAll ops.toList vals a0) w else N w) :
    ObG ops (known spec vals) a0 T G N o := by
  intro a w hb hs hd
  have heq := fun t ht => look_same hF hlen hs hd t ht (fun j oj hj hjd => newsOf_nil hn t ht j oj hj hjd)
  have h2 := h w hb
  rw [← same_wanted heq] at h2
  have hop := same_op (Region.noSelect_spec hns i o · · ho) heq
  split
  · next hw => rw [if_pos hw] at h2; exact hG o _ _ w hop.symm h2
  · next hw => rw [if_neg hw] at h2; exact h2
theorem obg_one {spec : Spec} {vals : List Value} {a0 : Act} {T : World → Prop} {G : Oper → Act → World → Prop} {N : World → Prop} (hG : Runs G) (hF : Flows ops a0.tmps.size) (hlen : ops.size = vals.length) (hns : Region.noSelect ops = true) {i : Nat} {o : Oper} (ho : ops[i]? = some o)
    (k : Nat) (hn : newsOf ops spec o = [k]) (t : Tmp) (S : Value → World → Prop) (hS : spec.getD k none = some S) (hk : (ops[k]?).bind (·.dst) = some t)
    (h : ∀ w x, T w → S x w → if Region.wanted o (yielded ops ((putAll ops.toList vals a0).put (some t) x).tmps) then G o ((putAll ops.toList vals a0).put (some t) x) w else N w) :
    ObG ops (known spec vals) a0 T G N o := by
  intro a w hb hs hd
  obtain ⟨ok, hok, hkd⟩ := Option.bind_eq_some_iff.1 hk
  have hmem : k ∈ newsOf ops spec o := by rw [hn]; simp
  have htl : t ∈ o.looksAt ops := by
    unfold newsOf at hmem
    rw [List.mem_filter] at hmem
    have := hmem.2
    rw [hk] at this
    simp only [Bool.and_eq_true, List.contains_iff_mem] at this
    exact this.2
  have hx := hd t htl k ok hok hkd
  have hx' : S (a.tmps.getD t undef) w := by unfold known at hx; rw [hS] at hx; exact hx
  have heq : ∀ u ∈ o.looksAt ops, a.tmps[u]?.getD undef = ((putAll ops.toList vals a0).put (some t) (a.tmps.getD t undef)).tmps[u]?.getD undef := fun u hu => by
    by_cases hut : u = t
    · subst hut
      have hroom := hF.room k ok u hok hkd
      simp only [Act.put]
      rw [Array.getElem?_setIfInBounds_self_of_lt (by rw [size_putAll]; exact hroom)]
      simp [Array.getD_eq_getD_getElem?]
    · have h1 := look_same hF hlen hs hd u hu (fun j oj hj hjd => by
        rcases newsOf_one hn u hu j oj hj hjd with h0 | h0
        · exact h0
        · subst h0
          rw [hok] at hj
          obtain rfl : ok = oj := by simpa using hj
          exact absurd (Option.some.inj (hjd.symm.trans hkd)) hut)
      rw [h1]
      simp only [Act.put, Array.getElem?_setIfInBounds_ne (Ne.symm hut)]
  have h2 := h w _ hb hx'
  rw [← same_wanted heq] at h2
  have hop := same_op (Region.noSelect_spec hns i o · · ho) heq
  split
  · next hw => rw [if_pos hw] at h2; exact hG o _ _ w hop.symm h2
  · next hw => rw [if_neg hw] at h2; exact h2
def oblAllM (P : Program) (ops : Array Oper) (σ : Nat → Value → World → Prop) (a0 : Act) (w0 : World) (ρ : World → World → Prop) (m : Nat) : List Oper → Nat → Prop
  | [], _ => True
  | o :: l, i => (ops[i]? = some o → if i = m then ObM P ops σ a0 w0 ρ i o else ObN P ops σ a0 w0 ρ i o) ∧ oblAllM P ops σ a0 w0 ρ m l (i + 1)
theorem oblAllM_use {σ : Nat → Value → World → Prop} {a0 : Act} {w0 : World} {ρ : World → World → Prop} {m : Nat} : ∀ (l : List Oper) (k : Nat), oblAllM P ops σ a0 w0 ρ m l k → ∀ (i : Nat) (o : Oper), l[i]? = some o → (ops[k + i]? = some o → if k + i = m then ObM P ops σ a0 w0 ρ (k + i) o else ObN P ops σ a0 w0 ρ (k + i) o)
  | [], _, _, i, o, h => by simp at h
  | x :: l, k, ha, 0, o, h => by
    obtain rfl : x = o := by simpa using h
    exact ha.1
  | x :: l, k, ha, i + 1, o, h => by
    have := oblAllM_use l (k + 1) ha.2 i o (by simpa using h)
    rwa [show k + 1 + i = k + (i + 1) by omega] at this
def stableM (ρ : World → World → Prop) : Spec → Prop
  | [] => True
  | none :: l => stableM ρ l
  | some S :: l => (∀ v w w', S v w → ρ w w' → S v w') ∧ stableM ρ l
theorem stableM_use {ρ : World → World → Prop} : ∀ (spec : Spec), stableM ρ spec → ∀ i S, spec.getD i none = some S → ∀ v w w', S v w → ρ w w' → S v w'
  | [], _, i, S, h => by simp at h
  | none :: l, hs, 0, S, h => by simp at h
  | none :: l, hs, i + 1, S, h => stableM_use l hs i S (by simpa using h)
  | some T :: l, hs, 0, S, h => by
    obtain rfl : T = S := by simpa using h
    exact hs.1
  | some T :: l, hs, i + 1, S, h => stableM_use l hs.2 i S (by simpa using h)
/-- what is known at the end is written out -/
theorem all_known {l : List Oper} {spec : Spec} {vals : List Value} {a0 a : Act} {w : World} {K : Act → Prop} (hF : Flows l.toArray a0.tmps.size) (hlen : l.length = vals.length) (hbare : bareB l spec = true)
    (hsz : a.tmps.size = a0.tmps.size) (hdf : a.defers = a0.defers) (hsame : ∀ t, (∀ (j : Nat) (oj : Oper), l.toArray[j]? = some oj → oj.dst ≠ some t) → a.tmps[t]? = a0.tmps[t]?)
    (hk : ∀ (j : Nat) (oj : Oper) (d : Tmp), l.toArray[j]? = some oj → oj.dst = some d → known spec vals j (a.tmps.getD d undef) w) (hQ : each spec vals w (fun vs => K (putAll l vs a0))) : K a := by
    obtain ⟨vs, hvs⟩ : ∃ vs : List Value, vs = (List.range l.length).map fun i => match (l[i]?).bind (·.dst) with | some d => a.tmps.getD d undef | none => vals.getD i undef := ⟨_, rfl⟩
    have hvl : vs.length = l.length := by simp [hvs]
    have hat : ∀ i, i < l.length → vs.getD i undef = match (l[i]?).bind (·.dst) with | some d => a.tmps.getD d undef | none => vals.getD i undef := fun i hi => by
      rw [hvs, List.getD, List.getElem?_map, List.getElem?_range hi]
      rfl
    have ha : a = putAll l vs a0 := by
      have h1 : a.tmps = (putAll l vs a0).tmps := by
        apply Array.ext_getElem?
        intro t
        by_cases hex : ∃ (j : Nat) (oj : Oper), l.toArray[j]? = some oj ∧ oj.dst = some t
        · obtain ⟨j, oj, hj, hjd⟩ := hex
          have hj' : l[j]? = some oj := by simpa using hj
          have hjl : j < l.length := (List.getElem?_eq_some_iff.1 hj').1
          have hroom := hF.room j oj t hj hjd
          rw [putAll_at l vs a0 j oj t (by omega) hj' hjd hroom (fun k ok hk hkd => hF.unlike j oj t hj hjd k ok (by simpa using hk) hkd), hat j hjl]
          simp only [hj', Option.bind_some, hjd, Array.getD_eq_getD_getElem?]
          rw [Array.getElem?_eq_getElem (by rw [hsz]; exact hroom)]
          rfl
        · have hno : ∀ (j : Nat) (oj : Oper), l.toArray[j]? = some oj → oj.dst ≠ some t := fun j oj hj hjd => hex ⟨j, oj, hj, hjd⟩
          rw [hsame t hno, putAll_other l vs a0 t (fun o2 ho2 => by
            obtain ⟨j, hj, hjo⟩ := List.mem_iff_getElem.1 ho2
            exact hno j o2 (by simp [List.getElem?_eq_getElem hj, hjo]))]
      have h2 : a.defers = (putAll l vs a0).defers := by rw [defers_putAll, hdf]
      cases a
      cases hp : putAll l vs a0
      rw [hp] at h1 h2
      simp only at h1 h2
      subst h1 h2
      rfl
    rw [ha]
    refine each_use spec vals vs w _ hQ (by omega) fun i hi => ?_
    have hil : i < l.length := by omega
    rw [hat i hil]
    cases hd : (l[i]).dst with
    | none =>
      simp only [List.getElem?_eq_getElem hil, Option.bind_some, hd]
      unfold known
      rw [bare_use l spec hbare i l[i] (List.getElem?_eq_getElem hil) hd]
    | some d =>
      simp only [List.getElem?_eq_getElem hil, Option.bind_some, hd]
      exact hk i l[i] d (by simp [hil]) hd
/-- THE LAW, with one operation that turns memory -/
theorem wp_region_mut {id : Nat} {l : List Oper} {spec : Spec} {vals : List Value} {a0 : Act} {w0 : World} {Q : Exit → Act → World → Prop} (ρ : World → World → Prop) (m : Nat) (hmS : m < l.length) (hm : P.follows .mixedOrders = true) (hB : flowB l.toArray a0.tmps.size = true)
    (hlen : l.length = vals.length) (hbare : bareB l spec = true) (hst : stableS spec) (hstM : stableM ρ spec)
    (hobl : Flows l.toArray a0.tmps.size → oblAllM P l.toArray (known spec vals) a0 w0 ρ m l 0)
    (hQ : ∀ w, Mid ρ w0 w → each spec vals w (fun vs => Q .normal (putAll l vs a0) w)) : (Code.region id l.toArray true).wp P Q a0 w0 := by
  have hF := flows_of hB
  refine wp_region_flowM (ρ := ρ) (m := m) (by simpa using hmS) hm hB (σ := known spec vals) ?_ ?_ (fun i o ho => ?_) ?_
  · intro j v w w' hk hb
    unfold known at *
    cases hs : spec.getD j none with
    | none => rw [hs] at hk; exact hk
    | some S => rw [hs] at hk; exact stable_use spec hst j S hs v w w' hk hb
  · intro j v w w' hk hb
    unfold known at *
    cases hs : spec.getD j none with
    | none => rw [hs] at hk; exact hk
    | some S => rw [hs] at hk; exact stableM_use spec hstM j S hs v w w' hk hb
  · have := oblAllM_use (ops := l.toArray) l 0 (hobl hF) i o (by simpa using ho)
    rw [Nat.zero_add] at this
    exact this ho
  · intro a w hb hsz hdf hsame hk
    exact all_known (K := fun a => Q .normal a w) hF hlen hbare hsz hdf hsame hk (hQ w hb)
end
end Go.Proofs.Ytncooadaeifekaa
