/- The law of a statement that draws its order and ends in a tail of operations, each of which waits for the one ahead of it: the others only add memory; those for which the tail does not wait yield one value in whatever memory. Behind it the tail is walked in the text's order. -/
import Derived.Test.YtncooadaeifekaaG5
namespace Go.Proofs.Ytncooadaeifekaa
open Go.RowKit
/-- a plain end, no other -/
def NormQ (Q : Exit → Act → World → Prop) : Exit → Act → World → Prop := fun x a w => match x with
  | .normal => Q .normal a w
  | _ => False
theorem normQ_out (Q : Exit → Act → World → Prop) : ¬ LetsOut (NormQ Q) := fun ⟨_, _, h⟩ => h
section
variable {P : Program} {ops : Array Oper} {vals : List Value}
def dstOf (ops : Array Oper) (i : Nat) : Option Tmp := (ops[i]?).bind (·.dst)
theorem dstOf_eq {i : Nat} {o : Oper} (h : ops[i]? = some o) : dstOf ops i = o.dst := by simp [dstOf, h]
theorem dstOf_some {i : Nat} {d : Tmp} (h : dstOf ops i = some d) : ∃ o, ops[i]? = some o ∧ o.dst = some d := Option.bind_eq_some_iff.1 h
/-- the free operations' slots filled -/
def fill (ops : Array Oper) (vals : List Value) : List Nat → Act → Act
  | [], a => a
  | i :: is, a => fill ops vals is (a.put (dstOf ops i) (vals.getD i undef))
theorem put_size (a : Act) (d : Option Tmp) (v : Value) : (a.put d v).tmps.size = a.tmps.size := by cases d <;> simp [Act.put]
theorem put_defers (a : Act) (d : Option Tmp) (v : Value) : (a.put d v).defers = a.defers := by cases d <;> simp [Act.put]
theorem put_at (a : Act) (d : Tmp) (v : Value) (h : d < a.tmps.size) : (a.put (some d) v).tmps[d]? = some v := by
  simp only [Act.put]; rw [Array.getElem?_setIfInBounds_self_of_lt h]
theorem put_ne (a : Act) (d : Option Tmp) (v : Value) (t : Tmp) (h : d ≠ some t) : (a.put d v).tmps[t]? = a.tmps[t]? := by
  cases d with
  | none => rfl
  | some d =>
    have hne : d ≠ t := fun e => h (by rw [e])
    simp only [Act.put, Array.getElem?_setIfInBounds_ne hne]
theorem fill_size : ∀ (fs : List Nat) (a : Act), (fill ops vals fs a).tmps.size = a.tmps.size
  | [], _ => rfl
  | i :: is, a => by rw [fill, fill_size is, put_size]
theorem fill_defers : ∀ (fs : List Nat) (a : Act), (fill ops vals fs a).defers = a.defers
  | [], _ => rfl
  | i :: is, a => by rw [fill, fill_defers is, put_defers]
theorem fill_get : ∀ (fs : List Nat) (a : Act) (t : Tmp), t < a.tmps.size →
    (∃ i ∈ fs, dstOf ops i = some t ∧ (fill ops vals fs a).tmps[t]? = some (vals.getD i undef)) ∨ ((∀ i ∈ fs, dstOf ops i ≠ some t) ∧ (fill ops vals fs a).tmps[t]? = a.tmps[t]?)
  | [], a, t, _ => .inr ⟨by simp, rfl⟩
  | i :: is, a, t, ht => by
    rcases fill_get is (a.put (dstOf ops i) (vals.getD i undef)) t (by rw [put_size]; exact ht) with ⟨j, hj, h1, h2⟩ | ⟨h1, h2⟩
    · exact .inl ⟨j, by simp [hj], h1, h2⟩
    · by_cases hd : dstOf ops i = some t
      · left
        refine ⟨i, by simp, hd, ?_⟩
        rw [fill, h2, hd, put_at _ _ _ ht]
      · right
        refine ⟨fun j hj => ?_, ?_⟩
        · rcases List.mem_cons.1 hj with rfl | hj
          · exact hd
          · exact h1 j hj
        · rw [fill, h2, put_ne _ _ _ _ hd]
theorem act_ext {a b : Act} (hs : a.tmps.size = b.tmps.size) (hd : a.defers = b.defers) (h : ∀ t, t < a.tmps.size → a.tmps[t]? = b.tmps[t]?) : a = b := by
  have h1 : a.tmps = b.tmps := by
    apply Array.ext_getElem?
    intro t
    by_cases ht : t < a.tmps.size
    · exact h t ht
    · rw [Array.getElem?_eq_none (by omega), Array.getElem?_eq_none (by omega)]
  cases a; cases b; simp only at h1 hd; subst h1 hd; rfl
def Unlike (ops : Array Oper) : Prop := ∀ i j d, dstOf ops i = some d → dstOf ops j = some d → i = j
theorem unlike_of {n : Nat} (hF : Flows ops n) : Unlike ops := fun i j d hi hj => by
  obtain ⟨oi, h1, h2⟩ := dstOf_some hi
  obtain ⟨oj, h3, h4⟩ := dstOf_some hj
  exact hF.unlike j oj d h3 h4 i oi h1 h2
theorem fill_ext (hu : Unlike ops) (fs : List Nat) {a b : Act} (hs : a.tmps.size = b.tmps.size) (hd : a.defers = b.defers) (h : ∀ t, (∀ i ∈ fs, dstOf ops i ≠ some t) → a.tmps[t]? = b.tmps[t]?) : fill ops vals fs a = fill ops vals fs b := by
  refine act_ext (by rw [fill_size, fill_size, hs]) (by rw [fill_defers, fill_defers, hd]) fun t ht => ?_
  rw [fill_size] at ht
  rcases fill_get (ops := ops) (vals := vals) fs a t ht with ⟨i, hi, h1, h2⟩ | ⟨h1, h2⟩
  · rcases fill_get (ops := ops) (vals := vals) fs b t (hs ▸ ht) with ⟨j, hj, h3, h4⟩ | ⟨h3, h4⟩
    · rw [h2, h4, hu i j t h1 h3]
    · exact absurd h1 (h3 i hi)
  · rcases fill_get (ops := ops) (vals := vals) fs b t (hs ▸ ht) with ⟨j, hj, h3, h4⟩ | ⟨h3, h4⟩
    · exact absurd h3 (h1 j hj)
    · rw [h2, h4]; exact h t h1
theorem fill_put (hu : Unlike ops) (fs : List Nat) (a : Act) (d : Option Tmp) (v : Value) (hne : ∀ i ∈ fs, ∀ t, dstOf ops i = some t → d ≠ some t) : fill ops vals fs (a.put d v) = (fill ops vals fs a).put d v := by
  refine act_ext (by rw [fill_size, put_size, put_size, fill_size]) (by rw [fill_defers, put_defers, put_defers, fill_defers]) fun t ht => ?_
  rw [fill_size, put_size] at ht
  rcases fill_get (ops := ops) (vals := vals) fs (a.put d v) t (by rw [put_size]; exact ht) with ⟨i, hi, h1, h2⟩ | ⟨h1, h2⟩
  · rw [put_ne _ _ _ _ (hne i hi t h1)]
    rcases fill_get (ops := ops) (vals := vals) fs a t ht with ⟨j, hj, h3, h4⟩ | ⟨h3, h4⟩
    · rw [h2, h4, hu i j t h1 h3]
    · exact absurd h1 (h3 i hi)
  · rw [h2]
    by_cases hd : d = some t
    · subst hd
      rw [put_at _ _ _ ht, put_at _ _ _ (by rw [fill_size]; exact ht)]
    · rw [put_ne _ _ _ _ hd, put_ne _ _ _ _ hd]
      rcases fill_get (ops := ops) (vals := vals) fs a t ht with ⟨j, hj, h3, h4⟩ | ⟨h3, h4⟩
      · exact absurd h3 (h1 j hj)
      · exact h4.symm
/-- an operation of the tail in the frame as it is, out of the same in the frame that is filled -/
theorem wp_over {o : Oper} {a b : Act} {w : World} {Ka Kb : Act → World → Prop} {Q : Exit → Act → World → Prop} (he : execOp a.eval o = execOp b.eval o) (hd : a.defers = b.defers)
    (hK : ∀ ds v w', Kb (Act.put { b with defers := ds } o.dst v) w' → Ka (Act.put { a with defers := ds } o.dst v) w') (h : o.wp P b w Kb (NormQ Q)) : o.wp P a w Ka Q := by
  have hK' : ∀ v w', Kb (b.put o.dst v) w' → Ka (a.put o.dst v) w' := fun v w' h => by
    have := hK a.defers v w'
    simp only [hd] at this
    have e : (⟨a.tmps, b.defers⟩ : Act) = a := by rw [← hd]
    rw [e] at this
    exact this h
  unfold Oper.wp at *
  rw [he]
  generalize (execOp b.eval o).run P w = r at *
  cases r with
  | ok n w' =>
    cases n <;> simp only [Oper.upon] at h ⊢ <;>
      first
        | exact hK' _ _ h
        | (rw [hd]; exact hK _ _ _ h)
        | exact Calls.mono h fun e w'' he => by cases e <;> first | exact hK' _ _ he | exact False.elim he | exact absurd he (normQ_out Q)
        | exact Rows.mono h fun _ _ he => hK' _ _ he
  | halt x w' => cases x <;> simp only [Oper.upon] at h ⊢ <;> exact False.elim h
def tailB (ops : Array Oper) (n : Nat) (fs : List Nat) : Bool :=
  decide (n < ops.size) && (fs.all fun i => decide (i < n) && match ops[i]? with | some o => o.guard.isNone | none => false) &&
  (List.range ops.size).all fun k => decide (k < n) || match ops[k]? with
    | none => false
    | some o => o.guard.isNone && if k = n then (List.range n).all fun i => fs.contains i || o.after.any fun e => Region.binds .any e && e.on == i else o.after.any fun e => Region.binds .any e && e.on == k - 1
structure Tails (ops : Array Oper) (n : Nat) (fs : List Nat) : Prop where
  size : n < ops.size
  free : ∀ i ∈ fs, i < n ∧ ∀ o, ops[i]? = some o → o.guard = none
  plain : ∀ k o, n ≤ k → ops[k]? = some o → o.guard = none
  first : ∀ o, ops[n]? = some o → ∀ i, i < n → i ∉ fs → ∃ e ∈ o.after, Region.binds .any e = true ∧ e.on = i
  next : ∀ k o, n < k → ops[k]? = some o → ∃ e ∈ o.after, Region.binds .any e = true ∧ e.on = k - 1
theorem tails_of {n : Nat} {fs : List Nat} (h : tailB ops n fs = true) : Tails ops n fs := by
  simp only [tailB, Bool.and_eq_true, decide_eq_true_eq, List.all_eq_true, List.mem_range, Bool.or_eq_true] at h
  obtain ⟨⟨h1, h2⟩, h3⟩ := h
  have key : ∀ k o, n ≤ k → ops[k]? = some o → o.guard.isNone = true ∧ (if k = n then (List.range n).all (fun i => fs.contains i || o.after.any fun e => Region.binds .any e && e.on == i) else o.after.any fun e => Region.binds .any e && e.on == k - 1) = true := fun k o hk ho => by
    rcases h3 k (Array.getElem?_eq_some_iff.1 ho).1 with h | h
    · omega
    · rw [ho] at h; simpa only [Bool.and_eq_true] using h
  have any_of : ∀ (o : Oper) (i : Nat), (o.after.any fun e => Region.binds .any e && e.on == i) = true → ∃ e ∈ o.after, Region.binds .any e = true ∧ e.on = i := fun o i h => by
    obtain ⟨e, he, h3⟩ := Array.any_eq_true'.1 h
    simp only [Bool.and_eq_true, beq_iff_eq] at h3
    exact ⟨e, he, h3.1, h3.2⟩
  refine ⟨h1, fun i hi => ⟨(h2 i hi).1, fun o ho => ?_⟩, fun k o hk ho => ?_, fun o ho i hi hf => ?_, fun k o hk ho => ?_⟩
  · have := (h2 i hi).2
    rw [ho] at this
    simpa using this
  · simpa using (key k o hk ho).1
  · have := (key n o (Nat.le_refl _) ho).2
    rw [if_pos rfl] at this
    have := List.all_eq_true.1 this i (List.mem_range.2 hi)
    simp only [Bool.or_eq_true] at this
    rcases this with h | h
    · exact absurd (by simpa using h) hf
    · exact any_of o i h
  · have := (key k o (by omega) ho).2
    rw [if_neg (by omega)] at this
    exact any_of o _ this
/-- what is owed of a free operation: one value, in whatever memory -/
def FreeOk (P : Program) (ops : Array Oper) (spec : Spec) (vals : List Value) (a0 : Act) (i : Nat) : Prop :=
  ∀ o, ops[i]? = some o → newsOf ops spec o = [] ∧ spec.getD i none = none ∧ ∀ w, (execOp (putAll ops.toList vals a0).eval o).run P w = .ok (.value (vals.getD i undef)) w
/-- on its way in the tail -/
structure InTail (P : Program) (ops : Array Oper) (spec : Spec) (vals : List Value) (fs : List Nat) (n : Nat) (a0 : Act) (Q : Exit → Act → World → Prop) (k : Nat) (listed : Array Bool) (a : Act) (w : World) : Prop where
  at1 : n ≤ k
  at2 : k ≤ ops.size
  done : ∀ j, n ≤ j → j < k → listed.getD j false = true
  left : ∀ j, k ≤ j → j < ops.size → listed.getD j false = false
  heads : ∀ j, j < n → j ∉ fs → listed.getD j false = true
  size : a.tmps.size = a0.tmps.size
  same : ∀ t, (∀ (j : Nat) (oj : Oper), ops[j]? = some oj → oj.dst ≠ some t) → a.tmps[t]? = a0.tmps[t]?
  held : ∀ (j : Nat) (d : Tmp), j < n → spec.getD j none = none → dstOf ops j = some d → listed.getD j false = true → a.tmps.getD d undef = vals.getD j undef
  cont : wpList P ops (NormQ Q) (ops.toList.drop k) (fill ops vals fs a) w
theorem free_runs {spec : Spec} {a0 a : Act} {n : Nat} {listed : Array Bool} (hF : Flows ops a0.tmps.size) (hlen : ops.size = vals.length) (hns : Region.noSelect ops = true) (hfree : FreeOk P ops spec vals a0 n) {o : Oper} (ho : ops[n]? = some o)
    (hsame : ∀ t, (∀ (j : Nat) (oj : Oper), ops[j]? = some oj → oj.dst ≠ some t) → a.tmps[t]? = a0.tmps[t]?)
    (hheld : ∀ (j : Nat) (d : Tmp), j < n → spec.getD j none = none → dstOf ops j = some d → listed.getD j false = true → a.tmps.getD d undef = vals.getD j undef)
    (hall : ∀ e ∈ o.after, Region.binds .any e = true → listed.getD e.on false = true) (w : World) : (execOp a.eval o).run P w = .ok (.value (vals.getD n undef)) w := by
  obtain ⟨hn, _, hr⟩ := hfree o ho
  have heq : ∀ t ∈ o.looksAt ops, a.tmps[t]?.getD undef = (putAll ops.toList vals a0).tmps[t]?.getD undef := fun t ht => by
    refine look_same (spec := spec) (w := w) hF hlen (fun t ht => by rw [Array.getD_eq_getD_getElem?, Array.getD_eq_getD_getElem?, hsame t ht]) (fun t ht j oj hj hjd => ?_) t ht (fun j oj hj hjd => newsOf_nil hn t ht j oj hj hjd)
    have hsp := newsOf_nil hn t ht j oj hj hjd
    obtain ⟨e, he, hb, hon⟩ := hF.looks n o ho t ht j oj hj hjd
    have hlt := hF.back n o ho e he hb
    unfold known
    rw [hsp]
    exact hheld j t (by omega) hsp (by rw [dstOf_eq hj]; exact hjd) (by rw [← hon]; exact hall e he hb)
  rw [same_op (Region.noSelect_spec hns n o · · ho) heq]
  exact hr w
theorem in_tail {spec : Spec} {fs : List Nat} {n : Nat} {a0 : Act} {Q : Exit → Act → World → Prop} (hF : Flows ops a0.tmps.size) (hT : Tails ops n fs) (hlen : ops.size = vals.length) (hns : Region.noSelect ops = true)
    (hfree : ∀ i ∈ fs, FreeOk P ops spec vals a0 i) : ∀ (fuel : Nat) (k : Nat) (listed : Array Bool) (a : Act) (w : World), listed.size = ops.size → unlisted ops listed ≤ fuel → InTail P ops spec vals fs n a0 Q k listed a w → wpAny P .any ops Q fuel listed a w := by
  have hu := unlike_of hF
  have fin : ∀ (k : Nat) (listed : Array Bool) (a : Act) (w : World), (∀ i, i < ops.size → listed.getD i false = true) → InTail P ops spec vals fs n a0 Q k listed a w → Q .normal a w := fun k listed a w hall h => by
    have hk : k = ops.size := by
      by_cases hk : k < ops.size
      · have h1 := h.left k (Nat.le_refl _) hk
        rw [hall k hk] at h1
        cases h1
      · have := h.at2; omega
    have hc := h.cont
    rw [hk, List.drop_eq_nil_of_le (by simp)] at hc
    have e : fill ops vals fs a = a := by
      refine act_ext (fill_size fs a) (fill_defers fs a) fun t ht => ?_
      rw [fill_size] at ht
      rcases fill_get (ops := ops) (vals := vals) fs a t ht with ⟨i, hi, h1, h2⟩ | ⟨_, h2⟩
      · rw [h2]
        obtain ⟨o, ho, _⟩ := dstOf_some h1
        have hn := (hT.free i hi).1
        have := h.held i t hn (hfree i hi o ho).2.1 h1 (hall i (Array.getElem?_eq_some_iff.1 ho).1)
        rw [Array.getD_eq_getD_getElem?, Array.getElem?_eq_getElem ht] at this
        rw [Array.getElem?_eq_getElem ht]
        simp only [Option.getD_some] at this
        rw [this]
      · exact h2
    rw [e] at hc
    exact hc
  intro fuel
  induction fuel with
  | zero =>
    intro k listed a w hs hu0 h
    have hall := unlisted_zero (ops := ops) hs (by omega)
    refine ⟨?_, fin k listed a w hall h⟩
    rcases hr : Region.ready .any ops listed with _ | ⟨x, xs⟩
    · rfl
    · have hm : x ∈ Region.ready .any ops listed := by rw [hr]; simp
      obtain ⟨h1, o, ho, _⟩ := mem_ready.1 hm
      have h2 := hall x (Array.getElem?_eq_some_iff.1 ho).1
      rw [Array.getD_eq_getD_getElem?, Array.getElem?_eq_getElem (by have := (Array.getElem?_eq_some_iff.1 ho).1; omega)] at h1 h2
      simp only [Option.getD_some] at h1 h2
      rw [h1] at h2
      cases h2
  | succ fuel ih =>
    intro k listed a w hs hu0 h
    refine ⟨fun h0 => fin k listed a w (ready_nil hF hs h0) h, fun i hi => ?_⟩
    obtain ⟨hl, o, ho, hall⟩ := mem_ready.1 hi
    have hilt := (Array.getElem?_eq_some_iff.1 ho).1
    have hl' : listed.getD i false = false := by
      rw [Array.getD_eq_getD_getElem?, Array.getElem?_eq_getElem (by omega)] at hl ⊢
      simpa using hl
    have hu' : unlisted ops (listed.setIfInBounds i true) ≤ fuel := by
      have := unlisted_step (ops := ops) hs i hilt hl
      omega
    have hset : (listed.setIfInBounds i true).getD i false = true := by
      rw [Array.getD_eq_getD_getElem?, Array.getElem?_setIfInBounds_self_of_lt (by omega)]; rfl
    unfold wpOp
    simp only [ho]
    by_cases hin : i < n
    · have hif : i ∈ fs := by
        by_cases hif : i ∈ fs
        · exact hif
        · rw [h.heads i hin hif] at hl'; cases hl'
      have hg := (hT.free i hif).2 o ho
      rw [if_pos (by simp [Region.wanted, hg])]
      left
      have hr := free_runs hF hlen hns (hfree i hif) ho h.same (fun j d hj => h.held j d (by omega)) hall w
      unfold Oper.wp
      rw [hr]
      show wpAny P .any ops Q fuel (listed.setIfInBounds i true) (a.put o.dst (vals.getD i undef)) w
      refine ih k _ _ _ (by simpa using hs) hu' ⟨h.at1, h.at2, fun j h1 h2 => getD_set_true (h.done j h1 h2), fun j h1 h2 => ?_, fun j h1 h2 => getD_set_true (h.heads j h1 h2), by rw [put_size]; exact h.size, fun t ht => ?_, fun j d hj hsp hd hlj => ?_, ?_⟩
      · rw [getD_set_ne false (by have := h.at1; omega)]; exact h.left j h1 h2
      · rw [put_ne _ _ _ _ (ht i o ho)]; exact h.same t ht
      · by_cases hji : j = i
        · subst hji
          have hod : o.dst = some d := by rw [← dstOf_eq ho]; exact hd
          rw [Array.getD_eq_getD_getElem?, hod, put_at _ _ _ (by rw [h.size]; exact hF.room j o d ho hod)]; rfl
        · rw [getD_set_ne false (fun e => hji e.symm)] at hlj
          have hne : o.dst ≠ some d := fun e => hji (hu j i d hd (by rw [dstOf_eq ho]; exact e))
          rw [Array.getD_eq_getD_getElem?, put_ne _ _ _ _ hne, ← Array.getD_eq_getD_getElem?]
          exact h.held j d hj hsp hd hlj
      · have e : fill ops vals fs (a.put o.dst (vals.getD i undef)) = fill ops vals fs a := by
          refine fill_ext hu fs (put_size _ _ _) (put_defers _ _ _) fun t ht => ?_
          refine put_ne _ _ _ _ ?_
          rw [← dstOf_eq ho]
          exact ht i hif
        rw [e]; exact h.cont
    · have hik : i = k := by
        by_cases h1 : i < k
        · rw [h.done i (by omega) h1] at hl'; cases hl'
        · by_cases h2 : i = k
          · exact h2
          · exfalso
            obtain ⟨e, he, hb, hon⟩ := hT.next i o (by have := h.at1; omega) ho
            have h3 := hall e he hb
            rw [hon, h.left (i - 1) (by omega) (by omega)] at h3
            cases h3
      subst hik
      have hg := hT.plain i o (by omega) ho
      rw [if_pos (by simp [Region.wanted, hg])]
      left
      have hc := h.cont
      rw [List.drop_eq_getElem_cons (by simpa using hilt)] at hc
      have hoe : ops.toList[i]'(by simpa using hilt) = o := by
        rw [Array.getElem?_eq_getElem hilt] at ho
        simpa using ho
      rw [hoe] at hc
      unfold wpList at hc
      rw [if_pos (by simp [Region.wanted, hg])] at hc
      rcases hc with hc | ⟨_, hc⟩
      · have hfd : ∀ j ∈ fs, ∀ t, dstOf ops j = some t → o.dst ≠ some t := fun j hj t h1 h2 => by
          have := hu j i t h1 (by rw [dstOf_eq ho]; exact h2)
          have := (hT.free j hj).1
          omega
        refine wp_over (b := fill ops vals fs a) ?_ (fill_defers fs a).symm (fun ds v w' hk => ?_) hc
        · refine same_op (ops := ops) (Region.noSelect_spec hns i o · · ho) fun t ht => ?_
          by_cases htl : t < a.tmps.size
          · rcases fill_get (ops := ops) (vals := vals) fs a t htl with ⟨j, hj, h1, h2⟩ | ⟨_, h2⟩
            · rw [h2]
              obtain ⟨oj, hoj, hjd⟩ := dstOf_some h1
              obtain ⟨e, he, hb, hon⟩ := hF.looks i o ho t ht j oj hoj hjd
              have := h.held j t (hT.free j hj).1 (hfree j hj oj hoj).2.1 h1 (by rw [← hon]; exact hall e he hb)
              rw [Array.getD_eq_getD_getElem?] at this
              rw [this]; rfl
            · rw [h2]
          · rw [Array.getElem?_eq_none (Nat.not_lt.1 htl), Array.getElem?_eq_none (by rw [fill_size]; exact Nat.not_lt.1 htl)]
        · refine ih (i + 1) _ _ _ (by simpa using hs) hu' ⟨by have := h.at1; omega, by omega, fun j h1 h2 => ?_, fun j h1 h2 => ?_, fun j h1 h2 => getD_set_true (h.heads j h1 h2), by rw [put_size]; exact h.size, fun t ht => ?_, fun j d hj hsp hd hlj => ?_, ?_⟩
          · by_cases hji : j = i
            · subst hji; exact hset
            · exact getD_set_true (h.done j h1 (by omega))
          · rw [getD_set_ne false (by omega)]; exact h.left j (by omega) h2
          · rw [put_ne _ _ _ _ (ht i o ho)]; exact h.same t ht
          · rw [getD_set_ne false (by omega)] at hlj
            have hne : o.dst ≠ some d := fun e => by have := hu j i d hd (by rw [dstOf_eq ho]; exact e); omega
            rw [Array.getD_eq_getD_getElem?, put_ne _ _ _ _ hne, ← Array.getD_eq_getD_getElem?]
            exact h.held j d hj hsp hd hlj
          · rw [fill_put hu fs _ _ _ hfd]
            have e : fill ops vals fs { a with defers := ds } = { fill ops vals fs a with defers := ds } := by
              refine act_ext (by simp only [fill_size]) (by simp only [fill_defers]) fun t ht => ?_
              rw [fill_size] at ht
              simp only at ht
              rcases fill_get (ops := ops) (vals := vals) fs { a with defers := ds } t ht with ⟨j, hj, h1, h2⟩ | ⟨h1, h2⟩
              · rcases fill_get (ops := ops) (vals := vals) fs a t ht with ⟨j', hj', h3, h4⟩ | ⟨h3, h4⟩
                · rw [h2]; simp only [h4]; rw [hu j j' t h1 h3]
                · exact absurd h1 (h3 j hj)
              · rcases fill_get (ops := ops) (vals := vals) fs a t ht with ⟨j', hj', h3, h4⟩ | ⟨h3, h4⟩
                · exact absurd h3 (h1 j' hj')
                · rw [h2]; simp only [h4]
            rw [e]; exact hk
      · exact absurd hc (normQ_out Q)
/-- on its way ahead of the tail -/
structure InHead (ops : Array Oper) (spec : Spec) (vals : List Value) (n : Nat) (a0 : Act) (w0 : World) (listed : Array Bool) (a : Act) (w : World) : Prop where
  below : Below w0.heap.size w0 w
  left : ∀ j, n ≤ j → j < ops.size → listed.getD j false = false
  size : a.tmps.size = a0.tmps.size
  defers : a.defers = a0.defers
  same : ∀ t, (∀ (j : Nat) (oj : Oper), j < n → ops[j]? = some oj → oj.dst ≠ some t) → a.tmps[t]? = a0.tmps[t]?
  held : ∀ (j : Nat) (d : Tmp), dstOf ops j = some d → listed.getD j false = true → known spec vals j (a.tmps.getD d undef) w
theorem known_take {spec : Spec} {vals : List Value} {n j : Nat} {v : Value} {w : World} (h : j < n) : known (spec.take n) (vals.take n) j v w = known spec vals j v w := by
  unfold known
  have e1 : (spec.take n).getD j none = spec.getD j none := by simp [List.getD, List.getElem?_take, h]
  have e2 : (vals.take n).getD j undef = vals.getD j undef := by simp [List.getD, List.getElem?_take, h]
  rw [e1, e2]
theorem in_head {l : List Oper} {spec : Spec} {fs : List Nat} {n : Nat} {a0 : Act} {w0 : World} {Q : Exit → Act → World → Prop} (hF : Flows l.toArray a0.tmps.size) (hFh : Flows (l.take n).toArray a0.tmps.size) (hT : Tails l.toArray n fs) (hlen : l.toArray.size = vals.length) (hns : Region.noSelect l.toArray = true)
    (hbare : bareB (l.take n) (spec.take n) = true)
    (hst : ∀ j v w w', known spec vals j v w → Below w.heap.size w w' → known spec vals j v w')
    (hfree : ∀ i ∈ fs, FreeOk P l.toArray spec vals a0 i) (hobl : ∀ (i : Nat) (o : Oper), i < n → i ∉ fs → l.toArray[i]? = some o → Obl P l.toArray (known spec vals) a0 w0 i o)
    (hQ : ∀ w, Below w0.heap.size w0 w → each (spec.take n) (vals.take n) w (fun vs => wpList P l.toArray (NormQ Q) (l.drop n) (putAll (l.take n) vs a0) w)) :
    ∀ (fuel : Nat) (listed : Array Bool) (a : Act) (w : World), listed.size = l.toArray.size → unlisted l.toArray listed ≤ fuel → InHead l.toArray spec vals n a0 w0 listed a w → wpAny P .any l.toArray Q fuel listed a w := by
  have hu := unlike_of hF
  have hnl : n < l.length := by simpa using hT.size
  have go : ∀ (fuel : Nat) (listed : Array Bool) (a : Act) (w : World), listed.size = l.toArray.size → unlisted l.toArray listed ≤ fuel → InHead l.toArray spec vals n a0 w0 listed a w → (∀ j, j < n → j ∉ fs → listed.getD j false = true) → wpAny P .any l.toArray Q fuel listed a w := fun fuel listed a w hs hu0 h hall => by
    refine in_tail hF hT hlen hns hfree fuel n listed a w hs hu0 ⟨Nat.le_refl _, by simp; omega, fun j h1 h2 => by omega, h.left, hall, h.size, fun t ht => h.same t fun j oj _ hj => ht j oj hj, fun j d hj hsp hd hl => ?_, ?_⟩
    · have := h.held j d hd hl
      unfold known at this
      rw [hsp] at this
      exact this
    · refine all_known (l := l.take n) (spec := spec.take n) (vals := vals.take n) (a0 := a0) (a := fill l.toArray vals fs a) (w := w) (K := fun b => wpList P l.toArray (NormQ Q) (l.toArray.toList.drop n) b w) hFh ?_ hbare (by rw [fill_size]; exact h.size) (by rw [fill_defers]; exact h.defers) (fun t ht => ?_) (fun j oj d hj hd => ?_) (hQ w h.below)
      · have : l.length = vals.length := by simpa using hlen
        simp [this]
      · by_cases htl : t < a.tmps.size
        · rcases fill_get (ops := l.toArray) (vals := vals) fs a t htl with ⟨i, hi, h1, _⟩ | ⟨_, h2⟩
          · obtain ⟨o, ho, hod⟩ := dstOf_some h1
            exfalso
            refine ht i o ?_ hod
            have := (hT.free i hi).1
            simp only [List.getElem?_toArray] at ho ⊢
            rw [List.getElem?_take, if_pos this]; exact ho
          · rw [h2]
            refine h.same t fun j oj hj1 hj => ht j oj ?_
            simp only [List.getElem?_toArray] at hj ⊢
            rw [List.getElem?_take, if_pos hj1]; exact hj
        · rw [Array.getElem?_eq_none (by rw [fill_size]; exact Nat.not_lt.1 htl), Array.getElem?_eq_none (by rw [← h.size]; exact Nat.not_lt.1 htl)]
      · have hjn : j < n := by
          have := (Array.getElem?_eq_some_iff.1 hj).1
          simp at this; omega
        have hj' : l.toArray[j]? = some oj := by
          simp only [List.getElem?_toArray] at hj ⊢
          rw [List.getElem?_take, if_pos hjn] at hj; exact hj
        have hdj : dstOf l.toArray j = some d := by rw [dstOf_eq hj']; exact hd
        have hda : d < a.tmps.size := by rw [h.size]; exact hF.room j oj d hj' hd
        rw [known_take hjn]
        rcases fill_get (ops := l.toArray) (vals := vals) fs a d hda with ⟨i, hi, h1, h2⟩ | ⟨h1, h2⟩
        · have e := hu i j d h1 hdj
          subst e
          rw [Array.getD_eq_getD_getElem?, h2]
          unfold known
          rw [(hfree i hi oj hj').2.1]; rfl
        · rw [Array.getD_eq_getD_getElem?, h2, ← Array.getD_eq_getD_getElem?]
          exact h.held j d hdj (hall j hjn fun hf => h1 j hf hdj)
  intro fuel
  induction fuel with
  | zero =>
    intro listed a w hs hu0 h
    have hall := unlisted_zero (ops := l.toArray) hs (by omega)
    exact go 0 listed a w hs hu0 h fun j hj _ => hall j (by simp; omega)
  | succ fuel ih =>
    intro listed a w hs hu0 h
    by_cases hall : ∀ j, j < n → j ∉ fs → listed.getD j false = true
    · exact go _ listed a w hs hu0 h hall
    refine ⟨fun h0 => absurd (fun j hj _ => ready_nil hF hs h0 j (by simp; omega)) hall, fun i hi => ?_⟩
    obtain ⟨hl, o, ho, hafter⟩ := mem_ready.1 hi
    have hilt := (Array.getElem?_eq_some_iff.1 ho).1
    have hu' : unlisted l.toArray (listed.setIfInBounds i true) ≤ fuel := by
      have := unlisted_step (ops := l.toArray) hs i hilt hl
      omega
    have hin : i < n := by
      by_cases hin : i < n
      · exact hin
      · exfalso
        by_cases h1 : i = n
        · subst h1
          refine hall fun j hj hjf => ?_
          obtain ⟨e, he, hb, hon⟩ := hT.first o ho j hj hjf
          rw [← hon]; exact hafter e he hb
        · obtain ⟨e, he, hb, hon⟩ := hT.next i o (by omega) ho
          have h3 := hafter e he hb
          rw [hon, h.left (i - 1) (by omega) (by omega)] at h3
          cases h3
    have next : ∀ v w', Below w.heap.size w w' → known spec vals i v w' → wpAny P .any l.toArray Q fuel (listed.setIfInBounds i true) (a.put o.dst v) w' := fun v w' hb hv => by
      refine ih _ _ _ (by simpa using hs) hu' ⟨below_next h.below hb, fun j h1 h2 => ?_, by rw [put_size]; exact h.size, by rw [put_defers]; exact h.defers, fun t ht => ?_, fun j d hd hlj => ?_⟩
      · rw [getD_set_ne false (by omega)]; exact h.left j h1 h2
      · rw [put_ne _ _ _ _ (ht i o hin ho)]; exact h.same t ht
      · by_cases hji : j = i
        · subst hji
          have hod : o.dst = some d := by rw [← dstOf_eq ho]; exact hd
          rw [Array.getD_eq_getD_getElem?, hod, put_at _ _ _ (by rw [h.size]; exact hF.room j o d ho hod)]
          exact hv
        · rw [getD_set_ne false (fun e => hji e.symm)] at hlj
          have hne : o.dst ≠ some d := fun e => hji (hu j i d hd (by rw [dstOf_eq ho]; exact e))
          rw [Array.getD_eq_getD_getElem?, put_ne _ _ _ _ hne, ← Array.getD_eq_getD_getElem?]
          exact hst j _ w w' (h.held j d hd hlj) hb
    unfold wpOp
    simp only [ho]
    by_cases hif : i ∈ fs
    · rw [if_pos (by simp [Region.wanted, (hT.free i hif).2 o ho])]
      left
      have hr := free_runs (listed := listed) (a := a) hF hlen hns (hfree i hif) ho (fun t ht => h.same t fun j oj _ hj => ht j oj hj) (fun j d hj hsp hd hlj => by
        have := h.held j d hd hlj
        unfold known at this
        rw [hsp] at this
        exact this) hafter w
      unfold Oper.wp
      rw [hr]
      refine next _ _ (Below.refl _ _) ?_
      unfold known
      rw [(hfree i hif o ho).2.1]
    · have hob := hobl i o hin hif ho a w h.below (fun t ht => by
        rw [Array.getD_eq_getD_getElem?, Array.getD_eq_getD_getElem?, h.same t fun j oj _ hj => ht j oj hj]) (fun t ht j oj hj hd => by
        obtain ⟨e, he, hb, hon⟩ := hF.looks i o ho t ht j oj hj hd
        exact h.held j t (by rw [dstOf_eq hj]; exact hd) (by rw [← hon]; exact hafter e he hb))
      split
      · next hw =>
        rw [if_pos hw] at hob
        exact .inl (wp_of_grows hob next)
      · next hw =>
        rw [if_neg hw] at hob
        exact next undef w (Below.refl _ _) hob
def oblAllT (P : Program) (ops : Array Oper) (spec : Spec) (vals : List Value) (a0 : Act) (w0 : World) (fs : List Nat) : List Oper → Nat → Prop
  | [], _ => True
  | o :: l, i => (ops[i]? = some o → if i ∈ fs then FreeOk P ops spec vals a0 i else Obl P ops (known spec vals) a0 w0 i o) ∧ oblAllT P ops spec vals a0 w0 fs l (i + 1)
theorem oblAllT_use {spec : Spec} {a0 : Act} {w0 : World} {fs : List Nat} : ∀ (l : List Oper) (k : Nat), oblAllT P ops spec vals a0 w0 fs l k → ∀ (i : Nat) (o : Oper), l[i]? = some o → (ops[k + i]? = some o → if k + i ∈ fs then FreeOk P ops spec vals a0 (k + i) else Obl P ops (known spec vals) a0 w0 (k + i) o)
  | [], _, _, i, o, h => by simp at h
  | x :: l, k, ha, 0, o, h => by
    obtain rfl : x = o := by simpa using h
    exact ha.1
  | x :: l, k, ha, i + 1, o, h => by
    have := oblAllT_use l (k + 1) ha.2 i o (by simpa using h)
    rwa [show k + 1 + i = k + (i + 1) by omega] at this
theorem free_det {spec : Spec} {a0 : Act} {i : Nat} {o : Oper} (ho : ops[i]? = some o) (hn : newsOf ops spec o = []) (hs : spec.getD i none = none) (h : ∀ w, (execOp (putAll ops.toList vals a0).eval o).run P w = .ok (.value (vals.getD i undef)) w) : FreeOk P ops spec vals a0 i := fun o' ho' => by
  rw [ho] at ho'
  obtain rfl : o = o' := by simpa using ho'
  exact ⟨hn, hs, h⟩
/-- THE LAW, with a tail -/
theorem wp_region_tail {id : Nat} {l : List Oper} {spec : Spec} {a0 : Act} {w0 : World} {Q : Exit → Act → World → Prop} (n : Nat) (fs : List Nat) (hm : P.follows .mixedOrders = true) (hB : flowB l.toArray a0.tmps.size = true) (hBh : flowB (l.take n).toArray a0.tmps.size = true)
    (hTb : tailB l.toArray n fs = true) (hns : Region.noSelect l.toArray = true) (hlen : l.length = vals.length) (hbare : bareB (l.take n) (spec.take n) = true) (hst : stableS spec)
    (hobl : Flows l.toArray a0.tmps.size → oblAllT P l.toArray spec vals a0 w0 fs (l.take n) 0)
    (hQ : ∀ w, Below w0.heap.size w0 w → each (spec.take n) (vals.take n) w (fun vs => wpList P l.toArray (NormQ Q) (l.drop n) (putAll (l.take n) vs a0) w)) : (Code.region id l.toArray true).wp P Q a0 w0 := by
  have hF := flows_of hB
  have hT := tails_of hTb
  have hob := oblAllT_use (P := P) (ops := l.toArray) (l.take n) 0 (hobl hF)
  refine wp_region_any hm (in_head (P := P) (l := l) (spec := spec) (vals := vals) (fs := fs) (n := n) (a0 := a0) (w0 := w0) hF (flows_of hBh) hT (by simpa using hlen) hns hbare ?_ (fun i hi => ?_) (fun i o hi hif ho => ?_) hQ _ _ _ _ (by simp) ?_ ?_)
  · intro j v w w' hk hb
    unfold known at *
    cases hs : spec.getD j none with
    | none => rw [hs] at hk; exact hk
    | some S => rw [hs] at hk; exact stable_use spec hst j S hs v w w' hk hb
  · have hin := (hT.free i hi).1
    have hsz : i < l.length := by have := hT.size; simp at this; omega
    have := hob i l[i] (by rw [List.getElem?_take, if_pos hin]; exact List.getElem?_eq_getElem hsz) (by simp [hsz])
    rw [Nat.zero_add, if_pos hi] at this
    exact this
  · have := hob i o (by rw [List.getElem?_take, if_pos hi]; simpa using ho) (by rw [Nat.zero_add]; exact ho)
    rw [Nat.zero_add, if_neg hif] at this
    exact this
  · unfold unlisted
    exact Nat.le_trans List.countP_le_length (by simp)
  · refine ⟨⟨rfl, rfl, rfl, Nat.le_refl _, fun _ _ => rfl⟩, fun j h1 h2 => ?_, rfl, rfl, fun _ _ => rfl, fun j d hd hl => ?_⟩
    · simp at h2; simp [h2]
    · obtain ⟨o, ho, _⟩ := dstOf_some hd
      have hj' := (Array.getElem?_eq_some_iff.1 ho).1
      simp at hj'
      simp [hj'] at hl
end
end Go.Proofs.Ytncooadaeifekaa
