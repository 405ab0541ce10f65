/- The law of a statement that draws its order, in the form in which walks use it: the frame that stands behind it is written out once, slots of new memory apart, and each operation is asked in that frame. -/
import Derived.Test.YtncooadaeifekaaG
namespace Go.Proofs.Ytncooadaeifekaa
open Go.RowKit
/-- the frame behind operations that yielded these values -/
def putAll : List Oper → List Value → Act → Act
  | o :: os, v :: vs, a => putAll os vs (a.put o.dst v)
  | _, _, a => a
/-- what is known of each value: none: it is the one that is told -/
abbrev Spec := List (Option (Value → World → Prop))
def known (spec : Spec) (vals : List Value) (i : Nat) (v : Value) (w : World) : Prop :=
  match spec.getD i none with
  | none => v = vals.getD i undef
  | some S => S v w
def each : Spec → List Value → World → (List Value → Prop) → Prop
  | none :: sp, v :: vals, w, K => each sp vals w (fun r => K (v :: r))
  | some S :: sp, _ :: vals, w, K => ∀ x, S x w → each sp vals w (fun r => K (x :: r))
  | [], [], _, K => K []
  | _, _, _, _ => False
theorem each_use : ∀ (spec : Spec) (vals vs : List Value) (w : World) (K : List Value → Prop), each spec vals w K → vs.length = vals.length → (∀ i, i < vals.length → known spec vals i (vs.getD i undef) w) → K vs
  | none :: sp, v :: vals, [], w, K, _, hl, _ => by simp at hl
  | none :: sp, v :: vals, x :: vs, w, K, h, hl, hk => by
    have h0 := hk 0 (by simp)
    simp [known] at h0
    subst h0
    refine each_use sp vals vs w (fun r => K (x :: r)) h (by simpa using hl) fun i hi => ?_
    have := hk (i + 1) (by simp; omega)
    simpa [known] using this
  | some S :: sp, v :: vals, [], w, K, _, hl, _ => by simp at hl
  | some S :: sp, v :: vals, x :: vs, w, K, h, hl, hk => by
    have h0 := hk 0 (by simp)
    simp [known] at h0
    refine each_use sp vals vs w (fun r => K (x :: r)) (h x h0) (by simpa using hl) fun i hi => ?_
    have := hk (i + 1) (by simp; omega)
    simpa [known] using this
  | [], [], vs, w, K, h, hl, _ => by
    obtain rfl : vs = [] := List.eq_nil_of_length_eq_zero (by simpa using hl)
    exact h
  | [], _ :: _, _, _, _, h, _, _ => h.elim
  | none :: _, [], _, _, _, h, _, _ => h.elim
  | some _ :: _, [], _, _, _, h, _, _ => h.elim
section
variable {P : Program} {ops : Array Oper}
theorem size_putAll : ∀ (os : List Oper) (vs : List Value) (a : Act), (putAll os vs a).tmps.size = a.tmps.size
  | o :: os, v :: vs, a => by
    rw [putAll, size_putAll os vs]
    cases o.dst <;> simp [Act.put]
  | [], _, a => rfl
  | _ :: _, [], a => rfl
theorem defers_putAll : ∀ (os : List Oper) (vs : List Value) (a : Act), (putAll os vs a).defers = a.defers
  | o :: os, v :: vs, a => by
    rw [putAll, defers_putAll os vs]
    cases o.dst <;> simp [Act.put]
  | [], _, a => rfl
  | _ :: _, [], a => rfl
theorem putAll_other : ∀ (os : List Oper) (vs : List Value) (a : Act) (t : Tmp), (∀ o ∈ os, o.dst ≠ some t) → (putAll os vs a).tmps[t]? = a.tmps[t]?
  | o :: os, v :: vs, a, t, h => by
    rw [putAll, putAll_other os vs _ t (fun o' ho => h o' (by simp [ho]))]
    cases hd : o.dst with
    | none => rfl
    | some d =>
      have hne : d ≠ t := fun e => h o (by simp) (by rw [hd, e])
      simp [Act.put, Array.getElem?_setIfInBounds_ne hne]
  | [], _, a, t, _ => rfl
  | _ :: _, [], a, t, _ => rfl
theorem putAll_at : ∀ (os : List Oper) (vs : List Value) (a : Act) (i : Nat) (o : Oper) (d : Tmp), os.length = vs.length → os[i]? = some o → o.dst = some d → d < a.tmps.size →
    (∀ j oj, os[j]? = some oj → oj.dst = some d → j = i) → (putAll os vs a).tmps[d]? = some (vs.getD i undef)
  | [], _, _, i, o, d, _, hi, _, _, _ => by simp at hi
  | _ :: _, [], _, i, o, d, hl, _, _, _, _ => by simp at hl
  | o' :: os, v :: vs, a, 0, o, d, hl, hi, hd, hroom, hu => by
    obtain rfl : o' = o := by simpa using hi
    rw [putAll, putAll_other os vs _ d (fun o2 ho2 h2 => by
      obtain ⟨j, hj, hjo⟩ := List.mem_iff_getElem.1 ho2
      have := hu (j + 1) o2 (by simp [hj, hjo]) h2
      omega)]
    simp [hd, Act.put, hroom]
  | o' :: os, v :: vs, a, i + 1, o, d, hl, hi, hd, hroom, hu => by
    rw [putAll]
    have := putAll_at os vs (a.put o'.dst v) i o d (by simpa using hl) (by simpa using hi) hd (by cases o'.dst <;> simpa [Act.put] using hroom) (fun j oj hj hjd => by
      have := hu (j + 1) oj (by simpa using hj) hjd
      omega)
    rw [this]
    simp
/-- the slots of new memory that an operation looks at -/
def newsOf (ops : Array Oper) (spec : Spec) (o : Oper) : List Nat :=
  (List.range ops.size).filter fun j => (spec.getD j none).isSome && match (ops[j]?).bind (·.dst) with | some d => (o.looksAt ops).contains d | none => false
theorem newsOf_nil {spec : Spec} {o : Oper} (h : newsOf ops spec o = []) (t : Tmp) (ht : t ∈ o.looksAt ops) (j : Nat) (oj : Oper) (hj : ops[j]? = some oj) (hd : oj.dst = some t) : spec.getD j none = none := by
  have h1 := List.filter_eq_nil_iff.1 h j (List.mem_range.2 (Array.getElem?_eq_some_iff.1 hj).1)
  cases hs : spec.getD j none with
  | none => rfl
  | some S => rw [hs] at h1; simp [hj, hd, ht] at h1
theorem newsOf_one {spec : Spec} {o : Oper} {k : Nat} (h : newsOf ops spec o = [k]) (t : Tmp) (ht : t ∈ o.looksAt ops) (j : Nat) (oj : Oper) (hj : ops[j]? = some oj) (hd : oj.dst = some t) : spec.getD j none = none ∨ j = k := by
  cases hs : spec.getD j none with
  | none => exact .inl rfl
  | some S =>
    right
    have h1 : j ∈ newsOf ops spec o := by
      unfold newsOf
      rw [List.mem_filter]
      refine ⟨List.mem_range.2 (Array.getElem?_eq_some_iff.1 hj).1, ?_⟩
      rw [hs]; simp [hj, hd, ht]
    rw [h] at h1
    simpa using h1
theorem same_op {o : Oper} (hs : ∀ cs b, o.op ≠ .select cs b) {a b : Act} (h : ∀ t ∈ o.looksAt ops, a.tmps[t]?.getD undef = b.tmps[t]?.getD undef) : execOp a.eval o = execOp b.eval o := by
  refine execOp_congr o hs fun x hx => ?_
  cases x with
  | tmp t =>
    have ht : t ∈ o.looksAt ops := List.mem_append_left _ (List.mem_filterMap.2 ⟨.tmp t, by simpa using hx, rfl⟩)
    simpa [Act.eval, Array.getD_eq_getD_getElem?] using h t ht
  | _ => rfl
def boolIn : Option Value → Option Bool
  | some (.bool b) => some b
  | _ => none
theorem bool_of (x y : Option Value) (h : x.getD undef = y.getD undef) : boolIn x = boolIn y := by
  cases x with
  | none =>
    cases y with
    | none => rfl
    | some v => simp only [Option.getD_none, Option.getD_some] at h; subst h; rfl
  | some u =>
    cases y with
    | none => simp only [Option.getD_none, Option.getD_some] at h; subst h; rfl
    | some v => simp only [Option.getD_some] at h; subst h; rfl
theorem same_wanted {o : Oper} {a b : Act} (h : ∀ t ∈ o.looksAt ops, a.tmps[t]?.getD undef = b.tmps[t]?.getD undef) :
    Region.wanted o (yielded ops a.tmps) = Region.wanted o (yielded ops b.tmps) := by
  unfold Region.wanted
  cases hg : o.guard with
  | none => rfl
  | some gw =>
    obtain ⟨g, want⟩ := gw
    have hy : yielded ops a.tmps g = yielded ops b.tmps g := by
      unfold yielded
      cases ht : (ops[g]?).bind (·.dst) with
      | none => rfl
      | some t =>
        have h1 := h t (by simp [Oper.looksAt, hg, ht])
        exact bool_of _ _ h1
    simp only [hy]
theorem look_same {spec : Spec} {vals : List Value} {a0 a : Act} {w : World} (hF : Flows ops a0.tmps.size) (hlen : ops.size = vals.length) {o : Oper}
    (hs : ∀ t, (∀ (j : Nat) (oj : Oper), ops[j]? = some oj → oj.dst ≠ some t) → a.tmps.getD t undef = a0.tmps.getD t undef)
    (hd : ∀ t ∈ o.looksAt ops, ∀ (j : Nat) (oj : Oper), ops[j]? = some oj → oj.dst = some t → known spec vals j (a.tmps.getD t undef) w)
    (t : Tmp) (ht : t ∈ o.looksAt ops) (hn : ∀ (j : Nat) (oj : Oper), ops[j]? = some oj → oj.dst = some t → spec.getD j none = none) :
    a.tmps[t]?.getD undef = (putAll ops.toList vals a0).tmps[t]?.getD undef := by
  by_cases hex : ∃ (j : Nat) (oj : Oper), ops[j]? = some oj ∧ oj.dst = some t
  · obtain ⟨j, oj, hj, hjd⟩ := hex
    have h1 := hd t ht j oj hj hjd
    unfold known at h1
    rw [hn j oj hj hjd] at h1
    rw [putAll_at ops.toList vals a0 j oj t (by simpa using hlen) (by simpa using hj) hjd (hF.room j oj t hj hjd) (fun k ok hk hkd => hF.unlike j oj t hj hjd k ok (by simpa using hk) hkd)]
    rw [Array.getD_eq_getD_getElem?] at h1
    simpa using h1
  · have hno : ∀ (j : Nat) (oj : Oper), ops[j]? = some oj → oj.dst ≠ some t := fun j oj hj hjd => hex ⟨j, oj, hj, hjd⟩
    have h1 := hs t hno
    rw [putAll_other ops.toList vals a0 t (fun o2 ho2 => by
      obtain ⟨j, hj, hjo⟩ := List.mem_iff_getElem.1 ho2
      exact hno j o2 (by rw [← Array.getElem?_toList, List.getElem?_eq_getElem hj, hjo]))]
    simpa [Array.getD_eq_getD_getElem?] using h1
/-- an operation that looks at no new memory is asked in the frame that stands behind the statement -/
theorem obl_det {spec : Spec} {vals : List Value} {a0 : Act} {w0 : World} (hF : Flows ops a0.tmps.size) (hlen : ops.size = vals.length) (hns : Region.noSelect ops = true) {i : Nat} {o : Oper} (ho : ops[i]? = some o)
    (hn : newsOf ops spec o = [])
    (h : ∀ w, Below w0.heap.size w0 w → if Region.wanted o (yielded ops (putAll ops.toList vals a0).tmps) then Grows P o (putAll ops.toList vals a0) w (known spec vals i) else known spec vals i undef w) :
    Obl P ops (known spec vals) a0 w0 i o := by
  intro a w hb hs hd
  have heq := fun t ht => look_same hF hlen hs hd t ht (fun j oj hj hjd => newsOf_nil hn t ht j oj hj hjd)
  have h2 := h w hb
  unfold Grows at *
  rw [← same_op (Region.noSelect_spec hns i o · · ho) heq, ← same_wanted heq] at h2
  exact h2
/-- an operation that looks at one slot of new memory: whatever it holds that is known to be good -/
theorem obl_one {spec : Spec} {vals : List Value} {a0 : Act} {w0 : World} (hF : Flows ops a0.tmps.size) (hlen : ops.size = vals.length) (hns : Region.noSelect ops = true) {i : Nat} {o : Oper} (ho : ops[i]? = some o)
    (k : Nat) (hn : newsOf ops spec o = [k]) (t : Tmp) (S : Value → World → Prop) (hS : spec.getD k none = some S) (hk : (ops[k]?).bind (·.dst) = some t)
    (h : ∀ w x, Below w0.heap.size w0 w → S x w → if Region.wanted o (yielded ops ((putAll ops.toList vals a0).put (some t) x).tmps) then Grows P o ((putAll ops.toList vals a0).put (some t) x) w (known spec vals i) else known spec vals i undef w) :
    Obl P ops (known spec vals) a0 w0 i o := by
  intro a w hb hs hd
  obtain ⟨ok, hok, hkd⟩ := Option.bind_eq_some_iff.1 hk
  have hmem : k ∈ newsOf ops spec o := by rw [hn]; simp
  have htl : t ∈ o.looksAt ops := by
    unfold newsOf at hmem
    rw [List.mem_filter] at hmem
    have := hmem.2
    rw [hk] at this
    simp only [Bool.and_eq_true, List.contains_iff_mem] at this
    exact this.2
  have hx := hd t htl k ok hok hkd
  have hx' : S (a.tmps.getD t undef) w := by unfold known at hx; rw [hS] at hx; exact hx
  have heq : ∀ u ∈ o.looksAt ops, a.tmps[u]?.getD undef = ((putAll ops.toList vals a0).put (some t) (a.tmps.getD t undef)).tmps[u]?.getD undef := fun u hu => by
    by_cases hut : u = t
    · subst hut
      have hroom := hF.room k ok u hok hkd
      simp only [Act.put]
      rw [Array.getElem?_setIfInBounds_self_of_lt (by rw [size_putAll]; exact hroom)]
      simp [Array.getD_eq_getD_getElem?]
    · have h1 := look_same hF hlen hs hd u hu (fun j oj hj hjd => by
        rcases newsOf_one hn u hu j oj hj hjd with h0 | h0
        · exact h0
        · subst h0
          rw [hok] at hj
          obtain rfl : ok = oj := by simpa using hj
          exact absurd (Option.some.inj (hjd.symm.trans hkd)) hut)
      rw [h1]
      simp only [Act.put, Array.getElem?_setIfInBounds_ne (Ne.symm hut)]
  have h2 := h w _ hb hx'
  unfold Grows at *
  rw [← same_op (Region.noSelect_spec hns i o · · ho) heq, ← same_wanted heq] at h2
  exact h2
def oblAll (P : Program) (ops : Array Oper) (σ : Nat → Value → World → Prop) (a0 : Act) (w0 : World) : List Oper → Nat → Prop
  | [], _ => True
  | o :: l, i => (ops[i]? = some o → Obl P ops σ a0 w0 i o) ∧ oblAll P ops σ a0 w0 l (i + 1)
theorem oblAll_use {σ : Nat → Value → World → Prop} {a0 : Act} {w0 : World} : ∀ (l : List Oper) (k : Nat), oblAll P ops σ a0 w0 l k → ∀ (i : Nat) (o : Oper), l[i]? = some o → (ops[k + i]? = some o → Obl P ops σ a0 w0 (k + i) o)
  | [], _, _, i, o, h => by simp at h
  | x :: l, k, ha, 0, o, h => by
    obtain rfl : x = o := by simpa using h
    exact ha.1
  | x :: l, k, ha, i + 1, o, h => by
    have := oblAll_use l (k + 1) ha.2 i o (by simpa using h)
    rwa [show k + 1 + i = k + (i + 1) by omega] at this
def stableS : Spec → Prop
  | [] => True
  | none :: l => stableS l
  | some S :: l => (∀ v w w', S v w → Below w.heap.size w w' → S v w') ∧ stableS l
theorem stable_use : ∀ (spec : Spec), stableS spec → ∀ i S, spec.getD i none = some S → ∀ v w w', S v w → Below w.heap.size w w' → S v w'
  | [], _, i, S, h => by simp at h
  | none :: l, hs, 0, S, h => by simp at h
  | none :: l, hs, i + 1, S, h => stable_use l hs i S (by simpa using h)
  | some T :: l, hs, 0, S, h => by
    obtain rfl : T = S := by simpa using h
    exact hs.1
  | some T :: l, hs, i + 1, S, h => stable_use l hs.2 i S (by simpa using h)
def bareB : List Oper → Spec → Bool
  | _ :: l, none :: sp => bareB l sp
  | o :: l, some _ :: sp => o.dst.isSome && bareB l sp
  | _, _ => true
theorem bare_use : ∀ (l : List Oper) (spec : Spec), bareB l spec = true → ∀ (i : Nat) (o : Oper), l[i]? = some o → o.dst = none → spec.getD i none = none
  | [], _, _, i, o, h, _ => by simp at h
  | _ :: _, [], _, i, o, _, _ => by simp
  | x :: l, none :: sp, hb, 0, o, h, _ => by simp
  | x :: l, none :: sp, hb, i + 1, o, h, hd => by
    have := bare_use l sp hb i o (by simpa using h) hd
    simpa using this
  | x :: l, some S :: sp, hb, 0, o, h, hd => by
    obtain rfl : x = o := by simpa using h
    simp [bareB, hd] at hb
  | x :: l, some S :: sp, hb, i + 1, o, h, hd => by
    simp only [bareB, Bool.and_eq_true] at hb
    have := bare_use l sp hb.2 i o (by simpa using h) hd
    simpa using this
/-- THE LAW -/
theorem wp_region_frame {id : Nat} {l : List Oper} {spec : Spec} {vals : List Value} {a0 : Act} {w0 : World} {Q : Exit → Act → World → Prop} (hm : P.follows .mixedOrders = true) (hB : flowB l.toArray a0.tmps.size = true)
    (hlen : l.length = vals.length) (hbare : bareB l spec = true) (hst : stableS spec)
    (hobl : Flows l.toArray a0.tmps.size → oblAll P l.toArray (known spec vals) a0 w0 l 0)
    (hQ : ∀ w, Below w0.heap.size w0 w → each spec vals w (fun vs => Q .normal (putAll l vs a0) w)) : (Code.region id l.toArray true).wp P Q a0 w0 := by
  have hF := flows_of hB
  refine wp_region_flow hm hB (σ := known spec vals) ?_ (fun i o ho => ?_) ?_
  · intro j v w w' _ hk hb
    unfold known at *
    cases hs : spec.getD j none with
    | none => rw [hs] at hk; exact hk
    | some S => rw [hs] at hk; exact stable_use spec hst j S hs v w w' hk hb
  · have := oblAll_use (ops := l.toArray) l 0 (hobl hF) i o (by simpa using ho)
    rw [Nat.zero_add] at this
    exact this ho
  · intro a w hb hsz hdf hsame hk
    obtain ⟨vs, hvs⟩ : ∃ vs : List Value, vs = (List.range l.length).map fun i => match (l[i]?).bind (·.dst) with | some d => a.tmps.getD d undef | none => vals.getD i undef := ⟨_, rfl⟩
    have hvl : vs.length = l.length := by simp [hvs]
    have hat : ∀ i, i < l.length → vs.getD i undef = match (l[i]?).bind (·.dst) with | some d => a.tmps.getD d undef | none => vals.getD i undef := fun i hi => by
      rw [hvs, List.getD, List.getElem?_map, List.getElem?_range hi]
      rfl
    have ha : a = putAll l vs a0 := by
      have h1 : a.tmps = (putAll l vs a0).tmps := by
        apply Array.ext_getElem?
        intro t
        by_cases hex : ∃ (j : Nat) (oj : Oper), l.toArray[j]? = some oj ∧ oj.dst = some t
        · obtain ⟨j, oj, hj, hjd⟩ := hex
          have hj' : l[j]? = some oj := by simpa using hj
          have hjl : j < l.length := (List.getElem?_eq_some_iff.1 hj').1
          have hroom := hF.room j oj t hj hjd
          rw [putAll_at l vs a0 j oj t (by omega) hj' hjd hroom (fun k ok hk hkd => hF.unlike j oj t hj hjd k ok (by simpa using hk) hkd), hat j hjl]
          simp only [hj', Option.bind_some, hjd, Array.getD_eq_getD_getElem?]
          rw [Array.getElem?_eq_getElem (by rw [hsz]; exact hroom)]
          rfl
        · have hno : ∀ (j : Nat) (oj : Oper), l.toArray[j]? = some oj → oj.dst ≠ some t := fun j oj hj hjd => hex ⟨j, oj, hj, hjd⟩
          rw [hsame t hno, putAll_other l vs a0 t (fun o2 ho2 => by
            obtain ⟨j, hj, hjo⟩ := List.mem_iff_getElem.1 ho2
            exact hno j o2 (by simp [List.getElem?_eq_getElem hj, hjo]))]
      have h2 : a.defers = (putAll l vs a0).defers := by rw [defers_putAll, hdf]
      cases a
      cases hp : putAll l vs a0
      rw [hp] at h1 h2
      simp only at h1 h2
      subst h1 h2
      rfl
    rw [ha]
    refine each_use spec vals vs w _ (hQ w hb) (by omega) fun i hi => ?_
    have hil : i < l.length := by omega
    rw [hat i hil]
    cases hd : (l[i]).dst with
    | none =>
      simp only [List.getElem?_eq_getElem hil, Option.bind_some, hd]
      unfold known
      rw [bare_use l spec hbare i l[i] (List.getElem?_eq_getElem hil) hd]
    | some d =>
      simp only [List.getElem?_eq_getElem hil, Option.bind_some, hd]
      exact hk i l[i] d (by simp [hil]) hd
end
end Go.Proofs.Ytncooadaeifekaa
