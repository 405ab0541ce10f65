/- Helpers for the walks: a local variable of several cells that is made and filled, a parameter that is laid into a variable: the world behind them under a name of its own. No condition but what each states. -/
import Derived.Test.YtncooadaeifekaaK2
import Derived.Deep.Cut
namespace Go.Proofs.Ytncooadaeifekaa
open Go.RowKit
/-- a type's row in the table: so many cells, its zero value too -/
def TyRow (P : Program) (t : TypeId) (n : Nat) : Prop := (P.info? t).map (fun i => (i.zero.map (·.cells.size), i.size)) = some (some n, n)
theorem TyRow.info {P : Program} {t : TypeId} {n : Nat} (h : TyRow P t n) : ∃ i z, P.info? t = some i ∧ i.zero = some z ∧ z.cells.size = n ∧ i.size = n := by
  unfold TyRow at h
  cases hi : P.info? t with
  | none => simp [hi] at h
  | some i =>
    cases hz : i.zero with
    | none => simp [hi, hz] at h
    | some z => simp [hi, hz] at h; exact ⟨i, z, rfl, hz, h.1, h.2⟩
theorem TyRow.size {P : Program} {t : TypeId} {n : Nat} (h : TyRow P t n) : (P.info? t).map (·.size) = some n := by
  obtain ⟨i, z, hi, _, _, hs⟩ := h.info
  rw [hi]; simp [hs]
section
variable {P : Program} {ops : Array Oper} {rest : List Oper} {a : Act} {w : World} {Q : Exit → Act → World → Prop}
/-- 'x := v' of an array or struct: a new variable, and what it holds -/
theorem wpList_local {o1 o2 : Oper} (d : Tmp) (hd : o1.dst = some d) (hg1 : o1.guard = none) (hg2 : o2.guard = none) (hd2 : o2.dst = none) (t : TypeId) (h1 : o1.op = .alloc t) (y : Operand) (h2 : o2.op = .store t (.tmp d) y)
    (cs : Array Value) (hy : (a.put (some d) (.pointer (some ⟨w.heap.size, 0, none⟩))).eval y = .agg cs) (hroom : d < a.tmps.size) (ht : TyRow P t cs.size) (hone : cs.all (·.oneCell') = true)
    (h : ∀ (W : World) (N : Nat), w.heap.size ≤ N → N < W.heap.size → W.heap[N]? = some (.cells cs t (0, 0)) → Below w.heap.size w W → wpList P ops Q rest (a.put (some d) (.pointer (some ⟨N, 0, none⟩))) W) :
    wpList P ops Q (o1 :: o2 :: rest) a w := by
  obtain ⟨i, z, hi, hz, hzs, hs⟩ := ht.info
  have hres := h (w.alloc (.cells cs t)) w.heap.size (Nat.le_refl _) (by simp) (heap_alloc_new w _) ((Below.refl _ _).alloc (Nat.le_refl _) _)
  refine wpList_plain hg1 fun K hK => ?_
  unfold Oper.wp execOp
  have hal : (Instr.alloc t true (.tuple #[])).run P w = .ok (.pointer (some ⟨w.heap.size, 0, none⟩)) (w.alloc (.cells z.cells t)) := by
    simp [Instr.alloc, zeroValue, typeInfo, hi, hz, newVar, newRow]
  simp only [h1, Sem.run_bind, hal, Result.andThen_ok]
  show K (a.put o1.dst _) _
  rw [hd]
  refine hK _ _ ?_
  refine wpList_store_new hg2 hd2 t (.tmp d) y h2 t z.cells cs ?_ hy (ht.size) hzs hone hres
  simp [Act.eval, Act.put, hroom]
/-- a parameter that is laid into a variable -/
theorem wpList_boxed {o : Oper} (d : Tmp) (hd : o.dst = some d) (hg : o.guard = none) (t : TypeId) (x : Operand) (ho : o.op = .box t x) (cs : Array Value) (hx : a.eval x = .agg cs)
    (h : ∀ (W : World) (N : Nat), w.heap.size ≤ N → N < W.heap.size → W.heap[N]? = some (.cells cs t (0, 0)) → Below w.heap.size w W → wpList P ops Q rest (a.put (some d) (.pointer (some ⟨N, 0, none⟩))) W) :
    wpList P ops Q (o :: rest) a w := by
  have hres := h (w.alloc (.cells cs t)) w.heap.size (Nat.le_refl _) (by simp) (heap_alloc_new w _) ((Below.refl _ _).alloc (Nat.le_refl _) _)
  refine wpList_plain hg fun K hK => ?_
  unfold Oper.wp execOp
  have hal : (Instr.box t (.agg cs)).run P w = .ok (.pointer (some ⟨w.heap.size, 0, none⟩)) (w.alloc (.cells cs t)) := by
    simp [Instr.box, newVar, newRow, Value.cells]
  simp only [ho, hx, Sem.run_bind, hal, Result.andThen_ok]
  show K (a.put o.dst _) _
  rw [hd]
  exact hK _ _ hres
/-- a variable that is made, its zero value in it -/
theorem wpList_zeroed {o1 : Oper} (d : Tmp) (hd : o1.dst = some d) (hg1 : o1.guard = none) (t : TypeId) (h1 : o1.op = .alloc t) (z : Array Value) (hz : (P.info? t).bind (fun i => i.zero.map (·.cells)) = some z)
    (h : ∀ (W : World) (N : Nat), w.heap.size ≤ N → N < W.heap.size → W.heap[N]? = some (.cells z t (0, 0)) → Below w.heap.size w W → wpList P ops Q rest (a.put (some d) (.pointer (some ⟨N, 0, none⟩))) W) :
    wpList P ops Q (o1 :: rest) a w := by
  have hres := h (w.alloc (.cells z t)) w.heap.size (Nat.le_refl _) (by simp) (heap_alloc_new w _) ((Below.refl _ _).alloc (Nat.le_refl _) _)
  refine wpList_plain hg1 fun K hK => ?_
  unfold Oper.wp execOp
  cases hi : P.info? t with
  | none => simp [hi] at hz
  | some i =>
    cases hzz : i.zero with
    | none => simp [hi, hzz] at hz
    | some zz =>
      have hzc : zz.cells = z := by simpa [hi, hzz] using hz
      have hal : (Instr.alloc t true (.tuple #[])).run P w = .ok (.pointer (some ⟨w.heap.size, 0, none⟩)) (w.alloc (.cells z t)) := by
        simp [Instr.alloc, zeroValue, typeInfo, hi, hzz, newVar, newRow, hzc]
      simp only [h1, Sem.run_bind, hal, Result.andThen_ok]
      show K (a.put o1.dst _) _
      rw [hd]
      exact hK _ _ hres
/-- an empty literal of bytes, under a name of its own -/
theorem wpList_empty {o : Oper} (d : Tmp) (hd : o.dst = some d) (hg : o.guard = none) (ho : o.op = .buildSlice 28 0 #[])
    (h : ∀ (W : World) (v : Value), OwnB W w.heap.size v [] → Below w.heap.size w W → wpList Try.prog ops Q rest (a.put (some d) v) W) :
    wpList Try.prog ops Q (o :: rest) a w := by
  have hres := h (w.alloc (.cells #[] 5)) _ (ownB_new w w.heap.size (Nat.le_refl _)) ((Below.refl _ _).alloc (Nat.le_refl _) _)
  refine wpList_plain hg fun K hK => ?_
  unfold Oper.wp execOp
  have hb : (Instr.buildSlice 28 0 #[]).run Try.prog w = .ok (.slice (some ⟨w.heap.size, 0, none⟩) 0 0) (w.alloc (.cells #[] 5)) := by
    obtain ⟨i0, hi, hz0, hz1, hz2⟩ := info_parts info5
    simp [Instr.buildSlice, run_underlying Try.underlying28, sizeOf, typeInfo, hi, Instr.fill, newRow, Array.range_zero']
  simp only [ho, Sem.run_bind, List.map_toArray, List.map_nil, hb, Result.andThen_ok]
  show K (a.put o.dst _) _
  rw [hd]
  exact hK _ _ hres
/-- 'append' onto bytes of the call's own -/
theorem wpList_append_at {o : Oper} (d : Tmp) (hd : o.dst = some d) (hgd : o.guard = none) (s x : Operand)
    (ho : o.op = .call { callee := .builtin .append, args := #[s, x], argTypes := #[28, 28] }) (B : Nat) (v : Value) (l1 l2 l3 : List Nat) (h3 : l1 ++ l2 = l3) (hs : a.eval s = v) (hown : OwnB w B v l1)
    (ad : Option Addr) (c : Nat) (hx : a.eval x = .slice ad l2.length c) (h2 : HasB w ad l2) (hn : l3.length ≤ 1000000) (hB : B ≤ w.heap.size)
    (h : ∀ av cv w', OwnB w' B (.slice av l3.length cv) l3 → l3.length ≤ cv → HasB w' av l3 → Below B w w' → wpList Try.prog ops Q rest (a.put (some d) (.slice av l3.length cv)) w') : wpList Try.prog ops Q (o :: rest) a w := by
  subst h3
  refine wpList_append_bytes hgd s x ho B v l1 l2 hs hown ad c hx h2 (by simpa using hn) hB fun v' w' h3 h4 => ?_
  obtain ⟨av, cv, rfl, hc, hb⟩ := h3.slice
  rw [hd]
  exact h av cv w' h3 hc hb (hown.below h4 hB)
theorem below_blkB {w w' : World} {B b : Nat} {o : Obj} (h : Below B w w') (hb : b < B) (ho : w.heap[b]? = some o) : w'.heap[b]? = some o := by
  rw [h.block b hb]; exact ho
theorem below_nextB {w w1 w2 : World} {B : Nat} (h : Below w.heap.size w w1) (h2 : Below B w1 w2) (hB : w.heap.size ≤ B) : Below w.heap.size w w2 := h.trans (h2.mono hB)
end
theorem ty25 : TyRow Try.prog 25 tbl.size := by rw [tbl_size]; unfold TyRow; kernel_rfl
end Go.Proofs.Ytncooadaeifekaa
