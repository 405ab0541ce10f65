/- What single operations owe in a statement that draws its order: those that only reckon, loads of whole arrays, calls by their contracts, new bytes. -/
import Derived.Test.YtncooadaeifekaaG2
import Derived.Test.YtncooadaeifekaaK3
namespace Go.Proofs.Ytncooadaeifekaa
open Go.RowKit
section
variable {P : Program} {o : Oper} {a : Act} {w : World} {spec : Spec} {vals : List Value} {i : Nat}
theorem known_val {v : Value} (hs : spec.getD i none = none) (hv : v = vals.getD i undef) : known spec vals i v w := by
  unfold known; rw [hs]; exact hv
theorem known_new {v : Value} (S : Value → World → Prop) (hs : spec.getD i none = some S) (hv : S v w) : known spec vals i v w := by
  unfold known; rw [hs]; exact hv
theorem grows_det (v : Value) (h : (execOp a.eval o).run P w = .ok (.value v) w) (hs : spec.getD i none = none) (hv : v = vals.getD i undef) : Grows P o a w (known spec vals i) := by
  unfold Grows; rw [h]; exact ⟨Below.refl _ _, known_val hs hv⟩
theorem grows_new (v : Value) (w' : World) (h : (execOp a.eval o).run P w = .ok (.value v) w') (hb : Below w.heap.size w w') (S : Value → World → Prop) (hs : spec.getD i none = some S) (hv : S v w') : Grows P o a w (known spec vals i) := by
  unfold Grows; rw [h]; exact ⟨hb, known_new S hs hv⟩
theorem grows_skip (w' : World) (h : (execOp a.eval o).run P w = .ok .skip w') (hb : Below w.heap.size w w') (hs : spec.getD i none = none) (hv : undef = vals.getD i undef) : Grows P o a w (known spec vals i) := by
  unfold Grows; rw [h]; exact ⟨hb, known_val hs hv⟩
theorem grows_call (f : FuncId) (args : Array Value) (v : Value) (h : (execOp a.eval o).run P w = .ok (.enter f args) w) (hc : Calls P f args w fun e w' => e = .returned v ∧ Below w.heap.size w w') (hs : spec.getD i none = none) (hv : v = vals.getD i undef) :
    Grows P o a w (known spec vals i) := by
  unfold Grows; rw [h]; exact ⟨Below.refl _ _, hc.mono fun e w' ⟨he, hb⟩ => ⟨v, he, hb, known_val hs hv⟩⟩
theorem grows_row (t : TypeId) (x : Operand) (ho : o.op = .load t x) (g : Nat) (hx : a.eval x = .pointer (some ⟨g, 0, none⟩)) (T : TypeId) (cs : Array Value) (fr : Nat × Nat) (d : TypeDesc) (hg : w.heap[g]? = some (.cells cs T fr))
    (hu : P.underlying t = some d) (hd : (match d with | .struct _ | .array _ _ => true | _ => false) = true) (hi : (P.info? t).map (·.size) = some cs.size) (hs : spec.getD i none = none) (hv : .agg cs = vals.getD i undef) : Grows P o a w (known spec vals i) := by
  refine grows_det (.agg cs) ?_ hs hv
  unfold execOp
  simp only [ho, hx, Instr.loadAt, Instr.sureAddr, Sem.run_bind, Sem.run_pure, Result.andThen_ok, run_loadVar_row w g T t cs fr d hg hu hd hi]
end
/-- the end of a function behind such a statement -/
theorem ret_of {P : Program} {fn : Func} {R : Ending → World → Prop} {F : Act} {w : World} (t : Tmp) (h : fn.results = #[.tmp t]) (hd : F.defers = []) (v : Value) (hv : F.tmps.getD t undef = v) (hR : R (.returned v) w) : bodyPost P fn R .ret F w :=
  bodyPost_ret (v := v) (by rw [results_tmp h, hv]) hd hR
/-- a slice of just these bytes -/
def IsBytes (l : List Nat) (v : Value) (w : World) : Prop := ∃ a cap, v = .slice a l.length cap ∧ HasB w a l
theorem isBytes_stable (l : List Nat) (v : Value) (w w' : World) (h : IsBytes l v w) (hb : Below w.heap.size w w') : IsBytes l v w' := by
  obtain ⟨a, cap, hv, hh⟩ := h
  exact ⟨a, cap, hv, hh.below hb⟩
theorem isBytes_one (w : World) (c : Nat) (hc : c < 256) : IsBytes [c] (.slice (some ⟨w.heap.size, 0, none⟩) 1 1) (w.alloc (.cells #[.int .u8 c] 5)) := by
  refine ⟨_, _, rfl, by simpa using hc, .inr ⟨w.heap.size, 0, rfl, fun i hi => ?_⟩⟩
  rw [cell_of_row _ _ _ _ _ _ (heap_alloc_new w _)]
  have : i = 0 := by simpa using hi
  subst this
  simp [nth]
end Go.Proofs.Ytncooadaeifekaa
