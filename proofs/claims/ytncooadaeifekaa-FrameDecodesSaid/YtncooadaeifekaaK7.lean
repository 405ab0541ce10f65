/- Helpers for the walks: a function's end where its first result lies in memory. No condition but what each states. -/
import Derived.Test.YtncooadaeifekaaC11
import Derived.Laws.ResultCell
namespace Go.Proofs.Ytncooadaeifekaa
open Go.RowKit
theorem ret_cell {P : Program} {fn : Func} {R : Ending → World → Prop} {F : Act} {w : World} (p u : Tmp) (ty : TypeId) (h : fn.results = #[.cell p ty, .tmp u]) (hd : F.defers = []) (g : Nat) (hp : F.tmps.getD p undef = .pointer (some ⟨g, 0, none⟩))
    (T : TypeId) (cs : Array Value) (fr : Nat × Nat) (d : TypeDesc) (hg : w.heap[g]? = some (.cells cs T fr)) (hu : P.underlying ty = some d) (hdd : (match d with | .struct _ | .array _ _ => true | _ => false) = true) (hi : (P.info? ty).map (·.size) = some cs.size)
    (v : Value) (hv : F.tmps.getD u undef = v) (hR : R (.returned (.tuple #[.agg cs, v])) w) : bodyPost P fn R .ret F w := by
  refine bodyPost_ret (v := .tuple #[.agg cs, v]) ?_ hd hR
  rw [results_cell_tmp h, hp, hv]
  simp only [asAddr, Sem.run_pure, Result.andThen_ok, run_loadVar_row w g T ty cs fr d hg hu hdd hi]
/-- a whole array or struct stored into a variable -/
theorem wpList_store_agg {P : Program} {ops : Array Oper} {rest : List Oper} {o : Oper} {a : Act} {w : World} {Q : Exit → Act → World → Prop} (hgd : o.guard = none) (hd : o.dst = none) (ty : TypeId) (x y : Operand) (ho : o.op = .store ty x y)
    (g : Nat) (cs : Array Value) (hx : a.eval x = .pointer (some ⟨g, 0, none⟩)) (hy : a.eval y = .agg cs) (t : TypeId) (old : Array Value) (hg : w.heap[g]? = some (.cells old t (0, 0))) (ht : TyRow P ty cs.size)
    (hold : old.size = cs.size) (h1 : cs.all (·.oneCell') = true)
    (h : ∀ W : World, W.heap[g]? = some (.cells cs t (0, 0)) → Turned (fun k => k = g) w W → wpList P ops Q rest a W) : wpList P ops Q (o :: rest) a w := by
  refine wpList_store_row hgd ty x y ho g cs hx hy t old hg ht.size hold h1 ?_
  rw [hd]
  refine h _ ?_ ⟨rfl, rfl, rfl, by simp [World.setRow], fun k hk hn => ?_⟩
  · simp only [World.setRow, Array.getElem?_modify]
    rw [if_pos trivial, hg]; rfl
  · simp only [World.setRow, Array.getElem?_modify]
    rw [if_neg (fun e => hn e.symm)]
/-- a literal of an array or struct, by what it yields -/
theorem wpList_build_as {P : Program} {ops : Array Oper} {rest : List Oper} {o : Oper} {a : Act} {w : World} {Q : Exit → Act → World → Prop} (d : Tmp) (hd : o.dst = some d) (hgd : o.guard = none) (t : TypeId) (parts : Array (Nat × Operand)) (ho : o.op = .build t parts)
    (cs : Array Value) (hb : ∀ w, (Instr.build t (parts.map fun (i, x) => (i, a.eval x))).run P w = .ok (.agg cs) w)
    (h : wpList P ops Q rest (a.put (some d) (.agg cs)) w) : wpList P ops Q (o :: rest) a w := by
  refine wpList_plain hgd fun K hK => ?_
  unfold Oper.wp execOp
  simp only [ho, Sem.run_bind, hb, Result.andThen_ok]
  show K (a.put o.dst _) _
  rw [hd]
  exact hK _ _ h
theorem build_zero44 (w : World) : (Instr.build 44 #[]).run Try.prog w = .ok (.agg (sct (List.replicate 64 0))) w := by kernel_rfl
theorem build_zero41 (w : World) : (Instr.build 41 #[]).run Try.prog w = .ok (.agg (frm M.Fr.zero)) w := by kernel_rfl
end Go.Proofs.Ytncooadaeifekaa
