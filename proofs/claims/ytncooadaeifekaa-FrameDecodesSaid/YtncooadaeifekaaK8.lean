/- Helpers for the walks: an array of bytes read out of bytes that lie anywhere. No condition but what each states. -/
import Derived.Test.YtncooadaeifekaaK7
namespace Go.Proofs.Ytncooadaeifekaa
open Go.RowKit
theorem run_loadVar_bytes {P : Program} (w : World) (g off : Nat) (s : List Nat) (ty : TypeId) (d : TypeDesc) (hs : HasB w (some ⟨g, off, none⟩) s)
    (hu : P.underlying ty = some d) (hd : (match d with | .struct _ | .array _ _ => true | _ => false) = true) (hi : (P.info? ty).map (·.size) = some s.length) :
    (loadVar ty ⟨g, off, none⟩).run P w = .ok (.agg (sct s)) w := by
  have hl : (loadCells ⟨g, off, none⟩ (u8s s).length).run P w = .ok (u8s s).toArray w :=
    run_loadCells_list (P := P) w ⟨g, off, none⟩ (u8s s) (fun j v hv => by
      have hadd : (⟨g, off, none⟩ : Addr).add j = ⟨g, off + j, none⟩ := by unfold Addr.add; split <;> simp_all
      have hj : j < s.length := by have := (List.getElem?_eq_some_iff.1 hv).1; simpa [u8s] using this
      obtain ⟨b, o, he, hc⟩ := hs.cell (by omega)
      simp only [Option.some.injEq, Addr.mk.injEq] at he
      obtain ⟨rfl, rfl, _⟩ := he
      rw [hadd, hc j hj, ← u8s_at s j hj, hv])
  rw [u8s_length] at hl
  cases hq : P.info? ty with
  | none => simp [hq] at hi
  | some i =>
    have hsz : i.size = s.length := by simpa [hq] using hi
    have hagg : (isAgg ty).run P w = .ok true w := by
      unfold isAgg
      rw [Sem.run_bind, run_underlying hu w]
      cases d <;> simp_all
    simp [loadVar, Sem.run_bind, hagg, sizeOf, typeInfo, hq, hsz, hl, sct]
/-- 'load' of an array of bytes -/
theorem wpList_load_bytes {P : Program} {ops : Array Oper} {rest : List Oper} {o : Oper} {a : Act} {w : World} {Q : Exit → Act → World → Prop} (d : Tmp) (hdst : o.dst = some d) (hgd : o.guard = none) (ty : TypeId) (x : Operand) (ho : o.op = .load ty x)
    (g off : Nat) (hx : a.eval x = .pointer (some ⟨g, off, none⟩)) (s : List Nat) (de : TypeDesc) (hs : HasB w (some ⟨g, off, none⟩) s)
    (hu : P.underlying ty = some de) (hd : (match de with | .struct _ | .array _ _ => true | _ => false) = true) (hi : (P.info? ty).map (·.size) = some s.length)
    (h : wpList P ops Q rest (a.put (some d) (.agg (sct s))) w) : wpList P ops Q (o :: rest) a w := by
  refine wpList_plain hgd fun K hK => ?_
  unfold Oper.wp execOp
  simp only [ho, hx, Instr.loadAt, Instr.sureAddr, Sem.run_bind, Sem.run_pure, Result.andThen_ok, run_loadVar_bytes w g off s ty de hs hu hd hi]
  show K (a.put o.dst _) _
  rw [hdst]
  exact hK _ _ h
end Go.Proofs.Ytncooadaeifekaa
