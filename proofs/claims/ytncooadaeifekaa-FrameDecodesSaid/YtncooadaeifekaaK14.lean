/- Helpers for the walks: what single operations of a drawn statement yield; a new variable in it. No condition but what each states. -/
import Derived.Test.YtncooadaeifekaaK12
import Derived.Test.YtncooadaeifekaaC9
namespace Go.Proofs.Ytncooadaeifekaa
open Go.RowKit
theorem op_neq_i {o : Oper} {F : Act} {w : World} {t u : TypeId} (x y : Operand) (ho : o.op = .binOp .neq t x y u) (k : IntKind) (a b : Int) (hx : F.eval x = .int k a) (hy : F.eval y = .int k b) (r : Bool) (h : (a != b) = r) :
    (execOp F.eval o).run Try.prog w = .ok (.value (.bool r)) w := by
  subst h
  unfold execOp
  simp only [ho, hx, hy]
  simp [go_sem, eqGuard, bne]
theorem op_eql_i {o : Oper} {F : Act} {w : World} {t u : TypeId} (x y : Operand) (ho : o.op = .binOp .eql t x y u) (k : IntKind) (a b : Int) (hx : F.eval x = .int k a) (hy : F.eval y = .int k b) (r : Bool) (h : (a == b) = r) :
    (execOp F.eval o).run Try.prog w = .ok (.value (.bool r)) w := by
  subst h
  unfold execOp
  simp only [ho, hx, hy]
  simp [go_sem, eqGuard]
theorem op_conv_u32 {o : Oper} {F : Act} {w : World} (x : Operand) (ho : o.op = .convert 23 3 x) (C : Nat) (hx : F.eval x = .int .u32 C) (hC : C < 4294967296) :
    (execOp F.eval o).run Try.prog w = .ok (.value (.int .i64 C)) w := by
  unfold execOp
  simp only [ho, hx]
  simp [go_sem]
  rw [IntKind.wrap_i64]; omega
theorem op_conv_u8 {o : Oper} {F : Act} {w : World} (x : Operand) (ho : o.op = .convert 5 3 x) (C : Nat) (hx : F.eval x = .int .u8 C) (hC : C < 256) :
    (execOp F.eval o).run Try.prog w = .ok (.value (.int .i64 C)) w := by
  unfold execOp
  simp only [ho, hx]
  simp [go_sem]
  rw [IntKind.wrap_i64]; omega
theorem op_load_u8 {o : Oper} {F : Act} {w : World} (x : Operand) (ho : o.op = .load 5 x) (p : Addr) (hx : F.eval x = .pointer (some p)) (v : Value) (hc : w.cell? p = some v) :
    (execOp F.eval o).run Try.prog w = .ok (.value v) w := by
  unfold execOp
  simp only [ho, hx]
  simp [go_sem, hc]
/-- a new variable, its zero value in it -/
def ptF (N : Nat) : Value := .pointer (some ⟨N, 0, none⟩)
def rowF (B : Nat) (z : Array Value) (T : TypeId) (N : Nat) (w : World) : Prop := B ≤ N ∧ N < w.heap.size ∧ w.heap[N]? = some (.cells z T (0, 0))
theorem rowF_stable (B : Nat) (z : Array Value) (T : TypeId) (N : Nat) (w w' : World) (h : rowF B z T N w) (hb : Below w.heap.size w w') : rowF B z T N w' := ⟨h.1, Nat.lt_of_lt_of_le h.2.1 hb.size, below_blk hb h.2.2⟩
theorem grows_alloc {P : Program} {o : Oper} {a : Act} {w : World} {spec : Spec} {vals : List Value} {i : Nat} (T : TypeId) (ho : o.op = .alloc T) (z : Array Value) (hz : (P.info? T).bind (fun i => i.zero.map (·.cells)) = some z) (B : Nat) (hB : B ≤ w.heap.size) (hs : spec.getD i none = some (Img ptF (rowF B z T))) :
    Grows P o a w (known spec vals i) := by
  refine grows_new (ptF w.heap.size) (w.alloc (.cells z T)) ?_ ((Below.refl _ _).alloc (Nat.le_refl _) _) _ hs (img_mk _ ⟨hB, by simp, heap_alloc_new w _⟩)
  unfold execOp
  cases hi : P.info? T with
  | none => simp [hi] at hz
  | some i =>
    cases hzz : i.zero with
    | none => simp [hi, hzz] at hz
    | some zz =>
      have hzc : zz.cells = z := by simpa [hi, hzz] using hz
      simp [ho, Instr.alloc, zeroValue, typeInfo, hi, hzz, newVar, newRow, hzc, ptF]
theorem readN (n : Nat) (a : Option Addr) (l : List Nat) (hl0 : l.length = n) (c : Nat) (V : Nat) (hV : M.leV l = V) (w : World) (hl : HasB w a l) (hn : n ≤ 7) :
    Calls Try.prog 57 #[.slice a n c] w fun e w' => e = .returned (.int .i64 V) ∧ Below w.heap.size w w' := by
  subst hl0 hV; exact read_calls a l c w hl hn
theorem rsumC (n : Nat) (a : Option Addr) (l : List Nat) (hl0 : l.length = n) (cap : Nat) (C : Nat) (hC : M.crc l = C) (w : World) (h : HasB w a l) (hn : n ≤ 1000000) :
    Calls Try.prog 34 #[.slice a n cap] w fun e w' => e = .returned (.int .u32 C) ∧ Below w.heap.size w w' := by
  subst hl0 hC; exact rsum_calls a l cap w h hn
/-- a part of bytes that lie in a row -/
theorem hasB_part {w : World} {N : Nat} {s : List Nat} {t : TypeId} (h : ∀ c ∈ s, c < 256) (hr : w.heap[N]? = some (.cells (sct s) t (0, 0))) (a n : Nat) : HasB w (some ⟨N, a, none⟩) ((s.drop a).take n) := by
  refine ⟨fun c hc => h c (List.mem_of_mem_drop (List.mem_of_mem_take hc)), .inr ⟨N, a, rfl, fun i hi => ?_⟩⟩
  have hi2 : i < n ∧ a + i < s.length := by simp at hi; omega
  rw [cell_of_row _ _ _ _ _ _ hr]
  have := u8s_at s (a + i) hi2.2
  have e : nth ((s.drop a).take n) i = nth s (a + i) := by simp [nth, hi2.1]
  rw [e]
  simpa [sct] using this
theorem frm_setb (k z o e s : Int) (b : List Nat) (i v : Nat) : (frm ⟨k, z, o, e, s, b⟩).setIfInBounds (5 + i) (.int .u8 v) = frm ⟨k, z, o, e, s, b.set i v⟩ := by
  apply Array.ext'
  rw [show 5 + i = i + 5 by omega]
  simp [frm, u8s, List.map_set]
theorem zero42 : (Try.prog.info? 42).bind (fun i => i.zero.map (·.cells)) = some (frm M.Fr.zero) := by kernel_rfl
theorem build_zero42 (w : World) : (Instr.build 42 #[]).run Try.prog w = .ok (.agg (frm M.Fr.zero)) w := by kernel_rfl
theorem ty42' (f : M.Fr) (h : f.ok) : TyRow Try.prog 42 (frm f).size := by rw [frm_size f h]; unfold TyRow; kernel_rfl
end Go.Proofs.Ytncooadaeifekaa
