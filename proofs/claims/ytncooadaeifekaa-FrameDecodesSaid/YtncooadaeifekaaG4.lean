/- What single operations owe in a statement that draws its order: cuts of slices, new noughts, exclusive or. -/
import Derived.Test.YtncooadaeifekaaG3
import Derived.Test.YtncooadaeifekaaK4
namespace Go.Proofs.Ytncooadaeifekaa
open Go.RowKit
theorem add_zero' (a : Addr) : a.add 0 = a := by simp [Addr.add]
theorem op_slice_to {o : Oper} {F : Act} {w : World} {x y : Operand} (a : Option Addr) (len cap k : Nat) (ho : o.op = .slice 28 x none (some y) none) (hx : F.eval x = .slice a len cap) (hy : F.eval y = .int .i64 k) (hk : k ≤ cap) :
    (execOp F.eval o).run Try.prog w = .ok (.value (.slice a k cap)) w := by
  unfold execOp
  simp only [ho, Option.map_none, Option.map_some, hx, hy]
  have h1 : ((k : Int) ≤ (cap : Int)) := by omega
  have h0 : (0 : Int) ≤ (k : Int) := by omega
  simp [go_sem, h1, add_zero']
theorem op_slice_from {o : Oper} {F : Act} {w : World} {x y : Operand} (a : Option Addr) (len cap k : Nat) (ho : o.op = .slice 28 x (some y) none none) (hx : F.eval x = .slice a len cap) (hy : F.eval y = .int .i64 k) (hk : k ≤ len) :
    (execOp F.eval o).run Try.prog w = .ok (.value (.slice (cutAt a cap k) (len - k) (cap - k))) w := by
  unfold execOp
  simp only [ho, Option.map_none, Option.map_some, hx, hy]
  have h1 : ((k : Int) ≤ (len : Int)) := by omega
  have h0 : (0 : Int) ≤ (k : Int) := by omega
  simp [go_sem, h1, cutAt]
/-- a slice of n bytes, which are these -/
def IsBytesN (n : Nat) (l : List Nat) (v : Value) (w : World) : Prop := ∃ a cap, v = .slice a n cap ∧ HasB w a l
theorem isBytesN_stable (n : Nat) (l : List Nat) (v : Value) (w w' : World) (h : IsBytesN n l v w) (hb : Below w.heap.size w w') : IsBytesN n l v w' := by
  obtain ⟨a, cap, hv, hh⟩ := h
  exact ⟨a, cap, hv, hh.below hb⟩
theorem op_make {o : Oper} {F : Act} {w : World} {x : Operand} (m : Nat) (ho : o.op = .makeSlice 28 x x) (hx : F.eval x = .int .i64 m) (hm : m ≤ 1000000) :
    (execOp F.eval o).run Try.prog w = .ok (.value (.slice (some ⟨w.heap.size, 0, none⟩) m m)) (w.alloc (.cells (u8s (List.replicate m 0)).toArray 5)) := by
  unfold execOp
  simp only [ho, hx, Sem.run_bind, run_make_bytes w m hm, Result.andThen_ok, Sem.run_pure]
theorem isBytesN_zeros (w : World) (m : Nat) : IsBytesN m (List.replicate m 0) (.slice (some ⟨w.heap.size, 0, none⟩) m m) (w.alloc (.cells (u8s (List.replicate m 0)).toArray 5)) :=
  ⟨_, _, rfl, RowB.has (heap_alloc_new w _) (by simp)⟩
theorem op_xor32 {o : Oper} {F : Act} {w : World} {x y : Operand} (a b c : Nat) (ho : o.op = .binOp .xor 23 x y 23) (hx : F.eval x = .int .u32 a) (hy : F.eval y = .int .u32 b) (h : bits .xor .u32 (a : Int) (b : Int) = (c : Int)) :
    (execOp F.eval o).run Try.prog w = .ok (.value (.int .u32 c)) w := by
  unfold execOp
  simp only [ho, hx, hy]
  simp [go_sem, h]
end Go.Proofs.Ytncooadaeifekaa
