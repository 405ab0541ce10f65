/- Helpers for the walks: bytes that the call made and stores into one by one. No condition but what each states. -/
import Derived.Test.YtncooadaeifekaaK3
namespace Go.Proofs.Ytncooadaeifekaa
open Go.RowKit
/-- block N holds just these bytes -/
def RowB (w : World) (N : Nat) (l : List Nat) : Prop := w.heap[N]? = some (.cells (u8s l).toArray 5 (0, 0))
theorem RowB.has {w : World} {N : Nat} {l : List Nat} (h : RowB w N l) (hl : ∀ c ∈ l, c < 256) : HasB w (some ⟨N, 0, none⟩) l := by
  refine ⟨hl, .inr ⟨N, 0, rfl, fun i hi => ?_⟩⟩
  rw [cell_of_row _ _ _ _ _ _ h]
  have := u8s_at l i hi
  simpa using this
theorem RowB.cell {w : World} {N : Nat} {l : List Nat} (h : RowB w N l) (i : Nat) (hi : i < l.length) : w.cell? ⟨N, i, none⟩ = some (.int .u8 (nth l i)) := by
  rw [cell_of_row _ _ _ _ _ _ h]
  have := u8s_at l i hi
  simpa using this
theorem RowB.free {w : World} {N : Nat} {l : List Nat} (h : RowB w N l) (i : Nat) : w.frozen? ⟨N, i, none⟩ = false := frozen_of_row w N i _ 5 h
theorem RowB.set {w : World} {N : Nat} {l : List Nat} (h : RowB w N l) (i v : Nat) : RowB (w.setCell ⟨N, i, none⟩ (.int .u8 v)) N (l.set i v) := by
  unfold RowB
  rw [heap_setCell_same w N i _ 5 _ h]
  congr 2
  apply Array.ext'
  simp [u8s, List.map_set]
theorem RowB.below {w w' : World} {N : Nat} {l : List Nat} (h : RowB w N l) (hb : Below w.heap.size w w') : RowB w' N l := below_blk hb h
theorem RowB.drew {w : World} {N : Nat} {l : List Nat} (h : RowB w N l) : RowB w.drew N l := h
theorem nth_set (l : List Nat) (i j v : Nat) (hi : i < l.length) : nth (l.set i v) j = if j = i then v else nth l j := by
  unfold nth
  by_cases h : j = i
  · subst h; simp [hi]
  · rw [if_neg h]; simp only [List.getD]; rw [List.getElem?_set_ne (by omega)]
theorem nth_eq (l m : List Nat) (hl : l.length = m.length) (h : ∀ i, i < l.length → nth l i = nth m i) : l = m := by
  apply List.ext_getElem hl
  intro i h1 h2
  have := h i h1
  simpa [nth, h1, h2] using this
theorem set_lt {l : List Nat} (h : ∀ c ∈ l, c < 256) (i v : Nat) (hv : v < 256) : ∀ c ∈ l.set i v, c < 256 := fun c hc => by
  rcases List.mem_or_eq_of_mem_set hc with h1 | h1
  · exact h c h1
  · omega
theorem info5' : ∃ i, Try.prog.info? 5 = some i ∧ i.zero = some (.int .u8 0) ∧ i.size = 1 ∧ i.bytes = 1 := by
  obtain ⟨i0, hi, hz0, hz1, hz2⟩ := info_parts info5
  exact ⟨i0, hi, hz0, hz1, hz2⟩
theorem run_make_bytes (w : World) (m : Nat) (hm : m ≤ 1000000) : (Instr.makeSlice 28 (.int .i64 m) (.int .i64 m)).run Try.prog w = .ok (.slice (some ⟨w.heap.size, 0, none⟩) m m) (w.alloc (.cells (u8s (List.replicate m 0)).toArray 5)) := by
  obtain ⟨i0, hi, hz0, hz1, hz2⟩ := info5'
  have hr := run_make (P := Try.prog) w 28 5 i0 (.int .u8 0) Try.underlying28 hi hz0 .i64 .i64 m m (by omega) (by omega) (by rw [hz2]; omega) (by omega)
  rw [hr]
  have hcs : madeCells (Value.int .u8 0).cells (m * 1) = (u8s (List.replicate m 0)).toArray := by
    apply Array.ext'
    rw [Nat.mul_one, show (Value.int .u8 0).cells = #[Value.int .u8 0] from rfl, toList_madeCells_one]
    simp [u8s]
  rw [Int.toNat_natCast, hz1, hcs]
theorem wpList_make_bytes {ops : Array Oper} {rest : List Oper} {a : Act} {w : World} {Q : Exit → Act → World → Prop} {o : Oper} (d : Tmp) (hd : o.dst = some d) (hg : o.guard = none) (x : Operand) (ho : o.op = .makeSlice 28 x x) (m : Nat) (hx : a.eval x = .int .i64 m) (hm : m ≤ 1000000)
    (h : ∀ (W : World) (N : Nat), w.heap.size ≤ N → N < W.heap.size → RowB W N (List.replicate m 0) → Below w.heap.size w W → wpList Try.prog ops Q rest (a.put (some d) (.slice (some ⟨N, 0, none⟩) m m)) W) :
    wpList Try.prog ops Q (o :: rest) a w := by
  have hres := h (w.alloc (.cells (u8s (List.replicate m 0)).toArray 5)) w.heap.size (Nat.le_refl _) (by simp) (heap_alloc_new w _) ((Below.refl _ _).alloc (Nat.le_refl _) _)
  refine wpList_plain hg fun K hK => ?_
  unfold Oper.wp execOp
  simp only [ho, hx, Sem.run_bind, run_make_bytes w m hm, Result.andThen_ok]
  show K (a.put o.dst _) _
  rw [hd]
  exact hK _ _ hres
end Go.Proofs.Ytncooadaeifekaa
