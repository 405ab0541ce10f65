/- Helpers for the walks: exclusive or of the model's integers, bytes that lie behind an address, the checksum table's cells, memory that only grows. No condition but what each states. -/
import Derived.Test.YtncooadaeifekaaProg
import Derived.WalkKit
import Derived.WalkLawsBesides
import Derived.Deep.QuietTactic
import Derived.BigQuiet
import Derived.Handy
import Derived.Deep.WholeRow
import Derived.Laws.CopyOwn
import Derived.Test.YtncooadaeifekaaM
namespace Go.Proofs.Ytncooadaeifekaa
open Go.RowKit
theorem hid {p : Prop} (h : p) : Hid p := h
theorem bits_xor_nat (k : IntKind) (n : Nat) (hk : k = .u8 ∧ n = 8 ∨ k = .u32 ∧ n = 32) (a b : Nat) (ha : a < 2 ^ n) (hb : b < 2 ^ n) :
    bits .xor k (a : Int) (b : Int) = ((a ^^^ b : Nat) : Int) := by
  have hx : a ^^^ b < 2 ^ n := Nat.xor_lt_two_pow ha hb
  rcases hk with ⟨rfl, rfl⟩ | ⟨rfl, rfl⟩
  · have h1 : (BitVec.ofInt 8 (a : Int)).toNat = a := by rw [BitVec.ofInt_natCast, BitVec.toNat_ofNat]; exact Nat.mod_eq_of_lt ha
    have h2 : (BitVec.ofInt 8 (b : Int)).toNat = b := by rw [BitVec.ofInt_natCast, BitVec.toNat_ofNat]; exact Nat.mod_eq_of_lt hb
    show IntKind.u8.wrap ((BitVec.ofInt 8 (a : Int) ^^^ BitVec.ofInt 8 (b : Int)).toNat : Int) = _
    rw [BitVec.toNat_xor, h1, h2, IntKind.wrap_u8]; omega
  · have h1 : (BitVec.ofInt 32 (a : Int)).toNat = a := by rw [BitVec.ofInt_natCast, BitVec.toNat_ofNat]; exact Nat.mod_eq_of_lt ha
    have h2 : (BitVec.ofInt 32 (b : Int)).toNat = b := by rw [BitVec.ofInt_natCast, BitVec.toNat_ofNat]; exact Nat.mod_eq_of_lt hb
    show IntKind.u32.wrap ((BitVec.ofInt 32 (a : Int) ^^^ BitVec.ofInt 32 (b : Int)).toNat : Int) = _
    rw [BitVec.toNat_xor, h1, h2, IntKind.wrap_u32]; omega
theorem xor8 (a b : Nat) (ha : a < 256) (hb : b < 256) : bits .xor .u8 (a : Int) (b : Int) = ((a ^^^ b : Nat) : Int) := bits_xor_nat .u8 8 (.inl ⟨rfl, rfl⟩) a b ha hb
theorem xor32 (a b : Nat) (ha : a < 4294967296) (hb : b < 4294967296) : bits .xor .u32 (a : Int) (b : Int) = ((a ^^^ b : Nat) : Int) := bits_xor_nat .u32 32 (.inr ⟨rfl, rfl⟩) a b ha hb
theorem xor8_lt (a b : Nat) (ha : a < 256) (hb : b < 256) : a ^^^ b < 256 := Nat.xor_lt_two_pow (n := 8) ha hb
theorem xor32_lt (a b : Nat) (ha : a < 4294967296) (hb : b < 4294967296) : a ^^^ b < 4294967296 := Nat.xor_lt_two_pow (n := 32) ha hb
/-- the list's number at a place -/
def nth (l : List Nat) (i : Nat) : Nat := l.getD i 0
theorem nth_lt (l : List Nat) (h : ∀ c ∈ l, c < 256) (i : Nat) : nth l i < 256 := by
  unfold nth
  by_cases hi : i < l.length
  · rw [List.getD, List.getElem?_eq_getElem hi]; exact h _ (List.getElem_mem hi)
  · rw [List.getD, List.getElem?_eq_none (by omega)]; decide
theorem take_nth (l : List Nat) (k : Nat) (h : k < l.length) : l.take (k + 1) = l.take k ++ [nth l k] := by
  rw [List.take_succ_eq_append_getElem h, nth, List.getD, List.getElem?_eq_getElem h]; rfl
/-- bytes that lie behind an address -/
def HasB (w : World) (a : Option Addr) (l : List Nat) : Prop :=
  (∀ c ∈ l, c < 256) ∧ (l = [] ∨ ∃ b off, a = some ⟨b, off, none⟩ ∧ ∀ i, i < l.length → w.cell? ⟨b, off + i, none⟩ = some (.int .u8 (nth l i)))
theorem HasB.lt {w : World} {a : Option Addr} {l : List Nat} (h : HasB w a l) : ∀ c ∈ l, c < 256 := h.1
theorem HasB.below {w w' : World} {a : Option Addr} {l : List Nat} (h : HasB w a l) (hb : Below w.heap.size w w') : HasB w' a l := by
  refine ⟨h.1, ?_⟩
  rcases h.2 with h0 | ⟨b, off, ha, hc⟩
  · exact .inl h0
  · refine .inr ⟨b, off, ha, fun i hi => ?_⟩
    have h1 := hc i hi
    rw [← h1]
    exact hb.cell (block_lt_of_cell (w := w) (a := ⟨b, off + i, none⟩) h1)
theorem HasB.cell {w : World} {a : Option Addr} {l : List Nat} (h : HasB w a l) (hne : 0 < l.length) :
    ∃ b off, a = some ⟨b, off, none⟩ ∧ ∀ i, i < l.length → w.cell? ⟨b, off + i, none⟩ = some (.int .u8 (nth l i)) := by
  rcases h.2 with h0 | h1
  · subst h0; simp at hne
  · exact h1
/-- the table's cells -/
def tbl : Array Value := (Array.range 256).map fun i => .int .u32 (M.tb i)
theorem tbl_at (i : Nat) (h : i < 256) : tbl[i]? = some (.int .u32 (M.tb i)) := by simp [tbl, h]
theorem tbl_size : tbl.size = 256 := by simp [tbl]
theorem below_blk {w w' : World} (h : Below w.heap.size w w') {b : Nat} {o : Obj} (hb : w.heap[b]? = some o) : w'.heap[b]? = some o := by
  rw [h.block b (lt_of_block hb)]; exact hb
theorem below_next {w w1 w2 : World} (h : Below w.heap.size w w1) (h2 : Below w1.heap.size w1 w2) : Below w.heap.size w w2 := h.trans (h2.mono h.size)
theorem bcell {W w1 : World} (hb : Below W.heap.size W w1) : (∀ b o, b < W.heap.size → w1.cell? ⟨b, o, none⟩ = W.cell? ⟨b, o, none⟩) ∧ (∀ b o, b < W.heap.size → w1.frozen? ⟨b, o, none⟩ = W.frozen? ⟨b, o, none⟩) :=
  ⟨fun b o h => hb.cell (p := ⟨b, o, none⟩) h, fun b o h => hb.frozen (p := ⟨b, o, none⟩) h⟩
theorem tbl_all : tbl.all (·.oneCell') = true := Array.all_eq_true_iff_forall_mem.2 fun v hv => by
  obtain ⟨i, hi, rfl⟩ := Array.mem_iff_getElem.1 hv
  simp [tbl, Value.oneCell']
/-- a whole value into the block that was made last -/
theorem wpList_store_new {P : Program} {ops : Array Oper} {rest : List Oper} {o : Oper} {a : Act} {w0 : World} {Q : Exit → Act → World → Prop} (hgd : o.guard = none) (hd : o.dst = none) (ty : TypeId) (x y : Operand) (ho : o.op = .store ty x y)
    (t : TypeId) (z cs : Array Value) (hx : a.eval x = .pointer (some ⟨w0.heap.size, 0, none⟩)) (hy : a.eval y = .agg cs) (hi : (P.info? ty).map (·.size) = some cs.size) (hz : z.size = cs.size) (h1 : cs.all (·.oneCell') = true)
    (h : wpList P ops Q rest a (w0.alloc (.cells cs t))) : wpList P ops Q (o :: rest) a (w0.alloc (.cells z t)) := by
  refine wpList_store_row hgd ty x y ho w0.heap.size cs hx hy t z (heap_alloc_new w0 _) hi hz h1 ?_
  rw [World.setRow_alloc_new, hd]
  exact h
theorem ret_int {k : IntKind} {a b : Int} (h : a = b) : Ending.returned (.int k a) = .returned (.int k b) := by rw [h]
end Go.Proofs.Ytncooadaeifekaa
