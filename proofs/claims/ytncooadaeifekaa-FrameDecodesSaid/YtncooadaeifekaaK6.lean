/- Helpers for the walks: of the world nothing has turned but some named blocks. No condition but what each states. -/
import Derived.Test.YtncooadaeifekaaK5
import Derived.Maps.AppendAt
namespace Go.Proofs.Ytncooadaeifekaa
open Go.RowKit
/-- of what was there nothing has turned but the blocks of S -/
structure Turned (S : Nat → Prop) (w w' : World) : Prop where
  os : w'.os = w.os
  tape : w'.tape = w.tape
  output : w'.output = w.output
  size : w.heap.size ≤ w'.heap.size
  block : ∀ k, k < w.heap.size → ¬ S k → w'.heap[k]? = w.heap[k]?
theorem Turned.refl (S : Nat → Prop) (w : World) : Turned S w w := ⟨rfl, rfl, rfl, Nat.le_refl _, fun _ _ _ => rfl⟩
theorem Turned.mono {S T : Nat → Prop} {w w' : World} (h : Turned S w w') (hT : ∀ k, k < w.heap.size → S k → T k) : Turned T w w' := ⟨h.os, h.tape, h.output, h.size, fun k hk hn => h.block k hk fun hs => hn (hT k hk hs)⟩
theorem Turned.trans {S T : Nat → Prop} {a b c : World} (h : Turned S a b) (k : Turned T b c) (hT : ∀ i, T i → S i ∨ a.heap.size ≤ i) : Turned S a c :=
  ⟨k.os.trans h.os, k.tape.trans h.tape, k.output.trans h.output, Nat.le_trans h.size k.size, fun i hi hn => (k.block i (Nat.lt_of_lt_of_le hi h.size) fun ht => by rcases hT i ht with h1 | h1; exact hn h1; omega).trans (h.block i hi hn)⟩
theorem Turned.ofBelow {S : Nat → Prop} {w w' : World} (h : Below w.heap.size w w') : Turned S w w' := ⟨h.os, h.tape, h.output, h.size, fun k hk _ => h.block k hk⟩
theorem Turned.ofGrown {w w' : World} {row : Option Nat} (h : w.grownBy w' row) : Turned (fun k => row = some k) w w' := ⟨h.os, h.tape, h.output, h.size, fun k hk hn => h.block k hk fun e => hn e.symm⟩
theorem Turned.below {S : Nat → Prop} {w w' : World} (h : Turned S w w') (B : Nat) (hB : B ≤ w.heap.size) (hS : ∀ k, S k → B ≤ k) : Below B w w' :=
  ⟨h.os, h.tape, h.output, h.size, fun k hk => h.block k (by omega) fun hs => by have := hS k hs; omega⟩
theorem Turned.blk {S : Nat → Prop} {w w' : World} (h : Turned S w w') {b : Nat} {o : Obj} (ho : w.heap[b]? = some o) (hb : ¬ S b) : w'.heap[b]? = some o := by
  rw [h.block b (lt_of_block ho) hb]; exact ho
theorem Turned.setCell {S : Nat → Prop} {w w' : World} (h : Turned S w w') {p : Addr} (hp : S p.block ∨ w.heap.size ≤ p.block) (u : Value) : Turned S w (w'.setCell p u) :=
  h.trans (T := fun k => k = p.block) ⟨rfl, rfl, rfl, by simp [World.setCell], fun k _ hn => Below.heap_setCell _ _ _ _ hn⟩ fun i hi => by subst hi; exact hp
theorem Turned.has {S : Nat → Prop} {w w' : World} (h : Turned S w w') {a : Option Addr} {l : List Nat} (hl : HasB w a l) (hS : ∀ p, a = some p → ¬ S p.block) : HasB w' a l := by
  refine ⟨hl.1, ?_⟩
  rcases hl.2 with h0 | ⟨b, off, ha, hc⟩
  · exact .inl h0
  · refine .inr ⟨b, off, ha, fun i hi => ?_⟩
    have h1 := hc i hi
    rw [← h1]
    exact World.cell?_of_block (w := w) (h.block b (block_lt_of_cell (w := w) (a := ⟨b, off + i, none⟩) h1) (hS _ ha))
theorem Turned.own {S : Nat → Prop} {w w' : World} (h : Turned S w w') {B : Nat} {v : Value} {l : List Nat} (ho : OwnB w B v l) (hS : ∀ k, v.ownBlock = some k → ¬ S k) : OwnB w' B v l := by
  refine ⟨?_, ho.2⟩
  obtain ⟨h1, h2⟩ := ho.1
  refine ⟨h1, ?_⟩
  rcases h2 with h2 | ⟨g, cap, cur, hv, hg, hh, r⟩
  · exact .inl h2
  · exact .inr ⟨g, cap, cur, hv, hg, h.blk hh (hS g (by subst hv; rfl)), r⟩
theorem OwnB.ownLt {w : World} {B : Nat} {v : Value} {l : List Nat} (h : OwnB w B v l) : ∀ k, v.ownBlock = some k → B ≤ k ∧ k < w.heap.size := h.1.lt
theorem OwnB.weak {w : World} {B C : Nat} {v : Value} {l : List Nat} (h : OwnB w B v l) (hC : C ≤ B) : OwnB w C v l := by
  refine ⟨?_, h.2⟩
  obtain ⟨h1, h2⟩ := h.1
  refine ⟨h1, ?_⟩
  rcases h2 with h2 | ⟨g, cap, cur, hv, hg, r⟩
  · exact .inl h2
  · exact .inr ⟨g, cap, cur, hv, by omega, r⟩
/-- 'append': where the bytes lie behind it -/
theorem run_append_bytes_loc (w : World) (B : Nat) (v : Value) (l1 l2 : List Nat) (ty : TypeId) (hown : OwnB w B v l1) (a : Option Addr) (c : Nat) (h2 : HasB w a l2) (hn : l1.length + l2.length ≤ 1000000) (hB : B ≤ w.heap.size) :
    ∃ v' w', (Builtin.append_ #[28, 28] ty #[v, .slice a l2.length c]).run Try.prog w = .ok v' w' ∧ OwnB w' B v' (l1 ++ l2) ∧ Turned (fun k => v.ownBlock = some k) w w' ∧ (∀ k, v'.ownBlock = some k → v.ownBlock = some k ∨ w.heap.size ≤ k) := by
  obtain ⟨i0, hi, hz0, hz1, hz2⟩ := info_parts info5
  have hlt : ∀ c ∈ l1 ++ l2, c < 256 := fun c hc => by
    rcases List.mem_append.1 hc with h | h
    · exact hown.2 c h
    · exact h2.1 c h
  by_cases h0 : l2 = []
  · subst h0
    refine ⟨v, w, ?_, by simpa using hown, Turned.refl _ _, fun k hk => .inl hk⟩
    rcases hown.1.2 with ⟨rfl, h0⟩ | ⟨g, cap, cur, rfl, _, _, hnc, _⟩
    · cases a <;> simp [Builtin.append_, run_underlying Try.underlying28, sizeOf, typeInfo, hi, Builtin.lenOf, Builtin.firstCells, loadCells, loadCellsFrom]
    · cases a <;> simp [Builtin.append_, run_underlying Try.underlying28, sizeOf, typeInfo, hi, Builtin.lenOf, Builtin.firstCells, hnc, storeCells, loadCells, loadCellsFrom]
  · obtain ⟨b, off, rfl, hc⟩ := h2.cell (by cases l2 with | nil => exact absurd rfl h0 | cons => simp)
    obtain ⟨v', w', hr, ho, hg, _, hat⟩ := run_append_own_at (P := Try.prog) w B 28 ty 5 i0 (.int .u8 0) 1 1 Try.underlying28 hi hz0 hz1 hz2 rfl (by decide) v l1.length (u8s l1) hown.1 ⟨b, off, none⟩ l2.length c (u8s l2) (by simp [u8s])
      (fun j u hu => by
        have hj : j < l2.length := by have := (List.getElem?_eq_some_iff.1 hu).1; simpa [u8s] using this
        rw [u8s_at l2 j hj] at hu
        have hadd : (⟨b, off, none⟩ : Addr).add j = ⟨b, off + j, none⟩ := by unfold Addr.add; split <;> simp_all
        rw [hadd, hc j hj]; exact hu) (u8s_one l2) (by unfold maxLen; omega) (by omega) hB
    refine ⟨v', w', hr, ⟨by rw [List.length_append, u8s_append]; exact ho, hlt⟩, Turned.ofGrown hg, fun k hk => ?_⟩
    rcases hat with h | h
    · left; rw [← h]; exact hk
    · right; rw [h] at hk; simp at hk; omega
theorem wpList_append_loc {ops : Array Oper} {rest : List Oper} {a : Act} {w : World} {Q : Exit → Act → World → Prop} {o : Oper} (d : Tmp) (hd : o.dst = some d) (hgd : o.guard = none) (s x : Operand)
    (ho : o.op = .call { callee := .builtin .append, args := #[s, x], argTypes := #[28, 28] }) (B : Nat) (v : Value) (l1 l2 l3 : List Nat) (h3 : l1 ++ l2 = l3) (hs : a.eval s = v) (hown : OwnB w B v l1)
    (ad : Option Addr) (c : Nat) (hx : a.eval x = .slice ad l2.length c) (h2 : HasB w ad l2) (hn : l3.length ≤ 1000000) (hB : B ≤ w.heap.size)
    (h : ∀ av cv w', OwnB w' B (.slice av l3.length cv) l3 → l3.length ≤ cv → HasB w' av l3 → Turned (fun k => v.ownBlock = some k) w w' → (∀ k, Value.ownBlock (.slice av l3.length cv) = some k → v.ownBlock = some k ∨ w.heap.size ≤ k) → wpList Try.prog ops Q rest (a.put (some d) (.slice av l3.length cv)) w') : wpList Try.prog ops Q (o :: rest) a w := by
  subst h3
  obtain ⟨v', w', hr, h4, h5, h6⟩ := run_append_bytes_loc w B v l1 l2 o.type hown ad c h2 (by simpa using hn) hB
  refine wpList_plain hgd fun _ hK => ?_
  unfold Oper.wp execOp
  simp only [ho, resolve, invoke, builtin, Sem.run_bind, Sem.run_pure, Result.andThen_ok, List.map_toArray, List.map_cons, List.map_nil, hs, hx, hr]
  obtain ⟨av, cv, rfl, hc, hb⟩ := h4.slice
  rename_i K
  show K (a.put o.dst _) _
  rw [hd]
  exact hK _ _ (h av cv w' h4 hc hb h5 h6)
/-- 'append' of one byte that lies in a new block -/
theorem hasB_one (w : World) (c : Nat) (hc : c < 256) : HasB (w.alloc (.cells #[.int .u8 (c : Nat)] 5)) (some ⟨w.heap.size, 0, none⟩) [c] := by
  refine ⟨by simpa using hc, .inr ⟨w.heap.size, 0, rfl, fun i hi => ?_⟩⟩
  simp at hi; subst hi
  rw [cell_of_row _ _ _ _ _ _ (heap_alloc_new w _)]
  simp [nth]
end Go.Proofs.Ytncooadaeifekaa
