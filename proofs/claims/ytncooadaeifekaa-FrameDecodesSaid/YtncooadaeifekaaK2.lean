/- Helpers for the walks: bytes that the call owns, appended to; slices of bytes cut; what a slice of bytes holds. No condition but what each states. -/
import Derived.Test.YtncooadaeifekaaK
namespace Go.Proofs.Ytncooadaeifekaa
open Go.RowKit
def u8s (l : List Nat) : List Value := l.map fun (c : Nat) => Value.int .u8 c
theorem u8s_append (a b : List Nat) : u8s (a ++ b) = u8s a ++ u8s b := List.map_append
theorem u8s_length (l : List Nat) : (u8s l).length = l.length := by simp [u8s]
theorem u8s_at (l : List Nat) (i : Nat) (h : i < l.length) : (u8s l)[i]? = some (.int .u8 (nth l i)) := by simp [u8s, nth, h]
theorem u8s_one (l : List Nat) : ∀ u ∈ u8s l, u.oneCell' = true := fun u hu => by
  obtain ⟨c, _, rfl⟩ := List.mem_map.1 hu
  rfl
theorem info5 : (Try.prog.info? 5).map (fun i => (i.zero, i.size, i.bytes)) = some (some (.int .u8 0), 1, 1) := by kernel_rfl
/-- bytes of the call's own, from block B on -/
def OwnB (w : World) (B : Nat) (v : Value) (l : List Nat) : Prop := w.ownsRow B 5 1 v l.length (u8s l) ∧ ∀ c ∈ l, c < 256
theorem OwnB.slice {w : World} {B : Nat} {v : Value} {l : List Nat} (h : OwnB w B v l) : ∃ a cap, v = .slice a l.length cap ∧ l.length ≤ cap ∧ HasB w a l := by
  obtain ⟨⟨_, h2⟩, hlt⟩ := h
  rcases h2 with ⟨rfl, h0⟩ | ⟨g, cap, cur, rfl, _, hg, hn, _, _, htake⟩
  · have : l = [] := List.eq_nil_of_length_eq_zero h0
    subst this
    exact ⟨none, 0, rfl, by simp, hlt, .inl rfl⟩
  · refine ⟨some ⟨g, 0, none⟩, cap, rfl, hn, hlt, .inr ⟨g, 0, rfl, fun i hi => ?_⟩⟩
    rw [cell_of_row w g _ cur 5 (0, 0) hg]
    have h1 := u8s_at l i hi
    rw [← htake, List.getElem?_take, if_pos (by omega)] at h1
    simpa using h1
theorem run_append_bytes (w : World) (B : Nat) (v : Value) (l1 l2 : List Nat) (ty : TypeId) (hown : OwnB w B v l1) (a : Option Addr) (c : Nat) (h2 : HasB w a l2) (hn : l1.length + l2.length ≤ 1000000) (hB : B ≤ w.heap.size) :
    ∃ v' w', (Builtin.append_ #[28, 28] ty #[v, .slice a l2.length c]).run Try.prog w = .ok v' w' ∧ OwnB w' B v' (l1 ++ l2) ∧ w.grownBy w' v.ownBlock := by
  obtain ⟨i0, hi, hz0, hz1, hz2⟩ := info_parts info5
  have hlt : ∀ c ∈ l1 ++ l2, c < 256 := fun c hc => by
    rcases List.mem_append.1 hc with h | h
    · exact hown.2 c h
    · exact h2.1 c h
  by_cases h0 : l2 = []
  · subst h0
    refine ⟨v, w, ?_, by simpa using hown, ⟨rfl, rfl, rfl, Nat.le_refl _, fun _ _ _ => rfl⟩⟩
    rcases hown.1.2 with ⟨rfl, h0⟩ | ⟨g, cap, cur, rfl, _, _, hnc, _⟩
    · cases a <;> simp [Builtin.append_, run_underlying Try.underlying28, sizeOf, typeInfo, hi, Builtin.lenOf, Builtin.firstCells, loadCells, loadCellsFrom]
    · cases a <;> simp [Builtin.append_, run_underlying Try.underlying28, sizeOf, typeInfo, hi, Builtin.lenOf, Builtin.firstCells, hnc, storeCells, loadCells, loadCellsFrom]
  · obtain ⟨b, off, rfl, hc⟩ := h2.cell (by cases l2 with | nil => exact absurd rfl h0 | cons => simp)
    obtain ⟨v', w', hr, ho, hg, _⟩ := run_append_own (P := Try.prog) w B 28 ty 5 i0 (.int .u8 0) 1 1 Try.underlying28 hi hz0 hz1 hz2 rfl (by decide) v l1.length (u8s l1) hown.1 ⟨b, off, none⟩ l2.length c (u8s l2) (by simp [u8s])
      (fun j u hu => by
        have hj : j < l2.length := by have := (List.getElem?_eq_some_iff.1 hu).1; simpa [u8s] using this
        rw [u8s_at l2 j hj] at hu
        have hadd : (⟨b, off, none⟩ : Addr).add j = ⟨b, off + j, none⟩ := by unfold Addr.add; split <;> simp_all
        rw [hadd, hc j hj]; exact hu) (u8s_one l2) (by unfold maxLen; omega) (by omega) hB
    exact ⟨v', w', hr, ⟨by rw [List.length_append, u8s_append]; exact ho, hlt⟩, hg⟩
theorem wpList_append_bytes {ops : Array Oper} {rest : List Oper} {o : Oper} {a : Act} {w : World} {Q : Exit → Act → World → Prop} (hgd : o.guard = none) (s x : Operand)
    (ho : o.op = .call { callee := .builtin .append, args := #[s, x], argTypes := #[28, 28] }) (B : Nat) (v : Value) (l1 l2 : List Nat) (hs : a.eval s = v) (hown : OwnB w B v l1)
    (ad : Option Addr) (c : Nat) (hx : a.eval x = .slice ad l2.length c) (h2 : HasB w ad l2) (hn : l1.length + l2.length ≤ 1000000) (hB : B ≤ w.heap.size)
    (h : ∀ v' w', OwnB w' B v' (l1 ++ l2) → w.grownBy w' v.ownBlock → wpList Try.prog ops Q rest (a.put o.dst v') w') : wpList Try.prog ops Q (o :: rest) a w := by
  obtain ⟨v', w', hr, h3, h4⟩ := run_append_bytes w B v l1 l2 o.type hown ad c h2 hn hB
  refine wpList_plain hgd fun _ hK => ?_
  unfold Oper.wp execOp
  simp only [ho, resolve, invoke, builtin, Sem.run_bind, Sem.run_pure, Result.andThen_ok, List.map_toArray, List.map_cons, List.map_nil, hs, hx, hr]
  exact hK _ _ (h v' w' h3 h4)
/-- an empty literal -/
theorem ownB_new (w : World) (B : Nat) (hB : B ≤ w.heap.size) : OwnB (w.alloc (.cells #[] 5)) B (.slice (some ⟨w.heap.size, 0, none⟩) 0 0) [] :=
  ⟨World.ownsRow_lit w #[] 0 hB (by unfold maxLen; omega) rfl, by simp⟩
theorem ownB_nil (w : World) (B : Nat) : OwnB w B (.slice none 0 0) [] := ⟨World.ownsRow_nil w B 5 1, by simp⟩
theorem OwnB.mono {w w' : World} {B : Nat} {v : Value} {l : List Nat} (h : OwnB w B v l) (hb : Below w.heap.size w w') : OwnB w' B v l := by
  refine ⟨?_, h.2⟩
  obtain ⟨h1, h2⟩ := h.1
  refine ⟨h1, ?_⟩
  rcases h2 with h2 | ⟨g, cap, cur, hv, hg, hh, r⟩
  · exact .inl h2
  · exact .inr ⟨g, cap, cur, hv, hg, below_blk hb hh, r⟩
theorem OwnB.below {w w' : World} {B : Nat} {v : Value} {l : List Nat} (h : OwnB w B v l) (hg : w.grownBy w' v.ownBlock) (hB : B ≤ w.heap.size) : Below B w w' :=
  (Below.refl B w).grown hg hB fun k hk => (h.1.lt k hk).1
/-! ### cuts -/
theorem HasB.take {w : World} {a : Option Addr} {l : List Nat} (h : HasB w a l) (k : Nat) : HasB w a (l.take k) := by
  refine ⟨fun c hc => h.1 c (List.mem_of_mem_take hc), ?_⟩
  rcases h.2 with h0 | ⟨b, off, ha, hc⟩
  · left; rw [h0]; simp
  · by_cases hk : l.take k = []
    · exact .inl hk
    · refine .inr ⟨b, off, ha, fun i hi => ?_⟩
      have hi' : i < k ∧ i < l.length := by simp at hi; omega
      rw [hc i hi'.2]
      simp [nth, hi'.1]
def cutAt (a : Option Addr) (cap k : Nat) : Option Addr := if cap = k then a else a.map (·.add k)
theorem HasB.drop {w : World} {a : Option Addr} {l : List Nat} (h : HasB w a l) (k cap : Nat) (hc : l.length ≤ cap) : HasB w (cutAt a cap k) (l.drop k) := by
  refine ⟨fun c hc => h.1 c (List.mem_of_mem_drop hc), ?_⟩
  rcases h.2 with h0 | ⟨b, off, rfl, hcell⟩
  · left; rw [h0]; simp
  · by_cases hk : l.length ≤ k
    · left; exact List.drop_eq_nil_of_le hk
    · right
      refine ⟨b, off + k, ?_, fun i hi => ?_⟩
      · unfold cutAt
        rw [if_neg (by omega)]
        simp only [Option.map_some, Option.some.injEq]
        unfold Addr.add; split <;> simp_all
      · have hi' : i < l.length - k := by simpa using hi
        have := hcell (k + i) (by omega)
        rw [Nat.add_assoc, this]
        simp [nth]
end Go.Proofs.Ytncooadaeifekaa
