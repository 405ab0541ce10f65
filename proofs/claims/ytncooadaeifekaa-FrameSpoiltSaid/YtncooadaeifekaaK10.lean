/- Helpers for the walks: integers of the call's own, appended to and stored into. No condition but what each states. -/
import Derived.Test.YtncooadaeifekaaK6
namespace Go.Proofs.Ytncooadaeifekaa
open Go.RowKit
def i6s (l : List Nat) : List Value := l.map fun (c : Nat) => Value.int .i64 c
theorem i6s_append (a b : List Nat) : i6s (a ++ b) = i6s a ++ i6s b := List.map_append
theorem i6s_length (l : List Nat) : (i6s l).length = l.length := by simp [i6s]
theorem i6s_at (l : List Nat) (i : Nat) (h : i < l.length) : (i6s l)[i]? = some (.int .i64 (nth l i)) := by simp [i6s, nth, h]
theorem info3 : (Try.prog.info? 3).map (fun i => (i.zero, i.size, i.bytes)) = some (some (.int .i64 0), 1, 8) := by kernel_rfl
/-- integers of the call's own, from block B on -/
def OwnN (w : World) (B : Nat) (v : Value) (l : List Nat) : Prop := w.ownsRow B 3 1 v l.length (i6s l)
theorem ownN_nil (w : World) (B : Nat) : OwnN w B (.slice none 0 0) [] := World.ownsRow_nil w B 3 1
theorem OwnN.slice {w : World} {B : Nat} {v : Value} {l : List Nat} (h : OwnN w B v l) : ∃ a cap, v = .slice a l.length cap ∧ l.length ≤ cap := by
  obtain ⟨_, h2⟩ := h
  rcases h2 with ⟨rfl, h0⟩ | ⟨g, cap, cur, rfl, _, hg, hn, _, _, htake⟩
  · exact ⟨none, 0, by rw [h0], by omega⟩
  · exact ⟨some ⟨g, 0, none⟩, cap, rfl, hn⟩
theorem OwnN.grow {w w' : World} {B : Nat} {v : Value} {l : List Nat} (h : OwnN w B v l) (hb : Below w.heap.size w w') : OwnN w' B v l := by
  obtain ⟨h1, h2⟩ := h
  refine ⟨h1, ?_⟩
  rcases h2 with h2 | ⟨g, cap, cur, hv, hg, hh, r⟩
  · exact .inl h2
  · exact .inr ⟨g, cap, cur, hv, hg, below_blk hb hh, r⟩
theorem OwnN.turned {S : Nat → Prop} {w w' : World} {B : Nat} {v : Value} {l : List Nat} (h : OwnN w B v l) (ht : Turned S w w') (hS : ∀ k, v.ownBlock = some k → ¬ S k) : OwnN w' B v l := by
  obtain ⟨h1, h2⟩ := h
  refine ⟨h1, ?_⟩
  rcases h2 with h2 | ⟨g, cap, cur, hv, hg, hh, r⟩
  · exact .inl h2
  · exact .inr ⟨g, cap, cur, hv, hg, ht.blk hh (hS g (by subst hv; rfl)), r⟩
theorem OwnN.lt {w : World} {B : Nat} {v : Value} {l : List Nat} (h : OwnN w B v l) : ∀ k, v.ownBlock = some k → B ≤ k ∧ k < w.heap.size := World.ownsRow.lt h
theorem OwnN.store {w : World} {B : Nat} {av : Option Addr} {cv n : Nat} {l : List Nat} (h : OwnN w B (.slice av n cv) l) (hl : l.length = n) (hne : 0 < n) :
    ∃ g, av = some ⟨g, 0, none⟩ ∧ B ≤ g ∧ g < w.heap.size ∧ (∀ i, i < n → w.cell? ⟨g, i, none⟩ = some (.int .i64 (nth l i))) ∧ (∀ i, w.frozen? ⟨g, i, none⟩ = false) ∧
      ∀ i x, OwnN (w.setCell ⟨g, i, none⟩ (.int .i64 (x : Nat))) B (.slice av n cv) (l.set i x) := by
  subst hl
  have h' : w.ownsRow B 3 1 _ l.length (i6s l) := h
  rcases h.2 with ⟨h1, h0⟩ | ⟨g, cap, cur, hv, hb, hg, hn, hm, hs, htake⟩
  · omega
  · simp only [Value.slice.injEq, true_and] at hv
    obtain ⟨rfl, rfl⟩ := hv
    refine ⟨g, rfl, hb, (Array.getElem?_eq_some_iff.1 hg).1, fun i hi => ?_, fun i => h'.frozenAt i, fun i x => ?_⟩
    · rw [h'.cellAt i (by omega)]
      exact i6s_at l i hi
    · have := (h'.stored i (.int .i64 x)).1
      have e : i6s (l.set i x) = (i6s l).set i (.int .i64 x) := by simp [i6s, List.map_set]
      unfold OwnN
      rw [List.length_set, e]
      exact this
theorem run_append_int (w : World) (B : Nat) (v : Value) (l1 : List Nat) (x : Nat) (ty : TypeId) (hown : OwnN w B v l1) (b : Nat) (c : Nat) (h2 : w.cell? ⟨b, 0, none⟩ = some (.int .i64 x)) (hn : l1.length + 1 ≤ 1000000) (hB : B ≤ w.heap.size) :
    ∃ v' w', (Builtin.append_ #[69, 69] ty #[v, .slice (some ⟨b, 0, none⟩) 1 c]).run Try.prog w = .ok v' w' ∧ OwnN w' B v' (l1 ++ [x]) ∧ Turned (fun k => v.ownBlock = some k) w w' ∧ (∀ k, v'.ownBlock = some k → v.ownBlock = some k ∨ w.heap.size ≤ k) := by
  obtain ⟨i0, hi, hz0, hz1, hz2⟩ : ∃ i, Try.prog.info? 3 = some i ∧ i.zero = some (.int .i64 0) ∧ i.size = 1 ∧ i.bytes = 8 := by
    obtain ⟨i0, hi, hz0, hz1, hz2⟩ := info_parts info3
    exact ⟨i0, hi, hz0, hz1, hz2⟩
  obtain ⟨v', w', hr, ho, hg, _, hat⟩ := run_append_own_at (P := Try.prog) w B 69 ty 3 i0 (.int .i64 0) 1 8 Try.underlying69 hi hz0 hz1 hz2 rfl (by decide) v l1.length (i6s l1) hown ⟨b, 0, none⟩ 1 c (i6s [x]) (by simp [i6s])
    (fun j u hu => by
      have hj : j < 1 := by have := (List.getElem?_eq_some_iff.1 hu).1; simpa [i6s] using this
      obtain rfl : j = 0 := by omega
      have hadd : (⟨b, 0, none⟩ : Addr).add 0 = ⟨b, 0, none⟩ := by unfold Addr.add; split <;> simp_all
      rw [hadd, h2, ← hu]; simp [i6s]) (by simp [i6s, Value.oneCell']) (by unfold maxLen; omega) (by omega) hB
  refine ⟨v', w', hr, ?_, Turned.ofGrown hg, fun k hk => ?_⟩
  · unfold OwnN; rw [List.length_append, i6s_append]; exact ho
  · rcases hat with h | h
    · left; rw [← h]; exact hk
    · right; rw [h] at hk; simp at hk; omega
theorem wpList_append_int {ops : Array Oper} {rest : List Oper} {a : Act} {w : World} {Q : Exit → Act → World → Prop} {o : Oper} (d : Tmp) (hd : o.dst = some d) (hgd : o.guard = none) (s x : Operand)
    (ho : o.op = .call { callee := .builtin .append, args := #[s, x], argTypes := #[69, 69] }) (B : Nat) (v : Value) (l1 l3 : List Nat) (y : Nat) (h3 : l1 ++ [y] = l3) (hs : a.eval s = v) (hown : OwnN w B v l1)
    (b : Nat) (c : Nat) (hx : a.eval x = .slice (some ⟨b, 0, none⟩) 1 c) (h2 : w.cell? ⟨b, 0, none⟩ = some (.int .i64 y)) (hn : l3.length ≤ 1000000) (hB : B ≤ w.heap.size)
    (h : ∀ av cv w', OwnN w' B (.slice av l3.length cv) l3 → l3.length ≤ cv → Turned (fun k => v.ownBlock = some k) w w' → (∀ k, Value.ownBlock (.slice av l3.length cv) = some k → v.ownBlock = some k ∨ w.heap.size ≤ k) → wpList Try.prog ops Q rest (a.put (some d) (.slice av l3.length cv)) w') : wpList Try.prog ops Q (o :: rest) a w := by
  subst h3
  obtain ⟨v', w', hr, h4, h5, h6⟩ := run_append_int w B v l1 y o.type hown b c h2 (by simpa using hn) hB
  refine wpList_plain hgd fun _ hK => ?_
  unfold Oper.wp execOp
  simp only [ho, resolve, invoke, builtin, Sem.run_bind, Sem.run_pure, Result.andThen_ok, List.map_toArray, List.map_cons, List.map_nil, hs, hx, hr]
  obtain ⟨av, cv, rfl, hc⟩ := h4.slice
  rename_i K
  show K (a.put o.dst _) _
  rw [hd]
  exact hK _ _ (h av cv w' h4 hc h5 h6)
end Go.Proofs.Ytncooadaeifekaa
