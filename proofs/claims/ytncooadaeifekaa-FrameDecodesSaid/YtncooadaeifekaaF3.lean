/- Helpers for the rows: a slice of integers that comes in. No condition but what each states. -/
import Derived.Test.YtncooadaeifekaaF2
import Derived.Test.YtncooadaeifekaaK6
namespace Go.Proofs.Ytncooadaeifekaa
open Go.ChangeShapes Go.WideShapes Go.ChangeAt Go.RowKit
def nthI (l : List Int) (i : Nat) : Int := l.getD i 0
/-- integers that lie behind an address -/
def HasI (w : World) (a : Option Addr) (l : List Int) : Prop :=
  (∀ i, -9223372036854775808 ≤ nthI l i ∧ nthI l i ≤ 9223372036854775807) ∧ (l = [] ∨ ∃ b off, a = some ⟨b, off, none⟩ ∧ ∀ i, i < l.length → w.cell? ⟨b, off + i, none⟩ = some (.int .i64 (nthI l i)))
theorem HasI.turned {S : Nat → Prop} {w w' : World} {a : Option Addr} {l : List Int} (h : HasI w a l) (ht : Turned S w w') (hS : ∀ p, a = some p → ¬ S p.block) : HasI w' a l := by
  refine ⟨h.1, ?_⟩
  rcases h.2 with h0 | ⟨b, off, ha, hc⟩
  · exact .inl h0
  · refine .inr ⟨b, off, ha, fun i hi => ?_⟩
    have h1 := hc i hi
    rw [← h1]
    exact World.cell?_of_block (w := w) (ht.block b (block_lt_of_cell (w := w) (a := ⟨b, off + i, none⟩) h1) (hS _ ha))
theorem HasI.grow {w w' : World} {a : Option Addr} {l : List Int} (h : HasI w a l) (hb : Below w.heap.size w w') : HasI w' a l := h.turned (S := fun _ => False) (Turned.ofBelow hb) fun _ _ h => h
theorem HasI.cell {w : World} {a : Option Addr} {l : List Int} (h : HasI w a l) (hne : 0 < l.length) :
    ∃ b off, a = some ⟨b, off, none⟩ ∧ ∀ i, i < l.length → w.cell? ⟨b, off + i, none⟩ = some (.int .i64 (nthI l i)) := by
  rcases h.2 with h0 | h1
  · subst h0; simp at hne
  · exact h1
/-- a slice of integers that came in -/
theorem open_i64s {H : Type} {enc : TypeId × Value → H} {P : Program} {W : World} {base : Nat} {d : DataW H} {p : List MemPlace} {t e : TypeId} {v : Value}
    (ht : P.underlying t = some (.slice e)) (he : P.underlying e = some (.int .i64)) (hc : P.cellsOf e = 1) (hv : Value.okWide P W .any base t v) (h : DataW.Trod enc P W 0 (fun _ => true) true t v d p) :
    ∃ (a : Option Addr) (l : List Int) (cap : Nat), v = .slice a l.length cap ∧ l.length ≤ 9223372036854775807 ∧ HasI W a l := by
  obtain ⟨a, len, cap, rfl⟩ := okWide_slice ht hv
  obtain ⟨fuel, hf⟩ := h
  rcases open_ints ht he hc hf with ⟨hcs, _⟩ | ⟨x, l, c, zs, hcs, _, hl, hm, hz, _, hcell, hwz⟩
  · simp [Value.cells] at hcs
    obtain ⟨rfl, rfl, rfl⟩ := hcs
    exact ⟨none, [], 0, rfl, by simp, fun i => by simp [nthI], .inl rfl⟩
  · simp [Value.cells] at hcs
    obtain ⟨rfl, rfl, rfl⟩ := hcs
    have hz' : zs.length = cap := by simpa using hz
    have hlen : (zs.take len).length = len := by simp; omega
    refine ⟨some x, zs.take len, cap, by rw [hlen], by rw [hlen]; unfold maxLen at hm; omega, ?_, ?_⟩
    · intro i
      by_cases hi : i < len
      · have hlt : i < zs.length := by omega
        have := bounds_i64 (hwz zs[i] (List.getElem_mem hlt))
        simpa [nthI, hi, hlt] using this
      · have : nthI (zs.take len) i = 0 := by unfold nthI; rw [List.getD, List.getElem?_eq_none (by omega)]; rfl
        rw [this]; omega
    · by_cases h0 : len = 0
      · left; subst h0; rfl
      · right
        obtain ⟨b, off, spot⟩ := x
        have hc0 := hcell 0 (by omega)
        have hspot : spot = none := by simpa [Addr.add] using World.cell?_spot hc0
        subst hspot
        refine ⟨b, off, rfl, fun i hi => ?_⟩
        rw [hlen] at hi
        have hci := hcell i (by omega)
        have hadd : (⟨b, off, none⟩ : Addr).add i = ⟨b, off + i, none⟩ := by unfold Addr.add; split <;> simp_all
        rw [hadd] at hci
        rw [hci]
        have hlt : i < zs.length := by omega
        simp [nthI, hlt, hi]
end Go.Proofs.Ytncooadaeifekaa
