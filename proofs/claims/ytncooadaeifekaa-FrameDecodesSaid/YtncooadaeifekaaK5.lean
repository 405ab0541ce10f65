/- Helpers for the walks: bytes of the call's own that are stored into; one bit as a byte. No condition but what each states. -/
import Derived.Test.YtncooadaeifekaaK4
namespace Go.Proofs.Ytncooadaeifekaa
open Go.RowKit
theorem OwnB.store {w : World} {B : Nat} {av : Option Addr} {cv : Nat} {l : List Nat} (h : OwnB w B (.slice av l.length cv) l) (hne : 0 < l.length) :
    ∃ g, av = some ⟨g, 0, none⟩ ∧ B ≤ g ∧ g < w.heap.size ∧ (∀ i, i < l.length → w.cell? ⟨g, i, none⟩ = some (.int .u8 (nth l i))) ∧ (∀ i, w.frozen? ⟨g, i, none⟩ = false) ∧
      ∀ i x, x < 256 → OwnB (w.setCell ⟨g, i, none⟩ (.int .u8 (x : Nat))) B (.slice av l.length cv) (l.set i x) := by
  have h' := h.1
  rcases h.1.2 with ⟨h1, h0⟩ | ⟨g, cap, cur, hv, hb, hg, hn, hm, hs, htake⟩
  · omega
  · simp only [Value.slice.injEq, true_and] at hv
    obtain ⟨rfl, rfl⟩ := hv
    refine ⟨g, rfl, hb, (Array.getElem?_eq_some_iff.1 hg).1, fun i hi => ?_, fun i => h'.frozenAt i, fun i x hx => ⟨?_, set_lt h.2 i x hx⟩⟩
    · rw [h'.cellAt i (by omega)]
      exact u8s_at l i hi
    · have := (h'.stored i (.int .u8 x)).1
      rw [List.length_set]
      have e : u8s (l.set i x) = (u8s l).set i (.int .u8 x) := by simp [u8s, List.map_set]
      rw [e]
      exact this
theorem OwnB.drew {w : World} {B : Nat} {v : Value} {l : List Nat} (h : OwnB w B v l) : OwnB w.drew B v l := h
end Go.Proofs.Ytncooadaeifekaa
