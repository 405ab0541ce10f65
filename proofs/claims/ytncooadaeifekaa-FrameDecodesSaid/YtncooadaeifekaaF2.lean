/- Helpers for the rows: a slice of bytes that comes in, its capacity told too. No condition but what each states. -/
import Derived.Test.YtncooadaeifekaaF
namespace Go.Proofs.Ytncooadaeifekaa
open Go.ChangeShapes Go.WideShapes Go.ChangeAt Go.RowKit
theorem open_bytesc {H : Type} {enc : TypeId × Value → H} {P : Program} {W : World} {base : Nat} {d : DataW H} {p : List MemPlace} {t e : TypeId} {v : Value}
    (ht : P.underlying t = some (.slice e)) (he : P.underlying e = some (.int .u8)) (hc : P.cellsOf e = 1) (hv : Value.okWide P W .any base t v) (h : DataW.Trod enc P W 0 (fun _ => true) true t v d p) :
    ∃ (a : Option Addr) (l : List Nat) (cap : Nat), v = .slice a l.length cap ∧ l.length ≤ 9223372036854775807 ∧ l.length ≤ cap ∧ HasB W a l := by
  have h' := h
  obtain ⟨a, l, cap, rfl, hm, hb⟩ := open_bytes ht he hc hv h
  refine ⟨a, l, cap, rfl, hm, ?_, hb⟩
  obtain ⟨fuel, hf⟩ := h'
  rcases open_ints ht he hc hf with ⟨hcs, _⟩ | ⟨x, n, c, zs, hcs, _, hl, _⟩
  · simp [Value.cells] at hcs
    obtain ⟨_, h1, _⟩ := hcs
    simp [h1]
  · simp [Value.cells] at hcs
    obtain ⟨_, h1, h2⟩ := hcs
    omega
end Go.Proofs.Ytncooadaeifekaa
