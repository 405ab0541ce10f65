/- Helpers for the rows: arrays of bytes and frames that come in. No condition but what each states. -/
import Derived.Test.YtncooadaeifekaaF3
import Derived.Test.YtncooadaeifekaaC10
namespace Go.Proofs.Ytncooadaeifekaa
open Go.ChangeShapes Go.WideShapes Go.ChangeAt Go.RowKit
def natIn : Value → Nat
  | .int _ n => n.toNat
  | _ => 0
theorem trod_u8s {H : Type} {enc : TypeId × Value → H} {P : Program} {W : World} {n : Nat} {t e : TypeId} {fuel : Nat} {cs : List Value} {x : DataW H × List MemPlace}
    (ht : P.underlying t = some (.array n e)) (he : P.underlying e = some (.int .u8)) (hc : P.cellsOf e = 1) (hct : P.cellsOf t = n) (h : DataW.trod enc P W 0 (fun _ => true) true fuel t cs = some x) :
    ∃ s : List Nat, s.length = n ∧ (∀ c ∈ s, c < 256) ∧ cs = u8s s := by
  obtain ⟨xs, m, rfl, rfl, hl, hxs, hi⟩ := DataW.trod_array ht h
  have key : ∀ i, i < n → ∃ k : Nat, k < 256 ∧ cs[i]? = some (.int .u8 k) := by
    intro i hin
    have h1 := hi i hin
    rw [List.getElem?_eq_getElem (by omega)] at h1
    obtain ⟨z, hz, _, hw⟩ := DataW.trod_int he h1
    obtain ⟨k, rfl, hk⟩ := nat_u8 hw
    rw [hc, Nat.mul_one] at hz
    refine ⟨k, hk, ?_⟩
    have := congrArg (·[0]?) hz
    simpa using this
  have hln : cs.length = n := by rw [hl, hct]
  refine ⟨cs.map natIn, by simpa using hln, ?_, ?_⟩
  · intro c hc
    obtain ⟨i, hi, rfl⟩ := List.mem_iff_getElem.1 hc
    simp only [List.length_map] at hi
    obtain ⟨k, hk, e⟩ := key i (by omega)
    rw [List.getElem?_eq_getElem hi] at e
    simp only [Option.some.injEq] at e
    simp [e, natIn]; omega
  · apply List.ext_getElem (by simp [u8s])
    intro i h1 h2
    obtain ⟨k, hk, e⟩ := key i (by omega)
    rw [List.getElem?_eq_getElem h1] at e
    simp only [Option.some.injEq] at e
    simp [u8s, e, natIn]
theorem okWide_array {P : Program} {w : World} {r : Reach} {base n : Nat} {t e : TypeId} {v : Value} (ht : P.underlying t = some (.array n e)) (h : Value.okWide P w r base t v) : ∃ cs, v = .agg cs ∧ cs.size = P.cellsOf t := by
  simp only [Value.okWide, ht] at h
  obtain ⟨cs, h1, h2, _⟩ := h
  exact ⟨cs, h1, h2⟩
/-- an array of bytes that came in -/
theorem open_u8s {H : Type} {enc : TypeId × Value → H} {P : Program} {W : World} {base n : Nat} {d : DataW H} {p : List MemPlace} {t e : TypeId} {v : Value}
    (ht : P.underlying t = some (.array n e)) (he : P.underlying e = some (.int .u8)) (hc : P.cellsOf e = 1) (hct : P.cellsOf t = n) (hv : Value.okWide P W .any base t v) (h : DataW.Trod enc P W 0 (fun _ => true) true t v d p) :
    ∃ s : List Nat, v = .agg (sct s) ∧ s.length = n ∧ ∀ c ∈ s, c < 256 := by
  obtain ⟨cs, rfl, hs⟩ := okWide_array ht hv
  obtain ⟨fuel, hf⟩ := h
  obtain ⟨s, h1, h2, h3⟩ := trod_u8s ht he hc hct hf
  refine ⟨s, ?_, h1, h2⟩
  simp only [Value.cells] at h3
  rw [sct, ← h3]
theorem take1 {cs : List Value} {i : Nat} {v : Value} (h : (cs.drop i).take 1 = [v]) : cs[i]? = some v := by
  have := congrArg (·[0]?) h
  simpa using this
end Go.Proofs.Ytncooadaeifekaa
