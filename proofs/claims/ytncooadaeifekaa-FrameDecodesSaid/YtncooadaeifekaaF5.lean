/- Helpers for the rows: frames, sectors, entries and bodies that come in. No condition but what each states. -/
import Derived.Test.YtncooadaeifekaaF4
import Derived.Test.YtncooadaeifekaaM5
namespace Go.Proofs.Ytncooadaeifekaa
open Go.ChangeShapes Go.WideShapes Go.ChangeAt Go.RowKit
/-- an entry's cells -/
def ent (e : M.En) : Array Value := (Value.int .i64 e.kind :: Value.int .i64 e.first :: Value.int .i64 e.count :: Value.int .i64 e.block :: Value.int .i64 e.many :: Value.int .i64 e.mate :: u8s e.bytes).toArray
theorem cells3 : Try.prog.cellsOf 3 = 1 := by kernel_rfl
theorem cells5 : Try.prog.cellsOf 5 = 1 := by kernel_rfl
theorem cells39 : Try.prog.cellsOf 39 = 44 := by kernel_rfl
theorem cells44 : Try.prog.cellsOf 44 = 64 := by kernel_rfl
theorem cells80 : Try.prog.cellsOf 80 = 32 := by kernel_rfl
theorem cells41 : Try.prog.cellsOf 41 = 49 := by kernel_rfl
theorem cells82 : Try.prog.cellsOf 82 = 38 := by kernel_rfl
section
variable {H : Type} {enc : TypeId × Value → H} {W : World} {base : Nat} {d : DataW H} {p : List MemPlace} {v : Value}
set_option maxRecDepth 100000 in
theorem open_sector (hv : Value.okWide Try.prog W .any base 44 v) (h : DataW.Trod enc Try.prog W 0 (fun _ => true) true 44 v d p) : ∃ s : List Nat, v = .agg (sct s) ∧ s.length = 64 ∧ ∀ c ∈ s, c < 256 :=
  open_u8s Try.underlying44 Try.underlying5 cells5 cells44 hv h
set_option maxRecDepth 100000 in
theorem open_body (hv : Value.okWide Try.prog W .any base 39 v) (h : DataW.Trod enc Try.prog W 0 (fun _ => true) true 39 v d p) : ∃ s : List Nat, v = .agg (sct s) ∧ s.length = 44 ∧ ∀ c ∈ s, c < 256 :=
  open_u8s Try.underlying39 Try.underlying5 cells5 cells39 hv h
set_option maxRecDepth 100000 in
theorem field_int {fuel : Nat} {cs : List Value} {x : DataW H × List MemPlace} {i : Nat} (h : DataW.trod enc Try.prog W 0 (fun _ => true) true fuel 3 ((cs.drop i).take (Try.prog.cellsOf 3)) = some x) : ∃ n : Int, cs[i]? = some (.int .i64 n) ∧ -9223372036854775808 ≤ n ∧ n ≤ 9223372036854775807 := by
  rw [cells3] at h
  obtain ⟨n, hn, _, hw⟩ := DataW.trod_int Try.underlying3 h
  have := bounds_i64 hw
  exact ⟨n, take1 hn, by omega, by omega⟩
set_option maxRecDepth 100000 in
theorem open_frame (hv : Value.okWide Try.prog W .any base 41 v) (h : DataW.Trod enc Try.prog W 0 (fun _ => true) true 41 v d p) : ∃ f : M.Fr, v = .agg (frm f) ∧ f.ok := by
  obtain ⟨cs, rfl, hs⟩ := okWide_struct Try.underlying41 hv
  obtain ⟨fuel, hf⟩ := h
  obtain ⟨xs, m, rfl, hx, hl, hxs, hi⟩ := DataW.trod_struct Try.underlying41 hf
  simp only [Value.cells] at hl hi
  have hxs6 : xs.length = 6 := hxs
  have g : ∀ i (h : i < 6), xs[i]? = some (xs[i]'(by omega)) := fun i h => List.getElem?_eq_getElem (by omega)
  obtain ⟨k, hk, _⟩ := field_int ((hi 0 _ rfl).trans (g 0 (by omega)))
  obtain ⟨z, hz, _⟩ := field_int ((hi 1 _ rfl).trans (g 1 (by omega)))
  obtain ⟨o, ho, _⟩ := field_int ((hi 2 _ rfl).trans (g 2 (by omega)))
  obtain ⟨e, he, _⟩ := field_int ((hi 3 _ rfl).trans (g 3 (by omega)))
  obtain ⟨s, hs4, _⟩ := field_int ((hi 4 _ rfl).trans (g 4 (by omega)))
  obtain ⟨b, hb1, hb2, hb3⟩ := trod_u8s Try.underlying39 Try.underlying5 cells5 cells39 ((hi 5 _ rfl).trans (g 5 (by omega)))
  have hb3' : (cs.toList.drop 5).take (Try.prog.cellsOf 39) = u8s b := hb3
  rw [cells39] at hb3'
  rw [cells41] at hl
  refine ⟨⟨k, z, o, e, s, b⟩, ?_, hb1, hb2⟩
  congr 1
  apply Array.ext'
  apply List.ext_getElem?
  intro i
  show cs.toList[i]? = (Value.int .i64 k :: Value.int .i64 z :: Value.int .i64 o :: Value.int .i64 e :: Value.int .i64 s :: u8s b)[i]?
  match i with
  | 0 => exact hk
  | 1 => exact hz
  | 2 => exact ho
  | 3 => exact he
  | 4 => exact hs4
  | i + 5 =>
    simp only [List.getElem?_cons_succ]
    rw [← hb3']
    simp only [List.getElem?_take, List.getElem?_drop]
    by_cases h44 : i < 44
    · rw [if_pos h44, Nat.add_comm]
    · rw [if_neg h44, List.getElem?_eq_none (by omega)]
set_option maxRecDepth 100000 in
theorem open_entry (hv : Value.okWide Try.prog W .any base 82 v) (h : DataW.Trod enc Try.prog W 0 (fun _ => true) true 82 v d p) : ∃ f : M.En, v = .agg (ent f) ∧ f.ok := by
  obtain ⟨cs, rfl, hs⟩ := okWide_struct Try.underlying82 hv
  obtain ⟨fuel, hf⟩ := h
  obtain ⟨xs, m, rfl, hx, hl, hxs, hi⟩ := DataW.trod_struct Try.underlying82 hf
  simp only [Value.cells] at hl hi
  have hxs6 : xs.length = 7 := hxs
  have g : ∀ i (h : i < 7), xs[i]? = some (xs[i]'(by omega)) := fun i h => List.getElem?_eq_getElem (by omega)
  obtain ⟨k, hk, _⟩ := field_int ((hi 0 _ rfl).trans (g 0 (by omega)))
  obtain ⟨z, hz, _⟩ := field_int ((hi 1 _ rfl).trans (g 1 (by omega)))
  obtain ⟨o, ho, _⟩ := field_int ((hi 2 _ rfl).trans (g 2 (by omega)))
  obtain ⟨e, he, _⟩ := field_int ((hi 3 _ rfl).trans (g 3 (by omega)))
  obtain ⟨s, hs4, _⟩ := field_int ((hi 4 _ rfl).trans (g 4 (by omega)))
  obtain ⟨t, hs5, _⟩ := field_int ((hi 5 _ rfl).trans (g 5 (by omega)))
  obtain ⟨b, hb1, hb2, hb3⟩ := trod_u8s Try.underlying80 Try.underlying5 cells5 cells80 ((hi 6 _ rfl).trans (g 6 (by omega)))
  have hb3' : (cs.toList.drop 6).take (Try.prog.cellsOf 80) = u8s b := hb3
  rw [cells80] at hb3'
  rw [cells82] at hl
  refine ⟨⟨k, z, o, e, s, t, b⟩, ?_, hb1, hb2⟩
  congr 1
  apply Array.ext'
  apply List.ext_getElem?
  intro i
  show cs.toList[i]? = (Value.int .i64 k :: Value.int .i64 z :: Value.int .i64 o :: Value.int .i64 e :: Value.int .i64 s :: Value.int .i64 t :: u8s b)[i]?
  match i with
  | 0 => exact hk
  | 1 => exact hz
  | 2 => exact ho
  | 3 => exact he
  | 4 => exact hs4
  | 5 => exact hs5
  | i + 6 =>
    simp only [List.getElem?_cons_succ]
    rw [← hb3']
    simp only [List.getElem?_take, List.getElem?_drop]
    by_cases h44 : i < 32
    · rw [if_pos h44, Nat.add_comm]
    · rw [if_neg h44, List.getElem?_eq_none (by omega)]
end
end Go.Proofs.Ytncooadaeifekaa
