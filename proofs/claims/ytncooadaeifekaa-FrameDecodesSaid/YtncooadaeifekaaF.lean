/- Helpers for the rows: integers and slices of bytes that come in, opened for the walks. No condition but what each states. -/
import Derived.Test.YtncooadaeifekaaI
import Derived.Test.YtncooadaeifekaaK
import Derived.ProofKit
import Derived.OpenShut
import Derived.ShutString
import Derived.ChangeOld
namespace Go.Proofs.Ytncooadaeifekaa
open Go.ChangeShapes Go.WideShapes Go.ChangeAt Go.RowKit
theorem own : ownKnob Try.prog.godebug = none := by kernel_rfl
theorem laidOut : laidOutB Try.prog = true := by kernel_rfl
theorem nat_u8 {n : Int} (h : (Lit.int .u8 n).wf = true) : ∃ k : Nat, n = k ∧ k < 256 := by
  obtain ⟨h1, h2⟩ := bounds_u8 h
  exact ⟨n.toNat, by omega, by omega⟩
theorem nat_u32 {n : Int} (h : (Lit.int .u32 n).wf = true) : ∃ k : Nat, n = k ∧ k < 4294967296 := by
  obtain ⟨h1, h2⟩ := bounds_u32 h
  exact ⟨n.toNat, by omega, by omega⟩
/-- a slice of bytes that came in -/
theorem open_bytes {H : Type} {enc : TypeId × Value → H} {P : Program} {W : World} {base : Nat} {d : DataW H} {p : List MemPlace} {t e : TypeId} {v : Value}
    (ht : P.underlying t = some (.slice e)) (he : P.underlying e = some (.int .u8)) (hc : P.cellsOf e = 1) (hv : Value.okWide P W .any base t v) (h : DataW.Trod enc P W 0 (fun _ => true) true t v d p) :
    ∃ (a : Option Addr) (l : List Nat) (cap : Nat), v = .slice a l.length cap ∧ l.length ≤ 9223372036854775807 ∧ HasB W a l := by
  obtain ⟨a, len, cap, rfl⟩ := okWide_slice ht hv
  obtain ⟨fuel, hf⟩ := h
  rcases open_ints ht he hc hf with ⟨hcs, _⟩ | ⟨x, l, c, zs, hcs, _, hl, hm, hz, _, hcell, hwz⟩
  · simp [Value.cells] at hcs
    obtain ⟨rfl, rfl, rfl⟩ := hcs
    exact ⟨none, [], 0, rfl, by simp, by simp, .inl rfl⟩
  · simp [Value.cells] at hcs
    obtain ⟨rfl, rfl, rfl⟩ := hcs
    have hz' : zs.length = cap := by simpa using hz
    have hlen : ((zs.take len).map Int.toNat).length = len := by simp; omega
    refine ⟨some x, (zs.take len).map Int.toNat, cap, by rw [hlen], by rw [hlen]; unfold maxLen at hm; omega, ?_, ?_⟩
    · intro c hc
      obtain ⟨n, hn, rfl⟩ := List.mem_map.1 hc
      have := bounds_u8 (hwz n (List.mem_of_mem_take hn))
      omega
    · by_cases h0 : len = 0
      · left; subst h0; rfl
      · right
        obtain ⟨b, off, spot⟩ := x
        have hc0 := hcell 0 (by omega)
        have hspot : spot = none := by simpa [Addr.add] using World.cell?_spot hc0
        subst hspot
        refine ⟨b, off, rfl, fun i hi => ?_⟩
        rw [hlen] at hi
        have hci := hcell i (by omega)
        have hadd : (⟨b, off, none⟩ : Addr).add i = ⟨b, off + i, none⟩ := by unfold Addr.add; split <;> simp_all
        rw [hadd] at hci
        rw [hci]
        have hlt : i < zs.length := by omega
        have hb := bounds_u8 (hwz zs[i] (List.getElem_mem hlt))
        simp [nth, List.getD, hlt, hi]
        omega
theorem trod_fin {H : Type} {enc : TypeId × Value → H} {P : Program} {W : World} {d : DataW H} {p : List MemPlace} {t : TypeId} {v : Value} (h : DataW.Trod enc P W 0 (fun _ => true) true t v d p) :
    ∀ x ∈ p, x.block < W.heap.size := by obtain ⟨m, hm⟩ := h; exact DataW.trod_lt m _ _ _ hm
end Go.Proofs.Ytncooadaeifekaa
