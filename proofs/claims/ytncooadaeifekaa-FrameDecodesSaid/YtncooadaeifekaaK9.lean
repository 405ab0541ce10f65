/- Helpers for the walks: two arrays of bytes, two frames, compared. No condition but what each states. -/
import Derived.Test.YtncooadaeifekaaK8
import Derived.Stop.BytesEq
namespace Go.Proofs.Ytncooadaeifekaa
open Go.RowKit
theorem size5 (w : World) : (sizeOf 5).run Try.prog w = .ok 1 w := by kernel_rfl
theorem sct_cell (s : List Nat) (h : ∀ c ∈ s, c < 256) : sct s = ((s.map UInt8.ofNat).map Extern.Stop.cell).toArray := by
  unfold sct u8s
  congr 1
  rw [List.map_map]
  apply List.map_congr_left
  intro c hc
  have := h c hc
  simp [Extern.Stop.cell, UInt8.toNat_ofNat']
  omega
theorem ofNat_eq (s t : List Nat) (hs : ∀ c ∈ s, c < 256) (ht : ∀ c ∈ t, c < 256) : (s.map UInt8.ofNat == t.map UInt8.ofNat) = decide (s = t) := by
  rw [Bool.eq_iff_iff, beq_iff_eq, decide_eq_true_eq]
  constructor
  · intro h
    have h2 := congrArg (List.map UInt8.toNat) h
    have e : ∀ l : List Nat, (∀ c ∈ l, c < 256) → (l.map UInt8.ofNat).map UInt8.toNat = l := fun l hl => by
      rw [List.map_map]
      conv => rhs; rw [← List.map_id l]
      apply List.map_congr_left
      intro c hc
      have := hl c hc
      simp [UInt8.toNat_ofNat']
      omega
    rwa [e s hs, e t ht] at h2
  · intro h; rw [h]
theorem run_equalIn_u8s (w : World) (d : Nat) (t : TypeId) (n : Nat) (ht : Try.prog.underlying t = some (.array n 5)) (s s' : List Nat) (h1 : s.length = n) (h2 : s'.length = n) (b1 : ∀ c ∈ s, c < 256) (b2 : ∀ c ∈ s', c < 256) :
    (Op.equalIn (d + 2) t (.agg (sct s)) (.agg (sct s'))).run Try.prog w = .ok (decide (s = s')) w := by
  rw [sct_cell s b1, sct_cell s' b2, run_equalIn_bytes w d t 5 n ht Try.underlying5 size5 _ _ (by simpa using h1) (by simpa using h2), ofNat_eq s s' b1 b2]
end Go.Proofs.Ytncooadaeifekaa
