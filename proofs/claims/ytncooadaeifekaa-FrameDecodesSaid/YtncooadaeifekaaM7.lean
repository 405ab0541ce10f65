/- Plain laws: a sealed sector of which bits in a row are turned is none. No program in sight. -/
import Derived.Test.YtncooadaeifekaaM4
namespace Go.Proofs.Ytncooadaeifekaa.M
theorem bitL_xorL (a b : List Nat) (h : a.length = b.length) (j : Nat) : bitL (xorL a b) j = (bitL a j ^^ bitL b j) := by
  unfold bitL
  rw [← Nat.testBit_xor]
  congr 1
  unfold xorL
  by_cases hj : j / 8 < a.length
  · rw [List.getD, List.getElem?_eq_getElem (show j / 8 < (List.zipWith (· ^^^ ·) a b).length by simp; omega), Option.getD_some, List.getElem_zipWith]
    simp [List.getD, hj, show j / 8 < b.length by omega]
  · rw [List.getD, List.getD, List.getD, List.getElem?_eq_none (by simp; omega), List.getElem?_eq_none (by omega), List.getElem?_eq_none (by omega)]; rfl
theorem xorL_comm_self (s l : List Nat) (h : s.length = l.length) : xorL s (xorL s l) = l := by
  apply List.ext_getElem (by simp [xorL]; omega)
  intro i h1 h2
  simp [xorL, ← Nat.xor_assoc]
theorem sealed_iff60 (s : List Nat) : sealed s = true ↔ s.drop 60 = leB 4 (crc (s.take 60)) := by simp [sealed]
theorem flips_unsealed (s l : List Nat) (hs : s.length = 64) (hl : l.length = 64) (bs : ∀ c ∈ s, c < 256) (bl : ∀ c ∈ l, c < 256) (h : sealed s = true) (word a : Nat) (hw : 0 < word) (hw2 : word < 4294967296) (ha : a + 32 ≤ 512)
    (hb : ∀ j, bitL l j = (bitL s j ^^ (decide (a ≤ j ∧ j < a + 32) && word.testBit (j - a)))) : sealed l = false := by
  have hp : (xorL s l).length = 64 := by rw [xorL_length _ _ (by omega)]; exact hs
  have hne : over 0 (xorL s l) ≠ 0 := burst_ne _ (xorL_lt _ _ bs bl) word a hw hw2 (by rw [hp]; exact ha) fun j _ => by
    rw [bitL_xorL _ _ (by omega), hb j]
    cases bitL s j <;> simp
  cases hq : sealed l with
  | false => rfl
  | true =>
    exfalso
    apply hne
    have := (spoilt_iff s (xorL s l) 60 (by omega) (by omega) bs (xorL_lt _ _ bs bl) ((sealed_iff60 s).1 h)).1
    rw [xorL_comm_self s l (by omega)] at this
    exact this ((sealed_iff60 l).1 hq)
end Go.Proofs.Ytncooadaeifekaa.M
