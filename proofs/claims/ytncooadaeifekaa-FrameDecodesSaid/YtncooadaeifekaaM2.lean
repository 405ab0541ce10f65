/- Plain laws of numbers in bytes: the least width of a number, what fits. No program in sight. -/
import Derived.Test.YtncooadaeifekaaM
namespace Go.Proofs.Ytncooadaeifekaa.M
/-- the least width, told of a number: 8 of one that is in no width -/
def WidthOf (x : Int) (n : Nat) : Prop := (x < 0 → n = 8) ∧ (0 ≤ x → 1 ≤ n ∧ n ≤ 8 ∧ (n ≤ 7 → x.toNat / 256 ^ n = 0) ∧ (n = 1 ∨ 1 ≤ x.toNat / 256 ^ (n - 1)))
def fits (w x : Int) : Bool := decide (1 ≤ w ∧ w ≤ 7 ∧ 0 ≤ x ∧ x.toNat < 256 ^ w.toNat)
theorem fits_iff (w x : Int) : fits w x = true ↔ 1 ≤ w ∧ w ≤ 7 ∧ 0 ≤ x ∧ x.toNat < 256 ^ w.toNat := by simp [fits]
theorem pow_pos (n : Nat) : 0 < 256 ^ n := Nat.pow_pos (by decide)
theorem pow7 (w : Nat) (h : w ≤ 7) : 256 ^ w ≤ 72057594037927936 := by
  have := Nat.pow_le_pow_right (n := 256) (by decide) h
  exact this
theorem fits_lt {w x : Int} (h : fits w x = true) : x < 72057594037927936 := by
  obtain ⟨h1, h2, h3, h4⟩ := (fits_iff w x).1 h
  have := pow7 w.toNat (by omega)
  omega
theorem div_zero_iff (x n : Nat) : x / 256 ^ n = 0 ↔ x < 256 ^ n := by rw [Nat.div_eq_zero_iff]; have := pow_pos n; omega
theorem width_lt {x : Int} {n : Nat} (h : WidthOf x n) (w : Int) (h1 : 1 ≤ w) (h7 : w ≤ 7) : ((n : Int) ≤ w) ↔ fits w x = true := by
  rw [fits_iff]
  by_cases hx : x < 0
  · have := h.1 hx
    omega
  · obtain ⟨a, b, c, d⟩ := h.2 (by omega)
    constructor
    · intro hn
      refine ⟨h1, h7, by omega, ?_⟩
      have c := (div_zero_iff _ _).1 (c (by omega))
      exact Nat.lt_of_lt_of_le c (Nat.pow_le_pow_right (by decide) (by omega))
    · rintro ⟨_, _, _, h4⟩
      rcases d with d | d
      · omega
      · by_cases hn : (n : Int) ≤ w
        · exact hn
        · exfalso
          have hle : 256 ^ w.toNat ≤ 256 ^ (n - 1) := Nat.pow_le_pow_right (by decide) (by omega)
          have := (div_zero_iff x.toNat (n - 1)).2 (by omega)
          omega
theorem width_no {x : Int} {n : Nat} (h : WidthOf x n) (hx : x < 0 ∨ 72057594037927936 ≤ x) : n = 8 := by
  by_cases h0 : x < 0
  · exact h.1 h0
  · obtain ⟨a, b, c, d⟩ := h.2 (by omega)
    by_cases h8 : n = 8
    · exact h8
    · have c := (div_zero_iff _ _).1 (c (by omega))
      have := pow7 n (by omega)
      omega
theorem width_in {x : Int} {n : Nat} (h : WidthOf x n) (hx : 0 ≤ x) (h7 : x < 72057594037927936) : 1 ≤ n ∧ n ≤ 7 ∧ fits n x = true ∧ (n = 1 ∨ fits (n - 1) x = false) := by
  obtain ⟨a, b, c, d⟩ := h.2 hx
  have hn : n ≤ 7 := by
    by_cases hn : n ≤ 7
    · exact hn
    · exfalso
      have h8 : n = 8 := by omega
      subst h8
      rcases d with d | d
      · omega
      · have := (div_zero_iff x.toNat 7).2 (by show x.toNat < 72057594037927936; omega)
        simp at d; omega
  refine ⟨a, hn, (width_lt h n (by omega) (by omega)).1 (Int.le_refl _), ?_⟩
  by_cases h1 : n = 1
  · exact .inl h1
  · right
    by_cases hf : fits (n - 1) x = true
    · have := (width_lt h (n - 1) (by omega) (by omega)).2 hf
      omega
    · simpa using hf
theorem div_step (x n : Nat) : x / 256 ^ n / 256 = x / 256 ^ (n + 1) := by rw [Nat.div_div_eq_div_mul, Nat.pow_succ]
theorem div_big (x n : Nat) (h : x < 9223372036854775808) (hn : 1 ≤ x / 256 ^ n) : n ≤ 7 := by
  by_cases h7 : n ≤ 7
  · exact h7
  · exfalso
    have : 256 ^ 8 ≤ 256 ^ n := Nat.pow_le_pow_right (by decide) (by omega)
    have := (div_zero_iff x n).2 (by omega)
    omega
end Go.Proofs.Ytncooadaeifekaa.M
