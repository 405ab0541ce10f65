/- Plain laws: the list of bits that is divided by the generator. No program in sight. -/
import Derived.Test.YtncooadaeifekaaK10
namespace Go.Proofs.Ytncooadaeifekaa
/-- a list of bits -/
def bitsL (n : Nat) (P : Nat → Bool) : List Nat := (List.range n).map fun j => (P j).toNat
theorem bitsL_length (n : Nat) (P : Nat → Bool) : (bitsL n P).length = n := by simp [bitsL]
theorem nth_bitsL (n i : Nat) (P : Nat → Bool) (h : i < n) : nth (bitsL n P) i = (P i).toNat := by simp [bitsL, nth, h]
theorem bitsL_succ (n : Nat) (P : Nat → Bool) : bitsL n P ++ [(P n).toNat] = bitsL (n + 1) P := by simp [bitsL, List.range_succ]
theorem bitsL_zero (P : Nat → Bool) : bitsL 0 P = [] := rfl
theorem bitsL_congr (n : Nat) (P Q : Nat → Bool) (h : ∀ j, j < n → P j = Q j) : bitsL n P = bitsL n Q := by
  unfold bitsL
  apply List.map_congr_left
  intro j hj
  rw [h j (by simpa using hj)]
theorem bitsL_set (n i : Nat) (P : Nat → Bool) (h : i < n) : (bitsL n P).set i (1 - (P i).toNat) = bitsL n (M.tog i P) := by
  refine nth_eq _ _ (by simp [bitsL]) fun j hj => ?_
  simp only [List.length_set, bitsL_length] at hj
  rw [nth_set _ _ _ _ (by rw [bitsL_length]; exact h), nth_bitsL n j _ hj]
  by_cases e : j = i
  · subst e; rw [if_pos rfl, nth_bitsL n j _ hj]; unfold M.tog; cases P j <;> simp
  · rw [if_neg e, nth_bitsL n j _ hj]; unfold M.tog; simp [e]
/-- what is left to do, done: division's round -/
theorem inv_next (f : Nat → Bool) (i : Nat) (P : Nat → Bool) (h : M.inv f i P) : M.inv f (i + 1) (if P i = true then M.togs i 18 P else P) := by
  have h2 := M.inv_step f i P h
  cases hp : P i with
  | true =>
    rw [if_pos rfl]
    have e : M.togs i 18 P = fun j => P j ^^ (P i && (decide (i ≤ j) && M.gbit (j - i))) := by
      funext j; rw [M.togs_all, hp]; simp
    rw [e]; exact h2
  | false =>
    rw [if_neg (by simp)]
    have e : (fun j => P j ^^ (P i && (decide (i ≤ j) && M.gbit (j - i)))) = P := by
      funext j; rw [hp]; simp
    rw [e] at h2; exact h2
/-- the division's end -/
theorem divides_iff (b : List Nat) (hb : ∀ c ∈ b, c < 256) (P : Nat → Bool) (i : Nat) (h : M.inv (M.bitL b) i P) (hi : (8 * b.length ≤ 32 ∧ i = 0) ∨ (32 ≤ 8 * b.length ∧ i + 32 = 8 * b.length)) :
    (∀ j, j < 8 * b.length → P j = false) ↔ M.over 0 b = 0 := by
  rw [M.over_feed b 0 hb]
  exact M.inv_end _ P _ i h hi
end Go.Proofs.Ytncooadaeifekaa
