/- Plain laws: a right sum by the word's residue; a pattern put into what is sealed; what a sector says; entries and their bodies. No program in sight. -/
import Derived.Test.YtncooadaeifekaaM3
namespace Go.Proofs.Ytncooadaeifekaa.M
theorem over_leB (k r x : Nat) (h : x < 256 ^ k) : over r (leB k x) = stpN (8 * k) (r ^^^ x) := by
  induction k generalizing r x with
  | zero => simp at h; subst h; simp [leB, over, stpN]
  | succ k ih =>
    have hx : x / 256 < 256 ^ k := by rw [Nat.pow_succ] at h; omega
    rw [leB, over_cons, ih _ _ hx, show 8 * (k + 1) = 8 + 8 * k by omega, stpN_add]
    congr 1
    conv => rhs; rw [split8 x, Nat.xor_comm (2 ^ 8 * _), ← Nat.xor_assoc, stpN_xor, stpN_shift 8]
    rfl
def residue : Nat := stpN 32 4294967295
theorem sealed_iff (s : List Nat) (n : Nat) (hs : s.length = n + 4) (hb : ∀ c ∈ s, c < 256) : s.drop n = leB 4 (crc (s.take n)) ↔ over 4294967295 s = residue := by
  have hd : ∀ c ∈ s.drop n, c < 256 := fun c hc => hb c (List.mem_of_mem_drop hc)
  have ht : ∀ c ∈ s.take n, c < 256 := fun c hc => hb c (List.mem_of_mem_take hc)
  have hl : (s.drop n).length = 4 := by simp; omega
  have hv : leB 4 (leV (s.drop n)) = s.drop n := by have := leB_leV (s.drop n) hd; rw [hl] at this; exact this
  have hx : leV (s.drop n) < 256 ^ 4 := by have := leV_lt (s.drop n) hd; rw [hl] at this; exact this
  have hx4 : leV (s.drop n) < 4294967296 := hx
  have hR := over_lt 4294967295 (s.take n) (by decide) ht
  have e1 : over 4294967295 s = stpN 32 (over 4294967295 (s.take n) ^^^ leV (s.drop n)) := by
    conv => lhs; rw [← List.take_append_drop n s, over_append, ← hv, over_leB 4 _ _ hx]
  have hc := crc_lt (s.take n) ht
  rw [e1, residue]
  constructor
  · intro h
    congr 1
    have h2 : leV (s.drop n) = crc (s.take n) := by rw [h]; exact leV_leB 4 _ hc
    rw [h2, crc, ← Nat.xor_assoc, Nat.xor_self, Nat.zero_xor]
  · intro h
    have h3 := stpN_inj 32 _ _ (Nat.xor_lt_two_pow (n := 32) hR hx4) (by decide) h
    have h4 : leV (s.drop n) = crc (s.take n) := by
      rw [crc]
      generalize over 4294967295 (s.take n) = R at h3 ⊢
      generalize leV (s.drop n) = X at h3 ⊢
      rw [← h3, ← Nat.xor_assoc, Nat.xor_self, Nat.zero_xor]
    rw [← hv, h4]
/-- a pattern put into bytes -/
def xorL (a b : List Nat) : List Nat := List.zipWith (· ^^^ ·) a b
theorem xorL_length (a b : List Nat) (h : a.length = b.length) : (xorL a b).length = a.length := by simp [xorL]; omega
theorem xorL_lt (a b : List Nat) (ha : ∀ c ∈ a, c < 256) (hb : ∀ c ∈ b, c < 256) : ∀ c ∈ xorL a b, c < 256 := fun c hc => by
  unfold xorL at hc
  rw [List.zipWith_eq_zipWith_take_min] at hc
  obtain ⟨i, hi, rfl⟩ := List.mem_iff_getElem.1 hc
  simp only [List.getElem_zipWith]
  exact Nat.xor_lt_two_pow (n := 8) (ha _ (List.mem_of_mem_take (List.getElem_mem _))) (hb _ (List.mem_of_mem_take (List.getElem_mem _)))
theorem spoilt_iff (s p : List Nat) (n : Nat) (hs : s.length = n + 4) (hp : p.length = n + 4) (hb : ∀ c ∈ s, c < 256) (hq : ∀ c ∈ p, c < 256) (h : s.drop n = leB 4 (crc (s.take n))) :
    (xorL s p).drop n = leB 4 (crc ((xorL s p).take n)) ↔ over 0 p = 0 := by
  rw [sealed_iff _ n (by rw [xorL_length _ _ (by omega)]; exact hs) (xorL_lt _ _ hb hq)]
  rw [sealed_iff s n hs hb] at h
  have e := over_xor s p 4294967295 0 (by omega)
  rw [Nat.xor_zero, h] at e
  show over 4294967295 (List.zipWith (· ^^^ ·) s p) = residue ↔ _
  rw [e]
  constructor
  · intro h2
    apply xor_cancel_left (a := residue); rw [h2, Nat.xor_zero]
  · intro h2; rw [h2, Nat.xor_zero]
theorem xorL_self (a b : List Nat) (h : a.length = b.length) : xorL (xorL a b) b = a := by
  apply List.ext_getElem (by simp [xorL]; omega)
  intro i h1 h2
  simp [xorL, Nat.xor_assoc]
/-- what is told of a sector: its frame, and what went wrong -/
def dec (s : List Nat) : Fr × Int :=
  if sealed s = false then (Fr.zero, 11) else if ver s = 1 ∧ (unFr s).right = true then (unFr s, 0) else (Fr.zero, 10)
theorem zero_ok : Fr.zero.ok := ⟨by simp [Fr.zero], by simp [Fr.zero]⟩
theorem dec_ok (s : List Nat) (hs : s.length = 64) (hb : ∀ c ∈ s, c < 256) : (dec s).1.ok := by
  unfold dec
  split
  · exact zero_ok
  · split
    · exact unFr_ok s (by omega) hb
    · exact zero_ok
theorem dec_sec (f : Fr) (h : f.ok) (hr : f.right = true) : dec f.sec = (f, 0) := by
  obtain ⟨h1, h2⟩ := unFr_sec f h hr
  rw [dec, sealed_sec f h, h1, h2, hr]; simp
theorem dec_unsealed (s : List Nat) (h : sealed s = false) : dec s = (Fr.zero, 11) := by rw [dec, if_pos h]
theorem dec_err (s : List Nat) : (dec s).2 = 11 ↔ sealed s = false := by
  unfold dec
  split
  · next h => simp [h]
  · next h => split <;> simp at h ⊢ <;> exact h
def decAt (s : List Nat) (zone off : Int) : Fr × Int :=
  if (dec s).2 = 0 then (if (dec s).1.zone = zone ∧ (dec s).1.off = off then ((dec s).1, 0) else (Fr.zero, 12)) else (Fr.zero, (dec s).2)
end Go.Proofs.Ytncooadaeifekaa.M
