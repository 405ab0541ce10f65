/- Walk of the law CodecNumbers: it answers true for all numbers. -/
import Derived.Test.YtncooadaeifekaaC8
namespace Go.Proofs.Ytncooadaeifekaa
open Go.RowKit
theorem zero63 : (Try.prog.info? 63).bind (fun i => i.zero.map (·.cells)) = some #[.slice none 0 0, .bool false] := by kernel_rfl
theorem penB_zero {w : World} {N : Nat} (h : w.heap[N]? = some (.cells #[.slice none 0 0, .bool false] 63 (0, 0))) : PenB w N (.slice none 0 0) [] false := ⟨h, ownB_nil _ _, by simp [Value.ownBlock]⟩
theorem nil_apart (N M : Nat) (h : N < M) : ∀ k, penSet M (.slice none 0 0) k → ¬ penSet N (.slice none 0 0) k := by
  rintro k (rfl | h1) (h2 | h2)
  · omega
  · simp [Value.ownBlock] at h2
  · simp [Value.ownBlock] at h1
  · simp [Value.ownBlock] at h1
theorem pen_apart (N M B : Nat) (v : Value) (h : N < M) (hM : M < B) (hl : ∀ j, v.ownBlock = some j → Value.ownBlock (.slice none 0 0) = some j ∨ B ≤ j) : ∀ k, penSet N v k → ¬ penSet M (.slice none 0 0) k := by
  rintro k (rfl | h1) (h2 | h2)
  · omega
  · simp [Value.ownBlock] at h2
  · rcases hl k h1 with h | h
    · simp [Value.ownBlock] at h
    · omega
  · simp [Value.ownBlock] at h2
theorem below_turned {S : Nat → Prop} {w w1 w2 : World} (hb : Below w.heap.size w w1) (ht : Turned S w1 w2) (hS : ∀ k, S k → w.heap.size ≤ k) : Below w.heap.size w w2 := hb.trans (ht.below _ hb.size hS)
theorem nil_low (N B : Nat) (h : B ≤ N) : ∀ k, penSet N (.slice none 0 0) k → B ≤ k := by
  rintro k (rfl | h1)
  · exact h
  · simp [Value.ownBlock] at h1
set_option maxRecDepth 100000 in
set_option maxHeartbeats 400000 in
theorem numbers_fit (w : World) (k A B : Nat) (hA : M.fits k A = true) (hB : M.fits k B = true) :
    Calls Try.prog 15 #[.int .i64 k, .int .i64 A, .int .i64 B] w fun e w' => e = .returned (.bool true) ∧ Below w.heap.size w w' := by
  obtain ⟨hk1, hk7, _, hAl⟩ := (M.fits_iff _ _).1 hA
  obtain ⟨_, _, _, hBl⟩ := (M.fits_iff _ _).1 hB
  simp only [Int.toNat_natCast] at hAl hBl
  have hk1' : 1 ≤ k := by omega
  have hk7' : k ≤ 7 := by omega
  obtain ⟨La, hLa⟩ : ∃ L, L = M.leB k A := ⟨_, rfl⟩
  obtain ⟨Lb, hLb⟩ : ∃ L, L = M.leB k B := ⟨_, rfl⟩
  have hlA : La.length = k := by rw [hLa, M.leB_length]
  have hlB : Lb.length = k := by rw [hLb, M.leB_length]
  have hvA : M.leV (La.take k) = A := by rw [← hlA, List.take_length, hLa, M.leV_leB _ _ hAl]
  have hvB : M.leV Lb = B := by rw [hLb, M.leV_leB _ _ hBl]
  have hAB : (La = Lb) ↔ (A = B) := ⟨fun h => by rw [← hvA, ← hvB, ← h, ← hlA, List.take_length], fun h => by rw [hLa, hLb, h]⟩
  have tlen : ((La.length : Int) == (k : Int)) = true := by rw [hlA]; simp
  have ppA : ∀ {w1 w2 : World} {N : Nat} {v : Value}, Pens N v w1 w2 ([] ++ M.leB k A) false → Pens N v w1 w2 La false := fun h => by rw [hLa]; exact h
  have ppB : ∀ {w1 w2 : World} {N : Nat} {v : Value}, Pens N v w1 w2 ([] ++ M.leB k B) false → Pens N v w1 w2 Lb false := fun h => by rw [hLb]; exact h
  have HA := hid hA
  have HB := hid hB
  have HAB := hid hAB
  have HVA := hid hvA
  have HlA := hid hlA
  have HlB := hid hlB
  clear hLa hLb hlA hlB hvA hvB hAB hA hB hAl hBl
  have hW := Below.refl w.heap.size w
  go_enter Try.func15, Try.ntmps15
  go_upto_region 8 with (first | (go_at_call 43; refine (anchor2_calls _).mono ?_; rintro e w1 ⟨rfl, hb1⟩; have hW := below_next hW hb1) | (go_at_call 45; refine (fits_calls _ _ _).mono ?_; rintro e w2 ⟨rfl, hb2⟩; have hW := below_next hW hb2; first | rw [HA.out] | rw [HB.out]) | ((with_reducible show wpList _ _ _ (⟨some 7, _, _, _, _, _⟩ :: _) _ _); refine wpList_zeroed 7 rfl rfl 63 rfl _ zero63 ?_; intro W7 N7 hN7 hM7 hr7 hb7; have hW := below_next hW hb7) | ((with_reducible show wpList _ _ _ (⟨some 8, _, _, _, _, _⟩ :: _) _ _); refine wpList_zeroed 8 rfl rfl 63 rfl _ zero63 ?_; intro W8 N8 hN8 hM8 hr8 hb8; have hW := below_next hW hb8; have hp7 := (penB_zero hr7).grow hb8; have hp8 := penB_zero hr8) | ((with_reducible show Calls _ _ #[.pointer (some ⟨N7, 0, none⟩), _, _] _ _); refine (penNum_fits N7 k A HA.out _ _ [] false hp7 (by simp)).mono ?_; rintro e w3 ⟨rfl, hs7⟩; obtain ⟨v7, hq7, ht7, hl7⟩ := ppA hs7; clear hs7; have hq8 := hp8.turned ht7 (nil_apart N7 N8 (by omega))) | ((with_reducible show Calls _ _ #[.pointer (some ⟨N8, 0, none⟩), _, _] _ _); refine (penNum_fits N8 k B HB.out _ _ [] false hq8 (by simp)).mono ?_; rintro e w4 ⟨rfl, hs8⟩; obtain ⟨v8, hr8, ht8, hl8⟩ := ppB hs8; clear hs8; have hq7' := hq7.turned ht8 (pen_apart N7 N8 W8.heap.size v7 (by omega) hM8 hl7)))
  have hN7' : w.heap.size ≤ N7 := by have := hb2.size; have := (‹Below w.heap.size w w2›).size; omega
  have hW := below_turned (below_turned hW ht7 (nil_low N7 _ hN7')) ht8 (nil_low N8 _ (by omega))
  clear hN7' ht7 ht8 hl7 hl8 hq8 hp7 hp8 hb8 hb7 hr7 hM7 hN7 hM8 hN8 ppA ppB hq7 hb2
  go_upto_region 10 with (first | ((with_reducible show Calls _ 51 #[.pointer (some ⟨N7, 0, none⟩)] _ _); refine (penOut_good N7 _ v7 La hq7' (by have := HlA.out; omega)).mono ?_; rintro e w5 ⟨⟨a5, c5, rfl, _, _, hh5⟩, hb5⟩; have hW := below_next hW hb5; have hr8 := hr8.grow hb5) | ((with_reducible show Calls _ 51 #[.pointer (some ⟨N8, 0, none⟩)] _ _); refine (penOut_good N8 _ v8 Lb hr8 (by have := HlB.out; omega)).mono ?_; rintro e w6 ⟨⟨a6, c6, rfl, _, _, hh6⟩, hb6⟩; have hW := below_next hW hb6; have hh5 := hh5.below hb6))
  have hAB := HAB.out
  by_cases hab : A = B
  · have td : decide (La = Lb) = true := by rw [decide_eq_true_iff]; exact hAB.2 hab
    have te : ((A : Int) == (B : Int)) = true := by rw [hab]; simp
    have HD := hid td
    clear hAB hab td
    go_wp2_with (first | (go_at_call 49; refine (rnew_calls a5 La c5 _ hh5 (by have := HlA.out; omega)).mono ?_; rintro e w7 ⟨⟨R, ar, cr, rfl, hrd, hR1, hR2, hR3⟩, hb7⟩; have hW7 := below_next hW hb7) | (go_at_call 56; refine (rdNum_good R k _ ar La cr hrd hk1' hk7' (by have := HlA.out; omega) (by have := HlA.out; omega)).mono ?_; rintro e w8 ⟨rfl, _, htr⟩; rw [HVA.out]) | (go_at_call 48; refine (same_calls a5 La c5 a6 Lb c6 _ (hh5.below (below_turned hb7 htr (fun k hk => by subst hk; exact hR1))) (hh6.below (below_turned hb7 htr (fun k hk => by subst hk; exact hR1))) (by have := HlA.out; omega) (by have := HlB.out; omega)).mono ?_; rintro e w9 ⟨rfl, hb9⟩; rw [HD.out]))
    go_ret
    exact ⟨rfl, below_next (below_turned hW7 htr (fun k hk => by subst hk; have := hW.size; omega)) hb9⟩
  · have td : decide (La = Lb) = false := by rw [decide_eq_false_iff_not]; exact fun h => hab (hAB.1 h)
    have te : ((A : Int) == (B : Int)) = false := by rw [beq_eq_false_iff_ne]; omega
    have HD := hid td
    clear hAB hab td
    go_wp2_with (first | (go_at_call 49; refine (rnew_calls a5 La c5 _ hh5 (by have := HlA.out; omega)).mono ?_; rintro e w7 ⟨⟨R, ar, cr, rfl, hrd, hR1, hR2, hR3⟩, hb7⟩; have hW7 := below_next hW hb7) | (go_at_call 56; refine (rdNum_good R k _ ar La cr hrd hk1' hk7' (by have := HlA.out; omega) (by have := HlA.out; omega)).mono ?_; rintro e w8 ⟨rfl, _, htr⟩; rw [HVA.out]) | (go_at_call 48; refine (same_calls a5 La c5 a6 Lb c6 _ (hh5.below (below_turned hb7 htr (fun k hk => by subst hk; exact hR1))) (hh6.below (below_turned hb7 htr (fun k hk => by subst hk; exact hR1))) (by have := HlA.out; omega) (by have := HlB.out; omega)).mono ?_; rintro e w9 ⟨rfl, hb9⟩; rw [HD.out]))
    go_ret
    exact ⟨rfl, below_next (below_turned hW7 htr (fun k hk => by subst hk; have := hW.size; omega)) hb9⟩
set_option maxRecDepth 100000 in
set_option maxHeartbeats 400000 in
theorem numbers_walk (w : World) (k : Int) (_ : -9223372036854775808 ≤ k ∧ k ≤ 9223372036854775807) (A : Int) (_ : -9223372036854775808 ≤ A ∧ A ≤ 9223372036854775807) (B : Int) (_ : -9223372036854775808 ≤ B ∧ B ≤ 9223372036854775807) :
    Calls Try.prog 15 #[.int .i64 k, .int .i64 A, .int .i64 B] w fun e w' => e = .returned (.bool true) ∧ Below w.heap.size w w' := by
  by_cases fa : M.fits k A = true
  · by_cases fb : M.fits k B = true
    · obtain ⟨hk1, _, hA0, _⟩ := (M.fits_iff _ _).1 fa
      obtain ⟨_, _, hB0, _⟩ := (M.fits_iff _ _).1 fb
      obtain ⟨n, rfl⟩ : ∃ n : Nat, k = n := ⟨k.toNat, by omega⟩
      obtain ⟨x, rfl⟩ : ∃ n : Nat, A = n := ⟨A.toNat, by omega⟩
      obtain ⟨y, rfl⟩ : ∃ n : Nat, B = n := ⟨B.toNat, by omega⟩
      exact numbers_fit w n x y fa fb
    · have fb : M.fits k B = false := by simpa using fb
      have HA := hid fa
      have HB := hid fb
      clear fa fb
      go_enter Try.func15, Try.ntmps15
      go_wp2_with (first | (go_at_call 43; refine (anchor2_calls _).mono ?_; rintro e w1 ⟨rfl, hb1⟩; have hW := hb1) | (go_at_call 45; refine (fits_calls _ _ _).mono ?_; rintro e w2 ⟨rfl, hb2⟩; have hW := below_next hW hb2; first | rw [HA.out] | rw [HB.out]))
      go_ret
      exact ⟨rfl, hW⟩
  · have fa : M.fits k A = false := by simpa using fa
    have HA := hid fa
    clear fa
    go_enter Try.func15, Try.ntmps15
    go_wp2_with (first | (go_at_call 43; refine (anchor2_calls _).mono ?_; rintro e w1 ⟨rfl, hb1⟩; have hW := hb1) | (go_at_call 45; refine (fits_calls _ _ _).mono ?_; rintro e w2 ⟨rfl, hb2⟩; have hW := below_next hW hb2; rw [HA.out]))
    go_ret
    exact ⟨rfl, hW⟩
end Go.Proofs.Ytncooadaeifekaa
