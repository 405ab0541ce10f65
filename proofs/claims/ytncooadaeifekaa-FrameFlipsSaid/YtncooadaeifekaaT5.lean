/- Walk of the law CrcTwo, where its guard lets it by: it answers true. -/
import Derived.Test.YtncooadaeifekaaT4
namespace Go.Proofs.Ytncooadaeifekaa
open Go.RowKit Go.BigFrame
theorem or8 (a b : Nat) (ha : a < 256) (hb : b < 256) : bits .or .u8 (a : Int) (b : Int) = ((a ||| b : Nat) : Int) := by
  have hx : a ||| b < 2 ^ 8 := Nat.or_lt_two_pow ha hb
  have h1 : (BitVec.ofInt 8 (a : Int)).toNat = a := by rw [BitVec.ofInt_natCast, BitVec.toNat_ofNat]; exact Nat.mod_eq_of_lt ha
  have h2 : (BitVec.ofInt 8 (b : Int)).toNat = b := by rw [BitVec.ofInt_natCast, BitVec.toNat_ofNat]; exact Nat.mod_eq_of_lt hb
  show IntKind.u8.wrap ((BitVec.ofInt 8 (a : Int) ||| BitVec.ofInt 8 (b : Int)).toNat : Int) = _
  rw [BitVec.toNat_or, h1, h2, IntKind.wrap_u8]; omega
theorem or8_lt (a b : Nat) (ha : a < 256) (hb : b < 256) : a ||| b < 256 := Nat.or_lt_two_pow (n := 8) ha hb
theorem p8_lt (k : Nat) : 2 ^ (k % 8) < 256 := Nat.lt_of_lt_of_le (Nat.pow_lt_pow_right (by decide) (Nat.mod_lt k (by decide))) (by decide)
theorem or_bit (l : List Nat) (k X : Nat) (hk : k < 8 * l.length) (hX : X = nth l (k / 8) ||| 2 ^ (k % 8)) (i : Nat) : M.bitL (l.set (k / 8) X) i = (M.bitL l i || decide (i = k)) := by
  have e : ∀ l : List Nat, M.bitL l i = (nth l (i / 8)).testBit (i % 8) := fun l => rfl
  rw [e, e, nth_set _ _ _ _ (by omega)]
  by_cases h : i / 8 = k / 8
  · rw [if_pos h, hX, Nat.testBit_or, Nat.testBit_two_pow, h]
    congr 2
    apply propext
    omega
  · rw [if_neg h]
    have : i ≠ k := fun e => h (by rw [e])
    simp [this]
theorem bit_zeros (m i : Nat) : M.bitL (List.replicate m 0) i = false := by
  have e : M.bitL (List.replicate m 0) i = (nth (List.replicate m 0) (i / 8)).testBit (i % 8) := rfl
  rw [e]
  have : nth (List.replicate m 0) (i / 8) = 0 := by
    unfold nth
    by_cases h : i / 8 < m <;> simp [List.getD, h]
  rw [this]; simp
set_option maxRecDepth 100000 in
set_option maxHeartbeats 400000 in
theorem two_walk (n a b : Nat) (h1 : 1 ≤ n) (hn : n ≤ 500) (hab : a < b) (hb : b < 8 * n) (w : World) :
    Calls Try.prog 8 #[.int .i64 n, .int .i64 a, .int .i64 b] w fun e w' => e = .returned (.bool true) ∧ Below w.heap.size w w' := by
  have t0 : decide ((n : Int) < 1) = false := by simp; omega
  have t1 : decide ((500 : Int) < (n : Int)) = false := by simp; omega
  have t2 : decide ((a : Int) < 0) = false := by simp
  have t3 : decide ((b : Int) ≤ (a : Int)) = false := by simp; omega
  have t4 : decide (8 * (n : Int) ≤ (b : Int)) = false := by simp; omega
  have hW := Below.refl w.heap.size w
  go_enter Try.func8, Try.ntmps8
  go_upto_region 6 with (first | (go_at_call 28; refine (anchor_calls _).mono ?_; rintro e w1 ⟨rfl, hb1⟩; have hW := below_next hW hb1) | ((with_reducible show wpList _ _ _ (⟨some 32, _, _, _, _, _⟩ :: _) _ _); refine wpList_make_bytes 32 rfl rfl _ rfl n (by rfl) (by omega) ?_; intro W N hN hMN hrow hb32; have hN2 := Nat.le_trans hW.size hN; have hW := below_next hW hb32))
  have c1 := hrow.cell (a / 8) (by simp; omega)
  have c2 := hrow.free (a / 8)
  have z1 : nth (List.replicate n 0) (a / 8) = 0 := by
    unfold nth
    by_cases h : a / 8 < n <;> simp [List.getD, h]
  rw [z1] at c1
  have hpow := pow8 a
  have hpa := p8_lt a
  have hX := hrow.set (a / 8) (2 ^ (a % 8))
  have hbX : ∀ i, M.bitL ((List.replicate n 0).set (a / 8) (2 ^ (a % 8))) i = decide (i = a) := fun i => by
    rw [or_bit _ a _ (by simp; omega) (by rw [z1]; simp), bit_zeros]; simp
  have hlX : Hid (((List.replicate n 0).set (a / 8) (2 ^ (a % 8))).length = n) := by show _ = n; simp
  have hltX := set_lt (l := List.replicate n 0) (by simp) (a / 8) (2 ^ (a % 8)) hpa
  obtain ⟨pa, hpa'⟩ : ∃ pa, pa = 2 ^ (a % 8) := ⟨_, rfl⟩
  rw [← hpa'] at hpow hpa hX hbX hlX hltX
  have hor : bits .or .u8 0 (pa : Int) = (pa : Int) := by have := or8 0 pa (by decide) hpa; simpa using this
  clear hpa' hrow z1
  go_upto_region 7 with (fail)
  have hbw := hW.setCell (p := ⟨N, a / 8, none⟩) hN2 (.int .u8 (pa : Nat))
  clear c1 c2 hpow hpa hor
  generalize W.setCell ⟨N, a / 8, none⟩ (.int .u8 (pa : Nat)) = W' at *
  generalize (List.replicate n 0).set (a / 8) pa = l at *
  have c1 := hX.cell (b / 8) (by rw [hlX.out]; omega)
  have c2 := hX.free (b / 8)
  have hpow := pow8 b
  have hpb := p8_lt b
  have hnl := nth_lt l hltX (b / 8)
  have hor := or8 _ _ hnl hpb
  have horl := or8_lt _ _ hnl hpb
  obtain ⟨Y, hY⟩ : ∃ Y, Y = nth l (b / 8) ||| 2 ^ (b % 8) := ⟨_, rfl⟩
  have hX2 := hX.set (b / 8) Y
  have hbX2 : ∀ i, M.bitL (l.set (b / 8) Y) i = decide (i = a ∨ i = b) := fun i => by
    rw [or_bit l b Y (by rw [hlX.out]; omega) hY, hbX]
    by_cases e1 : i = a <;> by_cases e2 : i = b <;> simp [e1, e2]
  have hltX2 := set_lt hltX (b / 8) Y (by rw [hY]; exact horl)
  have hlX2 : Hid ((l.set (b / 8) Y).length = n) := by show _ = n; rw [List.length_set, hlX.out]
  obtain ⟨pb, hpb'⟩ : ∃ pb, pb = 2 ^ (b % 8) := ⟨_, rfl⟩
  rw [← hpb'] at hpow hor hpb hY
  rw [← hY] at hor
  have hbw2 := hbw.setCell (p := ⟨N, b / 8, none⟩) hN2 (.int .u8 (Y : Nat))
  have hne := M.two_ne (l.set (b / 8) Y) hltX2 a b hab (by omega) (by rw [hlX2.out]; exact hb) (fun i _ => hbX2 i)
  have hm : ((M.over 0 (l.set (b / 8) Y) : Int) == 0) = false := by rw [beq_eq_false_iff_ne]; omega
  clear hpb' hbX hbX2 hX hne hY
  go_upto_region 8 with (fail)
  clear c1 c2 hpow hor
  generalize W'.setCell ⟨N, b / 8, none⟩ (.int .u8 (Y : Nat)) = W2 at *
  generalize l.set (b / 8) Y = l2 at *
  have hmul := fun w' (hb' : Below W2.heap.size W2 w') => multiple_calls (some ⟨N, 0, none⟩) l2 n w' ((hX2.has hltX2).below hb') (by rw [hlX2.out]; omega)
  rw [hlX2.out, hm] at hmul
  have HM := hid hmul
  clear hmul hm
  go_wp2_with (first | (go_at_call 29; refine (new_calls _).mono ?_; rintro e w3 ⟨rfl, hb3⟩) | (go_at_call 35; refine (HM.out _ hb3).mono ?_; rintro e w4 ⟨rfl, hb4⟩))
  go_ret
  exact ⟨rfl, below_next (below_next hbw2 hb3) hb4⟩
end Go.Proofs.Ytncooadaeifekaa
