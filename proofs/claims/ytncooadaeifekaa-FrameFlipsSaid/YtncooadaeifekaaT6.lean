/- Walk of the law CrcBursts, where its guard lets it by: it answers true. -/
import Derived.Test.YtncooadaeifekaaT5
namespace Go.Proofs.Ytncooadaeifekaa
open Go.RowKit Go.BigFrame
theorem word_bit (word k : Nat) (hw : word < 4294967296) : (bits .and .u32 ((word : Int) / 2 ^ k) 1 == 1) = word.testBit k := by
  have e : ((word : Int) / 2 ^ k) = ((word / 2 ^ k : Nat) : Int) := by simp
  have hlt : word / 2 ^ k < 4294967296 := Nat.lt_of_le_of_lt (Nat.div_le_self _ _) hw
  rw [e, and1 _ hlt, Nat.testBit_eq_decide_div_mod_eq]
  by_cases h : word / 2 ^ k % 2 = 1
  · rw [h]; rfl
  · have h0 : word / 2 ^ k % 2 = 0 := by omega
    rw [h0]; rfl
theorem burst_step (word a k j : Nat) (h : word.testBit k = true) : ((decide (a ≤ j ∧ j < a + k) && word.testBit (j - a)) || decide (j = a + k)) = (decide (a ≤ j ∧ j < a + (k + 1)) && word.testBit (j - a)) := by
  by_cases e : j = a + k
  · subst e; rw [show a + k - a = k by omega, h]; simp
  · have : (a ≤ j ∧ j < a + (k + 1)) ↔ (a ≤ j ∧ j < a + k) := by omega
    rw [decide_eq_false e, Bool.or_false, decide_eq_decide.2 this]
theorem burst_skip (word a k j : Nat) (h : word.testBit k = false) : (decide (a ≤ j ∧ j < a + k) && word.testBit (j - a)) = (decide (a ≤ j ∧ j < a + (k + 1)) && word.testBit (j - a)) := by
  by_cases e : j = a + k
  · subst e; rw [show a + k - a = k by omega, h]; simp
  · have : (a ≤ j ∧ j < a + (k + 1)) ↔ (a ≤ j ∧ j < a + k) := by omega
    rw [decide_eq_decide.2 this]
set_option maxRecDepth 100000 in
set_option maxHeartbeats 400000 in
theorem bursts_walk (word a n : Nat) (hw : 0 < word) (hw2 : word < 4294967296) (h1 : 5 ≤ n) (hn : n ≤ 200) (ha : a + 32 ≤ 8 * n) (w : World) :
    Calls Try.prog 7 #[.int .u32 word, .int .i64 a, .int .i64 n] w fun e w' => e = .returned (.bool true) ∧ Below w.heap.size w w' := by
  have t0 : decide ((n : Int) < 5) = false := by simp; omega
  have t1 : decide ((200 : Int) < (n : Int)) = false := by simp; omega
  have t2 : decide ((a : Int) < 0) = false := by simp
  have t3 : decide (8 * (n : Int) - 32 < (a : Int)) = false := by simp; omega
  have t4 : ((word : Int) == 0) = false := by rw [beq_eq_false_iff_ne]; omega
  have hW := Below.refl w.heap.size w
  go_enter Try.func7, Try.ntmps7
  go_upto_region 6 with (first | (go_at_call 28; refine (anchor_calls _).mono ?_; rintro e w1 ⟨rfl, hb1⟩; have hW := below_next hW hb1) | ((with_reducible show wpList _ _ _ (⟨some 33, _, _, _, _, _⟩ :: _) _ _); refine wpList_make_bytes 33 rfl rfl _ rfl n (by rfl) (by omega) ?_; intro W N hN hMN hrow hb32; have hN2 := Nat.le_trans hW.size hN; have hW := below_next hW hb32))
  go_wp2
  go_loopw [8, 34] (fun _ i wr => ∃ (k : Nat) (l : List Nat), k ≤ 32 ∧ i = .int .i64 k ∧ Hid (l.length = n ∧ (∀ c ∈ l, c < 256) ∧ ∀ j, M.bitL l j = (decide (a ≤ j ∧ j < a + k) && word.testBit (j - a))) ∧ Hid (RowB wr N l) ∧ Below w.heap.size w wr) (fun _ i _ => 32 - (intOf i).toNat)
  case atStart =>
    refine ⟨0, List.replicate n 0, Nat.zero_le _, rfl, ⟨by simp, by simp, fun j => ?_⟩, hrow, hW⟩
    rw [bit_zeros, decide_eq_false (by omega)]; rfl
  case round =>
    obtain ⟨k, l, hk, rfl, hl, hrw, hbr⟩ := hrel
    by_cases hlt : k < 32
    · have htest := word_bit word k hw2
      have hnN : a + k < 8 * n := by omega
      by_cases hbit : word.testBit k = true
      · rw [hbit] at htest
        have c1 := hrw.out.cell ((a + k) / 8) (by rw [hl.out.1]; omega)
        have c2 := hrw.out.free ((a + k) / 8)
        have hpow := pow8 (a + k)
        have hp8 := p8_lt (a + k)
        have hnl := nth_lt l hl.out.2.1 ((a + k) / 8)
        have hor := or8 _ _ hnl hp8
        have horl := or8_lt _ _ hnl hp8
        obtain ⟨Y, hY⟩ : ∃ Y, Y = nth l ((a + k) / 8) ||| 2 ^ ((a + k) % 8) := ⟨_, rfl⟩
        have hB2 : Hid (∀ j, M.bitL (l.set ((a + k) / 8) Y) j = (decide (a ≤ j ∧ j < a + (k + 1)) && word.testBit (j - a))) := fun j => by
          rw [or_bit l (a + k) Y (by rw [hl.out.1]; exact hnN) hY, hl.out.2.2 j]
          exact burst_step word a k j hbit
        have hY8 : Y < 256 := by rw [hY]; exact horl
        obtain ⟨pb, hpb'⟩ : ∃ pb, pb = 2 ^ ((a + k) % 8) := ⟨_, rfl⟩
        rw [← hpb'] at hpow hor hp8 hY
        rw [← hY] at hor
        clear hpb' hY horl hbit
        go_wp2
        go_roundw
        case rel =>
          exact ⟨k + 1, l.set ((a + k) / 8) Y, by omega, by go_num, ⟨by simpa using hl.out.1, set_lt hl.out.2.1 _ _ hY8, hB2.out⟩, hrw.out.set _ _, hbr.setCell hN2 _⟩
        case measure => simp [intOf]; omega
      · rw [Bool.not_eq_true] at hbit
        rw [hbit] at htest
        have hB2 : Hid (∀ j, M.bitL l j = (decide (a ≤ j ∧ j < a + (k + 1)) && word.testBit (j - a))) := fun j => by
          rw [hl.out.2.2 j]
          exact burst_skip word a k j hbit
        clear hbit
        go_wp2
        go_roundw
        case rel =>
          exact ⟨k + 1, l, by omega, by go_num, ⟨hl.out.1, hl.out.2.1, hB2.out⟩, hrw, hbr⟩
        case measure => simp [intOf]; omega
    · have hk32 : k = 32 := by omega
      have hne : M.over 0 l ≠ 0 := M.burst_ne l hl.out.2.1 word a hw hw2 (by rw [hl.out.1]; exact ha) (fun j _ => by rw [hl.out.2.2 j, hk32])
      have hm : ((M.over 0 l : Int) == 0) = false := by rw [beq_eq_false_iff_ne]; omega
      have hmul := fun w' (hb' : Below wr.heap.size wr w') => multiple_calls (some ⟨N, 0, none⟩) l n w' ((hrw.out.has hl.out.2.1).below hb') (by rw [hl.out.1]; omega)
      rw [hl.out.1, hm] at hmul
      have HM := hid hmul
      clear hmul hm hne hk32
      go_wp2_with (first | (go_at_call 29; refine (new_calls _).mono ?_; rintro e w3 ⟨rfl, hb3⟩) | (go_at_call 35; refine (HM.out _ hb3).mono ?_; rintro e w4 ⟨rfl, hb4⟩))
      go_ret
      exact ⟨rfl, below_next (below_next hbr hb3) hb4⟩
end Go.Proofs.Ytncooadaeifekaa
