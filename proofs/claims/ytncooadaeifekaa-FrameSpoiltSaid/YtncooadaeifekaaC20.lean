/- Walks of the reference's Bit and Divides. -/
import Derived.Test.YtncooadaeifekaaM6
import Derived.Test.YtncooadaeifekaaC8
namespace Go.Proofs.Ytncooadaeifekaa
open Go.RowKit
theorem half_wrap (Y : Nat) (h : Y < 256) : wrap64 ((Y : Int) / 2) = ((Y / 2 : Nat) : Int) := by unfold wrap64; omega
theorem bit_val (l : List Nat) (i : Nat) : ((M.bitL l i).toNat : Nat) = nth l (i / 8) / 2 ^ (i % 8) % 2 := by
  unfold M.bitL
  show ((nth l (i / 8)).testBit (i % 8)).toNat = _
  rw [Nat.testBit_eq_decide_div_mod_eq]
  rcases Nat.mod_two_eq_zero_or_one (nth l (i / 8) / 2 ^ (i % 8)) with h | h <;> rw [h] <;> rfl
set_option maxRecDepth 100000 in
set_option maxHeartbeats 400000 in
theorem bit_calls (a : Option Addr) (l : List Nat) (c i : Nat) (w : World) (hl : HasB w a l) (hi : i < 8 * l.length) (hn : l.length ≤ 1000000) :
    Calls Try.prog 79 #[.slice a l.length c, .int .i64 i] w fun e w' => e = .returned (.int .i64 (M.bitL l i).toNat) ∧ Below w.heap.size w w' := by
  obtain ⟨b, off, rfl, hc⟩ := hl.cell (by omega)
  have hcell := hc (i / 8) (by omega)
  have hX := nth_lt l hl.1 (i / 8)
  obtain ⟨X, hXe⟩ : ∃ X, X = nth l (i / 8) := ⟨_, rfl⟩
  rw [← hXe] at hcell hX
  have hV : Hid ((M.bitL l i).toNat = X / 2 ^ (i % 8) % 2) := by show _ = _; rw [hXe, bit_val]
  have hib : i / 8 < l.length := by omega
  clear hc hXe
  go_enter Try.func79, Try.ntmps79
  go_wp2
  go_loop [5, 6] (fun x k => ∃ m V : Nat, m ≤ i % 8 ∧ k = .int .i64 m ∧ x = .int .i64 V ∧ Hid (V = X / 2 ^ m)) (fun _ k => i % 8 - (intOf k).toNat)
  case atStart => exact ⟨0, X, Nat.zero_le _, rfl, rfl, (by show _ = _; simp)⟩
  case round =>
    obtain ⟨m, V, hm, rfl, rfl, HV⟩ := hrel
    have hV8 : V < 256 := by rw [HV.out]; exact Nat.lt_of_le_of_lt (Nat.div_le_self _ _) hX
    by_cases hlt : m < i % 8
    · have hV2 : Hid (V / 2 = X / 2 ^ (m + 1)) := by show _ = _; rw [HV.out, Nat.div_div_eq_div_mul, Nat.pow_succ]
      go_wp2
      go_round
      case rel => exact ⟨m + 1, V / 2, by omega, by go_num, by go_num, hV2⟩
      case measure => simp [intOf]; omega
    · obtain rfl : m = i % 8 := by omega
      have e : Hid (((M.bitL l i).toNat : Int) = (V : Int) % 2) := by show _ = _; rw [hV.out, ← HV.out]; omega
      go_wp2
      go_ret
      exact ⟨by rw [e.out]; go_num, Below.refl _ _⟩
theorem powers_le : ∀ k, k < 18 → nth M.powers k ≤ 32 := by decide
theorem powers_len : M.powers.length = 18 := rfl
theorem togs_next (i k : Nat) (P : Nat → Bool) (h : k < 18) : M.togs i (k + 1) P = M.tog (i + 32 - nth M.powers k) (M.togs i k P) := by
  have hk : k < M.powers.length := by rw [powers_len]; exact h
  have e : M.powers[k] = nth M.powers k := by rw [nth, List.getD, List.getElem?_eq_getElem hk]; rfl
  rw [M.togs_succ i k P hk]
  exact congrArg (fun x => M.tog (i + 32 - x) (M.togs i k P)) e
theorem one_sub (x : Bool) : wrap64 (1 - (x.toNat : Int)) = ((1 - x.toNat : Nat) : Int) := by cases x <;> (unfold wrap64; simp)
set_option maxRecDepth 100000 in
set_option maxHeartbeats 1000000 in
theorem divides_calls (a : Option Addr) (l : List Nat) (c : Nat) (w : World) (hl : HasB w a l) (hn : l.length ≤ 1000) :
    Calls Try.prog 54 #[.slice a l.length c] w fun e w' => e = .returned (.bool (decide (M.over 0 l = 0))) ∧ Below w.heap.size w w' := by
  have HL := hid hl
  clear hl
  go_enter Try.func54, Try.ntmps54
  go_wp2
  go_loopw [3, 4] (fun v i wr => ∃ m : Nat, m ≤ 8 * l.length ∧ i = .int .i64 m ∧ Hid (OwnN wr w.heap.size v (bitsL m (M.bitL l))) ∧ Hid (Below w.heap.size w wr)) (fun _ i _ => 8 * l.length - (intOf i).toNat)
  case atStart => exact ⟨0, Nat.zero_le _, rfl, ownN_nil _ _, Below.refl _ _⟩
  case round =>
    obtain ⟨m, hm, rfl, HO, HW⟩ := hrel
    by_cases hlt : m < 8 * l.length
    · have hsuc : bitsL m (M.bitL l) ++ [(M.bitL l m).toNat] = bitsL (m + 1) (M.bitL l) := bitsL_succ _ _
      have HS := hid hsuc
      have hln : (bitsL (m + 1) (M.bitL l)).length = m + 1 := bitsL_length _ _
      have HLN := hid hln
      obtain ⟨A, hA⟩ : ∃ A, A = bitsL m (M.bitL l) := ⟨_, rfl⟩
      obtain ⟨A2, hA2⟩ : ∃ A, A = bitsL (m + 1) (M.bitL l) := ⟨_, rfl⟩
      obtain ⟨bt, hbt⟩ : ∃ b, b = (M.bitL l m).toNat := ⟨_, rfl⟩
      rw [← hA, ← hA2, ← hbt] at HS
      rw [← hA] at HO
      obtain ⟨av, cv, rfl, _⟩ := HO.out.slice
      rw [← hA2] at HLN
      have HBT := hid hbt
      have HA2 := hid hA2
      clear hsuc hln hbt hA2 hA
      go_wp2_with (first | (go_at_call 79; refine (bit_calls a l c m _ (HL.out.below HW.out) hlt (by omega)).mono ?_; rintro e w1 ⟨rfl, hb1⟩; rw [← HBT.out]; have ho1 := hid (HO.out.grow hb1); have hW1 := hid (below_next HW.out hb1)) | ((with_reducible show wpList _ _ _ (⟨some 22, _, _, _, _, _⟩ :: _) _ _); refine wpList_append_int 22 rfl rfl _ _ rfl w.heap.size _ A A2 bt HS.out (by rfl) (ho1.out.grow ((Below.refl _ _).alloc (Nat.le_refl _) _)) w1.heap.size 1 (by rfl) (by rw [cell_of_row _ _ _ _ _ _ (heap_alloc_new w1 _)]; rfl) (by rw [HLN.out]; omega) (by have := hW1.out.size; simp; omega) ?_; intro av2 cv2 w2 ho2 hcv2 ht2 hl2))
      go_roundw
      case rel =>
        refine ⟨m + 1, by omega, by go_num, ?_, ?_⟩
        · show OwnN _ _ _ _; rw [← HA2.out]; exact ho2
        · refine (below_next hW1.out ((Below.refl _ _).alloc (Nat.le_refl _) _)).trans (ht2.below _ (by have := hW1.out.size; simp; omega) fun k hk => ?_)
          exact (ho1.out.lt k hk).1
      case measure => simp [intOf]; omega
    · obtain rfl : m = 8 * l.length := by omega
      obtain ⟨N, hN⟩ : ∃ N, N = 8 * l.length := ⟨_, rfl⟩
      have HLT : Hid (∀ c ∈ l, c < 256) := HL.out.1
      obtain ⟨av, cv, rfl, _⟩ := HO.out.slice
      have HN := hid hN
      have t14 : decide ((N : Int) < 8 * (l.length : Int)) = false := by simp; omega
      have hN8 : N ≤ 8000 := by omega
      rw [bitsL_length, ← hN] at HO ⊢
      clear hN
      clear hlt hm HL
      have hgNp : ∀ k, Value.ownBlock (.slice av N cv) = some k → k < wr.heap.size := fun k hk => (HO.out.lt k hk).2
      have hal : Below wr.heap.size wr (wr.alloc (.cells #[.int .i64 32, .int .i64 28, .int .i64 27, .int .i64 26, .int .i64 25, .int .i64 23, .int .i64 22, .int .i64 20, .int .i64 19, .int .i64 18, .int .i64 14, .int .i64 13, .int .i64 11, .int .i64 10, .int .i64 9, .int .i64 8, .int .i64 6, .int .i64 0] 3)) := (Below.refl _ _).alloc (Nat.le_refl _) _
      have hpw : (wr.alloc (.cells #[.int .i64 32, .int .i64 28, .int .i64 27, .int .i64 26, .int .i64 25, .int .i64 23, .int .i64 22, .int .i64 20, .int .i64 19, .int .i64 18, .int .i64 14, .int .i64 13, .int .i64 11, .int .i64 10, .int .i64 9, .int .i64 8, .int .i64 6, .int .i64 0] 3)).heap[wr.heap.size]? = some (.cells (i6s M.powers).toArray 3 (0, 0)) := heap_alloc_new wr _
      have HO := hid (HO.out.grow hal)
      have HPW := hid hpw
      have HW2 := hid (below_next HW.out hal)
      have hNp : w.heap.size ≤ wr.heap.size := HW.out.size
      clear hal hpw HW
      go_wp2
      generalize wr.alloc (.cells #[.int .i64 32, .int .i64 28, .int .i64 27, .int .i64 26, .int .i64 25, .int .i64 23, .int .i64 22, .int .i64 20, .int .i64 19, .int .i64 18, .int .i64 14, .int .i64 13, .int .i64 11, .int .i64 10, .int .i64 9, .int .i64 8, .int .i64 6, .int .i64 0] 3) = W2 at *
      generalize wr.heap.size = Np at *
      go_loopw [6] (fun s6 wq => ∃ (i : Nat) (P : Nat → Bool), s6 = .int .i64 i ∧ i ≤ N ∧ Hid (OwnN wq w.heap.size (.slice av N cv) (bitsL N P)) ∧ Hid (M.inv (M.bitL l) i P ∧ ((N ≤ 32 ∧ i = 0) ∨ (32 ≤ N ∧ i + 32 ≤ N))) ∧ Hid (wq.heap[Np]? = some (.cells (i6s M.powers).toArray 3 (0, 0)) ∧ Np < wq.heap.size) ∧ Hid (Below w.heap.size w wq)) (fun s6 _ => N - (intOf s6).toNat)
      case atStart =>
        refine ⟨0, M.bitL l, rfl, Nat.zero_le _, HO.out, ⟨M.inv_zero _, by omega⟩, ⟨HPW.out, (Array.getElem?_eq_some_iff.1 HPW.out).1⟩, HW2.out⟩
      case round =>
        obtain ⟨i, P, rfl, hiN, HO, HI, HP, HWq⟩ := hrel
        by_cases hlt : i + 32 < N
        · obtain ⟨g, rfl, hg1, hg2, hcells, hfree, hset⟩ := HO.out.store (bitsL_length _ _) (by omega)
          have hcell := hcells i (by omega)
          rw [nth_bitsL N i P (by omega)] at hcell
          have HI2 := hid (inv_next _ i P HI.out.1)
          clear hcells hset hfree
          cases hPi : P i with
          | true =>
            rw [hPi] at hcell HI2
            simp only [Bool.toNat_true, if_true] at hcell HI2
            clear hPi
            go_wp2
            go_loopw [7] (fun s7 wz => ∃ k : Nat, k ≤ 18 ∧ s7 = .int .i64 k ∧ Hid (OwnN wz w.heap.size (.slice (some ⟨g, 0, none⟩) N cv) (bitsL N (M.togs i k P))) ∧ Hid (wz.heap[Np]? = some (.cells (i6s M.powers).toArray 3 (0, 0)) ∧ Np < wz.heap.size) ∧ Hid (Below w.heap.size w wz)) (fun s7 _ => 18 - (intOf s7).toNat)
            case atStart => exact ⟨0, by omega, rfl, HO.out, HP.out, HWq.out⟩
            case round =>
              obtain ⟨k, hk, rfl, HO2, HP2, HW3⟩ := hrel
              by_cases hk18 : k < 18
              · have hq := powers_le k hk18
                have hpc : wr.cell? ⟨Np, k, none⟩ = some (.int .i64 (nth M.powers k)) := by
                  rw [cell_of_row _ _ _ _ _ _ HP2.out.1]
                  simpa using i6s_at M.powers k (by rw [powers_len]; exact hk18)
                have hnx := togs_next i k P hk18
                obtain ⟨q, hqe⟩ : ∃ q, q = nth M.powers k := ⟨_, rfl⟩
                rw [← hqe] at hq hpc hnx
                obtain ⟨A, hA⟩ : ∃ A : Nat, (i : Int) + 32 - (q : Int) = (A : Int) := ⟨i + 32 - q, by omega⟩
                have hAe : A = i + 32 - q := by omega
                rw [← hAe] at hnx
                have hAN : A < N := by omega
                obtain ⟨g', hgg, _, hg3, hcells2, hfree2, hset2⟩ := HO2.out.store (bitsL_length _ _) (by omega)
                obtain rfl : g = g' := by simpa using hgg
                have hcell2 := hcells2 A hAN
                rw [nth_bitsL N A _ hAN] at hcell2
                have hfz := hfree2 A
                have hs := hset2 A (1 - (M.togs i k P A).toNat)
                rw [bitsL_set N A _ hAN, ← hnx] at hs
                obtain ⟨X, hX⟩ : ∃ X, X = (M.togs i k P A).toNat := ⟨_, rfl⟩
                obtain ⟨Y, hY⟩ : ∃ Y, Y = 1 - (M.togs i k P A).toNat := ⟨_, rfl⟩
                have hX1 : X ≤ 1 := by rw [hX]; cases M.togs i k P A <;> simp
                have hXY : (1 : Int) - (X : Int) = (Y : Int) := by rw [← hX] at hY; omega
                rw [← hY] at hs
                rw [← hX] at hcell2
                have HS := hid hs
                have hne : Np ≠ g := by have := hgNp g rfl; omega
                clear hcells2 hfree2 hset2 hs hX hY hqe hnx hgg hAe
                go_wp2
                go_roundw
                case rel => exact ⟨k + 1, by omega, by go_num, HS.out, ⟨by rw [Below.heap_setCell _ _ _ _ hne]; exact HP2.out.1, by simp [World.setCell]; exact HP2.out.2⟩, HW3.out.setCell hg1 _⟩
                case measure => simp [intOf]; omega
              · obtain rfl : k = 18 := by omega
                go_wp2
                go_roundw
                case rel => exact ⟨i + 1, M.togs i 18 P, by go_num, by omega, HO2.out, ⟨HI2.out, by omega⟩, HP2.out, HW3.out⟩
                case measure => simp [intOf]; omega
          | false =>
            rw [hPi] at hcell HI2
            simp only [Bool.toNat_false, Bool.false_eq_true, if_false] at hcell HI2
            clear hPi
            go_wp2
            go_roundw
            case rel => exact ⟨i + 1, P, by go_num, by omega, HO.out, ⟨HI2.out, by omega⟩, HP.out, HWq.out⟩
            case measure => simp [intOf]; omega
        · have hD : Hid ((∀ j, j < N → P j = false) ↔ M.over 0 l = 0) := by
            show _ ↔ _
            have := divides_iff l HLT.out P i HI.out.1 (by have := HI.out.2; have := HN.out; omega)
            rw [← HN.out] at this
            exact this
          go_wp2
          go_loop [9] (fun s9 => ∃ j : Nat, j ≤ N ∧ s9 = .int .i64 j ∧ Hid (∀ x, x < j → P x = false)) (fun s9 => N - (intOf s9).toNat)
          case atStart => exact ⟨0, Nat.zero_le _, rfl, fun x hx => absurd hx (by omega)⟩
          case round =>
            obtain ⟨j, hj, rfl, HJ⟩ := hrel
            by_cases hjN : j < N
            · obtain ⟨g, rfl, hg1, hg2, hcells, hfree, hset⟩ := HO.out.store (bitsL_length _ _) (by omega)
              have hcell := hcells j hjN
              rw [nth_bitsL N j P hjN] at hcell
              clear hcells hset hfree
              cases hPj : P j with
              | true =>
                have hR : Hid (decide (M.over 0 l = 0) = false) := by
                  show _ = _
                  rw [decide_eq_false_iff_not]
                  intro h0
                  have := hD.out.2 h0 j hjN
                  rw [hPj] at this; cases this
                rw [hPj] at hcell
                simp only [Bool.toNat_true] at hcell
                clear hPj
                go_wp2
                go_ret
                exact ⟨by rw [hR.out]; rfl, HWq.out⟩
              | false =>
                have HJ2 : Hid (∀ x, x < j + 1 → P x = false) := fun x hx => by
                  by_cases e : x = j
                  · subst e; exact hPj
                  · exact HJ.out x (by omega)
                rw [hPj] at hcell
                simp only [Bool.toNat_false] at hcell
                clear hPj
                go_wp2
                go_round
                case rel => exact ⟨j + 1, by omega, by go_num, HJ2⟩
                case measure => simp [intOf]; omega
            · have hR : Hid (decide (M.over 0 l = 0) = true) := by
                show _ = _
                rw [decide_eq_true_iff]
                exact hD.out.1 fun x hx => HJ.out x (by omega)
              go_wp2
              go_ret
              exact ⟨by rw [hR.out]; rfl, HWq.out⟩
end Go.Proofs.Ytncooadaeifekaa
