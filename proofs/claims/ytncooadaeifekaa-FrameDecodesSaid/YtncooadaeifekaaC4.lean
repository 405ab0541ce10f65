/- Walks of the codec's width, within, of the reference's power and Fits, of Same: memory only grows. -/
import Derived.Test.YtncooadaeifekaaK6
import Derived.Test.YtncooadaeifekaaC3
import Derived.Test.YtncooadaeifekaaM2
namespace Go.Proofs.Ytncooadaeifekaa
open Go.RowKit
theorem within_calls (x : Int) (w : World) :
    Calls Try.prog 80 #[.int .i64 x] w fun e w' => e = .returned (.bool (decide (1 ≤ x ∧ x ≤ 7))) ∧ Below w.heap.size w w' := by
  by_cases h1 : 1 ≤ x
  · by_cases h2 : x ≤ 7
    · have t1 : decide (1 ≤ x) = true := by simpa using h1
      have t2 : decide (x ≤ 7) = true := by simpa using h2
      have t3 : decide (1 ≤ x ∧ x ≤ 7) = true := by simp [h1, h2]
      go_enter Try.func80, Try.ntmps80
      go_wp2
      go_ret
      exact ⟨by first | rfl | (rw [t3]; rfl), Below.refl _ _⟩
    · have t1 : decide (1 ≤ x) = true := by simpa using h1
      have t2 : decide (x ≤ 7) = false := by simpa using h2
      have t3 : decide (1 ≤ x ∧ x ≤ 7) = false := by simp; omega
      go_enter Try.func80, Try.ntmps80
      go_wp2
      go_ret
      exact ⟨by first | rfl | (rw [t3]; rfl), Below.refl _ _⟩
  · have t1 : decide (1 ≤ x) = false := by simpa using h1
    have t3 : decide (1 ≤ x ∧ x ≤ 7) = false := by simp; omega
    go_enter Try.func80, Try.ntmps80
    go_wp2
    go_ret
    exact ⟨by simp, Below.refl _ _⟩
set_option maxRecDepth 100000 in
theorem width_calls (x : Int) (hx : -9223372036854775808 ≤ x) (hx2 : x < 9223372036854775808) (w : World) :
    Calls Try.prog 44 #[.int .i64 x] w fun e w' => (∃ n : Nat, e = .returned (.int .i64 n) ∧ M.WidthOf x n) ∧ Below w.heap.size w w' := by
  by_cases h0 : x < 0
  · have t0 : decide (x < 0) = true := by simpa using h0
    have t1 : decide (0 < x / 256) = false := by simp; omega
    go_enter Try.func44, Try.ntmps44
    go_wp2
    go_loop [0, 3] (fun v n => v = .int .i64 x ∧ n = .int .i64 1) (fun _ _ => 0)
    case atStart => exact ⟨rfl, rfl⟩
    case round =>
      obtain ⟨rfl, rfl⟩ := hrel
      go_wp2
      go_ret
      exact ⟨⟨8, rfl, fun _ => rfl, fun h => absurd h0 (by omega)⟩, Below.refl _ _⟩
  · obtain ⟨X, hX⟩ : ∃ X : Nat, x = X := ⟨x.toNat, by omega⟩
    subst hX
    have hXl : X < 9223372036854775808 := by omega
    clear hx hx2 h0
    go_enter Try.func44, Try.ntmps44
    go_wp2
    go_loop [0, 3] (fun v n => ∃ m V : Nat, v = .int .i64 V ∧ n = .int .i64 m ∧ 1 ≤ m ∧ m ≤ 8 ∧ V = X / 256 ^ (m - 1) ∧ (m = 1 ∨ 1 ≤ V)) (fun v _ => (intOf v).toNat)
    case atStart => exact ⟨1, X, rfl, rfl, by omega, by omega, by simp, .inl rfl⟩
    case round =>
      obtain ⟨m, V, rfl, rfl, hm1, hm8, hV, hV1⟩ := hrel
      have hVl : V < 9223372036854775808 := by rw [hV]; exact Nat.lt_of_le_of_lt (Nat.div_le_self _ _) hXl
      have hstep : Hid (V / 256 = X / 256 ^ m) := by
        show V / 256 = X / 256 ^ m
        rw [hV, M.div_step, show m - 1 + 1 = m by omega]
      have HV := hid hV
      have HV1 := hid hV1
      clear hV hV1
      by_cases hz : 0 < V / 256
      · have t1 : decide (0 < (V : Int) / 256) = true := by simp; omega
        have hm7 : m ≤ 7 := M.div_big X m hXl (by rw [← hstep.out]; exact hz)
        have hzz := hid hz
        clear hz
        go_wp2
        go_round
        case rel => exact ⟨m + 1, V / 256, by go_num, by go_num, by omega, by omega, by rw [hstep.out]; rfl, .inr hzz.out⟩
        case measure => have := hzz.out; simp [intOf]; omega
      · have t1 : decide (0 < (V : Int) / 256) = false := by simp; omega
        have t0 : decide ((V : Int) < 0) = false := by simp
        have hw : M.WidthOf (X : Int) m := ⟨fun h => absurd h (by omega), fun _ => ⟨hm1, hm8, fun _ => by rw [Int.toNat_natCast, ← hstep.out]; omega, by
          rcases HV1.out with h | h
          · exact .inl h
          · right; rw [Int.toNat_natCast, ← HV.out]; exact h⟩⟩
        have HW := hid hw
        clear hw hz
        by_cases h7 : 7 < m
        · have t2 : decide ((7 : Int) < (m : Int)) = true := by simp; omega
          have e8 : m = 8 := by omega
          have HW8 : Hid (M.WidthOf (X : Int) 8) := by rw [← e8]; exact HW
          clear e8 h7
          go_wp2
          go_ret
          exact ⟨⟨8, rfl, HW8.out⟩, Below.refl _ _⟩
        · have t2 : decide ((7 : Int) < (m : Int)) = false := by simp; omega
          go_wp2
          go_ret
          exact ⟨⟨m, rfl, HW.out⟩, Below.refl _ _⟩
set_option maxRecDepth 100000 in
theorem power_calls (n : Nat) (hn : n ≤ 7) (w : World) :
    Calls Try.prog 77 #[.int .i64 n] w fun e w' => e = .returned (.int .i64 (256 ^ n : Nat)) ∧ Below w.heap.size w w' := by
  go_enter Try.func77, Try.ntmps77
  go_wp2
  go_loop [3, 4] (fun p i => ∃ m P : Nat, m ≤ n ∧ i = .int .i64 m ∧ p = .int .i64 P ∧ P = 256 ^ m) (fun _ i => n - (intOf i).toNat)
  case atStart => exact ⟨0, 1, by omega, rfl, rfl, rfl⟩
  case round =>
    obtain ⟨m, P, hm, rfl, rfl, hP⟩ := hrel
    have hPl : P ≤ 72057594037927936 := by rw [hP]; exact M.pow7 m (by omega)
    have HP := hid hP
    clear hP
    by_cases hlt : m < n
    · have hs : Hid (256 * P = 256 ^ (m + 1)) := by show 256 * P = _; rw [Nat.pow_succ, HP.out, Nat.mul_comm]
      have hsl : P ≤ 281474976710656 := by rw [HP.out]; exact Nat.le_trans (Nat.pow_le_pow_right (by decide) (by omega : m ≤ 6)) (by decide)
      go_wp2
      go_round
      case rel => exact ⟨m + 1, 256 * P, by omega, by go_num, by go_num, hs.out⟩
      case measure => simp [intOf]; omega
    · have e : m = n := by omega
      have HE : Hid (256 ^ n = P) := by show _ = P; rw [HP.out, e]
      clear e
      go_wp2
      go_ret
      refine ⟨?_, Below.refl _ _⟩; show Ending.returned (.int .i64 (P : Int)) = _; exact ret_int (by rw [← HE.out, Int.natCast_pow]; rfl)
set_option maxRecDepth 100000 in
theorem fits_calls (k x : Int) (w : World) :
    Calls Try.prog 45 #[.int .i64 k, .int .i64 x] w fun e w' => e = .returned (.bool (M.fits k x)) ∧ Below w.heap.size w w' := by
  by_cases h1 : 1 ≤ k
  · have t1 : decide (1 ≤ k) = true := by simpa using h1
    by_cases h2 : k ≤ 7
    · have t2 : decide (k ≤ 7) = true := by simpa using h2
      by_cases h3 : 0 ≤ x
      · have t3 : decide (0 ≤ x) = true := by simpa using h3
        obtain ⟨n, hn⟩ : ∃ n : Nat, k = n := ⟨k.toNat, by omega⟩
        subst hn
        obtain ⟨P, hP⟩ : ∃ P, P = 256 ^ n := ⟨_, rfl⟩
        have hPl : P ≤ 72057594037927936 := by rw [hP]; exact M.pow7 n (by omega)
        have hP0 : 0 < P := by rw [hP]; exact M.pow_pos n
        have hf : M.fits n x = decide (x ≤ (P : Int) - 1) := by
          rw [Bool.eq_iff_iff, M.fits_iff, decide_eq_true_iff, Int.toNat_natCast, ← hP]; omega
        have HF := hid hf
        have HP := hid hP
        clear hf hP
        have hn7 : n ≤ 7 := by omega
        go_enter Try.func45, Try.ntmps45
        go_wp2_with (go_at_call 77; refine (power_calls n hn7 _).mono ?_; rintro e w' ⟨rfl, hb2⟩; rw [← HP.out])
        go_ret
        exact ⟨by rw [HF.out]; rfl, hb2⟩
      · have t3 : decide (0 ≤ x) = false := by simpa using h3
        have hf : M.fits k x = false := by simp [M.fits]; omega
        go_enter Try.func45, Try.ntmps45
        go_wp2
        go_ret
        exact ⟨by first | rfl | (rw [hf]; rfl), Below.refl _ _⟩
    · have t2 : decide (k ≤ 7) = false := by simpa using h2
      have hf : M.fits k x = false := by simp [M.fits]; omega
      go_enter Try.func45, Try.ntmps45
      go_wp2
      go_ret
      exact ⟨by first | rfl | (rw [hf]; rfl), Below.refl _ _⟩
  · have t1 : decide (1 ≤ k) = false := by simpa using h1
    have hf : M.fits k x = false := by simp [M.fits]; omega
    go_enter Try.func45, Try.ntmps45
    go_wp2
    go_ret
    exact ⟨by first | rfl | (rw [hf]; rfl), Below.refl _ _⟩
set_option maxRecDepth 100000 in
theorem same_calls (a1 : Option Addr) (l1 : List Nat) (c1 : Nat) (a2 : Option Addr) (l2 : List Nat) (c2 : Nat) (w : World) (h1 : HasB w a1 l1) (h2 : HasB w a2 l2) (hn : l1.length ≤ 1000000) (hn2 : l2.length ≤ 1000000) :
    Calls Try.prog 48 #[.slice a1 l1.length c1, .slice a2 l2.length c2] w fun e w' => e = .returned (.bool (decide (l1 = l2))) ∧ Below w.heap.size w w' := by
  by_cases hl : l1.length = l2.length
  · have t1 : ((l1.length : Int) == (l2.length : Int)) = true := by rw [beq_iff_eq]; omega
    have HL := hid hl
    clear hl
    go_enter Try.func48, Try.ntmps48
    go_wp2
    go_loopw [5] (fun i wr => ∃ k : Nat, k ≤ l1.length ∧ i = .int .i64 k ∧ Hid (∀ j, j < k → nth l1 j = nth l2 j) ∧ Below w.heap.size w wr) (fun i _ => l1.length - (intOf i).toNat)
    case atStart => exact ⟨0, Nat.zero_le _, rfl, (fun j hj => absurd hj (by omega)), Below.refl _ _⟩
    case round =>
      obtain ⟨k, hk, rfl, hK, hb⟩ := hrel
      by_cases hlt : k < l1.length
      · have hlt2 : k < l2.length := by have := HL.out; omega
        obtain ⟨b1, o1, rfl, hc1⟩ := (h1.below hb).cell (by omega)
        obtain ⟨b2, o2, rfl, hc2⟩ := (h2.below hb).cell (by omega)
        have hcell1 := hc1 k hlt
        have hcell2 := hc2 k hlt2
        clear hc1 hc2
        by_cases he : nth l1 k = nth l2 k
        · have t2 : ((nth l1 k : Int) == (nth l2 k : Int)) = true := by rw [he]; simp
          have HE := hid he
          clear he
          go_upto_region 6 with (fail)
          go_quiet (fail)
          go_wp2
          go_roundw
          case rel => exact ⟨k + 1, by omega, by go_num, (fun j hj => by by_cases e : j = k; (rw [e]; exact HE.out); exact hK.out j (by omega)), below_drewN hb _⟩
          case measure => simp [intOf]; omega
        · have t2 : ((nth l1 k : Int) == (nth l2 k : Int)) = false := by rw [beq_eq_false_iff_ne]; omega
          have hne : Hid (decide (l1 = l2) = false) := by
            show decide (l1 = l2) = false
            rw [decide_eq_false_iff_not]
            rintro rfl
            exact he rfl
          clear he
          go_upto_region 6 with (fail)
          go_quiet (fail)
          go_wp2
          go_ret
          exact ⟨by rw [hne.out]; rfl, below_drewN hb _⟩
      · have he : Hid (decide (l1 = l2) = true) := by
          show decide (l1 = l2) = true
          rw [decide_eq_true_iff]
          exact nth_eq l1 l2 HL.out fun j hj => hK.out j (by omega)
        go_wp2
        go_ret
        exact ⟨by rw [he.out]; rfl, hb⟩
  · have t1 : ((l1.length : Int) == (l2.length : Int)) = false := by rw [beq_eq_false_iff_ne]; omega
    have hne : Hid (decide (l1 = l2) = false) := by
      show decide (l1 = l2) = false
      rw [decide_eq_false_iff_not]
      rintro rfl
      exact hl rfl
    go_enter Try.func48, Try.ntmps48
    go_wp2
    go_ret
    exact ⟨by rw [hne.out]; rfl, Below.refl _ _⟩
end Go.Proofs.Ytncooadaeifekaa
