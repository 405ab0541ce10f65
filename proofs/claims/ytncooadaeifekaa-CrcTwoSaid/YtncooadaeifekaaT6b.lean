/- The laws CrcBursts and CrcTwo at every input: where their guards say so they answer true at once. -/
import Derived.Test.YtncooadaeifekaaT6
namespace Go.Proofs.Ytncooadaeifekaa
open Go.RowKit
set_option maxRecDepth 100000 in
theorem bursts_out (u a n : Int) (h : n < 5 ∨ 200 < n ∨ a < 0 ∨ 8 * n - 32 < a ∨ u = 0) (w : World) :
    Calls Try.prog 7 #[.int .u32 u, .int .i64 a, .int .i64 n] w fun e w' => e = .returned (.bool true) ∧ Below w.heap.size w w' := by
  by_cases s0 : n < 5
  · have t0 : (decide (n < 5)) = true := by simpa using s0
    clear h s0
    go_enter Try.func7, Try.ntmps7
    go_wp2_with (go_at_call 28; refine (anchor_calls _).mono ?_; rintro e w1 ⟨rfl, hb1⟩)
    go_ret
    exact ⟨rfl, hb1⟩
  · have t0 : (decide (n < 5)) = false := by simpa using s0
    have k0 : 5 ≤ n := by omega
    by_cases s1 : 200 < n
    · have t1 : (decide ((200 : Int) < n)) = true := by simpa using s1
      clear h s1 s0
      go_enter Try.func7, Try.ntmps7
      go_wp2_with (go_at_call 28; refine (anchor_calls _).mono ?_; rintro e w1 ⟨rfl, hb1⟩)
      go_ret
      exact ⟨rfl, hb1⟩
    · have t1 : (decide ((200 : Int) < n)) = false := by simpa using s1
      have k1 : n ≤ 200 := by omega
      by_cases s2 : a < 0
      · have t2 : (decide (a < 0)) = true := by simpa using s2
        clear h s2 s0 s1
        go_enter Try.func7, Try.ntmps7
        go_wp2_with (go_at_call 28; refine (anchor_calls _).mono ?_; rintro e w1 ⟨rfl, hb1⟩)
        go_ret
        exact ⟨rfl, hb1⟩
      · have t2 : (decide (a < 0)) = false := by simpa using s2
        by_cases s3 : 8 * n - 32 < a
        · have t3 : (decide (8 * n - 32 < a)) = true := by simpa using s3
          clear h s3 s0 s1 s2
          go_enter Try.func7, Try.ntmps7
          go_wp2_with (go_at_call 28; refine (anchor_calls _).mono ?_; rintro e w1 ⟨rfl, hb1⟩)
          go_ret
          exact ⟨rfl, hb1⟩
        · have t3 : (decide (8 * n - 32 < a)) = false := by simpa using s3
          have s4 : u = 0 := by omega
          have t4 : ((u == 0)) = true := by rw [beq_iff_eq]; exact s4
          clear h s4 s0 s1 s2 s3
          go_enter Try.func7, Try.ntmps7
          go_wp2_with (go_at_call 28; refine (anchor_calls _).mono ?_; rintro e w1 ⟨rfl, hb1⟩)
          go_ret
          exact ⟨rfl, hb1⟩
set_option maxRecDepth 100000 in
theorem two_out (n a b : Int) (h : n < 1 ∨ 500 < n ∨ a < 0 ∨ b ≤ a ∨ 8 * n ≤ b) (w : World) :
    Calls Try.prog 8 #[.int .i64 n, .int .i64 a, .int .i64 b] w fun e w' => e = .returned (.bool true) ∧ Below w.heap.size w w' := by
  by_cases s0 : n < 1
  · have t0 : (decide (n < 1)) = true := by simpa using s0
    clear h s0
    go_enter Try.func8, Try.ntmps8
    go_wp2_with (go_at_call 28; refine (anchor_calls _).mono ?_; rintro e w1 ⟨rfl, hb1⟩)
    go_ret
    exact ⟨rfl, hb1⟩
  · have t0 : (decide (n < 1)) = false := by simpa using s0
    have k0 : 1 ≤ n := by omega
    by_cases s1 : 500 < n
    · have t1 : (decide ((500 : Int) < n)) = true := by simpa using s1
      clear h s1 s0
      go_enter Try.func8, Try.ntmps8
      go_wp2_with (go_at_call 28; refine (anchor_calls _).mono ?_; rintro e w1 ⟨rfl, hb1⟩)
      go_ret
      exact ⟨rfl, hb1⟩
    · have t1 : (decide ((500 : Int) < n)) = false := by simpa using s1
      have k1 : n ≤ 500 := by omega
      by_cases s2 : a < 0
      · have t2 : (decide (a < 0)) = true := by simpa using s2
        clear h s2 s0 s1
        go_enter Try.func8, Try.ntmps8
        go_wp2_with (go_at_call 28; refine (anchor_calls _).mono ?_; rintro e w1 ⟨rfl, hb1⟩)
        go_ret
        exact ⟨rfl, hb1⟩
      · have t2 : (decide (a < 0)) = false := by simpa using s2
        by_cases s3 : b ≤ a
        · have t3 : (decide (b ≤ a)) = true := by simpa using s3
          clear h s3 s0 s1 s2
          go_enter Try.func8, Try.ntmps8
          go_wp2_with (go_at_call 28; refine (anchor_calls _).mono ?_; rintro e w1 ⟨rfl, hb1⟩)
          go_ret
          exact ⟨rfl, hb1⟩
        · have t3 : (decide (b ≤ a)) = false := by simpa using s3
          have s4 : 8 * n ≤ b := by omega
          have t4 : (decide (8 * n ≤ b)) = true := by simpa using s4
          clear h s4 s0 s1 s2 s3
          go_enter Try.func8, Try.ntmps8
          go_wp2_with (go_at_call 28; refine (anchor_calls _).mono ?_; rintro e w1 ⟨rfl, hb1⟩)
          go_ret
          exact ⟨rfl, hb1⟩
theorem bursts_frame (w : World) (u : Nat) (hu : u < 4294967296) (a : Int) (_ha : -9223372036854775808 ≤ a ∧ a ≤ 9223372036854775807) (n : Int) (_hn : -9223372036854775808 ≤ n ∧ n ≤ 9223372036854775807) :
    Calls Try.prog 7 #[.int .u32 u, .int .i64 a, .int .i64 n] w fun e w' => e = .returned (.bool true) ∧ Below w.heap.size w w' := by
  by_cases h : n < 5 ∨ 200 < n ∨ a < 0 ∨ 8 * n - 32 < a ∨ (u : Int) = 0
  · exact bursts_out u a n h w
  · obtain ⟨k, rfl⟩ : ∃ k : Nat, a = k := ⟨a.toNat, by omega⟩
    obtain ⟨m, rfl⟩ : ∃ m : Nat, n = m := ⟨n.toNat, by omega⟩
    exact bursts_walk u k m (by omega) hu (by omega) (by omega) (by omega) w
theorem two_frame (w : World) (n : Int) (_hn : -9223372036854775808 ≤ n ∧ n ≤ 9223372036854775807) (a : Int) (_ha : -9223372036854775808 ≤ a ∧ a ≤ 9223372036854775807) (b : Int) (_hb : -9223372036854775808 ≤ b ∧ b ≤ 9223372036854775807) :
    Calls Try.prog 8 #[.int .i64 n, .int .i64 a, .int .i64 b] w fun e w' => e = .returned (.bool true) ∧ Below w.heap.size w w' := by
  by_cases h : n < 1 ∨ 500 < n ∨ a < 0 ∨ b ≤ a ∨ 8 * n ≤ b
  · exact two_out n a b h w
  · obtain ⟨m, rfl⟩ : ∃ m : Nat, n = m := ⟨n.toNat, by omega⟩
    obtain ⟨k, rfl⟩ : ∃ k : Nat, a = k := ⟨a.toNat, by omega⟩
    obtain ⟨j, rfl⟩ : ∃ j : Nat, b = j := ⟨b.toNat, by omega⟩
    exact two_walk m k j (by omega) (by omega) (by omega) (by omega) w
end Go.Proofs.Ytncooadaeifekaa
