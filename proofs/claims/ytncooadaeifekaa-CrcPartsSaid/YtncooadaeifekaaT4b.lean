/- The law CrcParts at every input: where its guard says so it answers true at once. -/
import Derived.Test.YtncooadaeifekaaT4
namespace Go.Proofs.Ytncooadaeifekaa
open Go.RowKit
set_option maxRecDepth 100000 in
theorem parts_out (aa : Option Addr) (n ca : Nat) (b : Int) (_m : n ≤ 9223372036854775807) (h : n = 0 ∨ 300 < n ∨ b < 0 ∨ 8 * (n : Int) ≤ b) (w : World) :
    Calls Try.prog 6 #[.slice aa n ca, .int .i64 b] w fun e w' => e = .returned (.bool true) ∧ Below w.heap.size w w' := by
  by_cases s0 : n = 0
  · have t0 : (((n : Int) == 0)) = true := by rw [beq_iff_eq]; omega
    clear h s0
    go_enter Try.func6, Try.ntmps6
    go_wp2_with (go_at_call 28; refine (anchor_calls _).mono ?_; rintro e w1 ⟨rfl, hb1⟩)
    go_ret
    exact ⟨rfl, hb1⟩
  · have t0 : (((n : Int) == 0)) = false := by rw [beq_eq_false_iff_ne]; omega
    by_cases s1 : 300 < n
    · have t1 : (decide ((300 : Int) < (n : Int))) = true := by simp; omega
      clear h s1 s0
      go_enter Try.func6, Try.ntmps6
      go_wp2_with (go_at_call 28; refine (anchor_calls _).mono ?_; rintro e w1 ⟨rfl, hb1⟩)
      go_ret
      exact ⟨rfl, hb1⟩
    · have t1 : (decide ((300 : Int) < (n : Int))) = false := by simp; omega
      have k1 : n ≤ 300 := by omega
      by_cases s2 : b < 0
      · have t2 : (decide (b < 0)) = true := by simpa using s2
        clear h s2 s0 s1
        go_enter Try.func6, Try.ntmps6
        go_wp2_with (go_at_call 28; refine (anchor_calls _).mono ?_; rintro e w1 ⟨rfl, hb1⟩)
        go_ret
        exact ⟨rfl, hb1⟩
      · have t2 : (decide (b < 0)) = false := by simpa using s2
        have s3 : 8 * (n : Int) ≤ b := by omega
        have t3 : (decide (8 * (n : Int) ≤ b)) = true := by simpa using s3
        clear h s3 s0 s1 s2
        go_enter Try.func6, Try.ntmps6
        go_wp2_with (go_at_call 28; refine (anchor_calls _).mono ?_; rintro e w1 ⟨rfl, hb1⟩)
        go_ret
        exact ⟨rfl, hb1⟩
theorem parts_frame (w : World) (aa : Option Addr) (a : List Nat) (ca : Nat) (ma : a.length ≤ 9223372036854775807) (hA : HasB w aa a) (b : Int) (_hb : -9223372036854775808 ≤ b ∧ b ≤ 9223372036854775807) :
    Calls Try.prog 6 #[.slice aa a.length ca, .int .i64 b] w fun e w' => e = .returned (.bool true) ∧ Below w.heap.size w w' := by
  by_cases h : a.length = 0 ∨ 300 < a.length ∨ b < 0 ∨ 8 * (a.length : Int) ≤ b
  · exact parts_out aa a.length ca b ma h w
  · obtain ⟨k, rfl⟩ : ∃ k : Nat, b = k := ⟨b.toNat, by omega⟩
    exact parts_walk aa a ca k (by omega) (by omega) (by omega) w hA
end Go.Proofs.Ytncooadaeifekaa
