/- The law CrcLinear at every input: what is too long or too many for it lets it answer true at once. -/
import Derived.Test.YtncooadaeifekaaT3
namespace Go.Proofs.Ytncooadaeifekaa
open Go.RowKit
set_option maxRecDepth 100000 in
theorem linear_out (aa : Option Addr) (n1 ca : Nat) (ab : Option Addr) (n2 cb : Nat) (z : Int) (h1 : n1 ≤ 9223372036854775807) (h2 : n2 ≤ 9223372036854775807) (h : 300 < n1 ∨ 300 < n2 ∨ z < 0 ∨ 100 < z) (w : World) :
    Calls Try.prog 5 #[.slice aa n1 ca, .slice ab n2 cb, .int .i64 z] w fun e w' => e = .returned (.bool true) ∧ Below w.heap.size w w' := by
  by_cases ha : 300 < n1
  · have ta : decide ((300 : Int) < (n1 : Int)) = true := by simp; omega
    go_enter Try.func5, Try.ntmps5
    go_wp2_with (go_at_call 28; refine (anchor_calls _).mono ?_; rintro e w1 ⟨rfl, hb1⟩)
    go_ret
    exact ⟨rfl, hb1⟩
  · have ta : decide ((300 : Int) < (n1 : Int)) = false := by simp; omega
    by_cases hb : 300 < n2
    · have tb : decide ((300 : Int) < (n2 : Int)) = true := by simp; omega
      go_enter Try.func5, Try.ntmps5
      go_wp2_with (go_at_call 28; refine (anchor_calls _).mono ?_; rintro e w1 ⟨rfl, hb1⟩)
      go_ret
      exact ⟨rfl, hb1⟩
    · have tb : decide ((300 : Int) < (n2 : Int)) = false := by simp; omega
      by_cases hz : z < 0
      · have tz : decide (z < 0) = true := by simpa using hz
        go_enter Try.func5, Try.ntmps5
        go_wp2_with (go_at_call 28; refine (anchor_calls _).mono ?_; rintro e w1 ⟨rfl, hb1⟩)
        go_ret
        exact ⟨rfl, hb1⟩
      · have tz : decide (z < 0) = false := by simpa using hz
        have tz2 : decide (100 < z) = true := by simp; omega
        go_enter Try.func5, Try.ntmps5
        go_wp2_with (go_at_call 28; refine (anchor_calls _).mono ?_; rintro e w1 ⟨rfl, hb1⟩)
        go_ret
        exact ⟨rfl, hb1⟩
theorem linear_frame (w : World) (aa : Option Addr) (a : List Nat) (ca : Nat) (ma : a.length ≤ 9223372036854775807) (qa : a.length ≤ ca) (hA : HasB w aa a) (ab : Option Addr) (b : List Nat) (cb : Nat) (mb : b.length ≤ 9223372036854775807) (qb : b.length ≤ cb) (hB : HasB w ab b)
    (z : Int) (_hz : -9223372036854775808 ≤ z ∧ z ≤ 9223372036854775807) :
    Calls Try.prog 5 #[.slice aa a.length ca, .slice ab b.length cb, .int .i64 z] w fun e w' => e = .returned (.bool true) ∧ Below w.heap.size w w' := by
  by_cases h : 300 < a.length ∨ 300 < b.length ∨ z < 0 ∨ 100 < z
  · exact linear_out aa a.length ca ab b.length cb z ma mb h w
  · obtain ⟨k, rfl⟩ : ∃ k : Nat, z = k := ⟨z.toNat, by omega⟩
    exact linear_walk aa a ca ab b cb k (min a.length b.length) (by omega) (by omega) qa qb (by omega) rfl (Nat.min_le_left _ _) (Nat.min_le_right _ _) w hA hB
end Go.Proofs.Ytncooadaeifekaa
