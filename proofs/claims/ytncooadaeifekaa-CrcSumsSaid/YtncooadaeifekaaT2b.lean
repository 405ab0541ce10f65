/- The law CrcSums at every input: lists that are too long for it let it answer true at once. -/
import Derived.Test.YtncooadaeifekaaT2
namespace Go.Proofs.Ytncooadaeifekaa
open Go.RowKit
set_option maxRecDepth 100000 in
theorem sums_long (aa : Option Addr) (n1 ca : Nat) (ab : Option Addr) (n2 cb : Nat) (r c : Nat) (h1 : n1 ≤ 9223372036854775807) (h2 : n2 ≤ 9223372036854775807) (h : 300 < n1 ∨ 300 < n2) (w : World) :
    Calls Try.prog 4 #[.slice aa n1 ca, .slice ab n2 cb, .int .u32 r, .int .u8 c] w fun e w' => e = .returned (.bool true) ∧ Below w.heap.size w w' := by
  by_cases ha : 300 < n1
  · have ta : decide ((300 : Int) < (n1 : Int)) = true := by simp; omega
    go_enter Try.func4, Try.ntmps4
    go_wp2_with (go_at_call 28; refine (anchor_calls _).mono ?_; rintro e w1 ⟨rfl, hb1⟩)
    go_ret
    exact ⟨rfl, hb1⟩
  · have ta : decide ((300 : Int) < (n1 : Int)) = false := by simp; omega
    have tb : decide ((300 : Int) < (n2 : Int)) = true := by simp; omega
    go_enter Try.func4, Try.ntmps4
    go_wp2_with (go_at_call 28; refine (anchor_calls _).mono ?_; rintro e w1 ⟨rfl, hb1⟩)
    go_ret
    exact ⟨rfl, hb1⟩
theorem sums_frame (w : World) (aa : Option Addr) (a : List Nat) (ca : Nat) (ma : a.length ≤ 9223372036854775807) (hA : HasB w aa a) (ab : Option Addr) (b : List Nat) (cb : Nat) (mb : b.length ≤ 9223372036854775807) (hB : HasB w ab b)
    (r : Nat) (hr : r < 4294967296) (c : Nat) (hc : c < 256) :
    Calls Try.prog 4 #[.slice aa a.length ca, .slice ab b.length cb, .int .u32 r, .int .u8 c] w fun e w' => e = .returned (.bool true) ∧ Below w.heap.size w w' := by
  by_cases h : 300 < a.length ∨ 300 < b.length
  · exact sums_long aa a.length ca ab b.length cb r c ma mb h w
  · exact sums_walk aa a ca ab b cb r c (by omega) (by omega) hr hc w hA hB
end Go.Proofs.Ytncooadaeifekaa
