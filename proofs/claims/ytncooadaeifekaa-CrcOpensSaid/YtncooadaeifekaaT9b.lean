/- The law CrcOpens at every input: lists that are too long for it let it answer true at once. -/
import Derived.Test.YtncooadaeifekaaT9
namespace Go.Proofs.Ytncooadaeifekaa
open Go.RowKit
set_option maxRecDepth 100000 in
theorem opens_long (aa : Option Addr) (n1 ca : Nat) (ab : Option Addr) (n2 cb : Nat) (h1 : n1 ≤ 9223372036854775807) (h2 : n2 ≤ 9223372036854775807) (h : 300 < n1 ∨ 300 < n2) (w : World) :
    Calls Try.prog 11 #[.slice aa n1 ca, .slice ab n2 cb] w fun e w' => e = .returned (.bool true) ∧ Below w.heap.size w w' := by
  by_cases ha : 300 < n1
  · have ta : decide ((300 : Int) < (n1 : Int)) = true := by simp; omega
    go_enter Try.func11, Try.ntmps11
    go_wp2_with (go_at_call 28; refine (anchor_calls _).mono ?_; rintro e w1 ⟨rfl, hb1⟩)
    go_ret
    exact ⟨rfl, hb1⟩
  · have ta : decide ((300 : Int) < (n1 : Int)) = false := by simp; omega
    have tb : decide ((300 : Int) < (n2 : Int)) = true := by simp; omega
    go_enter Try.func11, Try.ntmps11
    go_wp2_with (go_at_call 28; refine (anchor_calls _).mono ?_; rintro e w1 ⟨rfl, hb1⟩)
    go_ret
    exact ⟨rfl, hb1⟩
theorem opens_frame (w : World) (aa : Option Addr) (a : List Nat) (ca : Nat) (ma : a.length ≤ 9223372036854775807) (hA : HasB w aa a) (ab : Option Addr) (b : List Nat) (cb : Nat) (mb : b.length ≤ 9223372036854775807) (qb : b.length ≤ cb) (hB : HasB w ab b) :
    Calls Try.prog 11 #[.slice aa a.length ca, .slice ab b.length cb] w fun e w' => e = .returned (.bool true) ∧ Below w.heap.size w w' := by
  by_cases h : 300 < a.length ∨ 300 < b.length
  · exact opens_long aa a.length ca ab b.length cb ma mb h w
  · exact opens_walk aa a ca ab b cb (by omega) (by omega) qb w hA hB
end Go.Proofs.Ytncooadaeifekaa
