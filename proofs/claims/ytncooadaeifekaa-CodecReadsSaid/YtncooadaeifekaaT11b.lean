/- The law CodecReads at every input: lists that are too long for it let it answer true at once. -/
import Derived.Test.YtncooadaeifekaaT11
namespace Go.Proofs.Ytncooadaeifekaa
open Go.RowKit
set_option maxRecDepth 100000 in
theorem reads_long (ab : Option Addr) (n1 cb : Nat) (ai : Option Addr) (n2 ci : Nat) (h1 : n1 ≤ 9223372036854775807) (h2 : n2 ≤ 9223372036854775807) (h : 200 < n1 ∨ 100 < n2) (w : World) :
    Calls Try.prog 16 #[.slice ab n1 cb, .slice ai n2 ci] w fun e w' => e = .returned (.bool true) ∧ Below w.heap.size w w' := by
  by_cases ha : 200 < n1
  · have ta : decide ((200 : Int) < (n1 : Int)) = true := by simp; omega
    go_enter Try.func16, Try.ntmps16
    go_wp2_with (go_at_call 43; refine (anchor2_calls _).mono ?_; rintro e w1 ⟨rfl, hb1⟩)
    go_ret
    exact ⟨rfl, hb1⟩
  · have ta : decide ((200 : Int) < (n1 : Int)) = false := by simp; omega
    have tb : decide ((100 : Int) < (n2 : Int)) = true := by simp; omega
    go_enter Try.func16, Try.ntmps16
    go_wp2_with (go_at_call 43; refine (anchor2_calls _).mono ?_; rintro e w1 ⟨rfl, hb1⟩)
    go_ret
    exact ⟨rfl, hb1⟩
theorem reads_frame (w : World) (ab : Option Addr) (l : List Nat) (cb : Nat) (mb : l.length ≤ 9223372036854775807) (qb : l.length ≤ cb) (hB : HasB w ab l) (ai : Option Addr) (ws : List Int) (ci : Nat) (mi : ws.length ≤ 9223372036854775807) (hI : HasI w ai ws) :
    Calls Try.prog 16 #[.slice ab l.length cb, .slice ai ws.length ci] w fun e w' => e = .returned (.bool true) ∧ Below w.heap.size w w' := by
  by_cases h : 200 < l.length ∨ 100 < ws.length
  · exact reads_long ab l.length cb ai ws.length ci mb mi h w
  · exact reads_walk ab l cb ai ws ci (by omega) (by omega) qb w hB hI
end Go.Proofs.Ytncooadaeifekaa
