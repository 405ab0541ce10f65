/- The law CodecOwn at every input: what is out of its bounds lets it answer true at once. -/
import Derived.Test.YtncooadaeifekaaT10
namespace Go.Proofs.Ytncooadaeifekaa
open Go.RowKit
set_option maxRecDepth 100000 in
theorem own_out (ab : Option Addr) (m cb : Nat) (n : Int) (hm : m ≤ 9223372036854775807) (h : m = 0 ∨ 200 < m ∨ n < 0 ∨ (m : Int) < n) (w : World) :
    Calls Try.prog 13 #[.slice ab m cb, .int .i64 n] w fun e w' => e = .returned (.bool true) ∧ Below w.heap.size w w' := by
  by_cases h0 : m = 0
  · subst h0
    clear h hm
    go_enter Try.func13, Try.ntmps13
    go_wp2_with (go_at_call 43; refine (anchor2_calls _).mono ?_; rintro e w1 ⟨rfl, hb1⟩)
    go_ret
    exact ⟨rfl, hb1⟩
  · have t0 : ((m : Int) == 0) = false := by rw [beq_eq_false_iff_ne]; omega
    by_cases h1 : 200 < m
    · have t1 : decide ((200 : Int) < (m : Int)) = true := by simp; omega
      clear h h0 h1
      go_enter Try.func13, Try.ntmps13
      go_wp2_with (go_at_call 43; refine (anchor2_calls _).mono ?_; rintro e w1 ⟨rfl, hb1⟩)
      go_ret
      exact ⟨rfl, hb1⟩
    · have t1 : decide ((200 : Int) < (m : Int)) = false := by simp; omega
      by_cases h2 : n < 0
      · have t2 : decide (n < 0) = true := by simpa using h2
        clear h h0 h1 h2
        go_enter Try.func13, Try.ntmps13
        go_wp2_with (go_at_call 43; refine (anchor2_calls _).mono ?_; rintro e w1 ⟨rfl, hb1⟩)
        go_ret
        exact ⟨rfl, hb1⟩
      · have t2 : decide (n < 0) = false := by simpa using h2
        have h3 : (m : Int) < n := by omega
        have t3 : decide ((m : Int) < n) = true := by simpa using h3
        clear h h0 h1 h2 h3
        go_enter Try.func13, Try.ntmps13
        go_wp2_with (go_at_call 43; refine (anchor2_calls _).mono ?_; rintro e w1 ⟨rfl, hb1⟩)
        go_ret
        exact ⟨rfl, hb1⟩
theorem own_frame (w : World) (ab : Option Addr) (l : List Nat) (cb : Nat) (mb : l.length ≤ 9223372036854775807) (qb : l.length ≤ cb) (hB : HasB w ab l) (n : Int) (_ : -9223372036854775808 ≤ n ∧ n ≤ 9223372036854775807) :
    Calls Try.prog 13 #[.slice ab l.length cb, .int .i64 n] w fun e w' => e = .returned (.bool true) ∧ Below w.heap.size w w' := by
  by_cases h : l.length = 0 ∨ 200 < l.length ∨ n < 0 ∨ (l.length : Int) < n
  · exact own_out ab l.length cb n mb h w
  · obtain ⟨k, rfl⟩ : ∃ k : Nat, n = k := ⟨n.toNat, by omega⟩
    exact own_walk ab l cb k (by omega) (by omega) (by omega) qb w hB
end Go.Proofs.Ytncooadaeifekaa
