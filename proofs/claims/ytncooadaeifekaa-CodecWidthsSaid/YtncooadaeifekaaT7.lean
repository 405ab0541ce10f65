/- Walk of the law CodecWidths: it answers true for every number. -/
import Derived.Test.YtncooadaeifekaaC6
namespace Go.Proofs.Ytncooadaeifekaa
open Go.RowKit
set_option maxRecDepth 100000 in
set_option maxHeartbeats 400000 in
theorem widths_walk (w : World) (x : Int) (hx : -9223372036854775808 ≤ x ∧ x ≤ 9223372036854775807) :
    Calls Try.prog 10 #[.int .i64 x] w fun e w' => e = .returned (.bool true) ∧ Below w.heap.size w w' := by
  have HX := hid hx
  by_cases h0 : x < 0
  · have t0 : decide (x < 0) = true := by simpa using h0
    have H0 := hid h0
    clear h0 hx
    go_enter Try.func10, Try.ntmps10
    go_wp2_with (first | (go_at_call 43; refine (anchor2_calls _).mono ?_; rintro e w1 ⟨rfl, hb1⟩) | (go_at_call 44; refine (width_calls _ (by have := HX.out; omega) (by have := HX.out; omega) _).mono ?_; rintro e w2 ⟨⟨n, rfl, hn⟩, hb2⟩; have hn8 := M.width_no hn (.inl H0.out); subst hn8; clear hn))
    go_ret
    exact ⟨rfl, below_next hb1 hb2⟩
  · have t0 : decide (x < 0) = false := by simpa using h0
    have H0 := hid h0
    by_cases h7 : 72057594037927936 ≤ x
    · have t1 : decide (72057594037927936 ≤ x) = true := by simpa using h7
      have H7 := hid h7
      clear h0 h7 hx
      go_enter Try.func10, Try.ntmps10
      go_wp2_with (first | (go_at_call 43; refine (anchor2_calls _).mono ?_; rintro e w1 ⟨rfl, hb1⟩) | (go_at_call 44; refine (width_calls _ (by have := HX.out; omega) (by have := HX.out; omega) _).mono ?_; rintro e w2 ⟨⟨n, rfl, hn⟩, hb2⟩; have hn8 := M.width_no hn (.inr H7.out); subst hn8; clear hn))
      go_ret
      exact ⟨rfl, below_next hb1 hb2⟩
    · have t1 : decide (72057594037927936 ≤ x) = false := by simpa using h7
      have hs : Hid (∀ n, M.WidthOf x n → 1 ≤ n ∧ n ≤ 7 ∧ M.fits n x = true ∧ (n = 1 ∨ M.fits (n - 1) x = false)) := fun n hn => M.width_in hn (by omega) (by omega)
      clear h0 h7 hx
      go_enter Try.func10, Try.ntmps10
      go_upto_region 6 with (first | (go_at_call 43; refine (anchor2_calls _).mono ?_; rintro e w1 ⟨rfl, hb1⟩) | (go_at_call 44; refine (width_calls _ (by have := HX.out; omega) (by have := HX.out; omega) _).mono ?_; rintro e w2 ⟨⟨n, rfl, hn⟩, hb2⟩; have hs1 := hid (hs.out n hn); clear hn))
      have hb := below_next hb1 hb2
      obtain ⟨n1, n7, nf, nd⟩ := hs1.out
      by_cases h1 : n = 1
      · subst h1
        have nf1 : M.fits 1 x = true := nf
        clear nd n7 n1 hs1 nf
        go_wp2_with (first | (go_at_call 45; refine (fits_calls _ _ _).mono ?_; rintro e w3 ⟨rfl, hb3⟩; rw [nf1]))
        go_ret
        exact ⟨rfl, below_next hb hb3⟩
      · have nf2 : M.fits ((n : Int) - 1) x = false := by rcases nd with h | h; exact absurd h h1; exact h
        have t2 : ((n : Int) == 1) = false := by rw [beq_eq_false_iff_ne]; omega
        clear nd hs1 h1
        go_wp2_with (first | (go_at_call 45; refine (fits_calls _ x _).mono ?_; rintro e w3 ⟨rfl, hb3⟩; have hb := below_next hb hb3; clear hb3; first | rw [nf] | rw [nf2]))
        go_ret
        exact ⟨rfl, hb⟩
end Go.Proofs.Ytncooadaeifekaa
