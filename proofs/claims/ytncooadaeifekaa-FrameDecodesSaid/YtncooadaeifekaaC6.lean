/- Walk of layer 2's anchor. -/
import Derived.Test.YtncooadaeifekaaC5
namespace Go.Proofs.Ytncooadaeifekaa
open Go.RowKit
theorem penB_new (w : World) : PenB (w.alloc (.cells #[.slice none 0 0, .bool false] 63)) w.heap.size (.slice none 0 0) [] false :=
  ⟨heap_alloc_new w _, ownB_nil _ _, by simp [Value.ownBlock]⟩
theorem below_pens {w w1 w2 : World} {N : Nat} {v : Value} {l : List Nat} {bad : Bool} (hb : Below w.heap.size w w1) (hN : w.heap.size ≤ N) (hv : ∀ k, v.ownBlock = some k → w.heap.size ≤ k) (h : Pens N v w1 w2 l bad) : Below w.heap.size w w2 := by
  obtain ⟨v', hp, ht, hl⟩ := h
  refine hb.trans (ht.below _ hb.size ?_)
  rintro k (rfl | hk)
  · exact hN
  · exact hv k hk
theorem two_one : [] ++ M.leB 2 258 = [2, 1] := by decide
set_option maxRecDepth 100000 in
set_option maxHeartbeats 400000 in
theorem anchor2_calls (w : World) :
    Calls Try.prog 43 #[] w fun e w' => e = .returned (.bool true) ∧ Below w.heap.size w w' := by
  have hp0 := penB_new w
  have hb0 : Below w.heap.size w (w.alloc (.cells #[.slice none 0 0, .bool false] 63)) := (Below.refl _ _).alloc (Nat.le_refl _) _
  go_enter Try.func43, Try.ntmps43
  go_wp2_with (first | (go_at_call 55; refine (penNum_fits w.heap.size 2 258 (by decide) _ _ [] false hp0 (by simp)).mono ?_; rintro e w1 ⟨rfl, hp1⟩; rw [two_one] at hp1; have hb1 := below_pens hb0 (Nat.le_refl _) (by simp [Value.ownBlock]) hp1; obtain ⟨v1, hq1, _, _⟩ := hp1) | (go_at_call 51; refine (penOut_good w.heap.size _ v1 [2, 1] hq1 (by simp)).mono ?_; rintro e w2 ⟨⟨a2, c2, rfl, ho2, hc2, hh2⟩, hb2⟩; have hb12 := below_nextB hb1 hb2 hb1.size) | (go_at_call 48; refine (same_calls a2 [2, 1] c2 _ [2, 1] 2 _ (hh2.below ((Below.refl _ _).alloc (Nat.le_refl _) _)) (hasB_new w2 [2, 1] (by decide) (0, 0)) (by simp) (by simp)).mono ?_; rintro e w3 ⟨rfl, hb3⟩))
  go_ret
  exact ⟨rfl, (hb12.alloc hb12.size _).trans (hb3.mono (by have := hb12.size; simp; omega))⟩
end Go.Proofs.Ytncooadaeifekaa
