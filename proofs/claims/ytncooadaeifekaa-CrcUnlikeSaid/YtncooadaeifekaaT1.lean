/- Walk of the law CrcUnlike: it answers true for any two bytes. No condition. -/
import Derived.Test.YtncooadaeifekaaC3
namespace Go.Proofs.Ytncooadaeifekaa
open Go.RowKit Go.BigFrame
set_option maxRecDepth 100000 in
theorem unlike_walk (a b : Nat) (ha : a < 256) (hb : b < 256) (w : World) :
    Calls Try.prog 3 #[.int .u8 a, .int .u8 b] w fun e w' => e = .returned (.bool true) ∧ Below w.heap.size w w' := by
  go_enter Try.func3, Try.ntmps3
  have hz25 : Hid (Try.zeroCells25.size = tbl.size) := zero25.trans tbl_size.symm
  go_wp2_with (first | (go_at_call 28; refine (anchor_calls _).mono ?_; rintro e w1 ⟨rfl, hb1⟩) | (go_at_call 29; refine (new_calls _).mono ?_; rintro e w2 ⟨rfl, hb2⟩) | (refine wpList_store_new rfl rfl _ _ _ rfl 25 Try.zeroCells25 tbl rfl rfl (by kernel_rfl) hz25.out tbl_all ?_))
  have hbw : Below w.heap.size w (w2.alloc (.cells tbl 25)) := (below_next hb1 hb2).alloc (below_next hb1 hb2).size _
  obtain ⟨X, hX⟩ : ∃ X, X = a ^^^ b := ⟨_, rfl⟩
  have hx : X < 256 := by rw [hX]; exact xor8_lt a b ha hb
  have f1 := tbl_at a ha
  have f2 := tbl_at b hb
  have f3 := tbl_at _ hx
  have e1 : bits .xor .u8 (a : Int) (b : Int) = (X : Int) := by rw [hX]; exact xor8 a b ha hb
  have e2 : bits .xor .u32 (M.tb a : Int) (M.tb b : Int) = (M.tb X : Int) := by
    rw [hX, M.tb_xor]; exact xor32 _ _ (M.tb_lt _ ha) (M.tb_lt _ hb)
  clear hX
  by_cases hab : a = b
  · subst hab
    go_quiet (fail)
    go_wp2
    go_ret
    exact ⟨rfl, below_drewN hbw _⟩
  · have t1 : ((a : Int) == b) = false := by rw [beq_eq_false_iff_ne]; omega
    have t2 : ((M.tb a : Int) == M.tb b) = false := by rw [beq_eq_false_iff_ne]; intro h; exact hab ((M.tb_inj a b ha hb).1 (by omega))
    clear hab
    go_quiet (fail)
    go_wp2
    go_ret
    exact ⟨rfl, below_drewN hbw _⟩
theorem unlike_frame (a : Nat) (ha : a < 256) (b : Nat) (hb : b < 256) (w : World) :
    Calls Try.prog 3 #[.int .u8 a, .int .u8 b] w fun e w' => e = .returned (.bool true) ∧ Below w.heap.size w w' := unlike_walk a b ha hb w
end Go.Proofs.Ytncooadaeifekaa
