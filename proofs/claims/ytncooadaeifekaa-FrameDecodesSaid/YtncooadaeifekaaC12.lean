/- Walk of frame.Encode. -/
import Derived.Test.YtncooadaeifekaaK7
import Derived.Test.YtncooadaeifekaaT9
import Derived.Test.YtncooadaeifekaaT8
namespace Go.Proofs.Ytncooadaeifekaa
open Go.RowKit
theorem zero44 : (Try.prog.info? 44).bind (fun i => i.zero.map (·.cells)) = some (sct (List.replicate 64 0)) := by kernel_rfl
set_option maxRecDepth 100000 in
set_option maxHeartbeats 400000 in
theorem encode_wrong (f : M.Fr) (hok : f.ok) (hf : f.right = false) (w : World) :
    Calls Try.prog 37 #[.agg tbl, .agg (frm f)] w fun e w' => e = .returned (.tuple #[.agg (sct (List.replicate 64 0)), .int .i64 10]) ∧ Below w.heap.size w w' := by
  have HF := hid hf
  have HOK := hid hok
  clear hf hok
  have hW := Below.refl w.heap.size w
  go_enter Try.func37, Try.ntmps37
  go_wp2_with (first | ((with_reducible show wpList _ _ _ (⟨some 2, _, _, _, _, _⟩ :: _) _ _); refine wpList_boxed 2 rfl rfl 25 _ rfl tbl rfl ?_; intro W2 N2 hN2 hM2 hr2 hb2; have hW := below_next hW hb2) | ((with_reducible show wpList _ _ _ (⟨some 3, _, _, _, _, _⟩ :: _) _ _); refine wpList_boxed 3 rfl rfl 41 _ rfl (frm f) rfl ?_; intro W3 N3 hN3 hM3 hr3 hb3; have hW := below_next hW hb3) | ((with_reducible show wpList _ _ _ (⟨some 4, _, _, _, _, _⟩ :: _) _ _); refine wpList_zeroed 4 rfl rfl 44 rfl _ zero44 ?_; intro W4 N4 hN4 hM4 hr4 hb4; have hW := below_next hW hb4; have hr3 := below_blk hb4 hr3) | ((with_reducible show wpList _ _ _ (⟨some 9, _, _, _, _, _⟩ :: _) _ _); refine wpList_load_row rfl _ _ rfl N3 rfl 41 (frm f) (0, 0) _ hr3 Try.underlying41 rfl (ty41 f HOK.out).size ?_) | (go_at_call 38; refine (right_calls f _).mono ?_; rintro e w5 ⟨rfl, hb5⟩; rw [HF.out]; have hW := below_next hW hb5; have hr4 := below_blk hb5 hr4) | ((with_reducible show wpList _ _ _ (⟨some 12, _, _, _, _, _⟩ :: _) _ _); refine wpList_build_as 12 rfl rfl 44 _ rfl (sct (List.replicate 64 0)) build_zero44 ?_) | ((with_reducible show wpList _ _ _ (⟨none, _, _, _, _, _⟩ :: _) _ _); refine wpList_store_agg rfl rfl 44 _ _ rfl N4 (sct (List.replicate 64 0)) rfl rfl 44 _ hr4 (ty44 _ (by simp)) rfl (sct_all _) ?_; intro W6 hr6 ht6))
  refine ret_cell 4 5 44 rfl rfl N4 rfl 44 _ (0, 0) _ hr6 Try.underlying44 rfl (ty44 _ (by simp)).size _ rfl ⟨rfl, below_turned hW ht6 (fun k hk => by subst hk; have := hb2.size; have := hb3.size; omega)⟩
end Go.Proofs.Ytncooadaeifekaa
