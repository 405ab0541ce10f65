/- Walk of frame.Decode: what is no sealed sector. -/
import Derived.Test.YtncooadaeifekaaK11
import Derived.Test.YtncooadaeifekaaM4
namespace Go.Proofs.Ytncooadaeifekaa
open Go.RowKit Go.BigFrame
theorem sealed_at (s : List Nat) : M.sealed s = true ↔ s.drop 60 = M.leB 4 (M.crc (s.take 60)) := by simp [M.sealed]
set_option maxRecDepth 100000 in
set_option maxHeartbeats 400000 in
theorem decode_unsealed (s : List Nat) (hs : s.length = 64) (hb : ∀ c ∈ s, c < 256) (he : M.sealed s = false) (w : World) :
    Calls Try.prog 40 #[.agg tbl, .agg (sct s)] w fun e w' => e = .returned (.tuple #[.agg (frm M.Fr.zero), .int .i64 11]) ∧ Below w.heap.size w w' := by
  have HE : Hid (¬ s.drop 60 = M.leB 4 (M.crc (s.take 60))) := fun h => by rw [(sealed_at s).2 h] at he; cases he
  have HS := hid hs
  have HB := hid hb
  clear hs hb he
  have hW := Below.refl w.heap.size w
  go_enter Try.func40, Try.ntmps40
  go_upto_region 1 with (first | ((with_reducible show wpList _ _ _ (⟨some 2, _, _, _, _, _⟩ :: _) _ _); refine wpList_boxed 2 rfl rfl 25 _ rfl tbl rfl ?_; intro W2 N2 hN2 hM2 hr2 hb2; have hW := below_next hW hb2) | ((with_reducible show wpList _ _ _ (⟨some 3, _, _, _, _, _⟩ :: _) _ _); refine wpList_boxed 3 rfl rfl 44 _ rfl (sct s) rfl ?_; intro W3 N3 hN3 hM3 hr3 hb3; have hW := below_next hW hb3; have hr2 := below_blk hb3 hr2) | ((with_reducible show wpList _ _ _ (⟨some 4, _, _, _, _, _⟩ :: _) _ _); refine wpList_zeroed 4 rfl rfl 41 rfl _ zero41 ?_; intro W4 N4 hN4 hM4 hr4 hb4; have hW := below_next hW hb4; have hr3 := below_blk hb4 hr3; have hr2 := below_blk hb4 hr2))
  have hs3 := hasB_sct HB.out hr3
  refine wp_region_frame (spec := [none, none, none, none, none, none, none, none]) (vals := [.agg tbl, .slice (some ⟨N3, 0, none⟩) 64 64, .tuple #[.slice none 0 0, .int .i64 11], .tuple #[.slice none 0 0, .int .i64 11], .slice none 0 0, .int .i64 11, .slice none 0 0, .int .i64 11]) (by kernel_rfl) (by kernel_rfl) (by kernel_rfl) (by kernel_rfl) ?hst (fun hF => ?hobl) ?hQ
  case hst => exact trivial
  case hobl =>
    refine ⟨?_, ?_, ?_, ?_, ?_, ?_, ?_, ?_, trivial⟩
    · refine fun ho => obl_det hF (by kernel_rfl) (by kernel_rfl) ho (by kernel_rfl) (fun wx hbx => ?_); rw [if_pos (by kernel_rfl)]; with_reducible exact grows_row 25 (.tmp 2) (by kernel_rfl) N2 (by kernel_rfl) 25 tbl (0, 0) _ (below_blk hbx hr2) Try.underlying25 (by kernel_rfl) (by kernel_rfl) (by kernel_rfl) (by kernel_rfl)
    · refine fun ho => obl_det hF (by kernel_rfl) (by kernel_rfl) ho (by kernel_rfl) (fun wx hbx => ?_); rw [if_pos (by kernel_rfl)]; with_reducible exact grows_det (.slice (some ⟨N3, 0, none⟩) 64 64) (by kernel_rfl) (by kernel_rfl) (by kernel_rfl)
    · refine fun ho => obl_det hF (by kernel_rfl) (by kernel_rfl) ho (by kernel_rfl) (fun wx hbx => ?_); rw [if_pos (by kernel_rfl)]; with_reducible exact grows_call 47 #[.agg tbl, .slice (some ⟨N3, 0, none⟩) 64 64] (.tuple #[.slice none 0 0, .int .i64 11]) (by kernel_rfl) (open_noN 64 _ s HS.out 64 60 wx (hs3.below hbx) (by omega) (by omega) (by omega) HE.out) (by kernel_rfl) (by kernel_rfl)
    · refine fun ho => obl_det hF (by kernel_rfl) (by kernel_rfl) ho (by kernel_rfl) (fun wx hbx => ?_); rw [if_pos (by kernel_rfl)]; with_reducible exact grows_det (.tuple #[.slice none 0 0, .int .i64 11]) (by kernel_rfl) (by kernel_rfl) (by kernel_rfl)
    · refine fun ho => obl_det hF (by kernel_rfl) (by kernel_rfl) ho (by kernel_rfl) (fun wx hbx => ?_); rw [if_pos (by kernel_rfl)]; with_reducible exact grows_det (.slice none 0 0) (by kernel_rfl) (by kernel_rfl) (by kernel_rfl)
    · refine fun ho => obl_det hF (by kernel_rfl) (by kernel_rfl) ho (by kernel_rfl) (fun wx hbx => ?_); rw [if_pos (by kernel_rfl)]; with_reducible exact grows_det (.int .i64 11) (by kernel_rfl) (by kernel_rfl) (by kernel_rfl)
    · refine fun ho => obl_det hF (by kernel_rfl) (by kernel_rfl) ho (by kernel_rfl) (fun wx hbx => ?_); rw [if_pos (by kernel_rfl)]; with_reducible exact grows_det (.slice none 0 0) (by kernel_rfl) (by kernel_rfl) (by kernel_rfl)
    · refine fun ho => obl_det hF (by kernel_rfl) (by kernel_rfl) ho (by kernel_rfl) (fun wx hbx => ?_); rw [if_pos (by kernel_rfl)]; with_reducible exact grows_det (.int .i64 11) (by kernel_rfl) (by kernel_rfl) (by kernel_rfl)
  case hQ =>
    intro wy hby
    simp only [each, putAll]
    have hr4 := below_blk hby hr4
    have sz2 := hb2.size
    have sz3 := hb3.size
    have w4N : w.heap.size ≤ N4 := by omega
    have hW := below_next hW hby
    clear hr2 hr3 hs3 hby hb2 hb3 hb4
    go_wp2_with (first | ((with_reducible show wpList _ _ _ (⟨some 19, _, _, _, _, _⟩ :: _) _ _); refine wpList_build_as 19 rfl rfl 41 _ rfl (frm M.Fr.zero) build_zero41 ?_) | ((with_reducible show wpList _ _ _ (⟨none, _, _, _, _, _⟩ :: _) _ _); refine wpList_store_agg rfl rfl 41 _ _ rfl N4 (frm M.Fr.zero) rfl rfl 41 _ hr4 (ty41 _ M.zero_ok) rfl (frm_all _) ?_; intro Z hrZ htZ))
    refine ret_cell 4 5 41 rfl rfl N4 rfl 41 _ (0, 0) _ hrZ Try.underlying41 rfl (ty41 _ M.zero_ok).size _ rfl ⟨rfl, below_turned hW htZ (fun k hk => by subst hk; exact w4N)⟩
end Go.Proofs.Ytncooadaeifekaa
