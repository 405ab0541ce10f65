/- Lemmas, contracts and walks, merged (texts C32). No condition but what each states. -/
import Derived.Test.YtncooadaeifekaaPF4
/- Walk of the entry laws' anchor. -/
namespace Go.Proofs.Ytncooadaeifekaa
open Go.RowKit
theorem anchor_frame : (M.En.mk 2 5 1 9 1 0 (List.replicate 32 0)).frame 3 4 1 5 = ((M.En.mk 2 5 1 9 1 0 (List.replicate 32 0)).fr 3 4 1 5, 0) := by
  rw [M.En.frame, if_pos ⟨by decide, by decide, by decide, by decide⟩]
theorem anchor_ok : (M.En.mk 2 5 1 9 1 0 (List.replicate 32 0)).ok := ⟨by simp, by simp⟩
theorem anchor_right : (M.En.mk 2 5 1 9 1 0 (List.replicate 32 0)).right = true := by decide
set_option maxRecDepth 100000 in
set_option maxHeartbeats 1000000 in
theorem anchor4_calls (w : World) :
    Calls Try.prog 60 #[] w fun r w' => r = .returned (.bool true) ∧ Below w.heap.size w w' := by
  obtain ⟨F, hF⟩ : ∃ F, F = (M.En.mk 2 5 1 9 1 0 (List.replicate 32 0)).fr 3 4 1 5 := ⟨_, rfl⟩
  have hok := M.fr_ok _ anchor_ok 3 4 1 5
  have hk : F.kind = 2 := by rw [hF]; rfl
  have hs : F.seq = 5 := by rw [hF]; rfl
  have hfr := anchor_frame
  have hri := anchor_right
  have hao := anchor_ok
  rw [← hF] at hok hfr
  obtain ⟨E, hE⟩ : ∃ E : M.En, E = ⟨2, 5, 1, 9, 1, 0, List.replicate 32 0⟩ := ⟨_, rfl⟩
  rw [← hE] at hfr hri hao
  have HK := hid hk
  have HSQ := hid hs
  have HOK := hid hok
  have HFR := hid hfr
  have HRI := hid hri
  have HAO := hid hao
  have HE := hid hE
  have hb : Hid (∀ w, (Instr.build 82 #[(0, .int .i64 2), (1, .int .i64 5), (2, .int .i64 1), (3, .int .i64 9), (4, .int .i64 1)]).run Try.prog w = .ok (.agg (ent E)) w) := fun w => by rw [HE.out]; kernel_rfl
  clear hF hok hk hs hfr hri hao hE
  have hW := Below.refl w.heap.size w
  go_enter Try.func60, Try.ntmps60
  go_upto_region 3 with (first | ((with_reducible show wpList _ _ _ (⟨some 4, _, _, _, _, _⟩ :: _) _ _); refine wpList_build_p 4 rfl rfl 82 _ rfl #[(0, .int .i64 2), (1, .int .i64 5), (2, .int .i64 1), (3, .int .i64 9), (4, .int .i64 1)] (by kernel_rfl) (ent E) hb.out ?_) | ((with_reducible show wpList _ _ _ (⟨some 1, _, _, _, _, _⟩ :: _) _ _); refine wpList_local 1 rfl rfl rfl rfl 82 rfl _ rfl (ent E) rfl (of_decide_eq_true (by kernel_rfl)) (ty82 _ HAO.out) (ent_all _) ?_; intro W1 N1 hNN1 hMN1 hr1 hb; have sW1 := hb.size; have hW := below_next hW hb) | ((with_reducible show wpList _ _ _ (⟨some 6, _, _, _, _, _⟩ :: _) _ _); refine wpList_load_rowg 6 rfl rfl 82 _ rfl N1 rfl _ (ent E) (0, 0) _ hr1 Try.underlying82 rfl (ty82 _ HAO.out).size ?_) | (go_at_call 63; refine (eframe_calls E HAO.out 3 4 1 5 _).mono ?_; rintro e w3 ⟨rfl, hb⟩; rw [HFR.out]; have sw3 := hb.size; have hW := below_next hW hb; have hr1 := below_blk hb hr1) | ((with_reducible show wpList _ _ _ (⟨some 2, _, _, _, _, _⟩ :: _) _ _); refine wpList_local 2 rfl rfl rfl rfl 41 rfl _ rfl (frm F) rfl (of_decide_eq_true (by kernel_rfl)) (ty41 _ HOK.out) (frm_all _) ?_; intro W2 N2 hNN2 hMN2 hr2 hb; have sW2 := hb.size; have hW := below_next hW hb; have hr1 := below_blk hb hr1; have d0 := cell_of_row _ N2 0 _ _ _ hr2; rw [frm0] at d0; have d4 := cell_of_row _ N2 4 _ _ _ hr2; rw [frm4] at d4; rw [HK.out] at d0; rw [HSQ.out] at d4))
  clear hb
  go_wp2_with (first | ((with_reducible show wpList _ _ _ (⟨some 23, _, _, _, _, _⟩ :: _) _ _); refine wpList_load_rowg 23 rfl rfl 82 _ rfl N1 rfl _ (ent E) (0, 0) _ hr1 Try.underlying82 rfl (ty82 _ HAO.out).size ?_) | (go_at_call 62; refine (eright_calls E HAO.out _).mono ?_; rintro e w4 ⟨rfl, hb⟩; rw [HRI.out]; have sw4 := hb.size; have hW := below_next hW hb) | (go_at_call 64; refine (fill_calls 7 (by decide) _).mono ?_; rintro e w5 ⟨rfl, hb⟩; have sw5 := hb.size; have hW := below_next hW hb) | ((with_reducible show wpList _ _ _ (⟨some 28, _, _, _, _, _⟩ :: _) _ _); refine wpList_index80 28 rfl rfl _ _ rfl (List.replicate 32 7) 31 rfl rfl (by simp) (by decide) ?_))
  go_ret
  exact ⟨rfl, hW⟩
end Go.Proofs.Ytncooadaeifekaa
