/- EntryReads is proved: for any frame the law returns true. No condition. -/
import Derived.Test.YtncooadaeifekaaPF5
/- Walk of the law EntryReads: it answers true for any frame. -/
namespace Go.Proofs.Ytncooadaeifekaa
open Go.RowKit Go.BigFrame
set_option maxRecDepth 100000 in
set_option maxHeartbeats 2000000 in
theorem ereads_a (w : World) (f : M.Fr) (hok : f.ok) (U : M.En) (hU : M.unEn f.kind f.body = U) (hr : U.right = false) :
    Calls Try.prog 23 #[.agg (frm f)] w fun r w' => r = .returned (.bool true) ∧ Below w.heap.size w w' := by
  have huk := M.unEn_ok f.kind f.body hok.1 hok.2
  have hfr := M.fr_of f hok
  have hRD : M.rdE f = if (M.unEn f.kind f.body).right = true ∧ f.right = true ∧ (M.unEn f.kind f.body).first ≤ f.seq ∧ f.seq < (M.unEn f.kind f.body).first + (M.unEn f.kind f.body).count then (M.unEn f.kind f.body, 0) else (M.En.zero, 10) := rfl
  have hOF : M.ofR f.kind f.body = if (M.unEn f.kind f.body).right = true then (M.unEn f.kind f.body, true) else (M.En.zero, false) := rfl
  rw [hU] at huk hfr hRD hOF
  have HU := hid huk
  have HOK := hid hok
  have HQ0 : Hid (∀ w, (Op.equalIn 10000 82 (.agg (ent M.En.zero)) (.agg (ent M.En.zero))).run Try.prog w = .ok true w) := fun w => by rw [eq_ent82 _ _ M.zeroE_ok M.zeroE_ok]; simp
  have HV : Hid (M.rdE f = (M.En.zero, 10)) := by show _ = _; rw [hRD, if_neg (fun h => by rw [hr] at h; exact absurd h.1 (by simp))]
  have HS : Hid (M.ofR f.kind f.body = (M.En.zero, false)) := by show _ = _; rw [hOF, if_neg (by rw [hr]; simp)]
  clear hok huk hfr hRD hOF hU hr
  have hW := Below.refl w.heap.size w
  go_enter Try.func23, Try.ntmps23
  go_wp2_with (first | ((with_reducible show wpList _ _ _ (⟨some 1, _, _, _, _, _⟩ :: _) _ _); refine wpList_boxed 1 rfl rfl 41 _ rfl (frm f) rfl ?_; intro W1 N1 hNN1 hMN1 hr1 hb; have sW1 := hb.size; have hW := below_next hW hb) | (go_at_call 60; refine (anchor4_calls _).mono ?_; rintro e w1 ⟨rfl, hb⟩; have sw1 := hb.size; have hW := below_next hW hb; have hr1 := below_blk hb hr1) | ((with_reducible show wpList _ _ _ (⟨some 12, _, _, _, _, _⟩ :: _) _ _); refine wpList_load_rowg 12 rfl rfl 41 _ rfl N1 rfl _ (frm f) (0, 0) _ hr1 Try.underlying41 rfl (ty41 _ HOK.out).size ?_) | (go_at_call 70; refine (eread_calls f HOK.out _).mono ?_; rintro e w2 ⟨rfl, hb⟩; rw [HV.out]; have sw2 := hb.size; have hW := below_next hW hb; have hr1 := below_blk hb hr1) | ((with_reducible show wpList _ _ _ (⟨some 3, _, _, _, _, _⟩ :: _) _ _); refine wpList_local 3 rfl rfl rfl rfl 82 rfl _ rfl (ent M.En.zero) rfl (of_decide_eq_true (by kernel_rfl)) (ty82 _ M.zeroE_ok) (ent_all _) ?_; intro W3 N3 hNN3 hMN3 hr3 hb; have sW3 := hb.size; have hW := below_next hW hb; have hr1 := below_blk hb hr1; have c0 := cell_of_row _ N1 0 _ _ _ hr1; rw [frm0] at c0) | ((with_reducible show wpList _ _ _ (⟨some 20, _, _, _, _, _⟩ :: _) _ _); refine wpList_load_bytesg 20 rfl rfl 39 _ rfl N1 5 rfl f.body _ (hasB_frm HOK.out hr1) Try.underlying39 rfl (by rw [HOK.out.1]; kernel_rfl) ?_) | (go_at_call 69; refine (rof_calls f.kind f.body HOK.out.1 HOK.out.2 _).mono ?_; rintro e w4 ⟨rfl, hb⟩; rw [HS.out]; have sw4 := hb.size; have hW := below_next hW hb; have hr1 := below_blk hb hr1; have hr3 := below_blk hb hr3) | ((with_reducible show wpList _ _ _ (⟨some 5, _, _, _, _, _⟩ :: _) _ _); refine wpList_local 5 rfl rfl rfl rfl 91 rfl _ rfl (ent M.En.zero) rfl (of_decide_eq_true (by kernel_rfl)) (ty91 _ M.zeroE_ok) (ent_all _) ?_; intro W5 N5 hNN5 hMN5 hr5 hb; have sW5 := hb.size; have hW := below_next hW hb; have hr1 := below_blk hb hr1; have hr3 := below_blk hb hr3) | ((with_reducible show wpList _ _ _ (⟨some 51, _, _, _, _, _⟩ :: _) _ _); refine wpList_load_rowg 51 rfl rfl 82 _ rfl N3 rfl _ (ent M.En.zero) (0, 0) _ hr3 Try.underlying82 rfl (ty82 _ M.zeroE_ok).size ?_) | ((with_reducible show wpList _ _ _ (⟨some 52, _, _, _, _, _⟩ :: _) _ _); refine wpList_build_g 52 rfl rfl 82 _ rfl (ent M.En.zero) build_zero82 ?_) | ((with_reducible show wpList _ _ _ (⟨some 53, _, _, _, _, _⟩ :: _) _ _); refine wpList_eql 53 rfl rfl 82 _ _ _ rfl (ent M.En.zero) (ent M.En.zero) rfl rfl grd82 true HQ0.out ?_))
  go_ret
  exact ⟨rfl, hW⟩
set_option maxRecDepth 100000 in
set_option maxHeartbeats 2000000 in
theorem ereads_b (w : World) (f : M.Fr) (hok : f.ok) (U : M.En) (hU : M.unEn f.kind f.body = U) (hr : U.right = true) (hf : f.right = false) :
    Calls Try.prog 23 #[.agg (frm f)] w fun r w' => r = .returned (.bool true) ∧ Below w.heap.size w w' := by
  have huk := M.unEn_ok f.kind f.body hok.1 hok.2
  have hfr := M.fr_of f hok
  have hRD : M.rdE f = if (M.unEn f.kind f.body).right = true ∧ f.right = true ∧ (M.unEn f.kind f.body).first ≤ f.seq ∧ f.seq < (M.unEn f.kind f.body).first + (M.unEn f.kind f.body).count then (M.unEn f.kind f.body, 0) else (M.En.zero, 10) := rfl
  have hOF : M.ofR f.kind f.body = if (M.unEn f.kind f.body).right = true then (M.unEn f.kind f.body, true) else (M.En.zero, false) := rfl
  rw [hU] at huk hfr hRD hOF
  have HU := hid huk
  have HOK := hid hok
  have HQ0 : Hid (∀ w, (Op.equalIn 10000 82 (.agg (ent M.En.zero)) (.agg (ent M.En.zero))).run Try.prog w = .ok true w) := fun w => by rw [eq_ent82 _ _ M.zeroE_ok M.zeroE_ok]; simp
  have HV : Hid (M.rdE f = (M.En.zero, 10)) := by show _ = _; rw [hRD, if_neg (fun h => by rw [hf] at h; exact absurd h.2.1 (by simp))]
  have HS : Hid (M.ofR f.kind f.body = (U, true)) := by show _ = _; rw [hOF, if_pos hr]
  have HFR := hid hf
  clear hok huk hfr hRD hOF hU hr hf
  have hW := Below.refl w.heap.size w
  go_enter Try.func23, Try.ntmps23
  go_wp2_with (first | ((with_reducible show wpList _ _ _ (⟨some 1, _, _, _, _, _⟩ :: _) _ _); refine wpList_boxed 1 rfl rfl 41 _ rfl (frm f) rfl ?_; intro W1 N1 hNN1 hMN1 hr1 hb; have sW1 := hb.size; have hW := below_next hW hb) | (go_at_call 60; refine (anchor4_calls _).mono ?_; rintro e w1 ⟨rfl, hb⟩; have sw1 := hb.size; have hW := below_next hW hb; have hr1 := below_blk hb hr1) | ((with_reducible show wpList _ _ _ (⟨some 12, _, _, _, _, _⟩ :: _) _ _); refine wpList_load_rowg 12 rfl rfl 41 _ rfl N1 rfl _ (frm f) (0, 0) _ hr1 Try.underlying41 rfl (ty41 _ HOK.out).size ?_) | (go_at_call 70; refine (eread_calls f HOK.out _).mono ?_; rintro e w2 ⟨rfl, hb⟩; rw [HV.out]; have sw2 := hb.size; have hW := below_next hW hb; have hr1 := below_blk hb hr1) | ((with_reducible show wpList _ _ _ (⟨some 3, _, _, _, _, _⟩ :: _) _ _); refine wpList_local 3 rfl rfl rfl rfl 82 rfl _ rfl (ent M.En.zero) rfl (of_decide_eq_true (by kernel_rfl)) (ty82 _ M.zeroE_ok) (ent_all _) ?_; intro W3 N3 hNN3 hMN3 hr3 hb; have sW3 := hb.size; have hW := below_next hW hb; have hr1 := below_blk hb hr1; have c0 := cell_of_row _ N1 0 _ _ _ hr1; rw [frm0] at c0) | ((with_reducible show wpList _ _ _ (⟨some 20, _, _, _, _, _⟩ :: _) _ _); refine wpList_load_bytesg 20 rfl rfl 39 _ rfl N1 5 rfl f.body _ (hasB_frm HOK.out hr1) Try.underlying39 rfl (by rw [HOK.out.1]; kernel_rfl) ?_) | (go_at_call 69; refine (rof_calls f.kind f.body HOK.out.1 HOK.out.2 _).mono ?_; rintro e w4 ⟨rfl, hb⟩; rw [HS.out]; have sw4 := hb.size; have hW := below_next hW hb; have hr1 := below_blk hb hr1; have hr3 := below_blk hb hr3) | ((with_reducible show wpList _ _ _ (⟨some 5, _, _, _, _, _⟩ :: _) _ _); refine wpList_local 5 rfl rfl rfl rfl 91 rfl _ rfl (ent U) rfl (of_decide_eq_true (by kernel_rfl)) (ty91 _ HU.out) (ent_all _) ?_; intro W5 N5 hNN5 hMN5 hr5 hb; have sW5 := hb.size; have hW := below_next hW hb; have hr1 := below_blk hb hr1; have hr3 := below_blk hb hr3) | ((with_reducible show wpList _ _ _ (⟨some 27, _, _, _, _, _⟩ :: _) _ _); refine wpList_load_rowg 27 rfl rfl 41 _ rfl N1 rfl _ (frm f) (0, 0) _ hr1 Try.underlying41 rfl (ty41 _ HOK.out).size ?_) | (go_at_call 39; refine (rright_b f _ HFR.out _).mono ?_; rintro e w6 ⟨rfl, hb⟩; have sw6 := hb.size; have hW := below_next hW hb; have hr1 := below_blk hb hr1; have hr3 := below_blk hb hr3; have hr5 := below_blk hb hr5; have c1 := cell_of_row _ N1 1 _ _ _ hr1; rw [frm1] at c1; have c2 := cell_of_row _ N1 2 _ _ _ hr1; rw [frm2] at c2; have c3 := cell_of_row _ N1 3 _ _ _ hr1; rw [frm3] at c3; have c4 := cell_of_row _ N1 4 _ _ _ hr1; rw [frm4] at c4; have d1 := cell_of_row _ N5 1 _ _ _ hr5; rw [ent1] at d1; have d2 := cell_of_row _ N5 2 _ _ _ hr5; rw [ent2] at d2) | ((with_reducible show wpList _ _ _ (⟨some 51, _, _, _, _, _⟩ :: _) _ _); refine wpList_load_rowg 51 rfl rfl 82 _ rfl N3 rfl _ (ent M.En.zero) (0, 0) _ hr3 Try.underlying82 rfl (ty82 _ M.zeroE_ok).size ?_) | ((with_reducible show wpList _ _ _ (⟨some 52, _, _, _, _, _⟩ :: _) _ _); refine wpList_build_g 52 rfl rfl 82 _ rfl (ent M.En.zero) build_zero82 ?_) | ((with_reducible show wpList _ _ _ (⟨some 53, _, _, _, _, _⟩ :: _) _ _); refine wpList_eql 53 rfl rfl 82 _ _ _ rfl (ent M.En.zero) (ent M.En.zero) rfl rfl grd82 true HQ0.out ?_))
  go_ret
  exact ⟨rfl, hW⟩
set_option maxRecDepth 100000 in
set_option maxHeartbeats 2000000 in
theorem ereads_c (w : World) (f : M.Fr) (hok : f.ok) (U : M.En) (hU : M.unEn f.kind f.body = U) (hr : U.right = true) (hf : f.right = true) (h1 : f.seq < U.first) :
    Calls Try.prog 23 #[.agg (frm f)] w fun r w' => r = .returned (.bool true) ∧ Below w.heap.size w w' := by
  have huk := M.unEn_ok f.kind f.body hok.1 hok.2
  have hfr := M.fr_of f hok
  have hRD : M.rdE f = if (M.unEn f.kind f.body).right = true ∧ f.right = true ∧ (M.unEn f.kind f.body).first ≤ f.seq ∧ f.seq < (M.unEn f.kind f.body).first + (M.unEn f.kind f.body).count then (M.unEn f.kind f.body, 0) else (M.En.zero, 10) := rfl
  have hOF : M.ofR f.kind f.body = if (M.unEn f.kind f.body).right = true then (M.unEn f.kind f.body, true) else (M.En.zero, false) := rfl
  rw [hU] at huk hfr hRD hOF
  have HU := hid huk
  have HOK := hid hok
  have HQ0 : Hid (∀ w, (Op.equalIn 10000 82 (.agg (ent M.En.zero)) (.agg (ent M.En.zero))).run Try.prog w = .ok true w) := fun w => by rw [eq_ent82 _ _ M.zeroE_ok M.zeroE_ok]; simp
  have HV : Hid (M.rdE f = (M.En.zero, 10)) := by show _ = _; rw [hRD, if_neg (fun h => by omega)]
  have HS : Hid (M.ofR f.kind f.body = (U, true)) := by show _ = _; rw [hOF, if_pos hr]
  have HFR := hid hf
  have t1 : decide (f.seq < U.first) = true := by simpa using h1
  clear hok huk hfr hRD hOF hU hr hf h1
  have hW := Below.refl w.heap.size w
  go_enter Try.func23, Try.ntmps23
  go_wp2_with (first | ((with_reducible show wpList _ _ _ (⟨some 1, _, _, _, _, _⟩ :: _) _ _); refine wpList_boxed 1 rfl rfl 41 _ rfl (frm f) rfl ?_; intro W1 N1 hNN1 hMN1 hr1 hb; have sW1 := hb.size; have hW := below_next hW hb) | (go_at_call 60; refine (anchor4_calls _).mono ?_; rintro e w1 ⟨rfl, hb⟩; have sw1 := hb.size; have hW := below_next hW hb; have hr1 := below_blk hb hr1) | ((with_reducible show wpList _ _ _ (⟨some 12, _, _, _, _, _⟩ :: _) _ _); refine wpList_load_rowg 12 rfl rfl 41 _ rfl N1 rfl _ (frm f) (0, 0) _ hr1 Try.underlying41 rfl (ty41 _ HOK.out).size ?_) | (go_at_call 70; refine (eread_calls f HOK.out _).mono ?_; rintro e w2 ⟨rfl, hb⟩; rw [HV.out]; have sw2 := hb.size; have hW := below_next hW hb; have hr1 := below_blk hb hr1) | ((with_reducible show wpList _ _ _ (⟨some 3, _, _, _, _, _⟩ :: _) _ _); refine wpList_local 3 rfl rfl rfl rfl 82 rfl _ rfl (ent M.En.zero) rfl (of_decide_eq_true (by kernel_rfl)) (ty82 _ M.zeroE_ok) (ent_all _) ?_; intro W3 N3 hNN3 hMN3 hr3 hb; have sW3 := hb.size; have hW := below_next hW hb; have hr1 := below_blk hb hr1; have c0 := cell_of_row _ N1 0 _ _ _ hr1; rw [frm0] at c0) | ((with_reducible show wpList _ _ _ (⟨some 20, _, _, _, _, _⟩ :: _) _ _); refine wpList_load_bytesg 20 rfl rfl 39 _ rfl N1 5 rfl f.body _ (hasB_frm HOK.out hr1) Try.underlying39 rfl (by rw [HOK.out.1]; kernel_rfl) ?_) | (go_at_call 69; refine (rof_calls f.kind f.body HOK.out.1 HOK.out.2 _).mono ?_; rintro e w4 ⟨rfl, hb⟩; rw [HS.out]; have sw4 := hb.size; have hW := below_next hW hb; have hr1 := below_blk hb hr1; have hr3 := below_blk hb hr3) | ((with_reducible show wpList _ _ _ (⟨some 5, _, _, _, _, _⟩ :: _) _ _); refine wpList_local 5 rfl rfl rfl rfl 91 rfl _ rfl (ent U) rfl (of_decide_eq_true (by kernel_rfl)) (ty91 _ HU.out) (ent_all _) ?_; intro W5 N5 hNN5 hMN5 hr5 hb; have sW5 := hb.size; have hW := below_next hW hb; have hr1 := below_blk hb hr1; have hr3 := below_blk hb hr3) | ((with_reducible show wpList _ _ _ (⟨some 27, _, _, _, _, _⟩ :: _) _ _); refine wpList_load_rowg 27 rfl rfl 41 _ rfl N1 rfl _ (frm f) (0, 0) _ hr1 Try.underlying41 rfl (ty41 _ HOK.out).size ?_) | (go_at_call 39; refine (rright_b f _ HFR.out _).mono ?_; rintro e w6 ⟨rfl, hb⟩; have sw6 := hb.size; have hW := below_next hW hb; have hr1 := below_blk hb hr1; have hr3 := below_blk hb hr3; have hr5 := below_blk hb hr5; have c1 := cell_of_row _ N1 1 _ _ _ hr1; rw [frm1] at c1; have c2 := cell_of_row _ N1 2 _ _ _ hr1; rw [frm2] at c2; have c3 := cell_of_row _ N1 3 _ _ _ hr1; rw [frm3] at c3; have c4 := cell_of_row _ N1 4 _ _ _ hr1; rw [frm4] at c4; have d1 := cell_of_row _ N5 1 _ _ _ hr5; rw [ent1] at d1; have d2 := cell_of_row _ N5 2 _ _ _ hr5; rw [ent2] at d2) | ((with_reducible show wpList _ _ _ (⟨some 51, _, _, _, _, _⟩ :: _) _ _); refine wpList_load_rowg 51 rfl rfl 82 _ rfl N3 rfl _ (ent M.En.zero) (0, 0) _ hr3 Try.underlying82 rfl (ty82 _ M.zeroE_ok).size ?_) | ((with_reducible show wpList _ _ _ (⟨some 52, _, _, _, _, _⟩ :: _) _ _); refine wpList_build_g 52 rfl rfl 82 _ rfl (ent M.En.zero) build_zero82 ?_) | ((with_reducible show wpList _ _ _ (⟨some 53, _, _, _, _, _⟩ :: _) _ _); refine wpList_eql 53 rfl rfl 82 _ _ _ rfl (ent M.En.zero) (ent M.En.zero) rfl rfl grd82 true HQ0.out ?_))
  go_ret
  exact ⟨rfl, hW⟩
set_option maxRecDepth 100000 in
set_option maxHeartbeats 2000000 in
theorem ereads_d (w : World) (f : M.Fr) (hok : f.ok) (U : M.En) (hU : M.unEn f.kind f.body = U) (hr : U.right = true) (hf : f.right = true) (h1 : ¬ f.seq < U.first) (h2 : U.first + U.count ≤ f.seq) :
    Calls Try.prog 23 #[.agg (frm f)] w fun r w' => r = .returned (.bool true) ∧ Below w.heap.size w w' := by
  have huk := M.unEn_ok f.kind f.body hok.1 hok.2
  have hfr := M.fr_of f hok
  have hRD : M.rdE f = if (M.unEn f.kind f.body).right = true ∧ f.right = true ∧ (M.unEn f.kind f.body).first ≤ f.seq ∧ f.seq < (M.unEn f.kind f.body).first + (M.unEn f.kind f.body).count then (M.unEn f.kind f.body, 0) else (M.En.zero, 10) := rfl
  have hOF : M.ofR f.kind f.body = if (M.unEn f.kind f.body).right = true then (M.unEn f.kind f.body, true) else (M.En.zero, false) := rfl
  rw [hU] at huk hfr hRD hOF
  have HU := hid huk
  have HOK := hid hok
  have HQ0 : Hid (∀ w, (Op.equalIn 10000 82 (.agg (ent M.En.zero)) (.agg (ent M.En.zero))).run Try.prog w = .ok true w) := fun w => by rw [eq_ent82 _ _ M.zeroE_ok M.zeroE_ok]; simp
  have HV : Hid (M.rdE f = (M.En.zero, 10)) := by show _ = _; rw [hRD, if_neg (fun h => by omega)]
  have HS : Hid (M.ofR f.kind f.body = (U, true)) := by show _ = _; rw [hOF, if_pos hr]
  have HFR := hid hf
  have hb := U.right_bounds hr
  obtain ⟨⟨b1, b2⟩, -, -, ⟨b3, b4⟩, -⟩ := hb
  have hsum : wrap64 (U.first + U.count) = U.first + U.count := by unfold wrap64; omega
  have t1 : decide (f.seq < U.first) = false := by simpa using h1
  have t2 : decide (U.first + U.count ≤ f.seq) = true := by simpa using h2
  clear hok huk hfr hRD hOF hU hr hf h1 h2
  have hW := Below.refl w.heap.size w
  go_enter Try.func23, Try.ntmps23
  go_wp2_with (first | ((with_reducible show wpList _ _ _ (⟨some 1, _, _, _, _, _⟩ :: _) _ _); refine wpList_boxed 1 rfl rfl 41 _ rfl (frm f) rfl ?_; intro W1 N1 hNN1 hMN1 hr1 hb; have sW1 := hb.size; have hW := below_next hW hb) | (go_at_call 60; refine (anchor4_calls _).mono ?_; rintro e w1 ⟨rfl, hb⟩; have sw1 := hb.size; have hW := below_next hW hb; have hr1 := below_blk hb hr1) | ((with_reducible show wpList _ _ _ (⟨some 12, _, _, _, _, _⟩ :: _) _ _); refine wpList_load_rowg 12 rfl rfl 41 _ rfl N1 rfl _ (frm f) (0, 0) _ hr1 Try.underlying41 rfl (ty41 _ HOK.out).size ?_) | (go_at_call 70; refine (eread_calls f HOK.out _).mono ?_; rintro e w2 ⟨rfl, hb⟩; rw [HV.out]; have sw2 := hb.size; have hW := below_next hW hb; have hr1 := below_blk hb hr1) | ((with_reducible show wpList _ _ _ (⟨some 3, _, _, _, _, _⟩ :: _) _ _); refine wpList_local 3 rfl rfl rfl rfl 82 rfl _ rfl (ent M.En.zero) rfl (of_decide_eq_true (by kernel_rfl)) (ty82 _ M.zeroE_ok) (ent_all _) ?_; intro W3 N3 hNN3 hMN3 hr3 hb; have sW3 := hb.size; have hW := below_next hW hb; have hr1 := below_blk hb hr1; have c0 := cell_of_row _ N1 0 _ _ _ hr1; rw [frm0] at c0) | ((with_reducible show wpList _ _ _ (⟨some 20, _, _, _, _, _⟩ :: _) _ _); refine wpList_load_bytesg 20 rfl rfl 39 _ rfl N1 5 rfl f.body _ (hasB_frm HOK.out hr1) Try.underlying39 rfl (by rw [HOK.out.1]; kernel_rfl) ?_) | (go_at_call 69; refine (rof_calls f.kind f.body HOK.out.1 HOK.out.2 _).mono ?_; rintro e w4 ⟨rfl, hb⟩; rw [HS.out]; have sw4 := hb.size; have hW := below_next hW hb; have hr1 := below_blk hb hr1; have hr3 := below_blk hb hr3) | ((with_reducible show wpList _ _ _ (⟨some 5, _, _, _, _, _⟩ :: _) _ _); refine wpList_local 5 rfl rfl rfl rfl 91 rfl _ rfl (ent U) rfl (of_decide_eq_true (by kernel_rfl)) (ty91 _ HU.out) (ent_all _) ?_; intro W5 N5 hNN5 hMN5 hr5 hb; have sW5 := hb.size; have hW := below_next hW hb; have hr1 := below_blk hb hr1; have hr3 := below_blk hb hr3) | ((with_reducible show wpList _ _ _ (⟨some 27, _, _, _, _, _⟩ :: _) _ _); refine wpList_load_rowg 27 rfl rfl 41 _ rfl N1 rfl _ (frm f) (0, 0) _ hr1 Try.underlying41 rfl (ty41 _ HOK.out).size ?_) | (go_at_call 39; refine (rright_b f _ HFR.out _).mono ?_; rintro e w6 ⟨rfl, hb⟩; have sw6 := hb.size; have hW := below_next hW hb; have hr1 := below_blk hb hr1; have hr3 := below_blk hb hr3; have hr5 := below_blk hb hr5; have c1 := cell_of_row _ N1 1 _ _ _ hr1; rw [frm1] at c1; have c2 := cell_of_row _ N1 2 _ _ _ hr1; rw [frm2] at c2; have c3 := cell_of_row _ N1 3 _ _ _ hr1; rw [frm3] at c3; have c4 := cell_of_row _ N1 4 _ _ _ hr1; rw [frm4] at c4; have d1 := cell_of_row _ N5 1 _ _ _ hr5; rw [ent1] at d1; have d2 := cell_of_row _ N5 2 _ _ _ hr5; rw [ent2] at d2) | ((with_reducible show wpList _ _ _ (⟨some 51, _, _, _, _, _⟩ :: _) _ _); refine wpList_load_rowg 51 rfl rfl 82 _ rfl N3 rfl _ (ent M.En.zero) (0, 0) _ hr3 Try.underlying82 rfl (ty82 _ M.zeroE_ok).size ?_) | ((with_reducible show wpList _ _ _ (⟨some 52, _, _, _, _, _⟩ :: _) _ _); refine wpList_build_g 52 rfl rfl 82 _ rfl (ent M.En.zero) build_zero82 ?_) | ((with_reducible show wpList _ _ _ (⟨some 53, _, _, _, _, _⟩ :: _) _ _); refine wpList_eql 53 rfl rfl 82 _ _ _ rfl (ent M.En.zero) (ent M.En.zero) rfl rfl grd82 true HQ0.out ?_))
  go_ret
  exact ⟨rfl, hW⟩
set_option maxRecDepth 100000 in
set_option maxHeartbeats 2000000 in
theorem ereads_e (w : World) (f : M.Fr) (hok : f.ok) (U : M.En) (hU : M.unEn f.kind f.body = U) (hr : U.right = true) (hf : f.right = true) (h1 : ¬ f.seq < U.first) (h2 : ¬ U.first + U.count ≤ f.seq) :
    Calls Try.prog 23 #[.agg (frm f)] w fun r w' => r = .returned (.bool true) ∧ Below w.heap.size w w' := by
  have huk := M.unEn_ok f.kind f.body hok.1 hok.2
  have hfr := M.fr_of f hok
  have hRD : M.rdE f = if (M.unEn f.kind f.body).right = true ∧ f.right = true ∧ (M.unEn f.kind f.body).first ≤ f.seq ∧ f.seq < (M.unEn f.kind f.body).first + (M.unEn f.kind f.body).count then (M.unEn f.kind f.body, 0) else (M.En.zero, 10) := rfl
  have hOF : M.ofR f.kind f.body = if (M.unEn f.kind f.body).right = true then (M.unEn f.kind f.body, true) else (M.En.zero, false) := rfl
  rw [hU] at huk hfr hRD hOF
  have HU := hid huk
  have HOK := hid hok
  have HQ0 : Hid (∀ w, (Op.equalIn 10000 82 (.agg (ent M.En.zero)) (.agg (ent M.En.zero))).run Try.prog w = .ok true w) := fun w => by rw [eq_ent82 _ _ M.zeroE_ok M.zeroE_ok]; simp
  have HV : Hid (M.rdE f = (U, 0)) := by show _ = _; rw [hRD, if_pos ⟨hr, hf, by omega, by omega⟩]
  have HFV : Hid (U.frame f.zone f.off f.epoch f.seq = (f, 0)) := by show _ = _; rw [M.En.frame, hfr, if_pos ⟨hr, hf, by omega, by omega⟩]
  have HQF : Hid (∀ w, (Op.equalIn 10000 41 (.agg (frm f)) (.agg (frm f))).run Try.prog w = .ok true w) := fun w => by rw [eq_frm41 f f hok hok]; simp
  have HQ91 : Hid (∀ w, (Op.equalIn 10000 91 (.agg (ent U)) (.agg (ent U))).run Try.prog w = .ok true w) := fun w => by rw [eq_ent91 U U huk huk]; simp
  have HS : Hid (M.ofR f.kind f.body = (U, true)) := by show _ = _; rw [hOF, if_pos hr]
  have HFR := hid hf
  have hb := U.right_bounds hr
  obtain ⟨⟨b1, b2⟩, -, -, ⟨b3, b4⟩, -⟩ := hb
  have hsum : wrap64 (U.first + U.count) = U.first + U.count := by unfold wrap64; omega
  have t1 : decide (f.seq < U.first) = false := by simpa using h1
  have t2 : decide (U.first + U.count ≤ f.seq) = false := by simpa using h2
  clear hok huk hfr hRD hOF hU hr hf h1 h2
  have hW := Below.refl w.heap.size w
  go_enter Try.func23, Try.ntmps23
  go_upto_region 8 with (first | ((with_reducible show wpList _ _ _ (⟨some 1, _, _, _, _, _⟩ :: _) _ _); refine wpList_boxed 1 rfl rfl 41 _ rfl (frm f) rfl ?_; intro W1 N1 hNN1 hMN1 hr1 hb; have sW1 := hb.size; have hW := below_next hW hb) | (go_at_call 60; refine (anchor4_calls _).mono ?_; rintro e w1 ⟨rfl, hb⟩; have sw1 := hb.size; have hW := below_next hW hb; have hr1 := below_blk hb hr1) | ((with_reducible show wpList _ _ _ (⟨some 12, _, _, _, _, _⟩ :: _) _ _); refine wpList_load_rowg 12 rfl rfl 41 _ rfl N1 rfl _ (frm f) (0, 0) _ hr1 Try.underlying41 rfl (ty41 _ HOK.out).size ?_) | (go_at_call 70; refine (eread_calls f HOK.out _).mono ?_; rintro e w2 ⟨rfl, hb⟩; rw [HV.out]; have sw2 := hb.size; have hW := below_next hW hb; have hr1 := below_blk hb hr1) | ((with_reducible show wpList _ _ _ (⟨some 3, _, _, _, _, _⟩ :: _) _ _); refine wpList_local 3 rfl rfl rfl rfl 82 rfl _ rfl (ent U) rfl (of_decide_eq_true (by kernel_rfl)) (ty82 _ HU.out) (ent_all _) ?_; intro W3 N3 hNN3 hMN3 hr3 hb; have sW3 := hb.size; have hW := below_next hW hb; have hr1 := below_blk hb hr1; have c0 := cell_of_row _ N1 0 _ _ _ hr1; rw [frm0] at c0) | ((with_reducible show wpList _ _ _ (⟨some 20, _, _, _, _, _⟩ :: _) _ _); refine wpList_load_bytesg 20 rfl rfl 39 _ rfl N1 5 rfl f.body _ (hasB_frm HOK.out hr1) Try.underlying39 rfl (by rw [HOK.out.1]; kernel_rfl) ?_) | (go_at_call 69; refine (rof_calls f.kind f.body HOK.out.1 HOK.out.2 _).mono ?_; rintro e w4 ⟨rfl, hb⟩; rw [HS.out]; have sw4 := hb.size; have hW := below_next hW hb; have hr1 := below_blk hb hr1; have hr3 := below_blk hb hr3) | ((with_reducible show wpList _ _ _ (⟨some 5, _, _, _, _, _⟩ :: _) _ _); refine wpList_local 5 rfl rfl rfl rfl 91 rfl _ rfl (ent U) rfl (of_decide_eq_true (by kernel_rfl)) (ty91 _ HU.out) (ent_all _) ?_; intro W5 N5 hNN5 hMN5 hr5 hb; have sW5 := hb.size; have hW := below_next hW hb; have hr1 := below_blk hb hr1; have hr3 := below_blk hb hr3) | ((with_reducible show wpList _ _ _ (⟨some 27, _, _, _, _, _⟩ :: _) _ _); refine wpList_load_rowg 27 rfl rfl 41 _ rfl N1 rfl _ (frm f) (0, 0) _ hr1 Try.underlying41 rfl (ty41 _ HOK.out).size ?_) | (go_at_call 39; refine (rright_b f _ HFR.out _).mono ?_; rintro e w6 ⟨rfl, hb⟩; have sw6 := hb.size; have hW := below_next hW hb; have hr1 := below_blk hb hr1; have hr3 := below_blk hb hr3; have hr5 := below_blk hb hr5; have c1 := cell_of_row _ N1 1 _ _ _ hr1; rw [frm1] at c1; have c2 := cell_of_row _ N1 2 _ _ _ hr1; rw [frm2] at c2; have c3 := cell_of_row _ N1 3 _ _ _ hr1; rw [frm3] at c3; have c4 := cell_of_row _ N1 4 _ _ _ hr1; rw [frm4] at c4; have d1 := cell_of_row _ N5 1 _ _ _ hr5; rw [ent1] at d1; have d2 := cell_of_row _ N5 2 _ _ _ hr5; rw [ent2] at d2) | ((with_reducible show wpList _ _ _ (⟨some 56, _, _, _, _, _⟩ :: _) _ _); refine wpList_load_rowg 56 rfl rfl 82 _ rfl N3 rfl _ (ent U) (0, 0) _ hr3 Try.underlying82 rfl (ty82 _ HU.out).size ?_) | (go_at_call 63; refine (eframe_calls U HU.out f.zone f.off f.epoch f.seq _).mono ?_; rintro e w7 ⟨rfl, hb⟩; rw [HFV.out]; have sw7 := hb.size; have hW := below_next hW hb; have hr1 := below_blk hb hr1; have hr3 := below_blk hb hr3; have hr5 := below_blk hb hr5) | ((with_reducible show wpList _ _ _ (⟨some 7, _, _, _, _, _⟩ :: _) _ _); refine wpList_local 7 rfl rfl rfl rfl 41 rfl _ rfl (frm f) rfl (of_decide_eq_true (by kernel_rfl)) (ty41 _ HOK.out) (frm_all _) ?_; intro W7 N7 hNN7 hMN7 hr7 hb; have sW7 := hb.size; have hW := below_next hW hb; have hr1 := below_blk hb hr1; have hr3 := below_blk hb hr3; have hr5 := below_blk hb hr5))
  refine wp_region_frame (spec := [none, none, none, none, none, none, none, none, none, none, none, none, none, none, none, none, none, none]) (vals := [.int .i64 0, .bool true, .bool true, .agg (ent U), .agg (ent U), .agg (ent U), .bool true, .bool true, .bool true, .agg (frm f), .agg (frm f), .bool true, .bool true, .bool true, .int .i64 0, .bool true, .bool true, .bool true]) (by kernel_rfl) (by kernel_rfl) (by kernel_rfl) (by kernel_rfl) ?hst (fun hF => ?hobl) ?hQ
  case hst => exact trivial
  case hobl =>
    refine ⟨?_, ?_, ?_, ?_, ?_, ?_, ?_, ?_, ?_, ?_, ?_, ?_, ?_, ?_, ?_, ?_, ?_, ?_, trivial⟩
    · refine fun ho => obl_det hF (by kernel_rfl) (by kernel_rfl) ho (by kernel_rfl) (fun wx hbx => ?_); rw [if_pos (by kernel_rfl)]; with_reducible exact grows_det (.int .i64 0) (by kernel_rfl) (by kernel_rfl) (by kernel_rfl)
    · refine fun ho => obl_det hF (by kernel_rfl) (by kernel_rfl) ho (by kernel_rfl) (fun wx hbx => ?_); rw [if_pos (by kernel_rfl)]; with_reducible exact grows_det (.bool true) (by kernel_rfl) (by kernel_rfl) (by kernel_rfl)
    · refine fun ho => obl_det hF (by kernel_rfl) (by kernel_rfl) ho (by kernel_rfl) (fun wx hbx => ?_); rw [if_pos (by kernel_rfl)]; with_reducible exact grows_det (.bool true) (by kernel_rfl) (by kernel_rfl) (by kernel_rfl)
    · refine fun ho => obl_det hF (by kernel_rfl) (by kernel_rfl) ho (by kernel_rfl) (fun wx hbx => ?_); rw [if_pos (by kernel_rfl)]; with_reducible exact grows_row 82 (.tmp 3) (by kernel_rfl) N3 (by kernel_rfl) 82 (ent U) (0, 0) _ (below_blk hbx hr3) Try.underlying82 (by kernel_rfl) (ty82 _ HU.out).size (by kernel_rfl) (by kernel_rfl)
    · refine fun ho => obl_det hF (by kernel_rfl) (by kernel_rfl) ho (by kernel_rfl) (fun wx hbx => ?_); rw [if_pos (by kernel_rfl)]; with_reducible exact grows_call 65 #[.agg (ent U)] (.agg (ent U)) (by kernel_rfl) (lawof_calls U HU.out wx) (by kernel_rfl) (by kernel_rfl)
    · refine fun ho => obl_det hF (by kernel_rfl) (by kernel_rfl) ho (by kernel_rfl) (fun wx hbx => ?_); rw [if_pos (by kernel_rfl)]; with_reducible exact grows_row 91 (.tmp 5) (by kernel_rfl) N5 (by kernel_rfl) 91 (ent U) (0, 0) _ (below_blk hbx hr5) Try.underlying91 (by kernel_rfl) (ty91 _ HU.out).size (by kernel_rfl) (by kernel_rfl)
    · refine fun ho => obl_det hF (by kernel_rfl) (by kernel_rfl) ho (by kernel_rfl) (fun wx hbx => ?_); rw [if_pos (by kernel_rfl)]; with_reducible exact grows_det (.bool true) (op_eql 91 91 (.tmp 72) (.tmp 73) (by kernel_rfl) (ent U) (ent U) (by kernel_rfl) (by kernel_rfl) grd91 _ HQ91.out) (by kernel_rfl) (by kernel_rfl)
    · refine fun ho => obl_det hF (by kernel_rfl) (by kernel_rfl) ho (by kernel_rfl) (fun wx hbx => ?_); rw [if_pos (by kernel_rfl)]; with_reducible exact grows_det (.bool true) (by kernel_rfl) (by kernel_rfl) (by kernel_rfl)
    · refine fun ho => obl_det hF (by kernel_rfl) (by kernel_rfl) ho (by kernel_rfl) (fun wx hbx => ?_); rw [if_pos (by kernel_rfl)]; with_reducible exact grows_det (.bool true) (by kernel_rfl) (by kernel_rfl) (by kernel_rfl)
    · refine fun ho => obl_det hF (by kernel_rfl) (by kernel_rfl) ho (by kernel_rfl) (fun wx hbx => ?_); rw [if_pos (by kernel_rfl)]; with_reducible exact grows_row 41 (.tmp 7) (by kernel_rfl) N7 (by kernel_rfl) 41 (frm f) (0, 0) _ (below_blk hbx hr7) Try.underlying41 (by kernel_rfl) (ty41 _ HOK.out).size (by kernel_rfl) (by kernel_rfl)
    · refine fun ho => obl_det hF (by kernel_rfl) (by kernel_rfl) ho (by kernel_rfl) (fun wx hbx => ?_); rw [if_pos (by kernel_rfl)]; with_reducible exact grows_row 41 (.tmp 1) (by kernel_rfl) N1 (by kernel_rfl) 41 (frm f) (0, 0) _ (below_blk hbx hr1) Try.underlying41 (by kernel_rfl) (ty41 _ HOK.out).size (by kernel_rfl) (by kernel_rfl)
    · refine fun ho => obl_det hF (by kernel_rfl) (by kernel_rfl) ho (by kernel_rfl) (fun wx hbx => ?_); rw [if_pos (by kernel_rfl)]; with_reducible exact grows_det (.bool true) (op_eql 41 41 (.tmp 77) (.tmp 78) (by kernel_rfl) (frm f) (frm f) (by kernel_rfl) (by kernel_rfl) grd41 _ HQF.out) (by kernel_rfl) (by kernel_rfl)
    · refine fun ho => obl_det hF (by kernel_rfl) (by kernel_rfl) ho (by kernel_rfl) (fun wx hbx => ?_); rw [if_pos (by kernel_rfl)]; with_reducible exact grows_det (.bool true) (by kernel_rfl) (by kernel_rfl) (by kernel_rfl)
    · refine fun ho => obl_det hF (by kernel_rfl) (by kernel_rfl) ho (by kernel_rfl) (fun wx hbx => ?_); rw [if_pos (by kernel_rfl)]; with_reducible exact grows_det (.bool true) (by kernel_rfl) (by kernel_rfl) (by kernel_rfl)
    · refine fun ho => obl_det hF (by kernel_rfl) (by kernel_rfl) ho (by kernel_rfl) (fun wx hbx => ?_); rw [if_pos (by kernel_rfl)]; with_reducible exact grows_det (.int .i64 0) (by kernel_rfl) (by kernel_rfl) (by kernel_rfl)
    · refine fun ho => obl_det hF (by kernel_rfl) (by kernel_rfl) ho (by kernel_rfl) (fun wx hbx => ?_); rw [if_pos (by kernel_rfl)]; with_reducible exact grows_det (.bool true) (by kernel_rfl) (by kernel_rfl) (by kernel_rfl)
    · refine fun ho => obl_det hF (by kernel_rfl) (by kernel_rfl) ho (by kernel_rfl) (fun wx hbx => ?_); rw [if_pos (by kernel_rfl)]; with_reducible exact grows_det (.bool true) (by kernel_rfl) (by kernel_rfl) (by kernel_rfl)
    · refine fun ho => obl_det hF (by kernel_rfl) (by kernel_rfl) ho (by kernel_rfl) (fun wx hbx => ?_); rw [if_pos (by kernel_rfl)]; with_reducible exact grows_det (.bool true) (by kernel_rfl) (by kernel_rfl) (by kernel_rfl)
  case hQ =>
    intro wy hby
    simp only [each]
    generalize hF : putAll _ _ _ = F
    have hd : F.defers = [] := by rw [← hF]; kernel_rfl
    have h8 : F.tmps.getD 2 undef = .bool true := by rw [← hF]; kernel_rfl
    clear hF
    go_step
    go_step
    go_step
    exact ret_of 2 rfl hd _ h8 ⟨rfl, below_next hW hby⟩
theorem ereads_walk (w : World) (f : M.Fr) (hok : f.ok) :
    Calls Try.prog 23 #[.agg (frm f)] w fun r w' => r = .returned (.bool true) ∧ Below w.heap.size w w' := by
  obtain ⟨U, hU⟩ : ∃ U, M.unEn f.kind f.body = U := ⟨_, rfl⟩
  by_cases hr : U.right = true
  · by_cases hf : f.right = true
    · by_cases h1 : f.seq < U.first
      · exact ereads_c w f hok U hU hr hf h1
      · by_cases h2 : U.first + U.count ≤ f.seq
        · exact ereads_d w f hok U hU hr hf h1 h2
        · exact ereads_e w f hok U hU hr hf h1 h2
    · exact ereads_b w f hok U hU hr (by simpa using hf)
  · exact ereads_a w f hok U hU (by simpa using hr)
end Go.Proofs.Ytncooadaeifekaa

/- EntryReads is proved: for any frame the law returns true. No condition. -/
namespace Go.Proofs.Ytncooadaeifekaa.entryReads
open Go.ChangeShapes Go.WideShapes Go.ChangeAt Go.RowKit
set_option maxRecDepth 100000 in
theorem lifted (os : Os) (started : os.Started) (H : Type) (enc : TypeId × Value → H) :
    ReturnsInHanded {} Try.checked os 23 .any (Rows.entryReadsSpec.pre6 enc Try.prog Try.f23 Rows.entryReadsRow.domain false) (Rows.entryReadsSpec.post enc Try.prog Try.f23 false true false false) := by
  refine returnsInHanded_of_change (C := Try.checked) own started (by kernel_rfl) Try.func23
    (ChangeSpec.witness6 (enc := enc) (C := Try.checked) false ⟨#[], #[.agg (Array.replicate 5 (.int .i64 0) ++ Array.replicate 44 (.int .u8 0))], []⟩ 8 (by kernel_rfl) (by kernel_rfl) (by kernel_rfl) (by kernel_rfl)) ?_
  intro W base args ds gs before hval0 hW hcnd _
  have hval : ∀ (j : Nat) t v, Try.f23.params[j]? = some t → args[j]? = some v → Value.okWide Try.prog W .any base t v := hval0
  have hW' := hW
  obtain ⟨p, q, hA0, hV, rfl, hfz, hnd⟩ := hW
  have hA : DataW.TrodAll enc Try.prog W 0 (fun _ => true) true Try.f23.params.toList args.toList ds p := hA0
  rw [Try.params23] at hA hval
  obtain ⟨v0, vs0, d0, ds0, p0, q0, hargs, rfl, rfl, h0, r0⟩ := trodAll_cons hA
  obtain ⟨rfl, rfl, rfl⟩ := trodAll_nil r0
  obtain rfl : args = #[v0] := by cases args; simp_all
  obtain ⟨rfl, rfl⟩ := trodVars_none hV
  have k0 := h0
  have lt0 := trod_fin k0
  obtain ⟨x0, rfl, n0⟩ := open_frame (hval 0 41 v0 rfl rfl) h0
  clear hA0 hval0
  refine (ereads_walk W x0 n0).mono fun e W' ⟨he, bel⟩ => ?_
  subst he
  exact ⟨_, rfl, _, _, _, [], _, [], hW', trodAll_mk1 (shut_bool Try.underlying4 _), (trodAll_cons_mk (Below.trod laidOut (by kernel_rfl) (of_decide_eq_true (by kernel_rfl)) k0 bel lt0) trodAll_mk0), rfl, bel.frame _, fun h => by cases h⟩
theorem facts : joinedFacts Try.prog 23 Try.f23 Rows.entryReadsSpec Rows.entryReadsRow = true := by
  unfold joinedFacts
  rw [may_enter, lifts_final, make_is]
  kernel_rfl
theorem over : Rows.entryReadsRow.holds Try.pinned (OpenSpec.ofChange Rows.entryReadsSpec) :=
  OpenClaim.holds_of_wide 23 Try.f23 rfl rfl rfl rfl rfl rfl rfl ⟨rfl, rfl, rfl, rfl, rfl⟩ rfl rfl rfl rfl rfl (by kernel_rfl) Try.func23 facts
    (of_decide_eq_true (by kernel_rfl)) (by unfold Func.isWrapper; first | (rw [if_pos (by decide +kernel)]; kernel_rfl) | (rw [if_neg (by decide +kernel)]; exact ⟨rfl, rfl⟩))
    (fun os started H enc _ => lifted os started H enc)
theorem proved : Rows.EntryReadsSaid := over
#print axioms proved
end Go.Proofs.Ytncooadaeifekaa.entryReads
