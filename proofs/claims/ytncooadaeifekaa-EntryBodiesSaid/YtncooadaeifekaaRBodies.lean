/- EntryBodies is proved: for any entry, kind and body the law returns true. No condition. -/
import Derived.Test.YtncooadaeifekaaPF5
/- Walk of the law EntryBodies: it answers true for any entry, kind and body. -/
namespace Go.Proofs.Ytncooadaeifekaa
open Go.RowKit Go.BigFrame
theorem rbody_is (U : M.En) (b : List Nat) (hok : U.ok) (hr : U.right = true) (h : U.body = b) (w : World) :
    Calls Try.prog 68 #[.agg (ent U)] w fun r w' => r = .returned (.agg (sct b)) ∧ Below w.heap.size w w' := by subst h; exact rbody_calls U hok hr w
set_option maxRecDepth 100000 in
set_option maxHeartbeats 2000000 in
theorem bodies_ff (w : World) (e : M.En) (hok : e.ok) (k : Int) (b : List Nat) (hb : b.length = 44 ∧ ∀ c ∈ b, c < 256) (U : M.En) (hU : M.unEn k b = U) (hr : e.right = false) (hu : U.right = false) :
    Calls Try.prog 21 #[.agg (ent e), .int .i64 k, .agg (sct b)] w fun r w' => r = .returned (.bool true) ∧ Below w.heap.size w w' := by
  have HU : Hid U.ok := by show U.ok; rw [← hU]; exact M.unEn_ok k b hb.1 hb.2
  have HOK := hid hok
  have HB := hid hb
  have HR := hid hr
  have HV : Hid (e.bod = (List.replicate 44 0, 10)) := by show _ = _; rw [M.En.bod, if_neg (by rw [hr]; simp)]
  have HZL : Hid ((List.replicate 44 0 : List Nat).length = 44) := by show _ = _; simp
  have HQZ : Hid (∀ w, (Op.equalIn 10000 39 (.agg (sct (List.replicate 44 0))) (.agg (sct (List.replicate 44 0)))).run Try.prog w = .ok true w) := fun w => by rw [eq_sct 39 44 Try.underlying39 _ _ HZL.out HZL.out (by simp) (by simp) w]; simp
  have HD : Hid (M.ofB k b = (M.En.zero, 10)) := by show _ = _; rw [M.ofB, hU, if_neg (by rw [hu]; simp)]
  have HS : Hid (M.ofR k b = (M.En.zero, false)) := by show _ = _; rw [M.ofR, hU, if_neg (by rw [hu]; simp)]
  have HQ0 : Hid (∀ w, (Op.equalIn 10000 82 (.agg (ent M.En.zero)) (.agg (ent M.En.zero))).run Try.prog w = .ok true w) := fun w => by rw [eq_ent82 _ _ M.zeroE_ok M.zeroE_ok]; simp
  clear hok hb hU hr hu
  have hW := Below.refl w.heap.size w
  go_enter Try.func21, Try.ntmps21
  go_upto_region 4 with (first | ((with_reducible show wpList _ _ _ (⟨some 3, _, _, _, _, _⟩ :: _) _ _); refine wpList_boxed 3 rfl rfl 82 _ rfl (ent e) rfl ?_; intro W3 N3 hNN3 hMN3 hr3 hb; have sW3 := hb.size; have hW := below_next hW hb) | ((with_reducible show wpList _ _ _ (⟨some 5, _, _, _, _, _⟩ :: _) _ _); refine wpList_boxed 5 rfl rfl 39 _ rfl (sct b) rfl ?_; intro W5 N5 hNN5 hMN5 hr5 hb; have sW5 := hb.size; have hW := below_next hW hb; have hr3 := below_blk hb hr3) | (go_at_call 60; refine (anchor4_calls _).mono ?_; rintro e w1 ⟨rfl, hb⟩; have sw1 := hb.size; have hW := below_next hW hb; have hr3 := below_blk hb hr3; have hr5 := below_blk hb hr5) | ((with_reducible show wpList _ _ _ (⟨some 18, _, _, _, _, _⟩ :: _) _ _); refine wpList_load_rowg 18 rfl rfl 82 _ rfl N3 rfl _ (ent e) (0, 0) _ hr3 Try.underlying82 rfl (ty82 _ HOK.out).size ?_) | (go_at_call 61; refine (body_calls e HOK.out _).mono ?_; rintro e w2 ⟨rfl, hb⟩; rw [HV.out]; have sw2 := hb.size; have hW := below_next hW hb; have hr3 := below_blk hb hr3; have hr5 := below_blk hb hr5) | ((with_reducible show wpList _ _ _ (⟨some 7, _, _, _, _, _⟩ :: _) _ _); refine wpList_local 7 rfl rfl rfl rfl 39 rfl _ rfl (sct (List.replicate 44 0)) rfl (of_decide_eq_true (by kernel_rfl)) (ty39 _ HZL.out) (sct_all _) ?_; intro W7 N7 hNN7 hMN7 hr7 hb; have sW7 := hb.size; have hW := below_next hW hb; have hr3 := below_blk hb hr3; have hr5 := below_blk hb hr5))
  refine wp_region_frame (spec := [none, none, none, none, none, none]) (vals := [.agg (ent e), .bool false, .agg (ent e), .agg (ent e), .bool false, .bool false]) (by kernel_rfl) (by kernel_rfl) (by kernel_rfl) (by kernel_rfl) ?hst (fun hF => ?hobl) ?hQ
  case hst => exact trivial
  case hobl =>
    refine ⟨?_, ?_, ?_, ?_, ?_, ?_, trivial⟩
    · refine fun ho => obl_det hF (by kernel_rfl) (by kernel_rfl) ho (by kernel_rfl) (fun wx hbx => ?_); rw [if_pos (by kernel_rfl)]; with_reducible exact grows_row 82 (.tmp 3) (by kernel_rfl) N3 (by kernel_rfl) 82 (ent e) (0, 0) _ (below_blk hbx hr3) Try.underlying82 (by kernel_rfl) (ty82 _ HOK.out).size (by kernel_rfl) (by kernel_rfl)
    · refine fun ho => obl_det hF (by kernel_rfl) (by kernel_rfl) ho (by kernel_rfl) (fun wx hbx => ?_); rw [if_pos (by kernel_rfl)]; with_reducible exact grows_call 62 #[.agg (ent e)] (.bool false) (by kernel_rfl) (eright_b e _ HOK.out HR.out wx) (by kernel_rfl) (by kernel_rfl)
    · refine fun ho => obl_det hF (by kernel_rfl) (by kernel_rfl) ho (by kernel_rfl) (fun wx hbx => ?_); rw [if_pos (by kernel_rfl)]; with_reducible exact grows_row 82 (.tmp 3) (by kernel_rfl) N3 (by kernel_rfl) 82 (ent e) (0, 0) _ (below_blk hbx hr3) Try.underlying82 (by kernel_rfl) (ty82 _ HOK.out).size (by kernel_rfl) (by kernel_rfl)
    · refine fun ho => obl_det hF (by kernel_rfl) (by kernel_rfl) ho (by kernel_rfl) (fun wx hbx => ?_); rw [if_pos (by kernel_rfl)]; with_reducible exact grows_call 65 #[.agg (ent e)] (.agg (ent e)) (by kernel_rfl) (lawof_calls e HOK.out wx) (by kernel_rfl) (by kernel_rfl)
    · refine fun ho => obl_det hF (by kernel_rfl) (by kernel_rfl) ho (by kernel_rfl) (fun wx hbx => ?_); rw [if_pos (by kernel_rfl)]; with_reducible exact grows_call 66 #[.agg (ent e)] (.bool false) (by kernel_rfl) (rright4_b e _ HOK.out HR.out wx) (by kernel_rfl) (by kernel_rfl)
    · refine fun ho => obl_det hF (by kernel_rfl) (by kernel_rfl) ho (by kernel_rfl) (fun wx hbx => ?_); rw [if_pos (by kernel_rfl)]; with_reducible exact grows_det (.bool false) (by kernel_rfl) (by kernel_rfl) (by kernel_rfl)
  case hQ =>
    intro wa hby
    simp only [each, putAll, Act.put, List.setIfInBounds_toArray, List.set_cons_succ, List.set_cons_zero]
    have hW := below_next hW hby
    have hr3 := below_blk hby hr3
    have hr5 := below_blk hby hr5
    have hr7 := below_blk hby hr7
    clear hby
    go_wp2_with (first | ((with_reducible show wpList _ _ _ (⟨some 28, _, _, _, _, _⟩ :: _) _ _); refine wpList_load_rowg 28 rfl rfl 82 _ rfl N3 rfl _ (ent e) (0, 0) _ hr3 Try.underlying82 rfl (ty82 _ HOK.out).size ?_) | ((with_reducible show Calls _ 65 #[.agg (ent e)] _ _); refine (lawof_calls e HOK.out _).mono ?_; rintro r w8 ⟨rfl, hb⟩; have s8 := hb.size; have hW := below_next hW hb; have hr3 := below_blk hb hr3; have hr5 := below_blk hb hr5; have hr7 := below_blk hb hr7) | (go_at_call 66; refine (rright4_b e _ HOK.out HR.out _).mono ?_; rintro e w9 ⟨rfl, hb⟩; have sw9 := hb.size; have hW := below_next hW hb; have hr3 := below_blk hb hr3; have hr5 := below_blk hb hr5; have hr7 := below_blk hb hr7; have c0 := cell_of_row _ N3 0 _ _ _ hr3; rw [ent0] at c0) | ((with_reducible show wpList _ _ _ (⟨some 35, _, _, _, _, _⟩ :: _) _ _); refine wpList_load_rowg 35 rfl rfl 39 _ rfl N7 rfl _ (sct (List.replicate 44 0)) (0, 0) _ hr7 Try.underlying39 rfl (ty39 _ HZL.out).size ?_) | ((with_reducible show wpList _ _ _ (⟨some 36, _, _, _, _, _⟩ :: _) _ _); refine wpList_build_g 36 rfl rfl 39 _ rfl (sct (List.replicate 44 0)) build_zero39 ?_) | ((with_reducible show wpList _ _ _ (⟨some 37, _, _, _, _, _⟩ :: _) _ _); refine wpList_neq 37 rfl rfl 39 _ _ _ rfl (sct (List.replicate 44 0)) (sct (List.replicate 44 0)) rfl rfl grd39 true HQZ.out ?_) | ((with_reducible show wpList _ _ _ (⟨some 66, _, _, _, _, _⟩ :: _) _ _); refine wpList_load_rowg 66 rfl rfl 39 _ rfl N5 rfl _ (sct b) (0, 0) _ hr5 Try.underlying39 rfl (ty39 _ HB.out.1).size ?_) | (go_at_call 67; refine (of_calls k b HB.out.1 HB.out.2 _).mono ?_; rintro e w11 ⟨rfl, hb⟩; rw [HD.out]; have sw11 := hb.size; have hW := below_next hW hb; have hr5 := below_blk hb hr5) | ((with_reducible show wpList _ _ _ (⟨some 11, _, _, _, _, _⟩ :: _) _ _); refine wpList_local 11 rfl rfl rfl rfl 82 rfl _ rfl (ent M.En.zero) rfl (of_decide_eq_true (by kernel_rfl)) (ty82 _ M.zeroE_ok) (ent_all _) ?_; intro W11 N11 hNN11 hMN11 hr11 hb; have sW11 := hb.size; have hW := below_next hW hb; have hr5 := below_blk hb hr5) | ((with_reducible show wpList _ _ _ (⟨some 72, _, _, _, _, _⟩ :: _) _ _); refine wpList_load_rowg 72 rfl rfl 39 _ rfl N5 rfl _ (sct b) (0, 0) _ hr5 Try.underlying39 rfl (ty39 _ HB.out.1).size ?_) | (go_at_call 69; refine (rof_calls k b HB.out.1 HB.out.2 _).mono ?_; rintro e w12 ⟨rfl, hb⟩; rw [HS.out]; have sw12 := hb.size; have hW := below_next hW hb; have hr5 := below_blk hb hr5; have hr11 := below_blk hb hr11) | ((with_reducible show wpList _ _ _ (⟨some 13, _, _, _, _, _⟩ :: _) _ _); refine wpList_local 13 rfl rfl rfl rfl 91 rfl _ rfl (ent M.En.zero) rfl (of_decide_eq_true (by kernel_rfl)) (ty91 _ M.zeroE_ok) (ent_all _) ?_; intro W13 N13 hNN13 hMN13 hr13 hb; have sW13 := hb.size; have hW := below_next hW hb; have hr5 := below_blk hb hr5; have hr11 := below_blk hb hr11) | ((with_reducible show wpList _ _ _ (⟨some 81, _, _, _, _, _⟩ :: _) _ _); refine wpList_load_rowg 81 rfl rfl 82 _ rfl N11 rfl _ (ent M.En.zero) (0, 0) _ hr11 Try.underlying82 rfl (ty82 _ M.zeroE_ok).size ?_) | ((with_reducible show wpList _ _ _ (⟨some 82, _, _, _, _, _⟩ :: _) _ _); refine wpList_build_g 82 rfl rfl 82 _ rfl (ent M.En.zero) build_zero82 ?_) | ((with_reducible show wpList _ _ _ (⟨some 83, _, _, _, _, _⟩ :: _) _ _); refine wpList_eql 83 rfl rfl 82 _ _ _ rfl (ent M.En.zero) (ent M.En.zero) rfl rfl grd82 true HQ0.out ?_))
    go_ret
    exact ⟨rfl, hW⟩
set_option maxRecDepth 100000 in
set_option maxHeartbeats 2000000 in
theorem bodies_ft (w : World) (e : M.En) (hok : e.ok) (k : Int) (b : List Nat) (hb : b.length = 44 ∧ ∀ c ∈ b, c < 256) (U : M.En) (hU : M.unEn k b = U) (hr : e.right = false) (hu : U.right = true) :
    Calls Try.prog 21 #[.agg (ent e), .int .i64 k, .agg (sct b)] w fun r w' => r = .returned (.bool true) ∧ Below w.heap.size w w' := by
  have HU : Hid U.ok := by show U.ok; rw [← hU]; exact M.unEn_ok k b hb.1 hb.2
  have HOK := hid hok
  have HB := hid hb
  have HR := hid hr
  have HV : Hid (e.bod = (List.replicate 44 0, 10)) := by show _ = _; rw [M.En.bod, if_neg (by rw [hr]; simp)]
  have HZL : Hid ((List.replicate 44 0 : List Nat).length = 44) := by show _ = _; simp
  have HQZ : Hid (∀ w, (Op.equalIn 10000 39 (.agg (sct (List.replicate 44 0))) (.agg (sct (List.replicate 44 0)))).run Try.prog w = .ok true w) := fun w => by rw [eq_sct 39 44 Try.underlying39 _ _ HZL.out HZL.out (by simp) (by simp) w]; simp
  have HD : Hid (M.ofB k b = (U, 0)) := by show _ = _; rw [M.ofB, hU, if_pos hu]
  have HS : Hid (M.ofR k b = (U, true)) := by show _ = _; rw [M.ofR, hU, if_pos hu]
  have HUR := hid hu
  have HUB : Hid (U.body = b) := by show _ = _; rw [← hU]; exact M.body_unEn k b hb.1 hb.2
  have HQ91 : Hid (∀ w, (Op.equalIn 10000 91 (.agg (ent U)) (.agg (ent U))).run Try.prog w = .ok true w) := fun w => by rw [eq_ent91 U U HU.out HU.out]; simp
  have HQB : Hid (∀ w, (Op.equalIn 10000 39 (.agg (sct b)) (.agg (sct b))).run Try.prog w = .ok true w) := fun w => by rw [eq_sct 39 44 Try.underlying39 _ _ HB.out.1 HB.out.1 HB.out.2 HB.out.2 w]; simp
  clear hok hb hU hr hu
  have hW := Below.refl w.heap.size w
  go_enter Try.func21, Try.ntmps21
  go_upto_region 4 with (first | ((with_reducible show wpList _ _ _ (⟨some 3, _, _, _, _, _⟩ :: _) _ _); refine wpList_boxed 3 rfl rfl 82 _ rfl (ent e) rfl ?_; intro W3 N3 hNN3 hMN3 hr3 hb; have sW3 := hb.size; have hW := below_next hW hb) | ((with_reducible show wpList _ _ _ (⟨some 5, _, _, _, _, _⟩ :: _) _ _); refine wpList_boxed 5 rfl rfl 39 _ rfl (sct b) rfl ?_; intro W5 N5 hNN5 hMN5 hr5 hb; have sW5 := hb.size; have hW := below_next hW hb; have hr3 := below_blk hb hr3) | (go_at_call 60; refine (anchor4_calls _).mono ?_; rintro e w1 ⟨rfl, hb⟩; have sw1 := hb.size; have hW := below_next hW hb; have hr3 := below_blk hb hr3; have hr5 := below_blk hb hr5) | ((with_reducible show wpList _ _ _ (⟨some 18, _, _, _, _, _⟩ :: _) _ _); refine wpList_load_rowg 18 rfl rfl 82 _ rfl N3 rfl _ (ent e) (0, 0) _ hr3 Try.underlying82 rfl (ty82 _ HOK.out).size ?_) | (go_at_call 61; refine (body_calls e HOK.out _).mono ?_; rintro e w2 ⟨rfl, hb⟩; rw [HV.out]; have sw2 := hb.size; have hW := below_next hW hb; have hr3 := below_blk hb hr3; have hr5 := below_blk hb hr5) | ((with_reducible show wpList _ _ _ (⟨some 7, _, _, _, _, _⟩ :: _) _ _); refine wpList_local 7 rfl rfl rfl rfl 39 rfl _ rfl (sct (List.replicate 44 0)) rfl (of_decide_eq_true (by kernel_rfl)) (ty39 _ HZL.out) (sct_all _) ?_; intro W7 N7 hNN7 hMN7 hr7 hb; have sW7 := hb.size; have hW := below_next hW hb; have hr3 := below_blk hb hr3; have hr5 := below_blk hb hr5))
  refine wp_region_frame (spec := [none, none, none, none, none, none]) (vals := [.agg (ent e), .bool false, .agg (ent e), .agg (ent e), .bool false, .bool false]) (by kernel_rfl) (by kernel_rfl) (by kernel_rfl) (by kernel_rfl) ?hst (fun hF => ?hobl) ?hQ
  case hst => exact trivial
  case hobl =>
    refine ⟨?_, ?_, ?_, ?_, ?_, ?_, trivial⟩
    · refine fun ho => obl_det hF (by kernel_rfl) (by kernel_rfl) ho (by kernel_rfl) (fun wx hbx => ?_); rw [if_pos (by kernel_rfl)]; with_reducible exact grows_row 82 (.tmp 3) (by kernel_rfl) N3 (by kernel_rfl) 82 (ent e) (0, 0) _ (below_blk hbx hr3) Try.underlying82 (by kernel_rfl) (ty82 _ HOK.out).size (by kernel_rfl) (by kernel_rfl)
    · refine fun ho => obl_det hF (by kernel_rfl) (by kernel_rfl) ho (by kernel_rfl) (fun wx hbx => ?_); rw [if_pos (by kernel_rfl)]; with_reducible exact grows_call 62 #[.agg (ent e)] (.bool false) (by kernel_rfl) (eright_b e _ HOK.out HR.out wx) (by kernel_rfl) (by kernel_rfl)
    · refine fun ho => obl_det hF (by kernel_rfl) (by kernel_rfl) ho (by kernel_rfl) (fun wx hbx => ?_); rw [if_pos (by kernel_rfl)]; with_reducible exact grows_row 82 (.tmp 3) (by kernel_rfl) N3 (by kernel_rfl) 82 (ent e) (0, 0) _ (below_blk hbx hr3) Try.underlying82 (by kernel_rfl) (ty82 _ HOK.out).size (by kernel_rfl) (by kernel_rfl)
    · refine fun ho => obl_det hF (by kernel_rfl) (by kernel_rfl) ho (by kernel_rfl) (fun wx hbx => ?_); rw [if_pos (by kernel_rfl)]; with_reducible exact grows_call 65 #[.agg (ent e)] (.agg (ent e)) (by kernel_rfl) (lawof_calls e HOK.out wx) (by kernel_rfl) (by kernel_rfl)
    · refine fun ho => obl_det hF (by kernel_rfl) (by kernel_rfl) ho (by kernel_rfl) (fun wx hbx => ?_); rw [if_pos (by kernel_rfl)]; with_reducible exact grows_call 66 #[.agg (ent e)] (.bool false) (by kernel_rfl) (rright4_b e _ HOK.out HR.out wx) (by kernel_rfl) (by kernel_rfl)
    · refine fun ho => obl_det hF (by kernel_rfl) (by kernel_rfl) ho (by kernel_rfl) (fun wx hbx => ?_); rw [if_pos (by kernel_rfl)]; with_reducible exact grows_det (.bool false) (by kernel_rfl) (by kernel_rfl) (by kernel_rfl)
  case hQ =>
    intro wa hby
    simp only [each, putAll, Act.put, List.setIfInBounds_toArray, List.set_cons_succ, List.set_cons_zero]
    have hW := below_next hW hby
    have hr3 := below_blk hby hr3
    have hr5 := below_blk hby hr5
    have hr7 := below_blk hby hr7
    clear hby
    go_upto_region 16 with (first | ((with_reducible show wpList _ _ _ (⟨some 28, _, _, _, _, _⟩ :: _) _ _); refine wpList_load_rowg 28 rfl rfl 82 _ rfl N3 rfl _ (ent e) (0, 0) _ hr3 Try.underlying82 rfl (ty82 _ HOK.out).size ?_) | ((with_reducible show Calls _ 65 #[.agg (ent e)] _ _); refine (lawof_calls e HOK.out _).mono ?_; rintro r w8 ⟨rfl, hb⟩; have s8 := hb.size; have hW := below_next hW hb; have hr3 := below_blk hb hr3; have hr5 := below_blk hb hr5; have hr7 := below_blk hb hr7) | (go_at_call 66; refine (rright4_b e _ HOK.out HR.out _).mono ?_; rintro e w9 ⟨rfl, hb⟩; have sw9 := hb.size; have hW := below_next hW hb; have hr3 := below_blk hb hr3; have hr5 := below_blk hb hr5; have hr7 := below_blk hb hr7; have c0 := cell_of_row _ N3 0 _ _ _ hr3; rw [ent0] at c0) | ((with_reducible show wpList _ _ _ (⟨some 35, _, _, _, _, _⟩ :: _) _ _); refine wpList_load_rowg 35 rfl rfl 39 _ rfl N7 rfl _ (sct (List.replicate 44 0)) (0, 0) _ hr7 Try.underlying39 rfl (ty39 _ HZL.out).size ?_) | ((with_reducible show wpList _ _ _ (⟨some 36, _, _, _, _, _⟩ :: _) _ _); refine wpList_build_g 36 rfl rfl 39 _ rfl (sct (List.replicate 44 0)) build_zero39 ?_) | ((with_reducible show wpList _ _ _ (⟨some 37, _, _, _, _, _⟩ :: _) _ _); refine wpList_neq 37 rfl rfl 39 _ _ _ rfl (sct (List.replicate 44 0)) (sct (List.replicate 44 0)) rfl rfl grd39 true HQZ.out ?_) | ((with_reducible show wpList _ _ _ (⟨some 66, _, _, _, _, _⟩ :: _) _ _); refine wpList_load_rowg 66 rfl rfl 39 _ rfl N5 rfl _ (sct b) (0, 0) _ hr5 Try.underlying39 rfl (ty39 _ HB.out.1).size ?_) | (go_at_call 67; refine (of_calls k b HB.out.1 HB.out.2 _).mono ?_; rintro e w11 ⟨rfl, hb⟩; rw [HD.out]; have sw11 := hb.size; have hW := below_next hW hb; have hr5 := below_blk hb hr5) | ((with_reducible show wpList _ _ _ (⟨some 11, _, _, _, _, _⟩ :: _) _ _); refine wpList_local 11 rfl rfl rfl rfl 82 rfl _ rfl (ent U) rfl (of_decide_eq_true (by kernel_rfl)) (ty82 _ HU.out) (ent_all _) ?_; intro W11 N11 hNN11 hMN11 hr11 hb; have sW11 := hb.size; have hW := below_next hW hb; have hr5 := below_blk hb hr5) | ((with_reducible show wpList _ _ _ (⟨some 72, _, _, _, _, _⟩ :: _) _ _); refine wpList_load_rowg 72 rfl rfl 39 _ rfl N5 rfl _ (sct b) (0, 0) _ hr5 Try.underlying39 rfl (ty39 _ HB.out.1).size ?_) | (go_at_call 69; refine (rof_calls k b HB.out.1 HB.out.2 _).mono ?_; rintro e w12 ⟨rfl, hb⟩; rw [HS.out]; have sw12 := hb.size; have hW := below_next hW hb; have hr5 := below_blk hb hr5; have hr11 := below_blk hb hr11) | ((with_reducible show wpList _ _ _ (⟨some 13, _, _, _, _, _⟩ :: _) _ _); refine wpList_local 13 rfl rfl rfl rfl 91 rfl _ rfl (ent U) rfl (of_decide_eq_true (by kernel_rfl)) (ty91 _ HU.out) (ent_all _) ?_; intro W13 N13 hNN13 hMN13 hr13 hb; have sW13 := hb.size; have hW := below_next hW hb; have hr5 := below_blk hb hr5; have hr11 := below_blk hb hr11))
    refine wp_region_frame (spec := [none, none, none, none, none, none, none, none, none, none, none, none, none, none, none]) (vals := [.int .i64 0, .bool true, .bool true, .agg (ent U), .agg (ent U), .agg (ent U), .bool true, .bool true, .bool true, .agg (ent U), .agg (sct b), .agg (sct b), .bool true, .bool true, .bool true]) (by kernel_rfl) (by kernel_rfl) (by kernel_rfl) (by kernel_rfl) ?hst (fun hF => ?hobl) ?hQ
    case hst => exact trivial
    case hobl =>
      refine ⟨?_, ?_, ?_, ?_, ?_, ?_, ?_, ?_, ?_, ?_, ?_, ?_, ?_, ?_, ?_, trivial⟩
      · refine fun ho => obl_det hF (by kernel_rfl) (by kernel_rfl) ho (by kernel_rfl) (fun wx hbx => ?_); rw [if_pos (by kernel_rfl)]; with_reducible exact grows_det (.int .i64 0) (by kernel_rfl) (by kernel_rfl) (by kernel_rfl)
      · refine fun ho => obl_det hF (by kernel_rfl) (by kernel_rfl) ho (by kernel_rfl) (fun wx hbx => ?_); rw [if_pos (by kernel_rfl)]; with_reducible exact grows_det (.bool true) (by kernel_rfl) (by kernel_rfl) (by kernel_rfl)
      · refine fun ho => obl_det hF (by kernel_rfl) (by kernel_rfl) ho (by kernel_rfl) (fun wx hbx => ?_); rw [if_pos (by kernel_rfl)]; with_reducible exact grows_det (.bool true) (by kernel_rfl) (by kernel_rfl) (by kernel_rfl)
      · refine fun ho => obl_det hF (by kernel_rfl) (by kernel_rfl) ho (by kernel_rfl) (fun wx hbx => ?_); rw [if_pos (by kernel_rfl)]; with_reducible exact grows_row 82 (.tmp 11) (by kernel_rfl) N11 (by kernel_rfl) 82 (ent U) (0, 0) _ (below_blk hbx hr11) Try.underlying82 (by kernel_rfl) (ty82 _ HU.out).size (by kernel_rfl) (by kernel_rfl)
      · refine fun ho => obl_det hF (by kernel_rfl) (by kernel_rfl) ho (by kernel_rfl) (fun wx hbx => ?_); rw [if_pos (by kernel_rfl)]; with_reducible exact grows_call 65 #[.agg (ent U)] (.agg (ent U)) (by kernel_rfl) (lawof_calls U HU.out wx) (by kernel_rfl) (by kernel_rfl)
      · refine fun ho => obl_det hF (by kernel_rfl) (by kernel_rfl) ho (by kernel_rfl) (fun wx hbx => ?_); rw [if_pos (by kernel_rfl)]; with_reducible exact grows_row 91 (.tmp 13) (by kernel_rfl) N13 (by kernel_rfl) 91 (ent U) (0, 0) _ (below_blk hbx hr13) Try.underlying91 (by kernel_rfl) (ty91 _ HU.out).size (by kernel_rfl) (by kernel_rfl)
      · refine fun ho => obl_det hF (by kernel_rfl) (by kernel_rfl) ho (by kernel_rfl) (fun wx hbx => ?_); rw [if_pos (by kernel_rfl)]; with_reducible exact grows_det (.bool true) (op_eql 91 91 (.tmp 89) (.tmp 90) (by kernel_rfl) (ent U) (ent U) (by kernel_rfl) (by kernel_rfl) grd91 _ HQ91.out) (by kernel_rfl) (by kernel_rfl)
      · refine fun ho => obl_det hF (by kernel_rfl) (by kernel_rfl) ho (by kernel_rfl) (fun wx hbx => ?_); rw [if_pos (by kernel_rfl)]; with_reducible exact grows_det (.bool true) (by kernel_rfl) (by kernel_rfl) (by kernel_rfl)
      · refine fun ho => obl_det hF (by kernel_rfl) (by kernel_rfl) ho (by kernel_rfl) (fun wx hbx => ?_); rw [if_pos (by kernel_rfl)]; with_reducible exact grows_det (.bool true) (by kernel_rfl) (by kernel_rfl) (by kernel_rfl)
      · refine fun ho => obl_det hF (by kernel_rfl) (by kernel_rfl) ho (by kernel_rfl) (fun wx hbx => ?_); rw [if_pos (by kernel_rfl)]; with_reducible exact grows_row 91 (.tmp 13) (by kernel_rfl) N13 (by kernel_rfl) 91 (ent U) (0, 0) _ (below_blk hbx hr13) Try.underlying91 (by kernel_rfl) (ty91 _ HU.out).size (by kernel_rfl) (by kernel_rfl)
      · refine fun ho => obl_det hF (by kernel_rfl) (by kernel_rfl) ho (by kernel_rfl) (fun wx hbx => ?_); rw [if_pos (by kernel_rfl)]; with_reducible exact grows_call 68 #[.agg (ent U)] (.agg (sct b)) (by kernel_rfl) (rbody_is U b HU.out HUR.out HUB.out wx) (by kernel_rfl) (by kernel_rfl)
      · refine fun ho => obl_det hF (by kernel_rfl) (by kernel_rfl) ho (by kernel_rfl) (fun wx hbx => ?_); rw [if_pos (by kernel_rfl)]; with_reducible exact grows_row 39 (.tmp 5) (by kernel_rfl) N5 (by kernel_rfl) 39 (sct b) (0, 0) _ (below_blk hbx hr5) Try.underlying39 (by kernel_rfl) (ty39 _ HB.out.1).size (by kernel_rfl) (by kernel_rfl)
      · refine fun ho => obl_det hF (by kernel_rfl) (by kernel_rfl) ho (by kernel_rfl) (fun wx hbx => ?_); rw [if_pos (by kernel_rfl)]; with_reducible exact grows_det (.bool true) (op_eql 39 39 (.tmp 95) (.tmp 96) (by kernel_rfl) (sct b) (sct b) (by kernel_rfl) (by kernel_rfl) grd39 _ HQB.out) (by kernel_rfl) (by kernel_rfl)
      · refine fun ho => obl_det hF (by kernel_rfl) (by kernel_rfl) ho (by kernel_rfl) (fun wx hbx => ?_); rw [if_pos (by kernel_rfl)]; with_reducible exact grows_det (.bool true) (by kernel_rfl) (by kernel_rfl) (by kernel_rfl)
      · refine fun ho => obl_det hF (by kernel_rfl) (by kernel_rfl) ho (by kernel_rfl) (fun wx hbx => ?_); rw [if_pos (by kernel_rfl)]; with_reducible exact grows_det (.bool true) (by kernel_rfl) (by kernel_rfl) (by kernel_rfl)
    case hQ =>
      intro wy hby
      simp only [each]
      generalize hF : putAll _ _ _ = F
      have hd : F.defers = [] := by rw [← hF]; kernel_rfl
      have h8 : F.tmps.getD 6 undef = .bool true := by rw [← hF]; kernel_rfl
      clear hF
      go_step
      go_step
      go_step
      exact ret_of 6 rfl hd _ h8 ⟨rfl, below_next hW hby⟩
set_option maxRecDepth 100000 in
set_option maxHeartbeats 2000000 in
theorem bodies_tf (w : World) (e : M.En) (hok : e.ok) (k : Int) (b : List Nat) (hb : b.length = 44 ∧ ∀ c ∈ b, c < 256) (U : M.En) (hU : M.unEn k b = U) (hr : e.right = true) (hu : U.right = false) :
    Calls Try.prog 21 #[.agg (ent e), .int .i64 k, .agg (sct b)] w fun r w' => r = .returned (.bool true) ∧ Below w.heap.size w w' := by
  have HU : Hid U.ok := by show U.ok; rw [← hU]; exact M.unEn_ok k b hb.1 hb.2
  have HOK := hid hok
  have HB := hid hb
  have HR := hid hr
  have HV : Hid (e.bod = (e.body, 0)) := by show _ = _; rw [M.En.bod, if_pos hr]
  have HBL := hid (e.body_length hok)
  have HBT := hid (e.body_lt hok)
  have HOF : Hid (M.ofB e.kind e.body = (e, 0)) := by show _ = _; rw [M.ofB, M.unEn_body e hok hr, if_pos hr]
  have HQ39 : Hid (∀ w, (Op.equalIn 10000 39 (.agg (sct e.body)) (.agg (sct e.body))).run Try.prog w = .ok true w) := fun w => by rw [eq_sct 39 44 Try.underlying39 _ _ HBL.out HBL.out HBT.out HBT.out w]; simp
  have HQ82 : Hid (∀ w, (Op.equalIn 10000 82 (.agg (ent e)) (.agg (ent e))).run Try.prog w = .ok true w) := fun w => by rw [eq_ent82 e e hok hok]; simp
  have HD : Hid (M.ofB k b = (M.En.zero, 10)) := by show _ = _; rw [M.ofB, hU, if_neg (by rw [hu]; simp)]
  have HS : Hid (M.ofR k b = (M.En.zero, false)) := by show _ = _; rw [M.ofR, hU, if_neg (by rw [hu]; simp)]
  have HQ0 : Hid (∀ w, (Op.equalIn 10000 82 (.agg (ent M.En.zero)) (.agg (ent M.En.zero))).run Try.prog w = .ok true w) := fun w => by rw [eq_ent82 _ _ M.zeroE_ok M.zeroE_ok]; simp
  clear hok hb hU hr hu
  have hW := Below.refl w.heap.size w
  go_enter Try.func21, Try.ntmps21
  go_upto_region 4 with (first | ((with_reducible show wpList _ _ _ (⟨some 3, _, _, _, _, _⟩ :: _) _ _); refine wpList_boxed 3 rfl rfl 82 _ rfl (ent e) rfl ?_; intro W3 N3 hNN3 hMN3 hr3 hb; have sW3 := hb.size; have hW := below_next hW hb) | ((with_reducible show wpList _ _ _ (⟨some 5, _, _, _, _, _⟩ :: _) _ _); refine wpList_boxed 5 rfl rfl 39 _ rfl (sct b) rfl ?_; intro W5 N5 hNN5 hMN5 hr5 hb; have sW5 := hb.size; have hW := below_next hW hb; have hr3 := below_blk hb hr3) | (go_at_call 60; refine (anchor4_calls _).mono ?_; rintro e w1 ⟨rfl, hb⟩; have sw1 := hb.size; have hW := below_next hW hb; have hr3 := below_blk hb hr3; have hr5 := below_blk hb hr5) | ((with_reducible show wpList _ _ _ (⟨some 18, _, _, _, _, _⟩ :: _) _ _); refine wpList_load_rowg 18 rfl rfl 82 _ rfl N3 rfl _ (ent e) (0, 0) _ hr3 Try.underlying82 rfl (ty82 _ HOK.out).size ?_) | (go_at_call 61; refine (body_calls e HOK.out _).mono ?_; rintro e w2 ⟨rfl, hb⟩; rw [HV.out]; have sw2 := hb.size; have hW := below_next hW hb; have hr3 := below_blk hb hr3; have hr5 := below_blk hb hr5) | ((with_reducible show wpList _ _ _ (⟨some 7, _, _, _, _, _⟩ :: _) _ _); refine wpList_local 7 rfl rfl rfl rfl 39 rfl _ rfl (sct e.body) rfl (of_decide_eq_true (by kernel_rfl)) (ty39 _ HBL.out) (sct_all _) ?_; intro W7 N7 hNN7 hMN7 hr7 hb; have sW7 := hb.size; have hW := below_next hW hb; have hr3 := below_blk hb hr3; have hr5 := below_blk hb hr5))
  refine wp_region_frame (spec := [none, none, none, none, none, none]) (vals := [.agg (ent e), .bool true, .agg (ent e), .agg (ent e), .bool true, .bool false]) (by kernel_rfl) (by kernel_rfl) (by kernel_rfl) (by kernel_rfl) ?hst (fun hF => ?hobl) ?hQ
  case hst => exact trivial
  case hobl =>
    refine ⟨?_, ?_, ?_, ?_, ?_, ?_, trivial⟩
    · refine fun ho => obl_det hF (by kernel_rfl) (by kernel_rfl) ho (by kernel_rfl) (fun wx hbx => ?_); rw [if_pos (by kernel_rfl)]; with_reducible exact grows_row 82 (.tmp 3) (by kernel_rfl) N3 (by kernel_rfl) 82 (ent e) (0, 0) _ (below_blk hbx hr3) Try.underlying82 (by kernel_rfl) (ty82 _ HOK.out).size (by kernel_rfl) (by kernel_rfl)
    · refine fun ho => obl_det hF (by kernel_rfl) (by kernel_rfl) ho (by kernel_rfl) (fun wx hbx => ?_); rw [if_pos (by kernel_rfl)]; with_reducible exact grows_call 62 #[.agg (ent e)] (.bool true) (by kernel_rfl) (eright_b e _ HOK.out HR.out wx) (by kernel_rfl) (by kernel_rfl)
    · refine fun ho => obl_det hF (by kernel_rfl) (by kernel_rfl) ho (by kernel_rfl) (fun wx hbx => ?_); rw [if_pos (by kernel_rfl)]; with_reducible exact grows_row 82 (.tmp 3) (by kernel_rfl) N3 (by kernel_rfl) 82 (ent e) (0, 0) _ (below_blk hbx hr3) Try.underlying82 (by kernel_rfl) (ty82 _ HOK.out).size (by kernel_rfl) (by kernel_rfl)
    · refine fun ho => obl_det hF (by kernel_rfl) (by kernel_rfl) ho (by kernel_rfl) (fun wx hbx => ?_); rw [if_pos (by kernel_rfl)]; with_reducible exact grows_call 65 #[.agg (ent e)] (.agg (ent e)) (by kernel_rfl) (lawof_calls e HOK.out wx) (by kernel_rfl) (by kernel_rfl)
    · refine fun ho => obl_det hF (by kernel_rfl) (by kernel_rfl) ho (by kernel_rfl) (fun wx hbx => ?_); rw [if_pos (by kernel_rfl)]; with_reducible exact grows_call 66 #[.agg (ent e)] (.bool true) (by kernel_rfl) (rright4_b e _ HOK.out HR.out wx) (by kernel_rfl) (by kernel_rfl)
    · refine fun ho => obl_det hF (by kernel_rfl) (by kernel_rfl) ho (by kernel_rfl) (fun wx hbx => ?_); rw [if_pos (by kernel_rfl)]; with_reducible exact grows_det (.bool false) (by kernel_rfl) (by kernel_rfl) (by kernel_rfl)
  case hQ =>
    intro wa hby
    simp only [each, putAll, Act.put, List.setIfInBounds_toArray, List.set_cons_succ, List.set_cons_zero]
    have hW := below_next hW hby
    have hr3 := below_blk hby hr3
    have hr5 := below_blk hby hr5
    have hr7 := below_blk hby hr7
    clear hby
    go_upto_region 10 with (first | ((with_reducible show wpList _ _ _ (⟨some 28, _, _, _, _, _⟩ :: _) _ _); refine wpList_load_rowg 28 rfl rfl 82 _ rfl N3 rfl _ (ent e) (0, 0) _ hr3 Try.underlying82 rfl (ty82 _ HOK.out).size ?_) | ((with_reducible show Calls _ 65 #[.agg (ent e)] _ _); refine (lawof_calls e HOK.out _).mono ?_; rintro r w8 ⟨rfl, hb⟩; have s8 := hb.size; have hW := below_next hW hb; have hr3 := below_blk hb hr3; have hr5 := below_blk hb hr5; have hr7 := below_blk hb hr7) | (go_at_call 66; refine (rright4_b e _ HOK.out HR.out _).mono ?_; rintro e w9 ⟨rfl, hb⟩; have sw9 := hb.size; have hW := below_next hW hb; have hr3 := below_blk hb hr3; have hr5 := below_blk hb hr5; have hr7 := below_blk hb hr7; have c0 := cell_of_row _ N3 0 _ _ _ hr3; rw [ent0] at c0) | ((with_reducible show wpList _ _ _ (⟨some 42, _, _, _, _, _⟩ :: _) _ _); refine wpList_load_rowg 42 rfl rfl 39 _ rfl N7 rfl _ (sct e.body) (0, 0) _ hr7 Try.underlying39 rfl (ty39 _ HBL.out).size ?_) | (go_at_call 67; refine (of_calls e.kind e.body HBL.out HBT.out _).mono ?_; rintro e w10 ⟨rfl, hb⟩; rw [HOF.out]; have sw10 := hb.size; have hW := below_next hW hb; have hr3 := below_blk hb hr3; have hr5 := below_blk hb hr5; have hr7 := below_blk hb hr7) | ((with_reducible show wpList _ _ _ (⟨some 9, _, _, _, _, _⟩ :: _) _ _); refine wpList_local 9 rfl rfl rfl rfl 82 rfl _ rfl (ent e) rfl (of_decide_eq_true (by kernel_rfl)) (ty82 _ HOK.out) (ent_all _) ?_; intro W9 N9 hNN9 hMN9 hr9 hb; have sW9 := hb.size; have hW := below_next hW hb; have hr3 := below_blk hb hr3; have hr5 := below_blk hb hr5; have hr7 := below_blk hb hr7))
    refine wp_region_frame (spec := [none, none, none, none, none, none, none, none, none, none, none, none, none, none, none, none, none, none]) (vals := [.int .i64 0, .bool false, .bool false, .agg (sct e.body), .agg (ent e), .agg (ent e), .agg (sct e.body), .bool (!true), .bool false, .bool false, .agg (ent e), .agg (ent e), .bool (!true), .bool false, .bool false, .int .i64 0, .bool false, .bool false]) (by kernel_rfl) (by kernel_rfl) (by kernel_rfl) (by kernel_rfl) ?hst (fun hF => ?hobl) ?hQ
    case hst => exact trivial
    case hobl =>
      refine ⟨?_, ?_, ?_, ?_, ?_, ?_, ?_, ?_, ?_, ?_, ?_, ?_, ?_, ?_, ?_, ?_, ?_, ?_, trivial⟩
      · refine fun ho => obl_det hF (by kernel_rfl) (by kernel_rfl) ho (by kernel_rfl) (fun wx hbx => ?_); rw [if_pos (by kernel_rfl)]; with_reducible exact grows_det (.int .i64 0) (by kernel_rfl) (by kernel_rfl) (by kernel_rfl)
      · refine fun ho => obl_det hF (by kernel_rfl) (by kernel_rfl) ho (by kernel_rfl) (fun wx hbx => ?_); rw [if_pos (by kernel_rfl)]; with_reducible exact grows_det (.bool false) (by kernel_rfl) (by kernel_rfl) (by kernel_rfl)
      · refine fun ho => obl_det hF (by kernel_rfl) (by kernel_rfl) ho (by kernel_rfl) (fun wx hbx => ?_); rw [if_pos (by kernel_rfl)]; with_reducible exact grows_det (.bool false) (by kernel_rfl) (by kernel_rfl) (by kernel_rfl)
      · refine fun ho => obl_det hF (by kernel_rfl) (by kernel_rfl) ho (by kernel_rfl) (fun wx hbx => ?_); rw [if_pos (by kernel_rfl)]; with_reducible exact grows_row 39 (.tmp 7) (by kernel_rfl) N7 (by kernel_rfl) 39 (sct e.body) (0, 0) _ (below_blk hbx hr7) Try.underlying39 (by kernel_rfl) (ty39 _ HBL.out).size (by kernel_rfl) (by kernel_rfl)
      · refine fun ho => obl_det hF (by kernel_rfl) (by kernel_rfl) ho (by kernel_rfl) (fun wx hbx => ?_); rw [if_pos (by kernel_rfl)]; with_reducible exact grows_row 82 (.tmp 3) (by kernel_rfl) N3 (by kernel_rfl) 82 (ent e) (0, 0) _ (below_blk hbx hr3) Try.underlying82 (by kernel_rfl) (ty82 _ HOK.out).size (by kernel_rfl) (by kernel_rfl)
      · refine fun ho => obl_det hF (by kernel_rfl) (by kernel_rfl) ho (by kernel_rfl) (fun wx hbx => ?_); rw [if_pos (by kernel_rfl)]; with_reducible exact grows_call 65 #[.agg (ent e)] (.agg (ent e)) (by kernel_rfl) (lawof_calls e HOK.out wx) (by kernel_rfl) (by kernel_rfl)
      · refine fun ho => obl_det hF (by kernel_rfl) (by kernel_rfl) ho (by kernel_rfl) (fun wx hbx => ?_); rw [if_pos (by kernel_rfl)]; with_reducible exact grows_call 68 #[.agg (ent e)] (.agg (sct e.body)) (by kernel_rfl) (rbody_calls e HOK.out HR.out wx) (by kernel_rfl) (by kernel_rfl)
      · refine fun ho => obl_det hF (by kernel_rfl) (by kernel_rfl) ho (by kernel_rfl) (fun wx hbx => ?_); rw [if_pos (by kernel_rfl)]; with_reducible exact grows_det (.bool (!true)) (op_neq 39 39 (.tmp 49) (.tmp 52) (by kernel_rfl) (sct e.body) (sct e.body) (by kernel_rfl) (by kernel_rfl) grd39 _ HQ39.out) (by kernel_rfl) (by kernel_rfl)
      · refine fun ho => obl_det hF (by kernel_rfl) (by kernel_rfl) ho (by kernel_rfl) (fun wx hbx => ?_); rw [if_pos (by kernel_rfl)]; with_reducible exact grows_det (.bool false) (by kernel_rfl) (by kernel_rfl) (by kernel_rfl)
      · refine fun ho => obl_det hF (by kernel_rfl) (by kernel_rfl) ho (by kernel_rfl) (fun wx hbx => ?_); rw [if_pos (by kernel_rfl)]; with_reducible exact grows_det (.bool false) (by kernel_rfl) (by kernel_rfl) (by kernel_rfl)
      · refine fun ho => obl_det hF (by kernel_rfl) (by kernel_rfl) ho (by kernel_rfl) (fun wx hbx => ?_); rw [if_pos (by kernel_rfl)]; with_reducible exact grows_row 82 (.tmp 9) (by kernel_rfl) N9 (by kernel_rfl) 82 (ent e) (0, 0) _ (below_blk hbx hr9) Try.underlying82 (by kernel_rfl) (ty82 _ HOK.out).size (by kernel_rfl) (by kernel_rfl)
      · refine fun ho => obl_det hF (by kernel_rfl) (by kernel_rfl) ho (by kernel_rfl) (fun wx hbx => ?_); rw [if_pos (by kernel_rfl)]; with_reducible exact grows_row 82 (.tmp 3) (by kernel_rfl) N3 (by kernel_rfl) 82 (ent e) (0, 0) _ (below_blk hbx hr3) Try.underlying82 (by kernel_rfl) (ty82 _ HOK.out).size (by kernel_rfl) (by kernel_rfl)
      · refine fun ho => obl_det hF (by kernel_rfl) (by kernel_rfl) ho (by kernel_rfl) (fun wx hbx => ?_); rw [if_pos (by kernel_rfl)]; with_reducible exact grows_det (.bool (!true)) (op_neq 82 82 (.tmp 56) (.tmp 57) (by kernel_rfl) (ent e) (ent e) (by kernel_rfl) (by kernel_rfl) grd82 _ HQ82.out) (by kernel_rfl) (by kernel_rfl)
      · refine fun ho => obl_det hF (by kernel_rfl) (by kernel_rfl) ho (by kernel_rfl) (fun wx hbx => ?_); rw [if_pos (by kernel_rfl)]; with_reducible exact grows_det (.bool false) (by kernel_rfl) (by kernel_rfl) (by kernel_rfl)
      · refine fun ho => obl_det hF (by kernel_rfl) (by kernel_rfl) ho (by kernel_rfl) (fun wx hbx => ?_); rw [if_pos (by kernel_rfl)]; with_reducible exact grows_det (.bool false) (by kernel_rfl) (by kernel_rfl) (by kernel_rfl)
      · refine fun ho => obl_det hF (by kernel_rfl) (by kernel_rfl) ho (by kernel_rfl) (fun wx hbx => ?_); rw [if_pos (by kernel_rfl)]; with_reducible exact grows_det (.int .i64 0) (by kernel_rfl) (by kernel_rfl) (by kernel_rfl)
      · refine fun ho => obl_det hF (by kernel_rfl) (by kernel_rfl) ho (by kernel_rfl) (fun wx hbx => ?_); rw [if_pos (by kernel_rfl)]; with_reducible exact grows_det (.bool false) (by kernel_rfl) (by kernel_rfl) (by kernel_rfl)
      · refine fun ho => obl_det hF (by kernel_rfl) (by kernel_rfl) ho (by kernel_rfl) (fun wx hbx => ?_); rw [if_pos (by kernel_rfl)]; with_reducible exact grows_det (.bool false) (by kernel_rfl) (by kernel_rfl) (by kernel_rfl)
    case hQ =>
      intro wb hby
      simp only [each, putAll, Act.put, List.setIfInBounds_toArray, List.set_cons_succ, List.set_cons_zero]
      have hW := below_next hW hby
      have hr5 := below_blk hby hr5
      clear hby
      go_wp2_with (first | ((with_reducible show wpList _ _ _ (⟨some 66, _, _, _, _, _⟩ :: _) _ _); refine wpList_load_rowg 66 rfl rfl 39 _ rfl N5 rfl _ (sct b) (0, 0) _ hr5 Try.underlying39 rfl (ty39 _ HB.out.1).size ?_) | (go_at_call 67; refine (of_calls k b HB.out.1 HB.out.2 _).mono ?_; rintro e w11 ⟨rfl, hb⟩; rw [HD.out]; have sw11 := hb.size; have hW := below_next hW hb; have hr5 := below_blk hb hr5) | ((with_reducible show wpList _ _ _ (⟨some 11, _, _, _, _, _⟩ :: _) _ _); refine wpList_local 11 rfl rfl rfl rfl 82 rfl _ rfl (ent M.En.zero) rfl (of_decide_eq_true (by kernel_rfl)) (ty82 _ M.zeroE_ok) (ent_all _) ?_; intro W11 N11 hNN11 hMN11 hr11 hb; have sW11 := hb.size; have hW := below_next hW hb; have hr5 := below_blk hb hr5) | ((with_reducible show wpList _ _ _ (⟨some 72, _, _, _, _, _⟩ :: _) _ _); refine wpList_load_rowg 72 rfl rfl 39 _ rfl N5 rfl _ (sct b) (0, 0) _ hr5 Try.underlying39 rfl (ty39 _ HB.out.1).size ?_) | (go_at_call 69; refine (rof_calls k b HB.out.1 HB.out.2 _).mono ?_; rintro e w12 ⟨rfl, hb⟩; rw [HS.out]; have sw12 := hb.size; have hW := below_next hW hb; have hr5 := below_blk hb hr5; have hr11 := below_blk hb hr11) | ((with_reducible show wpList _ _ _ (⟨some 13, _, _, _, _, _⟩ :: _) _ _); refine wpList_local 13 rfl rfl rfl rfl 91 rfl _ rfl (ent M.En.zero) rfl (of_decide_eq_true (by kernel_rfl)) (ty91 _ M.zeroE_ok) (ent_all _) ?_; intro W13 N13 hNN13 hMN13 hr13 hb; have sW13 := hb.size; have hW := below_next hW hb; have hr5 := below_blk hb hr5; have hr11 := below_blk hb hr11) | ((with_reducible show wpList _ _ _ (⟨some 81, _, _, _, _, _⟩ :: _) _ _); refine wpList_load_rowg 81 rfl rfl 82 _ rfl N11 rfl _ (ent M.En.zero) (0, 0) _ hr11 Try.underlying82 rfl (ty82 _ M.zeroE_ok).size ?_) | ((with_reducible show wpList _ _ _ (⟨some 82, _, _, _, _, _⟩ :: _) _ _); refine wpList_build_g 82 rfl rfl 82 _ rfl (ent M.En.zero) build_zero82 ?_) | ((with_reducible show wpList _ _ _ (⟨some 83, _, _, _, _, _⟩ :: _) _ _); refine wpList_eql 83 rfl rfl 82 _ _ _ rfl (ent M.En.zero) (ent M.En.zero) rfl rfl grd82 true HQ0.out ?_))
      go_ret
      exact ⟨rfl, hW⟩
set_option maxRecDepth 100000 in
set_option maxHeartbeats 2000000 in
theorem bodies_tt (w : World) (e : M.En) (hok : e.ok) (k : Int) (b : List Nat) (hb : b.length = 44 ∧ ∀ c ∈ b, c < 256) (U : M.En) (hU : M.unEn k b = U) (hr : e.right = true) (hu : U.right = true) :
    Calls Try.prog 21 #[.agg (ent e), .int .i64 k, .agg (sct b)] w fun r w' => r = .returned (.bool true) ∧ Below w.heap.size w w' := by
  have HU : Hid U.ok := by show U.ok; rw [← hU]; exact M.unEn_ok k b hb.1 hb.2
  have HOK := hid hok
  have HB := hid hb
  have HR := hid hr
  have HV : Hid (e.bod = (e.body, 0)) := by show _ = _; rw [M.En.bod, if_pos hr]
  have HBL := hid (e.body_length hok)
  have HBT := hid (e.body_lt hok)
  have HOF : Hid (M.ofB e.kind e.body = (e, 0)) := by show _ = _; rw [M.ofB, M.unEn_body e hok hr, if_pos hr]
  have HQ39 : Hid (∀ w, (Op.equalIn 10000 39 (.agg (sct e.body)) (.agg (sct e.body))).run Try.prog w = .ok true w) := fun w => by rw [eq_sct 39 44 Try.underlying39 _ _ HBL.out HBL.out HBT.out HBT.out w]; simp
  have HQ82 : Hid (∀ w, (Op.equalIn 10000 82 (.agg (ent e)) (.agg (ent e))).run Try.prog w = .ok true w) := fun w => by rw [eq_ent82 e e hok hok]; simp
  have HD : Hid (M.ofB k b = (U, 0)) := by show _ = _; rw [M.ofB, hU, if_pos hu]
  have HS : Hid (M.ofR k b = (U, true)) := by show _ = _; rw [M.ofR, hU, if_pos hu]
  have HUR := hid hu
  have HUB : Hid (U.body = b) := by show _ = _; rw [← hU]; exact M.body_unEn k b hb.1 hb.2
  have HQ91 : Hid (∀ w, (Op.equalIn 10000 91 (.agg (ent U)) (.agg (ent U))).run Try.prog w = .ok true w) := fun w => by rw [eq_ent91 U U HU.out HU.out]; simp
  have HQB : Hid (∀ w, (Op.equalIn 10000 39 (.agg (sct b)) (.agg (sct b))).run Try.prog w = .ok true w) := fun w => by rw [eq_sct 39 44 Try.underlying39 _ _ HB.out.1 HB.out.1 HB.out.2 HB.out.2 w]; simp
  clear hok hb hU hr hu
  have hW := Below.refl w.heap.size w
  go_enter Try.func21, Try.ntmps21
  go_upto_region 4 with (first | ((with_reducible show wpList _ _ _ (⟨some 3, _, _, _, _, _⟩ :: _) _ _); refine wpList_boxed 3 rfl rfl 82 _ rfl (ent e) rfl ?_; intro W3 N3 hNN3 hMN3 hr3 hb; have sW3 := hb.size; have hW := below_next hW hb) | ((with_reducible show wpList _ _ _ (⟨some 5, _, _, _, _, _⟩ :: _) _ _); refine wpList_boxed 5 rfl rfl 39 _ rfl (sct b) rfl ?_; intro W5 N5 hNN5 hMN5 hr5 hb; have sW5 := hb.size; have hW := below_next hW hb; have hr3 := below_blk hb hr3) | (go_at_call 60; refine (anchor4_calls _).mono ?_; rintro e w1 ⟨rfl, hb⟩; have sw1 := hb.size; have hW := below_next hW hb; have hr3 := below_blk hb hr3; have hr5 := below_blk hb hr5) | ((with_reducible show wpList _ _ _ (⟨some 18, _, _, _, _, _⟩ :: _) _ _); refine wpList_load_rowg 18 rfl rfl 82 _ rfl N3 rfl _ (ent e) (0, 0) _ hr3 Try.underlying82 rfl (ty82 _ HOK.out).size ?_) | (go_at_call 61; refine (body_calls e HOK.out _).mono ?_; rintro e w2 ⟨rfl, hb⟩; rw [HV.out]; have sw2 := hb.size; have hW := below_next hW hb; have hr3 := below_blk hb hr3; have hr5 := below_blk hb hr5) | ((with_reducible show wpList _ _ _ (⟨some 7, _, _, _, _, _⟩ :: _) _ _); refine wpList_local 7 rfl rfl rfl rfl 39 rfl _ rfl (sct e.body) rfl (of_decide_eq_true (by kernel_rfl)) (ty39 _ HBL.out) (sct_all _) ?_; intro W7 N7 hNN7 hMN7 hr7 hb; have sW7 := hb.size; have hW := below_next hW hb; have hr3 := below_blk hb hr3; have hr5 := below_blk hb hr5))
  refine wp_region_frame (spec := [none, none, none, none, none, none]) (vals := [.agg (ent e), .bool true, .agg (ent e), .agg (ent e), .bool true, .bool false]) (by kernel_rfl) (by kernel_rfl) (by kernel_rfl) (by kernel_rfl) ?hst (fun hF => ?hobl) ?hQ
  case hst => exact trivial
  case hobl =>
    refine ⟨?_, ?_, ?_, ?_, ?_, ?_, trivial⟩
    · refine fun ho => obl_det hF (by kernel_rfl) (by kernel_rfl) ho (by kernel_rfl) (fun wx hbx => ?_); rw [if_pos (by kernel_rfl)]; with_reducible exact grows_row 82 (.tmp 3) (by kernel_rfl) N3 (by kernel_rfl) 82 (ent e) (0, 0) _ (below_blk hbx hr3) Try.underlying82 (by kernel_rfl) (ty82 _ HOK.out).size (by kernel_rfl) (by kernel_rfl)
    · refine fun ho => obl_det hF (by kernel_rfl) (by kernel_rfl) ho (by kernel_rfl) (fun wx hbx => ?_); rw [if_pos (by kernel_rfl)]; with_reducible exact grows_call 62 #[.agg (ent e)] (.bool true) (by kernel_rfl) (eright_b e _ HOK.out HR.out wx) (by kernel_rfl) (by kernel_rfl)
    · refine fun ho => obl_det hF (by kernel_rfl) (by kernel_rfl) ho (by kernel_rfl) (fun wx hbx => ?_); rw [if_pos (by kernel_rfl)]; with_reducible exact grows_row 82 (.tmp 3) (by kernel_rfl) N3 (by kernel_rfl) 82 (ent e) (0, 0) _ (below_blk hbx hr3) Try.underlying82 (by kernel_rfl) (ty82 _ HOK.out).size (by kernel_rfl) (by kernel_rfl)
    · refine fun ho => obl_det hF (by kernel_rfl) (by kernel_rfl) ho (by kernel_rfl) (fun wx hbx => ?_); rw [if_pos (by kernel_rfl)]; with_reducible exact grows_call 65 #[.agg (ent e)] (.agg (ent e)) (by kernel_rfl) (lawof_calls e HOK.out wx) (by kernel_rfl) (by kernel_rfl)
    · refine fun ho => obl_det hF (by kernel_rfl) (by kernel_rfl) ho (by kernel_rfl) (fun wx hbx => ?_); rw [if_pos (by kernel_rfl)]; with_reducible exact grows_call 66 #[.agg (ent e)] (.bool true) (by kernel_rfl) (rright4_b e _ HOK.out HR.out wx) (by kernel_rfl) (by kernel_rfl)
    · refine fun ho => obl_det hF (by kernel_rfl) (by kernel_rfl) ho (by kernel_rfl) (fun wx hbx => ?_); rw [if_pos (by kernel_rfl)]; with_reducible exact grows_det (.bool false) (by kernel_rfl) (by kernel_rfl) (by kernel_rfl)
  case hQ =>
    intro wa hby
    simp only [each, putAll, Act.put, List.setIfInBounds_toArray, List.set_cons_succ, List.set_cons_zero]
    have hW := below_next hW hby
    have hr3 := below_blk hby hr3
    have hr5 := below_blk hby hr5
    have hr7 := below_blk hby hr7
    clear hby
    go_upto_region 10 with (first | ((with_reducible show wpList _ _ _ (⟨some 28, _, _, _, _, _⟩ :: _) _ _); refine wpList_load_rowg 28 rfl rfl 82 _ rfl N3 rfl _ (ent e) (0, 0) _ hr3 Try.underlying82 rfl (ty82 _ HOK.out).size ?_) | ((with_reducible show Calls _ 65 #[.agg (ent e)] _ _); refine (lawof_calls e HOK.out _).mono ?_; rintro r w8 ⟨rfl, hb⟩; have s8 := hb.size; have hW := below_next hW hb; have hr3 := below_blk hb hr3; have hr5 := below_blk hb hr5; have hr7 := below_blk hb hr7) | (go_at_call 66; refine (rright4_b e _ HOK.out HR.out _).mono ?_; rintro e w9 ⟨rfl, hb⟩; have sw9 := hb.size; have hW := below_next hW hb; have hr3 := below_blk hb hr3; have hr5 := below_blk hb hr5; have hr7 := below_blk hb hr7; have c0 := cell_of_row _ N3 0 _ _ _ hr3; rw [ent0] at c0) | ((with_reducible show wpList _ _ _ (⟨some 42, _, _, _, _, _⟩ :: _) _ _); refine wpList_load_rowg 42 rfl rfl 39 _ rfl N7 rfl _ (sct e.body) (0, 0) _ hr7 Try.underlying39 rfl (ty39 _ HBL.out).size ?_) | (go_at_call 67; refine (of_calls e.kind e.body HBL.out HBT.out _).mono ?_; rintro e w10 ⟨rfl, hb⟩; rw [HOF.out]; have sw10 := hb.size; have hW := below_next hW hb; have hr3 := below_blk hb hr3; have hr5 := below_blk hb hr5; have hr7 := below_blk hb hr7) | ((with_reducible show wpList _ _ _ (⟨some 9, _, _, _, _, _⟩ :: _) _ _); refine wpList_local 9 rfl rfl rfl rfl 82 rfl _ rfl (ent e) rfl (of_decide_eq_true (by kernel_rfl)) (ty82 _ HOK.out) (ent_all _) ?_; intro W9 N9 hNN9 hMN9 hr9 hb; have sW9 := hb.size; have hW := below_next hW hb; have hr3 := below_blk hb hr3; have hr5 := below_blk hb hr5; have hr7 := below_blk hb hr7))
    refine wp_region_frame (spec := [none, none, none, none, none, none, none, none, none, none, none, none, none, none, none, none, none, none]) (vals := [.int .i64 0, .bool false, .bool false, .agg (sct e.body), .agg (ent e), .agg (ent e), .agg (sct e.body), .bool (!true), .bool false, .bool false, .agg (ent e), .agg (ent e), .bool (!true), .bool false, .bool false, .int .i64 0, .bool false, .bool false]) (by kernel_rfl) (by kernel_rfl) (by kernel_rfl) (by kernel_rfl) ?hst (fun hF => ?hobl) ?hQ
    case hst => exact trivial
    case hobl =>
      refine ⟨?_, ?_, ?_, ?_, ?_, ?_, ?_, ?_, ?_, ?_, ?_, ?_, ?_, ?_, ?_, ?_, ?_, ?_, trivial⟩
      · refine fun ho => obl_det hF (by kernel_rfl) (by kernel_rfl) ho (by kernel_rfl) (fun wx hbx => ?_); rw [if_pos (by kernel_rfl)]; with_reducible exact grows_det (.int .i64 0) (by kernel_rfl) (by kernel_rfl) (by kernel_rfl)
      · refine fun ho => obl_det hF (by kernel_rfl) (by kernel_rfl) ho (by kernel_rfl) (fun wx hbx => ?_); rw [if_pos (by kernel_rfl)]; with_reducible exact grows_det (.bool false) (by kernel_rfl) (by kernel_rfl) (by kernel_rfl)
      · refine fun ho => obl_det hF (by kernel_rfl) (by kernel_rfl) ho (by kernel_rfl) (fun wx hbx => ?_); rw [if_pos (by kernel_rfl)]; with_reducible exact grows_det (.bool false) (by kernel_rfl) (by kernel_rfl) (by kernel_rfl)
      · refine fun ho => obl_det hF (by kernel_rfl) (by kernel_rfl) ho (by kernel_rfl) (fun wx hbx => ?_); rw [if_pos (by kernel_rfl)]; with_reducible exact grows_row 39 (.tmp 7) (by kernel_rfl) N7 (by kernel_rfl) 39 (sct e.body) (0, 0) _ (below_blk hbx hr7) Try.underlying39 (by kernel_rfl) (ty39 _ HBL.out).size (by kernel_rfl) (by kernel_rfl)
      · refine fun ho => obl_det hF (by kernel_rfl) (by kernel_rfl) ho (by kernel_rfl) (fun wx hbx => ?_); rw [if_pos (by kernel_rfl)]; with_reducible exact grows_row 82 (.tmp 3) (by kernel_rfl) N3 (by kernel_rfl) 82 (ent e) (0, 0) _ (below_blk hbx hr3) Try.underlying82 (by kernel_rfl) (ty82 _ HOK.out).size (by kernel_rfl) (by kernel_rfl)
      · refine fun ho => obl_det hF (by kernel_rfl) (by kernel_rfl) ho (by kernel_rfl) (fun wx hbx => ?_); rw [if_pos (by kernel_rfl)]; with_reducible exact grows_call 65 #[.agg (ent e)] (.agg (ent e)) (by kernel_rfl) (lawof_calls e HOK.out wx) (by kernel_rfl) (by kernel_rfl)
      · refine fun ho => obl_det hF (by kernel_rfl) (by kernel_rfl) ho (by kernel_rfl) (fun wx hbx => ?_); rw [if_pos (by kernel_rfl)]; with_reducible exact grows_call 68 #[.agg (ent e)] (.agg (sct e.body)) (by kernel_rfl) (rbody_calls e HOK.out HR.out wx) (by kernel_rfl) (by kernel_rfl)
      · refine fun ho => obl_det hF (by kernel_rfl) (by kernel_rfl) ho (by kernel_rfl) (fun wx hbx => ?_); rw [if_pos (by kernel_rfl)]; with_reducible exact grows_det (.bool (!true)) (op_neq 39 39 (.tmp 49) (.tmp 52) (by kernel_rfl) (sct e.body) (sct e.body) (by kernel_rfl) (by kernel_rfl) grd39 _ HQ39.out) (by kernel_rfl) (by kernel_rfl)
      · refine fun ho => obl_det hF (by kernel_rfl) (by kernel_rfl) ho (by kernel_rfl) (fun wx hbx => ?_); rw [if_pos (by kernel_rfl)]; with_reducible exact grows_det (.bool false) (by kernel_rfl) (by kernel_rfl) (by kernel_rfl)
      · refine fun ho => obl_det hF (by kernel_rfl) (by kernel_rfl) ho (by kernel_rfl) (fun wx hbx => ?_); rw [if_pos (by kernel_rfl)]; with_reducible exact grows_det (.bool false) (by kernel_rfl) (by kernel_rfl) (by kernel_rfl)
      · refine fun ho => obl_det hF (by kernel_rfl) (by kernel_rfl) ho (by kernel_rfl) (fun wx hbx => ?_); rw [if_pos (by kernel_rfl)]; with_reducible exact grows_row 82 (.tmp 9) (by kernel_rfl) N9 (by kernel_rfl) 82 (ent e) (0, 0) _ (below_blk hbx hr9) Try.underlying82 (by kernel_rfl) (ty82 _ HOK.out).size (by kernel_rfl) (by kernel_rfl)
      · refine fun ho => obl_det hF (by kernel_rfl) (by kernel_rfl) ho (by kernel_rfl) (fun wx hbx => ?_); rw [if_pos (by kernel_rfl)]; with_reducible exact grows_row 82 (.tmp 3) (by kernel_rfl) N3 (by kernel_rfl) 82 (ent e) (0, 0) _ (below_blk hbx hr3) Try.underlying82 (by kernel_rfl) (ty82 _ HOK.out).size (by kernel_rfl) (by kernel_rfl)
      · refine fun ho => obl_det hF (by kernel_rfl) (by kernel_rfl) ho (by kernel_rfl) (fun wx hbx => ?_); rw [if_pos (by kernel_rfl)]; with_reducible exact grows_det (.bool (!true)) (op_neq 82 82 (.tmp 56) (.tmp 57) (by kernel_rfl) (ent e) (ent e) (by kernel_rfl) (by kernel_rfl) grd82 _ HQ82.out) (by kernel_rfl) (by kernel_rfl)
      · refine fun ho => obl_det hF (by kernel_rfl) (by kernel_rfl) ho (by kernel_rfl) (fun wx hbx => ?_); rw [if_pos (by kernel_rfl)]; with_reducible exact grows_det (.bool false) (by kernel_rfl) (by kernel_rfl) (by kernel_rfl)
      · refine fun ho => obl_det hF (by kernel_rfl) (by kernel_rfl) ho (by kernel_rfl) (fun wx hbx => ?_); rw [if_pos (by kernel_rfl)]; with_reducible exact grows_det (.bool false) (by kernel_rfl) (by kernel_rfl) (by kernel_rfl)
      · refine fun ho => obl_det hF (by kernel_rfl) (by kernel_rfl) ho (by kernel_rfl) (fun wx hbx => ?_); rw [if_pos (by kernel_rfl)]; with_reducible exact grows_det (.int .i64 0) (by kernel_rfl) (by kernel_rfl) (by kernel_rfl)
      · refine fun ho => obl_det hF (by kernel_rfl) (by kernel_rfl) ho (by kernel_rfl) (fun wx hbx => ?_); rw [if_pos (by kernel_rfl)]; with_reducible exact grows_det (.bool false) (by kernel_rfl) (by kernel_rfl) (by kernel_rfl)
      · refine fun ho => obl_det hF (by kernel_rfl) (by kernel_rfl) ho (by kernel_rfl) (fun wx hbx => ?_); rw [if_pos (by kernel_rfl)]; with_reducible exact grows_det (.bool false) (by kernel_rfl) (by kernel_rfl) (by kernel_rfl)
    case hQ =>
      intro wb hby
      simp only [each, putAll, Act.put, List.setIfInBounds_toArray, List.set_cons_succ, List.set_cons_zero]
      have hW := below_next hW hby
      have hr5 := below_blk hby hr5
      clear hby
      go_upto_region 16 with (first | ((with_reducible show wpList _ _ _ (⟨some 66, _, _, _, _, _⟩ :: _) _ _); refine wpList_load_rowg 66 rfl rfl 39 _ rfl N5 rfl _ (sct b) (0, 0) _ hr5 Try.underlying39 rfl (ty39 _ HB.out.1).size ?_) | (go_at_call 67; refine (of_calls k b HB.out.1 HB.out.2 _).mono ?_; rintro e w11 ⟨rfl, hb⟩; rw [HD.out]; have sw11 := hb.size; have hW := below_next hW hb; have hr5 := below_blk hb hr5) | ((with_reducible show wpList _ _ _ (⟨some 11, _, _, _, _, _⟩ :: _) _ _); refine wpList_local 11 rfl rfl rfl rfl 82 rfl _ rfl (ent U) rfl (of_decide_eq_true (by kernel_rfl)) (ty82 _ HU.out) (ent_all _) ?_; intro W11 N11 hNN11 hMN11 hr11 hb; have sW11 := hb.size; have hW := below_next hW hb; have hr5 := below_blk hb hr5) | ((with_reducible show wpList _ _ _ (⟨some 72, _, _, _, _, _⟩ :: _) _ _); refine wpList_load_rowg 72 rfl rfl 39 _ rfl N5 rfl _ (sct b) (0, 0) _ hr5 Try.underlying39 rfl (ty39 _ HB.out.1).size ?_) | (go_at_call 69; refine (rof_calls k b HB.out.1 HB.out.2 _).mono ?_; rintro e w12 ⟨rfl, hb⟩; rw [HS.out]; have sw12 := hb.size; have hW := below_next hW hb; have hr5 := below_blk hb hr5; have hr11 := below_blk hb hr11) | ((with_reducible show wpList _ _ _ (⟨some 13, _, _, _, _, _⟩ :: _) _ _); refine wpList_local 13 rfl rfl rfl rfl 91 rfl _ rfl (ent U) rfl (of_decide_eq_true (by kernel_rfl)) (ty91 _ HU.out) (ent_all _) ?_; intro W13 N13 hNN13 hMN13 hr13 hb; have sW13 := hb.size; have hW := below_next hW hb; have hr5 := below_blk hb hr5; have hr11 := below_blk hb hr11))
      refine wp_region_frame (spec := [none, none, none, none, none, none, none, none, none, none, none, none, none, none, none]) (vals := [.int .i64 0, .bool true, .bool true, .agg (ent U), .agg (ent U), .agg (ent U), .bool true, .bool true, .bool true, .agg (ent U), .agg (sct b), .agg (sct b), .bool true, .bool true, .bool true]) (by kernel_rfl) (by kernel_rfl) (by kernel_rfl) (by kernel_rfl) ?hst (fun hF => ?hobl) ?hQ
      case hst => exact trivial
      case hobl =>
        refine ⟨?_, ?_, ?_, ?_, ?_, ?_, ?_, ?_, ?_, ?_, ?_, ?_, ?_, ?_, ?_, trivial⟩
        · refine fun ho => obl_det hF (by kernel_rfl) (by kernel_rfl) ho (by kernel_rfl) (fun wx hbx => ?_); rw [if_pos (by kernel_rfl)]; with_reducible exact grows_det (.int .i64 0) (by kernel_rfl) (by kernel_rfl) (by kernel_rfl)
        · refine fun ho => obl_det hF (by kernel_rfl) (by kernel_rfl) ho (by kernel_rfl) (fun wx hbx => ?_); rw [if_pos (by kernel_rfl)]; with_reducible exact grows_det (.bool true) (by kernel_rfl) (by kernel_rfl) (by kernel_rfl)
        · refine fun ho => obl_det hF (by kernel_rfl) (by kernel_rfl) ho (by kernel_rfl) (fun wx hbx => ?_); rw [if_pos (by kernel_rfl)]; with_reducible exact grows_det (.bool true) (by kernel_rfl) (by kernel_rfl) (by kernel_rfl)
        · refine fun ho => obl_det hF (by kernel_rfl) (by kernel_rfl) ho (by kernel_rfl) (fun wx hbx => ?_); rw [if_pos (by kernel_rfl)]; with_reducible exact grows_row 82 (.tmp 11) (by kernel_rfl) N11 (by kernel_rfl) 82 (ent U) (0, 0) _ (below_blk hbx hr11) Try.underlying82 (by kernel_rfl) (ty82 _ HU.out).size (by kernel_rfl) (by kernel_rfl)
        · refine fun ho => obl_det hF (by kernel_rfl) (by kernel_rfl) ho (by kernel_rfl) (fun wx hbx => ?_); rw [if_pos (by kernel_rfl)]; with_reducible exact grows_call 65 #[.agg (ent U)] (.agg (ent U)) (by kernel_rfl) (lawof_calls U HU.out wx) (by kernel_rfl) (by kernel_rfl)
        · refine fun ho => obl_det hF (by kernel_rfl) (by kernel_rfl) ho (by kernel_rfl) (fun wx hbx => ?_); rw [if_pos (by kernel_rfl)]; with_reducible exact grows_row 91 (.tmp 13) (by kernel_rfl) N13 (by kernel_rfl) 91 (ent U) (0, 0) _ (below_blk hbx hr13) Try.underlying91 (by kernel_rfl) (ty91 _ HU.out).size (by kernel_rfl) (by kernel_rfl)
        · refine fun ho => obl_det hF (by kernel_rfl) (by kernel_rfl) ho (by kernel_rfl) (fun wx hbx => ?_); rw [if_pos (by kernel_rfl)]; with_reducible exact grows_det (.bool true) (op_eql 91 91 (.tmp 89) (.tmp 90) (by kernel_rfl) (ent U) (ent U) (by kernel_rfl) (by kernel_rfl) grd91 _ HQ91.out) (by kernel_rfl) (by kernel_rfl)
        · refine fun ho => obl_det hF (by kernel_rfl) (by kernel_rfl) ho (by kernel_rfl) (fun wx hbx => ?_); rw [if_pos (by kernel_rfl)]; with_reducible exact grows_det (.bool true) (by kernel_rfl) (by kernel_rfl) (by kernel_rfl)
        · refine fun ho => obl_det hF (by kernel_rfl) (by kernel_rfl) ho (by kernel_rfl) (fun wx hbx => ?_); rw [if_pos (by kernel_rfl)]; with_reducible exact grows_det (.bool true) (by kernel_rfl) (by kernel_rfl) (by kernel_rfl)
        · refine fun ho => obl_det hF (by kernel_rfl) (by kernel_rfl) ho (by kernel_rfl) (fun wx hbx => ?_); rw [if_pos (by kernel_rfl)]; with_reducible exact grows_row 91 (.tmp 13) (by kernel_rfl) N13 (by kernel_rfl) 91 (ent U) (0, 0) _ (below_blk hbx hr13) Try.underlying91 (by kernel_rfl) (ty91 _ HU.out).size (by kernel_rfl) (by kernel_rfl)
        · refine fun ho => obl_det hF (by kernel_rfl) (by kernel_rfl) ho (by kernel_rfl) (fun wx hbx => ?_); rw [if_pos (by kernel_rfl)]; with_reducible exact grows_call 68 #[.agg (ent U)] (.agg (sct b)) (by kernel_rfl) (rbody_is U b HU.out HUR.out HUB.out wx) (by kernel_rfl) (by kernel_rfl)
        · refine fun ho => obl_det hF (by kernel_rfl) (by kernel_rfl) ho (by kernel_rfl) (fun wx hbx => ?_); rw [if_pos (by kernel_rfl)]; with_reducible exact grows_row 39 (.tmp 5) (by kernel_rfl) N5 (by kernel_rfl) 39 (sct b) (0, 0) _ (below_blk hbx hr5) Try.underlying39 (by kernel_rfl) (ty39 _ HB.out.1).size (by kernel_rfl) (by kernel_rfl)
        · refine fun ho => obl_det hF (by kernel_rfl) (by kernel_rfl) ho (by kernel_rfl) (fun wx hbx => ?_); rw [if_pos (by kernel_rfl)]; with_reducible exact grows_det (.bool true) (op_eql 39 39 (.tmp 95) (.tmp 96) (by kernel_rfl) (sct b) (sct b) (by kernel_rfl) (by kernel_rfl) grd39 _ HQB.out) (by kernel_rfl) (by kernel_rfl)
        · refine fun ho => obl_det hF (by kernel_rfl) (by kernel_rfl) ho (by kernel_rfl) (fun wx hbx => ?_); rw [if_pos (by kernel_rfl)]; with_reducible exact grows_det (.bool true) (by kernel_rfl) (by kernel_rfl) (by kernel_rfl)
        · refine fun ho => obl_det hF (by kernel_rfl) (by kernel_rfl) ho (by kernel_rfl) (fun wx hbx => ?_); rw [if_pos (by kernel_rfl)]; with_reducible exact grows_det (.bool true) (by kernel_rfl) (by kernel_rfl) (by kernel_rfl)
      case hQ =>
        intro wy hby
        simp only [each]
        generalize hF : putAll _ _ _ = F
        have hd : F.defers = [] := by rw [← hF]; kernel_rfl
        have h8 : F.tmps.getD 6 undef = .bool true := by rw [← hF]; kernel_rfl
        clear hF
        go_step
        go_step
        go_step
        exact ret_of 6 rfl hd _ h8 ⟨rfl, below_next hW hby⟩
theorem bodies_walk (w : World) (e : M.En) (hok : e.ok) (k : Int) (b : List Nat) (hb : b.length = 44 ∧ ∀ c ∈ b, c < 256) :
    Calls Try.prog 21 #[.agg (ent e), .int .i64 k, .agg (sct b)] w fun r w' => r = .returned (.bool true) ∧ Below w.heap.size w w' := by
  obtain ⟨U, hU⟩ : ∃ U, M.unEn k b = U := ⟨_, rfl⟩
  by_cases hr : e.right = true <;> by_cases hu : U.right = true
  · exact bodies_tt w e hok k b hb U hU hr hu
  · exact bodies_tf w e hok k b hb U hU hr (by simpa using hu)
  · exact bodies_ft w e hok k b hb U hU (by simpa using hr) hu
  · exact bodies_ff w e hok k b hb U hU (by simpa using hr) (by simpa using hu)
end Go.Proofs.Ytncooadaeifekaa

/- EntryBodies is proved: for any entry, kind and body the law returns true. No condition. -/
namespace Go.Proofs.Ytncooadaeifekaa.entryBodies
open Go.ChangeShapes Go.WideShapes Go.ChangeAt Go.RowKit
set_option maxRecDepth 100000 in
theorem lifted (os : Os) (started : os.Started) (H : Type) (enc : TypeId × Value → H) :
    ReturnsInHanded {} Try.checked os 21 .any (Rows.entryBodiesSpec.pre6 enc Try.prog Try.f21 Rows.entryBodiesRow.domain false) (Rows.entryBodiesSpec.post enc Try.prog Try.f21 false true false false) := by
  refine returnsInHanded_of_change (C := Try.checked) own started (by kernel_rfl) Try.func21
    (ChangeSpec.witness6 (enc := enc) (C := Try.checked) false ⟨#[], #[.agg (Array.replicate 6 (.int .i64 0) ++ Array.replicate 32 (.int .u8 0)), .int .i64 0, .agg (Array.replicate 44 (.int .u8 0))], []⟩ 8 (by kernel_rfl) (by kernel_rfl) (by kernel_rfl) (by kernel_rfl)) ?_
  intro W base args ds gs before hval0 hW hcnd _
  have hval : ∀ (j : Nat) t v, Try.f21.params[j]? = some t → args[j]? = some v → Value.okWide Try.prog W .any base t v := hval0
  have hW' := hW
  obtain ⟨p, q, hA0, hV, rfl, hfz, hnd⟩ := hW
  have hA : DataW.TrodAll enc Try.prog W 0 (fun _ => true) true Try.f21.params.toList args.toList ds p := hA0
  rw [Try.params21] at hA hval
  obtain ⟨v0, vs0, d0, ds0, p0, q0, hargs, rfl, rfl, h0, r0⟩ := trodAll_cons hA
  obtain ⟨v1, vs1, d1, ds1, p1, q1, rfl, rfl, rfl, h1, r1⟩ := trodAll_cons r0
  obtain ⟨v2, vs2, d2, ds2, p2, q2, rfl, rfl, rfl, h2, r2⟩ := trodAll_cons r1
  obtain ⟨rfl, rfl, rfl⟩ := trodAll_nil r2
  obtain rfl : args = #[v0, v1, v2] := by cases args; simp_all
  obtain ⟨rfl, rfl⟩ := trodVars_none hV
  have k0 := h0
  have lt0 := trod_fin k0
  obtain ⟨x0, rfl, n0⟩ := open_entry (hval 0 82 v0 rfl rfl) h0
  have k1 := h1
  have lt1 := trod_fin k1
  obtain ⟨a1, rfl, _, _, w1⟩ := open_int Try.underlying3 (hval 1 3 v1 rfl rfl) h1
  have n1 := bounds_i64 w1
  have k2 := h2
  have lt2 := trod_fin k2
  obtain ⟨x2, rfl, n2⟩ := open_body (hval 2 39 v2 rfl rfl) h2
  clear hA0 hval0
  refine (bodies_walk W x0 n0 a1 x2 n2).mono fun e W' ⟨he, bel⟩ => ?_
  subst he
  exact ⟨_, rfl, _, _, _, [], _, [], hW', trodAll_mk1 (shut_bool Try.underlying4 _), (trodAll_cons_mk (Below.trod laidOut (by kernel_rfl) (of_decide_eq_true (by kernel_rfl)) k0 bel lt0) (trodAll_cons_mk (Below.trod laidOut (by kernel_rfl) (of_decide_eq_true (by kernel_rfl)) k1 bel lt1) (trodAll_cons_mk (Below.trod laidOut (by kernel_rfl) (of_decide_eq_true (by kernel_rfl)) k2 bel lt2) trodAll_mk0))), rfl, bel.frame _, fun h => by cases h⟩
theorem facts : joinedFacts Try.prog 21 Try.f21 Rows.entryBodiesSpec Rows.entryBodiesRow = true := by
  unfold joinedFacts
  rw [may_enter, lifts_final, make_is]
  kernel_rfl
theorem over : Rows.entryBodiesRow.holds Try.pinned (OpenSpec.ofChange Rows.entryBodiesSpec) :=
  OpenClaim.holds_of_wide 21 Try.f21 rfl rfl rfl rfl rfl rfl rfl ⟨rfl, rfl, rfl, rfl, rfl⟩ rfl rfl rfl rfl rfl (by kernel_rfl) Try.func21 facts
    (of_decide_eq_true (by kernel_rfl)) (by unfold Func.isWrapper; first | (rw [if_pos (by decide +kernel)]; kernel_rfl) | (rw [if_neg (by decide +kernel)]; exact ⟨rfl, rfl⟩))
    (fun os started H enc _ => lifted os started H enc)
theorem proved : Rows.EntryBodiesSaid := over
#print axioms proved
end Go.Proofs.Ytncooadaeifekaa.entryBodies
