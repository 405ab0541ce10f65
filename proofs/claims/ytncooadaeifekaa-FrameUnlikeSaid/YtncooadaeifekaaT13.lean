/- Walk of the law FrameUnlike: it answers true for any two frames. -/
import Derived.Test.YtncooadaeifekaaC19
namespace Go.Proofs.Ytncooadaeifekaa
open Go.RowKit Go.BigFrame
theorem op_same {o : Oper} {F : Act} {w : World} {t u : TypeId} (x y : Operand) (ho : o.op = .binOp .eql t x y u) (b : Bool) (hx : F.eval x = .bool b) (hy : F.eval y = .bool b) (ht : Try.prog.underlying t = some .bool := by kernel_rfl) :
    (execOp F.eval o).run Try.prog w = .ok (.value (.bool true)) w := by
  unfold execOp
  simp only [ho, hx, hy]
  cases b <;> simp [eqGuard, binOp, run_equal_bool _ t _ _ ht]
set_option maxRecDepth 100000 in
set_option maxHeartbeats 1000000 in
theorem unlikeF_walk (w : World) (a : M.Fr) (hoa : a.ok) (b : M.Fr) (hob : b.ok) :
    Calls Try.prog 24 #[.agg (frm a), .agg (frm b)] w fun e w' => e = .returned (.bool true) ∧ Below w.heap.size w w' := by
  have HA := hid hoa
  have HB := hid hob
  have HLA := hid (M.Fr.sec_length a hoa)
  have HLB := hid (M.Fr.sec_length b hob)
  have HZ : Hid ((List.replicate 64 0 : List Nat).length = 64) := by show _ = _; simp
  have hW := Below.refl w.heap.size w
  have h3 : a.right = false ∨ (a.right = true ∧ b.right = false) ∨ (a.right = true ∧ b.right = true) := by cases a.right <;> cases b.right <;> simp
  rcases h3 with h | ⟨h, h'⟩ | ⟨h, h'⟩
  · have HR := hid h; clear hoa hob h
    go_enter Try.func24, Try.ntmps24
    go_upto_region 6 with (first | ((with_reducible show wpList _ _ _ (⟨some 2, _, _, _, _, _⟩ :: _) _ _); refine wpList_boxed 2 rfl rfl 41 _ rfl (frm a) rfl ?_; intro W2 N2 hNN2 hMN2 hr2 hb; have hW := below_next hW hb) | ((with_reducible show wpList _ _ _ (⟨some 3, _, _, _, _, _⟩ :: _) _ _); refine wpList_boxed 3 rfl rfl 41 _ rfl (frm b) rfl ?_; intro W3 N3 hNN3 hMN3 hr3 hb; have hW := below_next hW hb; have hr2 := below_blk hb hr2) | (go_at_call 36; refine (anchor3_calls _).mono ?_; rintro e w1 ⟨rfl, hb⟩; have hW := below_next hW hb; have hr2 := below_blk hb hr2; have hr3 := below_blk hb hr3) | (go_at_call 29; refine (new_calls _).mono ?_; rintro e w2 ⟨rfl, hb⟩; have hW := below_next hW hb; have hr2 := below_blk hb hr2; have hr3 := below_blk hb hr3) | ((with_reducible show wpList _ _ _ (⟨some 5, _, _, _, _, _⟩ :: _) _ _); refine wpList_local 5 rfl rfl rfl rfl 25 rfl _ rfl tbl rfl (by simp) ty25 tbl_all ?_; intro W5 N5 hNN5 hMN5 hr5 hb; have hW := below_next hW hb; have hr2 := below_blk hb hr2; have hr3 := below_blk hb hr3) | ((with_reducible show wpList _ _ _ (⟨some 14, _, _, _, _, _⟩ :: _) _ _); refine wpList_load_rowg 14 rfl rfl 25 _ rfl N5 rfl _ tbl (0, 0) _ hr5 Try.underlying25 rfl (by kernel_rfl) ?_) | ((with_reducible show wpList _ _ _ (⟨some 15, _, _, _, _, _⟩ :: _) _ _); refine wpList_load_rowg 15 rfl rfl 41 _ rfl N2 rfl _ (frm a) (0, 0) _ hr2 Try.underlying41 rfl (ty41 _ HA.out).size ?_) | ((with_reducible show wpList _ _ _ (⟨some 20, _, _, _, _, _⟩ :: _) _ _); refine wpList_load_rowg 20 rfl rfl 25 _ rfl N5 rfl _ tbl (0, 0) _ hr5 Try.underlying25 rfl (by kernel_rfl) ?_) | ((with_reducible show wpList _ _ _ (⟨some 21, _, _, _, _, _⟩ :: _) _ _); refine wpList_load_rowg 21 rfl rfl 41 _ rfl N3 rfl _ (frm b) (0, 0) _ hr3 Try.underlying41 rfl (ty41 _ HB.out).size ?_) | ((with_reducible show Calls _ 37 #[_, .agg (frm a)] _ _); refine (encode_wrong a HA.out HR.out _).mono ?_; rintro e w4 ⟨rfl, hb⟩; have hW := below_next hW hb; have hr2 := below_blk hb hr2; have hr3 := below_blk hb hr3; have hr5 := below_blk hb hr5) | ((with_reducible show wpList _ _ _ (⟨some 6, _, _, _, _, _⟩ :: _) _ _); refine wpList_local 6 rfl rfl rfl rfl 44 rfl _ rfl (sct (List.replicate 64 0)) rfl (by simp) (ty44 _ HZ.out) (sct_all _) ?_; intro W6 N6 hNN6 hMN6 hr6 hb; have hW := below_next hW hb; have hr2 := below_blk hb hr2; have hr3 := below_blk hb hr3; have hr5 := below_blk hb hr5) | ((with_reducible show Calls _ 37 #[_, .agg (frm b)] _ _); refine (encode_calls b HB.out _).mono ?_; rintro e w7 ⟨rfl, hb⟩; have hW := below_next hW hb; have hr2 := below_blk hb hr2; have hr3 := below_blk hb hr3; have hr6 := below_blk hb hr6) | ((with_reducible show wpList _ _ _ (⟨some 8, _, _, _, _, _⟩ :: _) _ _); refine wpList_local 8 rfl rfl rfl rfl 44 rfl _ rfl (sct b.enc.1) rfl (by simp) (ty44 _ (M.enc_length b HB.out)) (sct_all _) ?_; intro W8 N8 hNN8 hMN8 hr8 hb; have hW := below_next hW hb; have hr2 := below_blk hb hr2; have hr3 := below_blk hb hr3; have hr6 := below_blk hb hr6))
    refine wp_region_frame (spec := [none, none, none, none, none, none, none, none, none, none, none, none, none, none, none, none]) (vals := [.int .i64 10, .bool true, .bool true, undef, undef, .bool true, .bool true, undef, undef, undef, undef, undef, undef, undef, .bool true, .bool true]) (by kernel_rfl) (by kernel_rfl) (by kernel_rfl) (by kernel_rfl) ?hst (fun hF => ?hobl) ?hQ
    case hst => exact trivial
    case hobl =>
      refine ⟨?_, ?_, ?_, ?_, ?_, ?_, ?_, ?_, ?_, ?_, ?_, ?_, ?_, ?_, ?_, ?_, trivial⟩
      · refine fun ho => obl_det hF (by kernel_rfl) (by kernel_rfl) ho (by kernel_rfl) (fun wx hbx => ?_); rw [if_pos (by kernel_rfl)]; with_reducible exact grows_det (.int .i64 10) (by kernel_rfl) (by kernel_rfl) (by kernel_rfl)
      · refine fun ho => obl_det hF (by kernel_rfl) (by kernel_rfl) ho (by kernel_rfl) (fun wx hbx => ?_); rw [if_pos (by kernel_rfl)]; with_reducible exact grows_det (.bool true) (by kernel_rfl) (by kernel_rfl) (by kernel_rfl)
      · refine fun ho => obl_det hF (by kernel_rfl) (by kernel_rfl) ho (by kernel_rfl) (fun wx hbx => ?_); rw [if_pos (by kernel_rfl)]; with_reducible exact grows_det (.bool true) (by kernel_rfl) (by kernel_rfl) (by kernel_rfl)
      · refine fun ho => obl_det hF (by kernel_rfl) (by kernel_rfl) ho (by kernel_rfl) (fun wx hbx => ?_); rw [if_neg (Bool.eq_false_iff.1 (by kernel_rfl))]; exact known_val (by kernel_rfl) (by kernel_rfl)
      · refine fun ho => obl_det hF (by kernel_rfl) (by kernel_rfl) ho (by kernel_rfl) (fun wx hbx => ?_); rw [if_neg (Bool.eq_false_iff.1 (by kernel_rfl))]; exact known_val (by kernel_rfl) (by kernel_rfl)
      · refine fun ho => obl_det hF (by kernel_rfl) (by kernel_rfl) ho (by kernel_rfl) (fun wx hbx => ?_); rw [if_pos (by kernel_rfl)]; with_reducible exact grows_det (.bool true) (by kernel_rfl) (by kernel_rfl) (by kernel_rfl)
      · refine fun ho => obl_det hF (by kernel_rfl) (by kernel_rfl) ho (by kernel_rfl) (fun wx hbx => ?_); rw [if_pos (by kernel_rfl)]; with_reducible exact grows_det (.bool true) (by kernel_rfl) (by kernel_rfl) (by kernel_rfl)
      · refine fun ho => obl_det hF (by kernel_rfl) (by kernel_rfl) ho (by kernel_rfl) (fun wx hbx => ?_); rw [if_neg (Bool.eq_false_iff.1 (by kernel_rfl))]; exact known_val (by kernel_rfl) (by kernel_rfl)
      · refine fun ho => obl_det hF (by kernel_rfl) (by kernel_rfl) ho (by kernel_rfl) (fun wx hbx => ?_); rw [if_neg (Bool.eq_false_iff.1 (by kernel_rfl))]; exact known_val (by kernel_rfl) (by kernel_rfl)
      · refine fun ho => obl_det hF (by kernel_rfl) (by kernel_rfl) ho (by kernel_rfl) (fun wx hbx => ?_); rw [if_neg (Bool.eq_false_iff.1 (by kernel_rfl))]; exact known_val (by kernel_rfl) (by kernel_rfl)
      · refine fun ho => obl_det hF (by kernel_rfl) (by kernel_rfl) ho (by kernel_rfl) (fun wx hbx => ?_); rw [if_neg (Bool.eq_false_iff.1 (by kernel_rfl))]; exact known_val (by kernel_rfl) (by kernel_rfl)
      · refine fun ho => obl_det hF (by kernel_rfl) (by kernel_rfl) ho (by kernel_rfl) (fun wx hbx => ?_); rw [if_neg (Bool.eq_false_iff.1 (by kernel_rfl))]; exact known_val (by kernel_rfl) (by kernel_rfl)
      · refine fun ho => obl_det hF (by kernel_rfl) (by kernel_rfl) ho (by kernel_rfl) (fun wx hbx => ?_); rw [if_neg (Bool.eq_false_iff.1 (by kernel_rfl))]; exact known_val (by kernel_rfl) (by kernel_rfl)
      · refine fun ho => obl_det hF (by kernel_rfl) (by kernel_rfl) ho (by kernel_rfl) (fun wx hbx => ?_); rw [if_neg (Bool.eq_false_iff.1 (by kernel_rfl))]; exact known_val (by kernel_rfl) (by kernel_rfl)
      · refine fun ho => obl_det hF (by kernel_rfl) (by kernel_rfl) ho (by kernel_rfl) (fun wx hbx => ?_); rw [if_pos (by kernel_rfl)]; with_reducible exact grows_det (.bool true) (by kernel_rfl) (by kernel_rfl) (by kernel_rfl)
      · refine fun ho => obl_det hF (by kernel_rfl) (by kernel_rfl) ho (by kernel_rfl) (fun wx hbx => ?_); rw [if_pos (by kernel_rfl)]; with_reducible exact grows_det (.bool true) (by kernel_rfl) (by kernel_rfl) (by kernel_rfl)
    case hQ =>
      intro wy hby
      simp only [each]
      generalize hF : putAll _ _ _ = F
      have hd : F.defers = [] := by rw [← hF]; kernel_rfl
      have h8 : F.tmps.getD 4 undef = .bool true := by rw [← hF]; kernel_rfl
      clear hF
      go_step
      go_step
      go_step
      exact ret_of 4 rfl hd _ h8 ⟨rfl, below_next hW hby⟩
  · have HR := hid h; have HR' := hid h'; clear hoa hob h h'
    go_enter Try.func24, Try.ntmps24
    go_upto_region 6 with (first | ((with_reducible show wpList _ _ _ (⟨some 2, _, _, _, _, _⟩ :: _) _ _); refine wpList_boxed 2 rfl rfl 41 _ rfl (frm a) rfl ?_; intro W2 N2 hNN2 hMN2 hr2 hb; have hW := below_next hW hb) | ((with_reducible show wpList _ _ _ (⟨some 3, _, _, _, _, _⟩ :: _) _ _); refine wpList_boxed 3 rfl rfl 41 _ rfl (frm b) rfl ?_; intro W3 N3 hNN3 hMN3 hr3 hb; have hW := below_next hW hb; have hr2 := below_blk hb hr2) | (go_at_call 36; refine (anchor3_calls _).mono ?_; rintro e w1 ⟨rfl, hb⟩; have hW := below_next hW hb; have hr2 := below_blk hb hr2; have hr3 := below_blk hb hr3) | (go_at_call 29; refine (new_calls _).mono ?_; rintro e w2 ⟨rfl, hb⟩; have hW := below_next hW hb; have hr2 := below_blk hb hr2; have hr3 := below_blk hb hr3) | ((with_reducible show wpList _ _ _ (⟨some 5, _, _, _, _, _⟩ :: _) _ _); refine wpList_local 5 rfl rfl rfl rfl 25 rfl _ rfl tbl rfl (by simp) ty25 tbl_all ?_; intro W5 N5 hNN5 hMN5 hr5 hb; have hW := below_next hW hb; have hr2 := below_blk hb hr2; have hr3 := below_blk hb hr3) | ((with_reducible show wpList _ _ _ (⟨some 14, _, _, _, _, _⟩ :: _) _ _); refine wpList_load_rowg 14 rfl rfl 25 _ rfl N5 rfl _ tbl (0, 0) _ hr5 Try.underlying25 rfl (by kernel_rfl) ?_) | ((with_reducible show wpList _ _ _ (⟨some 15, _, _, _, _, _⟩ :: _) _ _); refine wpList_load_rowg 15 rfl rfl 41 _ rfl N2 rfl _ (frm a) (0, 0) _ hr2 Try.underlying41 rfl (ty41 _ HA.out).size ?_) | ((with_reducible show wpList _ _ _ (⟨some 20, _, _, _, _, _⟩ :: _) _ _); refine wpList_load_rowg 20 rfl rfl 25 _ rfl N5 rfl _ tbl (0, 0) _ hr5 Try.underlying25 rfl (by kernel_rfl) ?_) | ((with_reducible show wpList _ _ _ (⟨some 21, _, _, _, _, _⟩ :: _) _ _); refine wpList_load_rowg 21 rfl rfl 41 _ rfl N3 rfl _ (frm b) (0, 0) _ hr3 Try.underlying41 rfl (ty41 _ HB.out).size ?_) | ((with_reducible show Calls _ 37 #[_, .agg (frm a)] _ _); refine (encode_right a HA.out HR.out _).mono ?_; rintro e w4 ⟨rfl, hb⟩; have hW := below_next hW hb; have hr2 := below_blk hb hr2; have hr3 := below_blk hb hr3; have hr5 := below_blk hb hr5) | ((with_reducible show wpList _ _ _ (⟨some 6, _, _, _, _, _⟩ :: _) _ _); refine wpList_local 6 rfl rfl rfl rfl 44 rfl _ rfl (sct a.sec) rfl (by simp) (ty44 _ HLA.out) (sct_all _) ?_; intro W6 N6 hNN6 hMN6 hr6 hb; have hW := below_next hW hb; have hr2 := below_blk hb hr2; have hr3 := below_blk hb hr3; have hr5 := below_blk hb hr5) | ((with_reducible show Calls _ 37 #[_, .agg (frm b)] _ _); refine (encode_wrong b HB.out HR'.out _).mono ?_; rintro e w7 ⟨rfl, hb⟩; have hW := below_next hW hb; have hr2 := below_blk hb hr2; have hr3 := below_blk hb hr3; have hr6 := below_blk hb hr6) | ((with_reducible show wpList _ _ _ (⟨some 8, _, _, _, _, _⟩ :: _) _ _); refine wpList_local 8 rfl rfl rfl rfl 44 rfl _ rfl (sct (List.replicate 64 0)) rfl (by simp) (ty44 _ HZ.out) (sct_all _) ?_; intro W8 N8 hNN8 hMN8 hr8 hb; have hW := below_next hW hb; have hr2 := below_blk hb hr2; have hr3 := below_blk hb hr3; have hr6 := below_blk hb hr6))
    refine wp_region_frame (spec := [none, none, none, none, none, none, none, none, none, none, none, none, none, none, none, none]) (vals := [.int .i64 0, .bool false, .bool false, .int .i64 10, .bool true, .bool true, .bool true, undef, undef, undef, undef, undef, undef, undef, .bool true, .bool true]) (by kernel_rfl) (by kernel_rfl) (by kernel_rfl) (by kernel_rfl) ?hst (fun hF => ?hobl) ?hQ
    case hst => exact trivial
    case hobl =>
      refine ⟨?_, ?_, ?_, ?_, ?_, ?_, ?_, ?_, ?_, ?_, ?_, ?_, ?_, ?_, ?_, ?_, trivial⟩
      · refine fun ho => obl_det hF (by kernel_rfl) (by kernel_rfl) ho (by kernel_rfl) (fun wx hbx => ?_); rw [if_pos (by kernel_rfl)]; with_reducible exact grows_det (.int .i64 0) (by kernel_rfl) (by kernel_rfl) (by kernel_rfl)
      · refine fun ho => obl_det hF (by kernel_rfl) (by kernel_rfl) ho (by kernel_rfl) (fun wx hbx => ?_); rw [if_pos (by kernel_rfl)]; with_reducible exact grows_det (.bool false) (by kernel_rfl) (by kernel_rfl) (by kernel_rfl)
      · refine fun ho => obl_det hF (by kernel_rfl) (by kernel_rfl) ho (by kernel_rfl) (fun wx hbx => ?_); rw [if_pos (by kernel_rfl)]; with_reducible exact grows_det (.bool false) (by kernel_rfl) (by kernel_rfl) (by kernel_rfl)
      · refine fun ho => obl_det hF (by kernel_rfl) (by kernel_rfl) ho (by kernel_rfl) (fun wx hbx => ?_); rw [if_pos (by kernel_rfl)]; with_reducible exact grows_det (.int .i64 10) (by kernel_rfl) (by kernel_rfl) (by kernel_rfl)
      · refine fun ho => obl_det hF (by kernel_rfl) (by kernel_rfl) ho (by kernel_rfl) (fun wx hbx => ?_); rw [if_pos (by kernel_rfl)]; with_reducible exact grows_det (.bool true) (by kernel_rfl) (by kernel_rfl) (by kernel_rfl)
      · refine fun ho => obl_det hF (by kernel_rfl) (by kernel_rfl) ho (by kernel_rfl) (fun wx hbx => ?_); rw [if_pos (by kernel_rfl)]; with_reducible exact grows_det (.bool true) (by kernel_rfl) (by kernel_rfl) (by kernel_rfl)
      · refine fun ho => obl_det hF (by kernel_rfl) (by kernel_rfl) ho (by kernel_rfl) (fun wx hbx => ?_); rw [if_pos (by kernel_rfl)]; with_reducible exact grows_det (.bool true) (by kernel_rfl) (by kernel_rfl) (by kernel_rfl)
      · refine fun ho => obl_det hF (by kernel_rfl) (by kernel_rfl) ho (by kernel_rfl) (fun wx hbx => ?_); rw [if_neg (Bool.eq_false_iff.1 (by kernel_rfl))]; exact known_val (by kernel_rfl) (by kernel_rfl)
      · refine fun ho => obl_det hF (by kernel_rfl) (by kernel_rfl) ho (by kernel_rfl) (fun wx hbx => ?_); rw [if_neg (Bool.eq_false_iff.1 (by kernel_rfl))]; exact known_val (by kernel_rfl) (by kernel_rfl)
      · refine fun ho => obl_det hF (by kernel_rfl) (by kernel_rfl) ho (by kernel_rfl) (fun wx hbx => ?_); rw [if_neg (Bool.eq_false_iff.1 (by kernel_rfl))]; exact known_val (by kernel_rfl) (by kernel_rfl)
      · refine fun ho => obl_det hF (by kernel_rfl) (by kernel_rfl) ho (by kernel_rfl) (fun wx hbx => ?_); rw [if_neg (Bool.eq_false_iff.1 (by kernel_rfl))]; exact known_val (by kernel_rfl) (by kernel_rfl)
      · refine fun ho => obl_det hF (by kernel_rfl) (by kernel_rfl) ho (by kernel_rfl) (fun wx hbx => ?_); rw [if_neg (Bool.eq_false_iff.1 (by kernel_rfl))]; exact known_val (by kernel_rfl) (by kernel_rfl)
      · refine fun ho => obl_det hF (by kernel_rfl) (by kernel_rfl) ho (by kernel_rfl) (fun wx hbx => ?_); rw [if_neg (Bool.eq_false_iff.1 (by kernel_rfl))]; exact known_val (by kernel_rfl) (by kernel_rfl)
      · refine fun ho => obl_det hF (by kernel_rfl) (by kernel_rfl) ho (by kernel_rfl) (fun wx hbx => ?_); rw [if_neg (Bool.eq_false_iff.1 (by kernel_rfl))]; exact known_val (by kernel_rfl) (by kernel_rfl)
      · refine fun ho => obl_det hF (by kernel_rfl) (by kernel_rfl) ho (by kernel_rfl) (fun wx hbx => ?_); rw [if_pos (by kernel_rfl)]; with_reducible exact grows_det (.bool true) (by kernel_rfl) (by kernel_rfl) (by kernel_rfl)
      · refine fun ho => obl_det hF (by kernel_rfl) (by kernel_rfl) ho (by kernel_rfl) (fun wx hbx => ?_); rw [if_pos (by kernel_rfl)]; with_reducible exact grows_det (.bool true) (by kernel_rfl) (by kernel_rfl) (by kernel_rfl)
    case hQ =>
      intro wy hby
      simp only [each]
      generalize hF : putAll _ _ _ = F
      have hd : F.defers = [] := by rw [← hF]; kernel_rfl
      have h8 : F.tmps.getD 4 undef = .bool true := by rw [← hF]; kernel_rfl
      clear hF
      go_step
      go_step
      go_step
      exact ret_of 4 rfl hd _ h8 ⟨rfl, below_next hW hby⟩
  · have HR := hid h; have HR' := hid h'
    have HQ2 : Hid (∀ w, (Op.equalIn 10000 41 (.agg (frm a)) (.agg (frm b))).run Try.prog w = .ok (decide (a = b)) w) := eq_frm41 a b hoa hob
    have HQ1 : Hid (∀ w, (Op.equalIn 10000 44 (.agg (sct a.sec)) (.agg (sct b.sec))).run Try.prog w = .ok (decide (a = b)) w) := fun w => by
      rw [eq_sct 44 64 Try.underlying44 _ _ HLA.out HLB.out (M.Fr.sec_lt a hoa) (M.Fr.sec_lt b hob)]
      congr 1
      rw [decide_eq_decide]
      exact ⟨M.sec_inj a b hoa hob h h', fun e => by rw [e]⟩
    clear hoa hob h h'
    go_enter Try.func24, Try.ntmps24
    go_upto_region 6 with (first | ((with_reducible show wpList _ _ _ (⟨some 2, _, _, _, _, _⟩ :: _) _ _); refine wpList_boxed 2 rfl rfl 41 _ rfl (frm a) rfl ?_; intro W2 N2 hNN2 hMN2 hr2 hb; have hW := below_next hW hb) | ((with_reducible show wpList _ _ _ (⟨some 3, _, _, _, _, _⟩ :: _) _ _); refine wpList_boxed 3 rfl rfl 41 _ rfl (frm b) rfl ?_; intro W3 N3 hNN3 hMN3 hr3 hb; have hW := below_next hW hb; have hr2 := below_blk hb hr2) | (go_at_call 36; refine (anchor3_calls _).mono ?_; rintro e w1 ⟨rfl, hb⟩; have hW := below_next hW hb; have hr2 := below_blk hb hr2; have hr3 := below_blk hb hr3) | (go_at_call 29; refine (new_calls _).mono ?_; rintro e w2 ⟨rfl, hb⟩; have hW := below_next hW hb; have hr2 := below_blk hb hr2; have hr3 := below_blk hb hr3) | ((with_reducible show wpList _ _ _ (⟨some 5, _, _, _, _, _⟩ :: _) _ _); refine wpList_local 5 rfl rfl rfl rfl 25 rfl _ rfl tbl rfl (by simp) ty25 tbl_all ?_; intro W5 N5 hNN5 hMN5 hr5 hb; have hW := below_next hW hb; have hr2 := below_blk hb hr2; have hr3 := below_blk hb hr3) | ((with_reducible show wpList _ _ _ (⟨some 14, _, _, _, _, _⟩ :: _) _ _); refine wpList_load_rowg 14 rfl rfl 25 _ rfl N5 rfl _ tbl (0, 0) _ hr5 Try.underlying25 rfl (by kernel_rfl) ?_) | ((with_reducible show wpList _ _ _ (⟨some 15, _, _, _, _, _⟩ :: _) _ _); refine wpList_load_rowg 15 rfl rfl 41 _ rfl N2 rfl _ (frm a) (0, 0) _ hr2 Try.underlying41 rfl (ty41 _ HA.out).size ?_) | ((with_reducible show wpList _ _ _ (⟨some 20, _, _, _, _, _⟩ :: _) _ _); refine wpList_load_rowg 20 rfl rfl 25 _ rfl N5 rfl _ tbl (0, 0) _ hr5 Try.underlying25 rfl (by kernel_rfl) ?_) | ((with_reducible show wpList _ _ _ (⟨some 21, _, _, _, _, _⟩ :: _) _ _); refine wpList_load_rowg 21 rfl rfl 41 _ rfl N3 rfl _ (frm b) (0, 0) _ hr3 Try.underlying41 rfl (ty41 _ HB.out).size ?_) | ((with_reducible show Calls _ 37 #[_, .agg (frm a)] _ _); refine (encode_right a HA.out HR.out _).mono ?_; rintro e w4 ⟨rfl, hb⟩; have hW := below_next hW hb; have hr2 := below_blk hb hr2; have hr3 := below_blk hb hr3; have hr5 := below_blk hb hr5) | ((with_reducible show wpList _ _ _ (⟨some 6, _, _, _, _, _⟩ :: _) _ _); refine wpList_local 6 rfl rfl rfl rfl 44 rfl _ rfl (sct a.sec) rfl (by simp) (ty44 _ HLA.out) (sct_all _) ?_; intro W6 N6 hNN6 hMN6 hr6 hb; have hW := below_next hW hb; have hr2 := below_blk hb hr2; have hr3 := below_blk hb hr3; have hr5 := below_blk hb hr5) | ((with_reducible show Calls _ 37 #[_, .agg (frm b)] _ _); refine (encode_right b HB.out HR'.out _).mono ?_; rintro e w7 ⟨rfl, hb⟩; have hW := below_next hW hb; have hr2 := below_blk hb hr2; have hr3 := below_blk hb hr3; have hr6 := below_blk hb hr6) | ((with_reducible show wpList _ _ _ (⟨some 8, _, _, _, _, _⟩ :: _) _ _); refine wpList_local 8 rfl rfl rfl rfl 44 rfl _ rfl (sct b.sec) rfl (by simp) (ty44 _ HLB.out) (sct_all _) ?_; intro W8 N8 hNN8 hMN8 hr8 hb; have hW := below_next hW hb; have hr2 := below_blk hb hr2; have hr3 := below_blk hb hr3; have hr6 := below_blk hb hr6))
    refine wp_region_frame (spec := [none, none, none, none, none, none, none, none, none, none, none, none, none, none, none, none]) (vals := [.int .i64 0, .bool false, .bool false, .int .i64 0, .bool false, .bool false, .bool false, .agg (sct a.sec), .agg (sct b.sec), .bool (decide (a = b)), .agg (frm a), .agg (frm b), .bool (decide (a = b)), .bool true, .bool true, .bool true]) (by kernel_rfl) (by kernel_rfl) (by kernel_rfl) (by kernel_rfl) ?hst (fun hF => ?hobl) ?hQ
    case hst => exact trivial
    case hobl =>
      refine ⟨?_, ?_, ?_, ?_, ?_, ?_, ?_, ?_, ?_, ?_, ?_, ?_, ?_, ?_, ?_, ?_, trivial⟩
      · refine fun ho => obl_det hF (by kernel_rfl) (by kernel_rfl) ho (by kernel_rfl) (fun wx hbx => ?_); rw [if_pos (by kernel_rfl)]; with_reducible exact grows_det (.int .i64 0) (by kernel_rfl) (by kernel_rfl) (by kernel_rfl)
      · refine fun ho => obl_det hF (by kernel_rfl) (by kernel_rfl) ho (by kernel_rfl) (fun wx hbx => ?_); rw [if_pos (by kernel_rfl)]; with_reducible exact grows_det (.bool false) (by kernel_rfl) (by kernel_rfl) (by kernel_rfl)
      · refine fun ho => obl_det hF (by kernel_rfl) (by kernel_rfl) ho (by kernel_rfl) (fun wx hbx => ?_); rw [if_pos (by kernel_rfl)]; with_reducible exact grows_det (.bool false) (by kernel_rfl) (by kernel_rfl) (by kernel_rfl)
      · refine fun ho => obl_det hF (by kernel_rfl) (by kernel_rfl) ho (by kernel_rfl) (fun wx hbx => ?_); rw [if_pos (by kernel_rfl)]; with_reducible exact grows_det (.int .i64 0) (by kernel_rfl) (by kernel_rfl) (by kernel_rfl)
      · refine fun ho => obl_det hF (by kernel_rfl) (by kernel_rfl) ho (by kernel_rfl) (fun wx hbx => ?_); rw [if_pos (by kernel_rfl)]; with_reducible exact grows_det (.bool false) (by kernel_rfl) (by kernel_rfl) (by kernel_rfl)
      · refine fun ho => obl_det hF (by kernel_rfl) (by kernel_rfl) ho (by kernel_rfl) (fun wx hbx => ?_); rw [if_pos (by kernel_rfl)]; with_reducible exact grows_det (.bool false) (by kernel_rfl) (by kernel_rfl) (by kernel_rfl)
      · refine fun ho => obl_det hF (by kernel_rfl) (by kernel_rfl) ho (by kernel_rfl) (fun wx hbx => ?_); rw [if_pos (by kernel_rfl)]; with_reducible exact grows_det (.bool false) (by kernel_rfl) (by kernel_rfl) (by kernel_rfl)
      · refine fun ho => obl_det hF (by kernel_rfl) (by kernel_rfl) ho (by kernel_rfl) (fun wx hbx => ?_); rw [if_pos (by kernel_rfl)]; with_reducible exact grows_row 44 (.tmp 6) (by kernel_rfl) N6 (by kernel_rfl) 44 (sct a.sec) (0, 0) _ (below_blk hbx hr6) Try.underlying44 (by kernel_rfl) (ty44 _ HLA.out).size (by kernel_rfl) (by kernel_rfl)
      · refine fun ho => obl_det hF (by kernel_rfl) (by kernel_rfl) ho (by kernel_rfl) (fun wx hbx => ?_); rw [if_pos (by kernel_rfl)]; with_reducible exact grows_row 44 (.tmp 8) (by kernel_rfl) N8 (by kernel_rfl) 44 (sct b.sec) (0, 0) _ (below_blk hbx hr8) Try.underlying44 (by kernel_rfl) (ty44 _ HLB.out).size (by kernel_rfl) (by kernel_rfl)
      · refine fun ho => obl_det hF (by kernel_rfl) (by kernel_rfl) ho (by kernel_rfl) (fun wx hbx => ?_); rw [if_pos (by kernel_rfl)]; with_reducible exact grows_det (.bool (decide (a = b))) (op_eql 44 44 (.tmp 32) (.tmp 33) (by kernel_rfl) (sct a.sec) (sct b.sec) (by kernel_rfl) (by kernel_rfl) grd44 _ HQ1.out) (by kernel_rfl) (by kernel_rfl)
      · refine fun ho => obl_det hF (by kernel_rfl) (by kernel_rfl) ho (by kernel_rfl) (fun wx hbx => ?_); rw [if_pos (by kernel_rfl)]; with_reducible exact grows_row 41 (.tmp 2) (by kernel_rfl) N2 (by kernel_rfl) 41 (frm a) (0, 0) _ (below_blk hbx hr2) Try.underlying41 (by kernel_rfl) (ty41 _ HA.out).size (by kernel_rfl) (by kernel_rfl)
      · refine fun ho => obl_det hF (by kernel_rfl) (by kernel_rfl) ho (by kernel_rfl) (fun wx hbx => ?_); rw [if_pos (by kernel_rfl)]; with_reducible exact grows_row 41 (.tmp 3) (by kernel_rfl) N3 (by kernel_rfl) 41 (frm b) (0, 0) _ (below_blk hbx hr3) Try.underlying41 (by kernel_rfl) (ty41 _ HB.out).size (by kernel_rfl) (by kernel_rfl)
      · refine fun ho => obl_det hF (by kernel_rfl) (by kernel_rfl) ho (by kernel_rfl) (fun wx hbx => ?_); rw [if_pos (by kernel_rfl)]; with_reducible exact grows_det (.bool (decide (a = b))) (op_eql 41 41 (.tmp 35) (.tmp 36) (by kernel_rfl) (frm a) (frm b) (by kernel_rfl) (by kernel_rfl) grd41 _ HQ2.out) (by kernel_rfl) (by kernel_rfl)
      · refine fun ho => obl_det hF (by kernel_rfl) (by kernel_rfl) ho (by kernel_rfl) (fun wx hbx => ?_); rw [if_pos (by kernel_rfl)]; with_reducible exact grows_det (.bool true) (op_same (t := 4) (u := 4) (.tmp 34) (.tmp 37) (by kernel_rfl) (decide (a = b)) (by kernel_rfl) (by kernel_rfl)) (by kernel_rfl) (by kernel_rfl)
      · refine fun ho => obl_det hF (by kernel_rfl) (by kernel_rfl) ho (by kernel_rfl) (fun wx hbx => ?_); rw [if_pos (by kernel_rfl)]; with_reducible exact grows_det (.bool true) (by kernel_rfl) (by kernel_rfl) (by kernel_rfl)
      · refine fun ho => obl_det hF (by kernel_rfl) (by kernel_rfl) ho (by kernel_rfl) (fun wx hbx => ?_); rw [if_pos (by kernel_rfl)]; with_reducible exact grows_det (.bool true) (by kernel_rfl) (by kernel_rfl) (by kernel_rfl)
    case hQ =>
      intro wy hby
      simp only [each]
      generalize hF : putAll _ _ _ = F
      have hd : F.defers = [] := by rw [← hF]; kernel_rfl
      have h8 : F.tmps.getD 4 undef = .bool true := by rw [← hF]; kernel_rfl
      clear hF
      go_step
      go_step
      go_step
      exact ret_of 4 rfl hd _ h8 ⟨rfl, below_next hW hby⟩
end Go.Proofs.Ytncooadaeifekaa
