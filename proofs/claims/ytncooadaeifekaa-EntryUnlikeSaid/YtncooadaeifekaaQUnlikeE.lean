/- EntryUnlike is proved: for any two entries the law returns true. No condition. -/
import Derived.Test.YtncooadaeifekaaPE5
/- Walk of the law EntryUnlike: it answers true for any two entries. -/
namespace Go.Proofs.Ytncooadaeifekaa
open Go.RowKit Go.BigFrame
theorem op_sameB {o : Oper} {F : Act} {w : World} {t u : TypeId} (x y : Operand) (ho : o.op = .binOp .eql t x y u) (b : Bool) (hx : F.eval x = .bool b) (hy : F.eval y = .bool b) (ht : Try.prog.underlying t = some .bool := by kernel_rfl) :
    (execOp F.eval o).run Try.prog w = .ok (.value (.bool true)) w := by
  unfold execOp
  simp only [ho, hx, hy]
  cases b <;> simp [eqGuard, binOp, run_equal_bool _ t _ _ ht]
theorem M.En.bod_ok (e : M.En) (h : e.ok) : e.bod.1.length = 44 ∧ ∀ c ∈ e.bod.1, c < 256 := by
  unfold M.En.bod
  split
  · exact ⟨e.body_length h, e.body_lt h⟩
  · exact ⟨by simp, by simp⟩
set_option maxRecDepth 100000 in
set_option maxHeartbeats 1000000 in
theorem unlikeE_walk (w : World) (a : M.En) (hoa : a.ok) (b : M.En) (hob : b.ok) :
    Calls Try.prog 18 #[.agg (ent a), .agg (ent b)] w fun e w' => e = .returned (.bool true) ∧ Below w.heap.size w w' := by
  have hla := a.bod_ok hoa
  have hlb := b.bod_ok hob
  obtain ⟨A, hA⟩ : ∃ V, a.bod = V := ⟨_, rfl⟩
  obtain ⟨B, hB⟩ : ∃ V, b.bod = V := ⟨_, rfl⟩
  rw [hA] at hla
  rw [hB] at hlb
  have HA := hid hoa
  have HB := hid hob
  have HLA := hid hla.1
  have HLB := hid hlb.1
  have HLLA := hid hla.2
  have HLLB := hid hlb.2
  have HAA := hid hA
  have HBB := hid hB
  have hW := Below.refl w.heap.size w
  unfold M.En.bod at hA hB
  by_cases ra : a.right = true
  · rw [if_pos ra] at hA
    have ta : (A.2 != 0) = false := by rw [← hA]; rfl
    by_cases rb : b.right = true
    · rw [if_pos rb] at hB
      have tb : (B.2 != 0) = false := by rw [← hB]; rfl
      by_cases hk : a.kind = b.kind
      · have tk : (a.kind != b.kind) = false := by rw [bne_eq_false_iff_eq]; exact hk
        have hinj : decide (A.1 = B.1) = decide (a = b) := by
          rw [← hA, ← hB]
          by_cases h : a = b
          · rw [h]; simp
          · rw [decide_eq_false h, decide_eq_false]
            exact fun e => h (M.body_inj a b hoa hob ra rb hk e)
        have HQ1 : Hid (∀ w, (Op.equalIn 10000 39 (.agg (sct A.1)) (.agg (sct B.1))).run Try.prog w = .ok (decide (a = b)) w) := fun w => by
          rw [eq_sct 39 44 Try.underlying39 _ _ HLA.out HLB.out HLLA.out HLLB.out w, hinj]
        have HQ2 : Hid (∀ w, (Op.equalIn 10000 82 (.agg (ent a)) (.agg (ent b))).run Try.prog w = .ok (decide (a = b)) w) := fun w => eq_ent82 a b HA.out HB.out w
        clear hoa hob hla hlb hA hB ra rb hk hinj
        go_enter Try.func18, Try.ntmps18
        go_upto_region 7 with (first | ((with_reducible show wpList _ _ _ (⟨some 2, _, _, _, _, _⟩ :: _) _ _); refine wpList_boxed 2 rfl rfl 82 _ rfl (ent a) rfl ?_; intro W2 N2 hNN2 hMN2 hr2 hb; have sW2 := hb.size; have hW := below_next hW hb) | ((with_reducible show wpList _ _ _ (⟨some 3, _, _, _, _, _⟩ :: _) _ _); refine wpList_boxed 3 rfl rfl 82 _ rfl (ent b) rfl ?_; intro W3 N3 hNN3 hMN3 hr3 hb; have sW3 := hb.size; have hW := below_next hW hb; have hr2 := below_blk hb hr2) | (go_at_call 60; refine (anchor4_calls _).mono ?_; rintro e w1 ⟨rfl, hb⟩; have sw1 := hb.size; have hW := below_next hW hb; have hr2 := below_blk hb hr2; have hr3 := below_blk hb hr3) | ((with_reducible show wpList _ _ _ (⟨some 12, _, _, _, _, _⟩ :: _) _ _); refine wpList_load_rowg 12 rfl rfl 82 _ rfl N2 rfl _ (ent a) (0, 0) _ hr2 Try.underlying82 rfl (ty82 _ HA.out).size ?_) | ((with_reducible show wpList _ _ _ (⟨some 17, _, _, _, _, _⟩ :: _) _ _); refine wpList_load_rowg 17 rfl rfl 82 _ rfl N3 rfl _ (ent b) (0, 0) _ hr3 Try.underlying82 rfl (ty82 _ HB.out).size ?_) | ((with_reducible show Calls _ 61 #[.agg (ent a)] _ _); refine (body_calls a HA.out _).mono ?_; rintro r w4 ⟨rfl, hb⟩; rw [HAA.out]; have sw4 := hb.size; have hW := below_next hW hb; have hr2 := below_blk hb hr2; have hr3 := below_blk hb hr3) | ((with_reducible show wpList _ _ _ (⟨some 5, _, _, _, _, _⟩ :: _) _ _); refine wpList_local 5 rfl rfl rfl rfl 39 rfl _ rfl (sct A.1) rfl (of_decide_eq_true (by kernel_rfl)) (ty39 _ HLA.out) (sct_all _) ?_; intro W5 N5 hNN5 hMN5 hr5 hb; have sW5 := hb.size; have hW := below_next hW hb; have hr2 := below_blk hb hr2; have hr3 := below_blk hb hr3) | ((with_reducible show Calls _ 61 #[.agg (ent b)] _ _); refine (body_calls b HB.out _).mono ?_; rintro r w6 ⟨rfl, hb⟩; rw [HBB.out]; have sw6 := hb.size; have hW := below_next hW hb; have hr2 := below_blk hb hr2; have hr3 := below_blk hb hr3; have hr5 := below_blk hb hr5) | ((with_reducible show wpList _ _ _ (⟨some 7, _, _, _, _, _⟩ :: _) _ _); refine wpList_local 7 rfl rfl rfl rfl 39 rfl _ rfl (sct B.1) rfl (of_decide_eq_true (by kernel_rfl)) (ty39 _ HLB.out) (sct_all _) ?_; intro W7 N7 hNN7 hMN7 hr7 hb; have sW7 := hb.size; have hW := below_next hW hb; have hr2 := below_blk hb hr2; have hr3 := below_blk hb hr3; have hr5 := below_blk hb hr5; have ca := cell_of_row _ N2 0 _ _ _ hr2; rw [ent0] at ca; have cb := cell_of_row _ N3 0 _ _ _ hr3; rw [ent0] at cb))
        refine wp_region_frame (spec := [none, none, none, none, none, none, none, none]) (vals := [.agg (sct A.1), .agg (sct B.1), .bool (decide (a = b)), .agg (ent a), .agg (ent b), .bool (decide (a = b)), .bool true, .bool true]) (by kernel_rfl) (by kernel_rfl) (by kernel_rfl) (by kernel_rfl) ?hst (fun hF => ?hobl) ?hQ
        case hst => exact trivial
        case hobl =>
          refine ⟨?_, ?_, ?_, ?_, ?_, ?_, ?_, ?_, trivial⟩
          · refine fun ho => obl_det hF (by kernel_rfl) (by kernel_rfl) ho (by kernel_rfl) (fun wx hbx => ?_); rw [if_pos (by kernel_rfl)]; with_reducible exact grows_row 39 (.tmp 5) (by kernel_rfl) N5 (by kernel_rfl) 39 (sct A.1) (0, 0) _ (below_blk hbx hr5) Try.underlying39 (by kernel_rfl) (ty39 _ HLA.out).size (by kernel_rfl) (by kernel_rfl)
          · refine fun ho => obl_det hF (by kernel_rfl) (by kernel_rfl) ho (by kernel_rfl) (fun wx hbx => ?_); rw [if_pos (by kernel_rfl)]; with_reducible exact grows_row 39 (.tmp 7) (by kernel_rfl) N7 (by kernel_rfl) 39 (sct B.1) (0, 0) _ (below_blk hbx hr7) Try.underlying39 (by kernel_rfl) (ty39 _ HLB.out).size (by kernel_rfl) (by kernel_rfl)
          · refine fun ho => obl_det hF (by kernel_rfl) (by kernel_rfl) ho (by kernel_rfl) (fun wx hbx => ?_); rw [if_pos (by kernel_rfl)]; with_reducible exact grows_det (.bool (decide (a = b))) (op_eql 39 39 (.tmp 34) (.tmp 35) (by kernel_rfl) (sct A.1) (sct B.1) (by kernel_rfl) (by kernel_rfl) grd39 _ HQ1.out) (by kernel_rfl) (by kernel_rfl)
          · refine fun ho => obl_det hF (by kernel_rfl) (by kernel_rfl) ho (by kernel_rfl) (fun wx hbx => ?_); rw [if_pos (by kernel_rfl)]; with_reducible exact grows_row 82 (.tmp 2) (by kernel_rfl) N2 (by kernel_rfl) 82 (ent a) (0, 0) _ (below_blk hbx hr2) Try.underlying82 (by kernel_rfl) (ty82 _ HA.out).size (by kernel_rfl) (by kernel_rfl)
          · refine fun ho => obl_det hF (by kernel_rfl) (by kernel_rfl) ho (by kernel_rfl) (fun wx hbx => ?_); rw [if_pos (by kernel_rfl)]; with_reducible exact grows_row 82 (.tmp 3) (by kernel_rfl) N3 (by kernel_rfl) 82 (ent b) (0, 0) _ (below_blk hbx hr3) Try.underlying82 (by kernel_rfl) (ty82 _ HB.out).size (by kernel_rfl) (by kernel_rfl)
          · refine fun ho => obl_det hF (by kernel_rfl) (by kernel_rfl) ho (by kernel_rfl) (fun wx hbx => ?_); rw [if_pos (by kernel_rfl)]; with_reducible exact grows_det (.bool (decide (a = b))) (op_eql 82 82 (.tmp 37) (.tmp 38) (by kernel_rfl) (ent a) (ent b) (by kernel_rfl) (by kernel_rfl) grd82 _ HQ2.out) (by kernel_rfl) (by kernel_rfl)
          · refine fun ho => obl_det hF (by kernel_rfl) (by kernel_rfl) ho (by kernel_rfl) (fun wx hbx => ?_); rw [if_pos (by kernel_rfl)]; with_reducible exact grows_det (.bool true) (op_sameB (t := 4) (u := 4) (.tmp 36) (.tmp 39) (by kernel_rfl) (decide (a = b)) (by kernel_rfl) (by kernel_rfl)) (by kernel_rfl) (by kernel_rfl)
          · refine fun ho => obl_det hF (by kernel_rfl) (by kernel_rfl) ho (by kernel_rfl) (fun wx hbx => ?_); rw [if_pos (by kernel_rfl)]; with_reducible exact grows_det (.bool true) (by kernel_rfl) (by kernel_rfl) (by kernel_rfl)
        case hQ =>
          intro wy hby
          simp only [each]
          generalize hF : putAll _ _ _ = F
          have hd : F.defers = [] := by rw [← hF]; kernel_rfl
          have h8 : F.tmps.getD 4 undef = .bool true := by rw [← hF]; kernel_rfl
          clear hF
          go_step
          go_step
          go_step
          exact ret_of 4 rfl hd _ h8 ⟨rfl, below_next hW hby⟩
      · have tk : (a.kind != b.kind) = true := by rw [bne_iff_ne]; exact hk
        clear hoa hob hla hlb hA hB ra rb hk
        go_enter Try.func18, Try.ntmps18
        go_wp2_with (first | ((with_reducible show wpList _ _ _ (⟨some 2, _, _, _, _, _⟩ :: _) _ _); refine wpList_boxed 2 rfl rfl 82 _ rfl (ent a) rfl ?_; intro W2 N2 hNN2 hMN2 hr2 hb; have sW2 := hb.size; have hW := below_next hW hb) | ((with_reducible show wpList _ _ _ (⟨some 3, _, _, _, _, _⟩ :: _) _ _); refine wpList_boxed 3 rfl rfl 82 _ rfl (ent b) rfl ?_; intro W3 N3 hNN3 hMN3 hr3 hb; have sW3 := hb.size; have hW := below_next hW hb; have hr2 := below_blk hb hr2) | (go_at_call 60; refine (anchor4_calls _).mono ?_; rintro e w1 ⟨rfl, hb⟩; have sw1 := hb.size; have hW := below_next hW hb; have hr2 := below_blk hb hr2; have hr3 := below_blk hb hr3) | ((with_reducible show wpList _ _ _ (⟨some 12, _, _, _, _, _⟩ :: _) _ _); refine wpList_load_rowg 12 rfl rfl 82 _ rfl N2 rfl _ (ent a) (0, 0) _ hr2 Try.underlying82 rfl (ty82 _ HA.out).size ?_) | ((with_reducible show wpList _ _ _ (⟨some 17, _, _, _, _, _⟩ :: _) _ _); refine wpList_load_rowg 17 rfl rfl 82 _ rfl N3 rfl _ (ent b) (0, 0) _ hr3 Try.underlying82 rfl (ty82 _ HB.out).size ?_) | ((with_reducible show Calls _ 61 #[.agg (ent a)] _ _); refine (body_calls a HA.out _).mono ?_; rintro r w4 ⟨rfl, hb⟩; rw [HAA.out]; have sw4 := hb.size; have hW := below_next hW hb; have hr2 := below_blk hb hr2; have hr3 := below_blk hb hr3) | ((with_reducible show wpList _ _ _ (⟨some 5, _, _, _, _, _⟩ :: _) _ _); refine wpList_local 5 rfl rfl rfl rfl 39 rfl _ rfl (sct A.1) rfl (of_decide_eq_true (by kernel_rfl)) (ty39 _ HLA.out) (sct_all _) ?_; intro W5 N5 hNN5 hMN5 hr5 hb; have sW5 := hb.size; have hW := below_next hW hb; have hr2 := below_blk hb hr2; have hr3 := below_blk hb hr3) | ((with_reducible show Calls _ 61 #[.agg (ent b)] _ _); refine (body_calls b HB.out _).mono ?_; rintro r w6 ⟨rfl, hb⟩; rw [HBB.out]; have sw6 := hb.size; have hW := below_next hW hb; have hr2 := below_blk hb hr2; have hr3 := below_blk hb hr3; have hr5 := below_blk hb hr5) | ((with_reducible show wpList _ _ _ (⟨some 7, _, _, _, _, _⟩ :: _) _ _); refine wpList_local 7 rfl rfl rfl rfl 39 rfl _ rfl (sct B.1) rfl (of_decide_eq_true (by kernel_rfl)) (ty39 _ HLB.out) (sct_all _) ?_; intro W7 N7 hNN7 hMN7 hr7 hb; have sW7 := hb.size; have hW := below_next hW hb; have hr2 := below_blk hb hr2; have hr3 := below_blk hb hr3; have hr5 := below_blk hb hr5; have ca := cell_of_row _ N2 0 _ _ _ hr2; rw [ent0] at ca; have cb := cell_of_row _ N3 0 _ _ _ hr3; rw [ent0] at cb))
        go_ret
        exact ⟨rfl, hW⟩
    · rw [if_neg rb] at hB
      have tb : (B.2 != 0) = true := by rw [← hB]; rfl
      clear hoa hob hla hlb hA hB ra rb
      go_enter Try.func18, Try.ntmps18
      go_wp2_with (first | ((with_reducible show wpList _ _ _ (⟨some 2, _, _, _, _, _⟩ :: _) _ _); refine wpList_boxed 2 rfl rfl 82 _ rfl (ent a) rfl ?_; intro W2 N2 hNN2 hMN2 hr2 hb; have sW2 := hb.size; have hW := below_next hW hb) | ((with_reducible show wpList _ _ _ (⟨some 3, _, _, _, _, _⟩ :: _) _ _); refine wpList_boxed 3 rfl rfl 82 _ rfl (ent b) rfl ?_; intro W3 N3 hNN3 hMN3 hr3 hb; have sW3 := hb.size; have hW := below_next hW hb; have hr2 := below_blk hb hr2) | (go_at_call 60; refine (anchor4_calls _).mono ?_; rintro e w1 ⟨rfl, hb⟩; have sw1 := hb.size; have hW := below_next hW hb; have hr2 := below_blk hb hr2; have hr3 := below_blk hb hr3) | ((with_reducible show wpList _ _ _ (⟨some 12, _, _, _, _, _⟩ :: _) _ _); refine wpList_load_rowg 12 rfl rfl 82 _ rfl N2 rfl _ (ent a) (0, 0) _ hr2 Try.underlying82 rfl (ty82 _ HA.out).size ?_) | ((with_reducible show wpList _ _ _ (⟨some 17, _, _, _, _, _⟩ :: _) _ _); refine wpList_load_rowg 17 rfl rfl 82 _ rfl N3 rfl _ (ent b) (0, 0) _ hr3 Try.underlying82 rfl (ty82 _ HB.out).size ?_) | ((with_reducible show Calls _ 61 #[.agg (ent a)] _ _); refine (body_calls a HA.out _).mono ?_; rintro r w4 ⟨rfl, hb⟩; rw [HAA.out]; have sw4 := hb.size; have hW := below_next hW hb; have hr2 := below_blk hb hr2; have hr3 := below_blk hb hr3) | ((with_reducible show wpList _ _ _ (⟨some 5, _, _, _, _, _⟩ :: _) _ _); refine wpList_local 5 rfl rfl rfl rfl 39 rfl _ rfl (sct A.1) rfl (of_decide_eq_true (by kernel_rfl)) (ty39 _ HLA.out) (sct_all _) ?_; intro W5 N5 hNN5 hMN5 hr5 hb; have sW5 := hb.size; have hW := below_next hW hb; have hr2 := below_blk hb hr2; have hr3 := below_blk hb hr3) | ((with_reducible show Calls _ 61 #[.agg (ent b)] _ _); refine (body_calls b HB.out _).mono ?_; rintro r w6 ⟨rfl, hb⟩; rw [HBB.out]; have sw6 := hb.size; have hW := below_next hW hb; have hr2 := below_blk hb hr2; have hr3 := below_blk hb hr3; have hr5 := below_blk hb hr5) | ((with_reducible show wpList _ _ _ (⟨some 7, _, _, _, _, _⟩ :: _) _ _); refine wpList_local 7 rfl rfl rfl rfl 39 rfl _ rfl (sct B.1) rfl (of_decide_eq_true (by kernel_rfl)) (ty39 _ HLB.out) (sct_all _) ?_; intro W7 N7 hNN7 hMN7 hr7 hb; have sW7 := hb.size; have hW := below_next hW hb; have hr2 := below_blk hb hr2; have hr3 := below_blk hb hr3; have hr5 := below_blk hb hr5; have ca := cell_of_row _ N2 0 _ _ _ hr2; rw [ent0] at ca; have cb := cell_of_row _ N3 0 _ _ _ hr3; rw [ent0] at cb))
      go_ret
      exact ⟨rfl, hW⟩
  · rw [if_neg ra] at hA
    have ta : (A.2 != 0) = true := by rw [← hA]; rfl
    clear hoa hob hla hlb hA hB ra
    go_enter Try.func18, Try.ntmps18
    go_wp2_with (first | ((with_reducible show wpList _ _ _ (⟨some 2, _, _, _, _, _⟩ :: _) _ _); refine wpList_boxed 2 rfl rfl 82 _ rfl (ent a) rfl ?_; intro W2 N2 hNN2 hMN2 hr2 hb; have sW2 := hb.size; have hW := below_next hW hb) | ((with_reducible show wpList _ _ _ (⟨some 3, _, _, _, _, _⟩ :: _) _ _); refine wpList_boxed 3 rfl rfl 82 _ rfl (ent b) rfl ?_; intro W3 N3 hNN3 hMN3 hr3 hb; have sW3 := hb.size; have hW := below_next hW hb; have hr2 := below_blk hb hr2) | (go_at_call 60; refine (anchor4_calls _).mono ?_; rintro e w1 ⟨rfl, hb⟩; have sw1 := hb.size; have hW := below_next hW hb; have hr2 := below_blk hb hr2; have hr3 := below_blk hb hr3) | ((with_reducible show wpList _ _ _ (⟨some 12, _, _, _, _, _⟩ :: _) _ _); refine wpList_load_rowg 12 rfl rfl 82 _ rfl N2 rfl _ (ent a) (0, 0) _ hr2 Try.underlying82 rfl (ty82 _ HA.out).size ?_) | ((with_reducible show wpList _ _ _ (⟨some 17, _, _, _, _, _⟩ :: _) _ _); refine wpList_load_rowg 17 rfl rfl 82 _ rfl N3 rfl _ (ent b) (0, 0) _ hr3 Try.underlying82 rfl (ty82 _ HB.out).size ?_) | ((with_reducible show Calls _ 61 #[.agg (ent a)] _ _); refine (body_calls a HA.out _).mono ?_; rintro r w4 ⟨rfl, hb⟩; rw [HAA.out]; have sw4 := hb.size; have hW := below_next hW hb; have hr2 := below_blk hb hr2; have hr3 := below_blk hb hr3) | ((with_reducible show wpList _ _ _ (⟨some 5, _, _, _, _, _⟩ :: _) _ _); refine wpList_local 5 rfl rfl rfl rfl 39 rfl _ rfl (sct A.1) rfl (of_decide_eq_true (by kernel_rfl)) (ty39 _ HLA.out) (sct_all _) ?_; intro W5 N5 hNN5 hMN5 hr5 hb; have sW5 := hb.size; have hW := below_next hW hb; have hr2 := below_blk hb hr2; have hr3 := below_blk hb hr3) | ((with_reducible show Calls _ 61 #[.agg (ent b)] _ _); refine (body_calls b HB.out _).mono ?_; rintro r w6 ⟨rfl, hb⟩; rw [HBB.out]; have sw6 := hb.size; have hW := below_next hW hb; have hr2 := below_blk hb hr2; have hr3 := below_blk hb hr3; have hr5 := below_blk hb hr5) | ((with_reducible show wpList _ _ _ (⟨some 7, _, _, _, _, _⟩ :: _) _ _); refine wpList_local 7 rfl rfl rfl rfl 39 rfl _ rfl (sct B.1) rfl (of_decide_eq_true (by kernel_rfl)) (ty39 _ HLB.out) (sct_all _) ?_; intro W7 N7 hNN7 hMN7 hr7 hb; have sW7 := hb.size; have hW := below_next hW hb; have hr2 := below_blk hb hr2; have hr3 := below_blk hb hr3; have hr5 := below_blk hb hr5; have ca := cell_of_row _ N2 0 _ _ _ hr2; rw [ent0] at ca; have cb := cell_of_row _ N3 0 _ _ _ hr3; rw [ent0] at cb))
    go_ret
    exact ⟨rfl, hW⟩
end Go.Proofs.Ytncooadaeifekaa

/- EntryUnlike is proved: for any two entries the law returns true. No condition. -/
namespace Go.Proofs.Ytncooadaeifekaa.entryUnlike
open Go.ChangeShapes Go.WideShapes Go.ChangeAt Go.RowKit
set_option maxRecDepth 100000 in
theorem lifted (os : Os) (started : os.Started) (H : Type) (enc : TypeId × Value → H) :
    ReturnsInHanded {} Try.checked os 18 .any (Rows.entryUnlikeSpec.pre6 enc Try.prog Try.f18 Rows.entryUnlikeRow.domain false) (Rows.entryUnlikeSpec.post enc Try.prog Try.f18 false true false false) := by
  refine returnsInHanded_of_change (C := Try.checked) own started (by kernel_rfl) Try.func18
    (ChangeSpec.witness6 (enc := enc) (C := Try.checked) false ⟨#[], #[.agg (Array.replicate 6 (.int .i64 0) ++ Array.replicate 32 (.int .u8 0)), .agg (Array.replicate 6 (.int .i64 0) ++ Array.replicate 32 (.int .u8 0))], []⟩ 8 (by kernel_rfl) (by kernel_rfl) (by kernel_rfl) (by kernel_rfl)) ?_
  intro W base args ds gs before hval0 hW hcnd _
  have hval : ∀ (j : Nat) t v, Try.f18.params[j]? = some t → args[j]? = some v → Value.okWide Try.prog W .any base t v := hval0
  have hW' := hW
  obtain ⟨p, q, hA0, hV, rfl, hfz, hnd⟩ := hW
  have hA : DataW.TrodAll enc Try.prog W 0 (fun _ => true) true Try.f18.params.toList args.toList ds p := hA0
  rw [Try.params18] at hA hval
  obtain ⟨v0, vs0, d0, ds0, p0, q0, hargs, rfl, rfl, h0, r0⟩ := trodAll_cons hA
  obtain ⟨v1, vs1, d1, ds1, p1, q1, rfl, rfl, rfl, h1, r1⟩ := trodAll_cons r0
  obtain ⟨rfl, rfl, rfl⟩ := trodAll_nil r1
  obtain rfl : args = #[v0, v1] := by cases args; simp_all
  obtain ⟨rfl, rfl⟩ := trodVars_none hV
  have k0 := h0
  have lt0 := trod_fin k0
  obtain ⟨x0, rfl, n0⟩ := open_entry (hval 0 82 v0 rfl rfl) h0
  have k1 := h1
  have lt1 := trod_fin k1
  obtain ⟨x1, rfl, n1⟩ := open_entry (hval 1 82 v1 rfl rfl) h1
  clear hA0 hval0
  refine (unlikeE_walk W x0 n0 x1 n1).mono fun e W' ⟨he, bel⟩ => ?_
  subst he
  exact ⟨_, rfl, _, _, _, [], _, [], hW', trodAll_mk1 (shut_bool Try.underlying4 _), (trodAll_cons_mk (Below.trod laidOut (by kernel_rfl) (of_decide_eq_true (by kernel_rfl)) k0 bel lt0) (trodAll_cons_mk (Below.trod laidOut (by kernel_rfl) (of_decide_eq_true (by kernel_rfl)) k1 bel lt1) trodAll_mk0)), rfl, bel.frame _, fun h => by cases h⟩
theorem facts : joinedFacts Try.prog 18 Try.f18 Rows.entryUnlikeSpec Rows.entryUnlikeRow = true := by
  unfold joinedFacts
  rw [may_enter, lifts_final, make_is]
  kernel_rfl
theorem over : Rows.entryUnlikeRow.holds Try.pinned (OpenSpec.ofChange Rows.entryUnlikeSpec) :=
  OpenClaim.holds_of_wide 18 Try.f18 rfl rfl rfl rfl rfl rfl rfl ⟨rfl, rfl, rfl, rfl, rfl⟩ rfl rfl rfl rfl rfl (by kernel_rfl) Try.func18 facts
    (of_decide_eq_true (by kernel_rfl)) (by unfold Func.isWrapper; first | (rw [if_pos (by decide +kernel)]; kernel_rfl) | (rw [if_neg (by decide +kernel)]; exact ⟨rfl, rfl⟩))
    (fun os started H enc _ => lifted os started H enc)
theorem proved : Rows.EntryUnlikeSaid := over
#print axioms proved
end Go.Proofs.Ytncooadaeifekaa.entryUnlike
