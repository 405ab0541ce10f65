/- Walk of the reference frame's Right. -/
import Derived.Test.YtncooadaeifekaaC10
import Derived.Test.YtncooadaeifekaaC11
namespace Go.Proofs.Ytncooadaeifekaa
open Go.RowKit
set_option maxRecDepth 100000 in
set_option maxHeartbeats 4000000 in
theorem rright_calls (f : M.Fr) (w : World) :
    Calls Try.prog 39 #[.agg (frm f)] w fun e w' => e = .returned (.bool f.right) ∧ Below w.heap.size w w' := by
  by_cases p0 : 1 ≤ f.kind
  · skip
    by_cases p1 : f.kind ≤ 5
    · skip
      by_cases p2 : 0 ≤ f.zone
      · skip
        by_cases p3 : f.zone ≤ 65535
        · skip
          by_cases p4 : 0 ≤ f.off
          · skip
            by_cases p5 : f.off ≤ 65535
            · skip
              by_cases p6 : 1 ≤ f.epoch
              · skip
                by_cases p7 : f.epoch ≤ 4294967295
                · skip
                  by_cases p8 : 0 ≤ f.seq
                  · skip
                    by_cases p9 : f.seq ≤ 281474976710655
                    · skip
                      have hr : f.right = true := by
                        unfold M.Fr.right; rw [decide_eq_true_iff]; exact ⟨⟨p0, p1⟩, ⟨p2, p3⟩, ⟨p4, p5⟩, ⟨p6, p7⟩, p8, p9⟩
                      rw [hr]
                      have q0 := decide_eq_true p0
                      have q1 := decide_eq_true p1
                      have q2 := decide_eq_true p2
                      have q3 := decide_eq_true p3
                      have q4 := decide_eq_true p4
                      have q5 := decide_eq_true p5
                      have q6 := decide_eq_true p6
                      have q7 := decide_eq_true p7
                      have q8 := decide_eq_true p8
                      have q9 := decide_eq_true p9
                      clear hr p0 p1 p2 p3 p4 p5 p6 p7 p8 p9
                      go_enter Try.func39, Try.ntmps39
                      go_wp2_with (first | ((with_reducible show wpList _ _ _ (⟨some 1, _, _, _, _, _⟩ :: _) _ _); refine wpList_boxed 1 rfl rfl 42 _ rfl (frm f) rfl ?_; intro W1 N1 hN1 hM1 hr1 hb1; have c0 := cell_of_row _ N1 0 _ _ _ hr1; rw [frm0] at c0; have c1 := cell_of_row _ N1 1 _ _ _ hr1; rw [frm1] at c1; have c2 := cell_of_row _ N1 2 _ _ _ hr1; rw [frm2] at c2; have c3 := cell_of_row _ N1 3 _ _ _ hr1; rw [frm3] at c3; have c4 := cell_of_row _ N1 4 _ _ _ hr1; rw [frm4] at c4; clear hr1))
                      go_ret
                      exact ⟨rfl, hb1⟩
                    · skip
                      have hr : f.right = false := by
                        unfold M.Fr.right; rw [decide_eq_false_iff_not]; intro h; exact p9 h.2.2.2.2.2
                      rw [hr]
                      have q0 := decide_eq_true p0
                      have q1 := decide_eq_true p1
                      have q2 := decide_eq_true p2
                      have q3 := decide_eq_true p3
                      have q4 := decide_eq_true p4
                      have q5 := decide_eq_true p5
                      have q6 := decide_eq_true p6
                      have q7 := decide_eq_true p7
                      have q8 := decide_eq_true p8
                      have q9 := decide_eq_false p9
                      clear hr p0 p1 p2 p3 p4 p5 p6 p7 p8 p9
                      go_enter Try.func39, Try.ntmps39
                      go_wp2_with (first | ((with_reducible show wpList _ _ _ (⟨some 1, _, _, _, _, _⟩ :: _) _ _); refine wpList_boxed 1 rfl rfl 42 _ rfl (frm f) rfl ?_; intro W1 N1 hN1 hM1 hr1 hb1; have c0 := cell_of_row _ N1 0 _ _ _ hr1; rw [frm0] at c0; have c1 := cell_of_row _ N1 1 _ _ _ hr1; rw [frm1] at c1; have c2 := cell_of_row _ N1 2 _ _ _ hr1; rw [frm2] at c2; have c3 := cell_of_row _ N1 3 _ _ _ hr1; rw [frm3] at c3; have c4 := cell_of_row _ N1 4 _ _ _ hr1; rw [frm4] at c4; clear hr1))
                      go_ret
                      exact ⟨rfl, hb1⟩
                  · skip
                    have hr : f.right = false := by
                      unfold M.Fr.right; rw [decide_eq_false_iff_not]; intro h; exact p8 h.2.2.2.2.1
                    rw [hr]
                    have q0 := decide_eq_true p0
                    have q1 := decide_eq_true p1
                    have q2 := decide_eq_true p2
                    have q3 := decide_eq_true p3
                    have q4 := decide_eq_true p4
                    have q5 := decide_eq_true p5
                    have q6 := decide_eq_true p6
                    have q7 := decide_eq_true p7
                    have q8 := decide_eq_false p8
                    clear hr p0 p1 p2 p3 p4 p5 p6 p7 p8
                    go_enter Try.func39, Try.ntmps39
                    go_wp2_with (first | ((with_reducible show wpList _ _ _ (⟨some 1, _, _, _, _, _⟩ :: _) _ _); refine wpList_boxed 1 rfl rfl 42 _ rfl (frm f) rfl ?_; intro W1 N1 hN1 hM1 hr1 hb1; have c0 := cell_of_row _ N1 0 _ _ _ hr1; rw [frm0] at c0; have c1 := cell_of_row _ N1 1 _ _ _ hr1; rw [frm1] at c1; have c2 := cell_of_row _ N1 2 _ _ _ hr1; rw [frm2] at c2; have c3 := cell_of_row _ N1 3 _ _ _ hr1; rw [frm3] at c3; have c4 := cell_of_row _ N1 4 _ _ _ hr1; rw [frm4] at c4; clear hr1))
                    go_ret
                    exact ⟨rfl, hb1⟩
                · skip
                  have hr : f.right = false := by
                    unfold M.Fr.right; rw [decide_eq_false_iff_not]; intro h; exact p7 h.2.2.2.1.2
                  rw [hr]
                  have q0 := decide_eq_true p0
                  have q1 := decide_eq_true p1
                  have q2 := decide_eq_true p2
                  have q3 := decide_eq_true p3
                  have q4 := decide_eq_true p4
                  have q5 := decide_eq_true p5
                  have q6 := decide_eq_true p6
                  have q7 := decide_eq_false p7
                  clear hr p0 p1 p2 p3 p4 p5 p6 p7
                  go_enter Try.func39, Try.ntmps39
                  go_wp2_with (first | ((with_reducible show wpList _ _ _ (⟨some 1, _, _, _, _, _⟩ :: _) _ _); refine wpList_boxed 1 rfl rfl 42 _ rfl (frm f) rfl ?_; intro W1 N1 hN1 hM1 hr1 hb1; have c0 := cell_of_row _ N1 0 _ _ _ hr1; rw [frm0] at c0; have c1 := cell_of_row _ N1 1 _ _ _ hr1; rw [frm1] at c1; have c2 := cell_of_row _ N1 2 _ _ _ hr1; rw [frm2] at c2; have c3 := cell_of_row _ N1 3 _ _ _ hr1; rw [frm3] at c3; have c4 := cell_of_row _ N1 4 _ _ _ hr1; rw [frm4] at c4; clear hr1))
                  go_ret
                  exact ⟨rfl, hb1⟩
              · skip
                have hr : f.right = false := by
                  unfold M.Fr.right; rw [decide_eq_false_iff_not]; intro h; exact p6 h.2.2.2.1.1
                rw [hr]
                have q0 := decide_eq_true p0
                have q1 := decide_eq_true p1
                have q2 := decide_eq_true p2
                have q3 := decide_eq_true p3
                have q4 := decide_eq_true p4
                have q5 := decide_eq_true p5
                have q6 := decide_eq_false p6
                clear hr p0 p1 p2 p3 p4 p5 p6
                go_enter Try.func39, Try.ntmps39
                go_wp2_with (first | ((with_reducible show wpList _ _ _ (⟨some 1, _, _, _, _, _⟩ :: _) _ _); refine wpList_boxed 1 rfl rfl 42 _ rfl (frm f) rfl ?_; intro W1 N1 hN1 hM1 hr1 hb1; have c0 := cell_of_row _ N1 0 _ _ _ hr1; rw [frm0] at c0; have c1 := cell_of_row _ N1 1 _ _ _ hr1; rw [frm1] at c1; have c2 := cell_of_row _ N1 2 _ _ _ hr1; rw [frm2] at c2; have c3 := cell_of_row _ N1 3 _ _ _ hr1; rw [frm3] at c3; have c4 := cell_of_row _ N1 4 _ _ _ hr1; rw [frm4] at c4; clear hr1))
                go_ret
                exact ⟨rfl, hb1⟩
            · skip
              have hr : f.right = false := by
                unfold M.Fr.right; rw [decide_eq_false_iff_not]; intro h; exact p5 h.2.2.1.2
              rw [hr]
              have q0 := decide_eq_true p0
              have q1 := decide_eq_true p1
              have q2 := decide_eq_true p2
              have q3 := decide_eq_true p3
              have q4 := decide_eq_true p4
              have q5 := decide_eq_false p5
              clear hr p0 p1 p2 p3 p4 p5
              go_enter Try.func39, Try.ntmps39
              go_wp2_with (first | ((with_reducible show wpList _ _ _ (⟨some 1, _, _, _, _, _⟩ :: _) _ _); refine wpList_boxed 1 rfl rfl 42 _ rfl (frm f) rfl ?_; intro W1 N1 hN1 hM1 hr1 hb1; have c0 := cell_of_row _ N1 0 _ _ _ hr1; rw [frm0] at c0; have c1 := cell_of_row _ N1 1 _ _ _ hr1; rw [frm1] at c1; have c2 := cell_of_row _ N1 2 _ _ _ hr1; rw [frm2] at c2; have c3 := cell_of_row _ N1 3 _ _ _ hr1; rw [frm3] at c3; have c4 := cell_of_row _ N1 4 _ _ _ hr1; rw [frm4] at c4; clear hr1))
              go_ret
              exact ⟨rfl, hb1⟩
          · skip
            have hr : f.right = false := by
              unfold M.Fr.right; rw [decide_eq_false_iff_not]; intro h; exact p4 h.2.2.1.1
            rw [hr]
            have q0 := decide_eq_true p0
            have q1 := decide_eq_true p1
            have q2 := decide_eq_true p2
            have q3 := decide_eq_true p3
            have q4 := decide_eq_false p4
            clear hr p0 p1 p2 p3 p4
            go_enter Try.func39, Try.ntmps39
            go_wp2_with (first | ((with_reducible show wpList _ _ _ (⟨some 1, _, _, _, _, _⟩ :: _) _ _); refine wpList_boxed 1 rfl rfl 42 _ rfl (frm f) rfl ?_; intro W1 N1 hN1 hM1 hr1 hb1; have c0 := cell_of_row _ N1 0 _ _ _ hr1; rw [frm0] at c0; have c1 := cell_of_row _ N1 1 _ _ _ hr1; rw [frm1] at c1; have c2 := cell_of_row _ N1 2 _ _ _ hr1; rw [frm2] at c2; have c3 := cell_of_row _ N1 3 _ _ _ hr1; rw [frm3] at c3; have c4 := cell_of_row _ N1 4 _ _ _ hr1; rw [frm4] at c4; clear hr1))
            go_ret
            exact ⟨rfl, hb1⟩
        · skip
          have hr : f.right = false := by
            unfold M.Fr.right; rw [decide_eq_false_iff_not]; intro h; exact p3 h.2.1.2
          rw [hr]
          have q0 := decide_eq_true p0
          have q1 := decide_eq_true p1
          have q2 := decide_eq_true p2
          have q3 := decide_eq_false p3
          clear hr p0 p1 p2 p3
          go_enter Try.func39, Try.ntmps39
          go_wp2_with (first | ((with_reducible show wpList _ _ _ (⟨some 1, _, _, _, _, _⟩ :: _) _ _); refine wpList_boxed 1 rfl rfl 42 _ rfl (frm f) rfl ?_; intro W1 N1 hN1 hM1 hr1 hb1; have c0 := cell_of_row _ N1 0 _ _ _ hr1; rw [frm0] at c0; have c1 := cell_of_row _ N1 1 _ _ _ hr1; rw [frm1] at c1; have c2 := cell_of_row _ N1 2 _ _ _ hr1; rw [frm2] at c2; have c3 := cell_of_row _ N1 3 _ _ _ hr1; rw [frm3] at c3; have c4 := cell_of_row _ N1 4 _ _ _ hr1; rw [frm4] at c4; clear hr1))
          go_ret
          exact ⟨rfl, hb1⟩
      · skip
        have hr : f.right = false := by
          unfold M.Fr.right; rw [decide_eq_false_iff_not]; intro h; exact p2 h.2.1.1
        rw [hr]
        have q0 := decide_eq_true p0
        have q1 := decide_eq_true p1
        have q2 := decide_eq_false p2
        clear hr p0 p1 p2
        go_enter Try.func39, Try.ntmps39
        go_wp2_with (first | ((with_reducible show wpList _ _ _ (⟨some 1, _, _, _, _, _⟩ :: _) _ _); refine wpList_boxed 1 rfl rfl 42 _ rfl (frm f) rfl ?_; intro W1 N1 hN1 hM1 hr1 hb1; have c0 := cell_of_row _ N1 0 _ _ _ hr1; rw [frm0] at c0; have c1 := cell_of_row _ N1 1 _ _ _ hr1; rw [frm1] at c1; have c2 := cell_of_row _ N1 2 _ _ _ hr1; rw [frm2] at c2; have c3 := cell_of_row _ N1 3 _ _ _ hr1; rw [frm3] at c3; have c4 := cell_of_row _ N1 4 _ _ _ hr1; rw [frm4] at c4; clear hr1))
        go_ret
        exact ⟨rfl, hb1⟩
    · skip
      have hr : f.right = false := by
        unfold M.Fr.right; rw [decide_eq_false_iff_not]; intro h; exact p1 h.1.2
      rw [hr]
      have q0 := decide_eq_true p0
      have q1 := decide_eq_false p1
      clear hr p0 p1
      go_enter Try.func39, Try.ntmps39
      go_wp2_with (first | ((with_reducible show wpList _ _ _ (⟨some 1, _, _, _, _, _⟩ :: _) _ _); refine wpList_boxed 1 rfl rfl 42 _ rfl (frm f) rfl ?_; intro W1 N1 hN1 hM1 hr1 hb1; have c0 := cell_of_row _ N1 0 _ _ _ hr1; rw [frm0] at c0; have c1 := cell_of_row _ N1 1 _ _ _ hr1; rw [frm1] at c1; have c2 := cell_of_row _ N1 2 _ _ _ hr1; rw [frm2] at c2; have c3 := cell_of_row _ N1 3 _ _ _ hr1; rw [frm3] at c3; have c4 := cell_of_row _ N1 4 _ _ _ hr1; rw [frm4] at c4; clear hr1))
      go_ret
      exact ⟨rfl, hb1⟩
  · skip
    have hr : f.right = false := by
      unfold M.Fr.right; rw [decide_eq_false_iff_not]; intro h; exact p0 h.1.1
    rw [hr]
    have q0 := decide_eq_false p0
    clear hr p0
    go_enter Try.func39, Try.ntmps39
    go_wp2_with (first | ((with_reducible show wpList _ _ _ (⟨some 1, _, _, _, _, _⟩ :: _) _ _); refine wpList_boxed 1 rfl rfl 42 _ rfl (frm f) rfl ?_; intro W1 N1 hN1 hM1 hr1 hb1; have c0 := cell_of_row _ N1 0 _ _ _ hr1; rw [frm0] at c0; have c1 := cell_of_row _ N1 1 _ _ _ hr1; rw [frm1] at c1; have c2 := cell_of_row _ N1 2 _ _ _ hr1; rw [frm2] at c2; have c3 := cell_of_row _ N1 3 _ _ _ hr1; rw [frm3] at c3; have c4 := cell_of_row _ N1 4 _ _ _ hr1; rw [frm4] at c4; clear hr1))
    go_ret
    exact ⟨rfl, hb1⟩
end Go.Proofs.Ytncooadaeifekaa
