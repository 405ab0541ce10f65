/- Walk of a frame's Right. -/
import Derived.Test.YtncooadaeifekaaC10
namespace Go.Proofs.Ytncooadaeifekaa
open Go.RowKit
theorem frm0 (f : M.Fr) : (frm f)[0]? = some (.int .i64 f.kind) := by simp [frm]
theorem frm1 (f : M.Fr) : (frm f)[1]? = some (.int .i64 f.zone) := by simp [frm]
theorem frm2 (f : M.Fr) : (frm f)[2]? = some (.int .i64 f.off) := by simp [frm]
theorem frm3 (f : M.Fr) : (frm f)[3]? = some (.int .i64 f.epoch) := by simp [frm]
theorem frm4 (f : M.Fr) : (frm f)[4]? = some (.int .i64 f.seq) := by simp [frm]
set_option maxRecDepth 100000 in
set_option maxHeartbeats 400000 in
theorem right_calls (f : M.Fr) (w : World) :
    Calls Try.prog 38 #[.agg (frm f)] w fun e w' => e = .returned (.bool f.right) ∧ Below w.heap.size w w' := by
  by_cases p0 : (1 ≤ f.kind ∧ f.kind ≤ 5)
  · skip
    by_cases p1 : (0 ≤ f.zone ∧ f.zone ≤ 65535)
    · skip
      by_cases p2 : (0 ≤ f.off ∧ f.off ≤ 65535)
      · skip
        by_cases p3 : (1 ≤ f.epoch ∧ f.epoch ≤ 4294967295)
        · skip
          by_cases p4 : (0 ≤ f.seq ∧ f.seq ≤ 281474976710655)
          · skip
            have hr : f.right = true := by unfold M.Fr.right; rw [decide_eq_true_iff]; exact ⟨p0, p1, p2, p3, p4⟩
            rw [hr]
            have q0 := decide_eq_true p0
            have Q0 := hid q0
            have q1 := decide_eq_true p1
            have Q1 := hid q1
            have q2 := decide_eq_true p2
            have Q2 := hid q2
            have q3 := decide_eq_true p3
            have Q3 := hid q3
            have q4 := decide_eq_true p4
            have Q4 := hid q4
            clear hr q0 p0 q1 p1 q2 p2 q3 p3 q4 p4
            go_enter Try.func38, Try.ntmps38
            go_wp2_with (first | ((with_reducible show wpList _ _ _ (⟨some 1, _, _, _, _, _⟩ :: _) _ _); refine wpList_boxed 1 rfl rfl 41 _ rfl (frm f) rfl ?_; intro W1 N1 hN1 hM1 hr1 hb1; have hW := hb1; have c0 := cell_of_row _ N1 0 _ _ _ hr1; have c1 := cell_of_row _ N1 1 _ _ _ hr1; have c2 := cell_of_row _ N1 2 _ _ _ hr1; have c3 := cell_of_row _ N1 3 _ _ _ hr1; have c4 := cell_of_row _ N1 4 _ _ _ hr1; rw [frm0] at c0; rw [frm1] at c1; rw [frm2] at c2; rw [frm3] at c3; rw [frm4] at c4; clear hr1) | (go_at_call 76; refine (fwithin_calls _ _ _ _).mono ?_; rintro e w2 ⟨rfl, hb2⟩; have hW := below_next hW hb2; have c1 := (hb2.cell (p := ⟨N1, 1, none⟩) (block_lt_of_cell (a := ⟨N1, 1, none⟩) c1)).trans c1; have c2 := (hb2.cell (p := ⟨N1, 2, none⟩) (block_lt_of_cell (a := ⟨N1, 2, none⟩) c2)).trans c2; have c3 := (hb2.cell (p := ⟨N1, 3, none⟩) (block_lt_of_cell (a := ⟨N1, 3, none⟩) c3)).trans c3; have c4 := (hb2.cell (p := ⟨N1, 4, none⟩) (block_lt_of_cell (a := ⟨N1, 4, none⟩) c4)).trans c4; first | rw [Q0.out] | rw [Q1.out] | rw [Q2.out] | rw [Q3.out] | rw [Q4.out]))
            go_ret
            exact ⟨rfl, hW⟩
          · skip
            have hr : f.right = false := by unfold M.Fr.right; rw [decide_eq_false_iff_not]; intro h; exact p4 h.2.2.2.2
            rw [hr]
            have q0 := decide_eq_true p0
            have Q0 := hid q0
            have q1 := decide_eq_true p1
            have Q1 := hid q1
            have q2 := decide_eq_true p2
            have Q2 := hid q2
            have q3 := decide_eq_true p3
            have Q3 := hid q3
            have q4 := decide_eq_false p4
            have Q4 := hid q4
            clear hr q0 p0 q1 p1 q2 p2 q3 p3 q4 p4
            go_enter Try.func38, Try.ntmps38
            go_wp2_with (first | ((with_reducible show wpList _ _ _ (⟨some 1, _, _, _, _, _⟩ :: _) _ _); refine wpList_boxed 1 rfl rfl 41 _ rfl (frm f) rfl ?_; intro W1 N1 hN1 hM1 hr1 hb1; have hW := hb1; have c0 := cell_of_row _ N1 0 _ _ _ hr1; have c1 := cell_of_row _ N1 1 _ _ _ hr1; have c2 := cell_of_row _ N1 2 _ _ _ hr1; have c3 := cell_of_row _ N1 3 _ _ _ hr1; have c4 := cell_of_row _ N1 4 _ _ _ hr1; rw [frm0] at c0; rw [frm1] at c1; rw [frm2] at c2; rw [frm3] at c3; rw [frm4] at c4; clear hr1) | (go_at_call 76; refine (fwithin_calls _ _ _ _).mono ?_; rintro e w2 ⟨rfl, hb2⟩; have hW := below_next hW hb2; have c1 := (hb2.cell (p := ⟨N1, 1, none⟩) (block_lt_of_cell (a := ⟨N1, 1, none⟩) c1)).trans c1; have c2 := (hb2.cell (p := ⟨N1, 2, none⟩) (block_lt_of_cell (a := ⟨N1, 2, none⟩) c2)).trans c2; have c3 := (hb2.cell (p := ⟨N1, 3, none⟩) (block_lt_of_cell (a := ⟨N1, 3, none⟩) c3)).trans c3; have c4 := (hb2.cell (p := ⟨N1, 4, none⟩) (block_lt_of_cell (a := ⟨N1, 4, none⟩) c4)).trans c4; first | rw [Q0.out] | rw [Q1.out] | rw [Q2.out] | rw [Q3.out] | rw [Q4.out]))
            go_ret
            exact ⟨rfl, hW⟩
        · skip
          have hr : f.right = false := by unfold M.Fr.right; rw [decide_eq_false_iff_not]; intro h; exact p3 h.2.2.2.1
          rw [hr]
          have q0 := decide_eq_true p0
          have Q0 := hid q0
          have q1 := decide_eq_true p1
          have Q1 := hid q1
          have q2 := decide_eq_true p2
          have Q2 := hid q2
          have q3 := decide_eq_false p3
          have Q3 := hid q3
          clear hr q0 p0 q1 p1 q2 p2 q3 p3
          go_enter Try.func38, Try.ntmps38
          go_wp2_with (first | ((with_reducible show wpList _ _ _ (⟨some 1, _, _, _, _, _⟩ :: _) _ _); refine wpList_boxed 1 rfl rfl 41 _ rfl (frm f) rfl ?_; intro W1 N1 hN1 hM1 hr1 hb1; have hW := hb1; have c0 := cell_of_row _ N1 0 _ _ _ hr1; have c1 := cell_of_row _ N1 1 _ _ _ hr1; have c2 := cell_of_row _ N1 2 _ _ _ hr1; have c3 := cell_of_row _ N1 3 _ _ _ hr1; have c4 := cell_of_row _ N1 4 _ _ _ hr1; rw [frm0] at c0; rw [frm1] at c1; rw [frm2] at c2; rw [frm3] at c3; rw [frm4] at c4; clear hr1) | (go_at_call 76; refine (fwithin_calls _ _ _ _).mono ?_; rintro e w2 ⟨rfl, hb2⟩; have hW := below_next hW hb2; have c1 := (hb2.cell (p := ⟨N1, 1, none⟩) (block_lt_of_cell (a := ⟨N1, 1, none⟩) c1)).trans c1; have c2 := (hb2.cell (p := ⟨N1, 2, none⟩) (block_lt_of_cell (a := ⟨N1, 2, none⟩) c2)).trans c2; have c3 := (hb2.cell (p := ⟨N1, 3, none⟩) (block_lt_of_cell (a := ⟨N1, 3, none⟩) c3)).trans c3; have c4 := (hb2.cell (p := ⟨N1, 4, none⟩) (block_lt_of_cell (a := ⟨N1, 4, none⟩) c4)).trans c4; first | rw [Q0.out] | rw [Q1.out] | rw [Q2.out] | rw [Q3.out]))
          go_ret
          exact ⟨rfl, hW⟩
      · skip
        have hr : f.right = false := by unfold M.Fr.right; rw [decide_eq_false_iff_not]; intro h; exact p2 h.2.2.1
        rw [hr]
        have q0 := decide_eq_true p0
        have Q0 := hid q0
        have q1 := decide_eq_true p1
        have Q1 := hid q1
        have q2 := decide_eq_false p2
        have Q2 := hid q2
        clear hr q0 p0 q1 p1 q2 p2
        go_enter Try.func38, Try.ntmps38
        go_wp2_with (first | ((with_reducible show wpList _ _ _ (⟨some 1, _, _, _, _, _⟩ :: _) _ _); refine wpList_boxed 1 rfl rfl 41 _ rfl (frm f) rfl ?_; intro W1 N1 hN1 hM1 hr1 hb1; have hW := hb1; have c0 := cell_of_row _ N1 0 _ _ _ hr1; have c1 := cell_of_row _ N1 1 _ _ _ hr1; have c2 := cell_of_row _ N1 2 _ _ _ hr1; have c3 := cell_of_row _ N1 3 _ _ _ hr1; have c4 := cell_of_row _ N1 4 _ _ _ hr1; rw [frm0] at c0; rw [frm1] at c1; rw [frm2] at c2; rw [frm3] at c3; rw [frm4] at c4; clear hr1) | (go_at_call 76; refine (fwithin_calls _ _ _ _).mono ?_; rintro e w2 ⟨rfl, hb2⟩; have hW := below_next hW hb2; have c1 := (hb2.cell (p := ⟨N1, 1, none⟩) (block_lt_of_cell (a := ⟨N1, 1, none⟩) c1)).trans c1; have c2 := (hb2.cell (p := ⟨N1, 2, none⟩) (block_lt_of_cell (a := ⟨N1, 2, none⟩) c2)).trans c2; have c3 := (hb2.cell (p := ⟨N1, 3, none⟩) (block_lt_of_cell (a := ⟨N1, 3, none⟩) c3)).trans c3; have c4 := (hb2.cell (p := ⟨N1, 4, none⟩) (block_lt_of_cell (a := ⟨N1, 4, none⟩) c4)).trans c4; first | rw [Q0.out] | rw [Q1.out] | rw [Q2.out]))
        go_ret
        exact ⟨rfl, hW⟩
    · skip
      have hr : f.right = false := by unfold M.Fr.right; rw [decide_eq_false_iff_not]; intro h; exact p1 h.2.1
      rw [hr]
      have q0 := decide_eq_true p0
      have Q0 := hid q0
      have q1 := decide_eq_false p1
      have Q1 := hid q1
      clear hr q0 p0 q1 p1
      go_enter Try.func38, Try.ntmps38
      go_wp2_with (first | ((with_reducible show wpList _ _ _ (⟨some 1, _, _, _, _, _⟩ :: _) _ _); refine wpList_boxed 1 rfl rfl 41 _ rfl (frm f) rfl ?_; intro W1 N1 hN1 hM1 hr1 hb1; have hW := hb1; have c0 := cell_of_row _ N1 0 _ _ _ hr1; have c1 := cell_of_row _ N1 1 _ _ _ hr1; have c2 := cell_of_row _ N1 2 _ _ _ hr1; have c3 := cell_of_row _ N1 3 _ _ _ hr1; have c4 := cell_of_row _ N1 4 _ _ _ hr1; rw [frm0] at c0; rw [frm1] at c1; rw [frm2] at c2; rw [frm3] at c3; rw [frm4] at c4; clear hr1) | (go_at_call 76; refine (fwithin_calls _ _ _ _).mono ?_; rintro e w2 ⟨rfl, hb2⟩; have hW := below_next hW hb2; have c1 := (hb2.cell (p := ⟨N1, 1, none⟩) (block_lt_of_cell (a := ⟨N1, 1, none⟩) c1)).trans c1; have c2 := (hb2.cell (p := ⟨N1, 2, none⟩) (block_lt_of_cell (a := ⟨N1, 2, none⟩) c2)).trans c2; have c3 := (hb2.cell (p := ⟨N1, 3, none⟩) (block_lt_of_cell (a := ⟨N1, 3, none⟩) c3)).trans c3; have c4 := (hb2.cell (p := ⟨N1, 4, none⟩) (block_lt_of_cell (a := ⟨N1, 4, none⟩) c4)).trans c4; first | rw [Q0.out] | rw [Q1.out]))
      go_ret
      exact ⟨rfl, hW⟩
  · skip
    have hr : f.right = false := by unfold M.Fr.right; rw [decide_eq_false_iff_not]; intro h; exact p0 h.1
    rw [hr]
    have q0 := decide_eq_false p0
    have Q0 := hid q0
    clear hr q0 p0
    go_enter Try.func38, Try.ntmps38
    go_wp2_with (first | ((with_reducible show wpList _ _ _ (⟨some 1, _, _, _, _, _⟩ :: _) _ _); refine wpList_boxed 1 rfl rfl 41 _ rfl (frm f) rfl ?_; intro W1 N1 hN1 hM1 hr1 hb1; have hW := hb1; have c0 := cell_of_row _ N1 0 _ _ _ hr1; have c1 := cell_of_row _ N1 1 _ _ _ hr1; have c2 := cell_of_row _ N1 2 _ _ _ hr1; have c3 := cell_of_row _ N1 3 _ _ _ hr1; have c4 := cell_of_row _ N1 4 _ _ _ hr1; rw [frm0] at c0; rw [frm1] at c1; rw [frm2] at c2; rw [frm3] at c3; rw [frm4] at c4; clear hr1) | (go_at_call 76; refine (fwithin_calls _ _ _ _).mono ?_; rintro e w2 ⟨rfl, hb2⟩; have hW := below_next hW hb2; have c1 := (hb2.cell (p := ⟨N1, 1, none⟩) (block_lt_of_cell (a := ⟨N1, 1, none⟩) c1)).trans c1; have c2 := (hb2.cell (p := ⟨N1, 2, none⟩) (block_lt_of_cell (a := ⟨N1, 2, none⟩) c2)).trans c2; have c3 := (hb2.cell (p := ⟨N1, 3, none⟩) (block_lt_of_cell (a := ⟨N1, 3, none⟩) c3)).trans c3; have c4 := (hb2.cell (p := ⟨N1, 4, none⟩) (block_lt_of_cell (a := ⟨N1, 4, none⟩) c4)).trans c4; first | rw [Q0.out]))
    go_ret
    exact ⟨rfl, hW⟩
end Go.Proofs.Ytncooadaeifekaa
