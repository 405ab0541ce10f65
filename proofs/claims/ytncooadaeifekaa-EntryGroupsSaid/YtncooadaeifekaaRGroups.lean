/- EntryGroups is proved: for any entry and number the law returns true. No condition. -/
import Derived.Test.YtncooadaeifekaaPF5
/- Walk of the law EntryGroups: it answers true for any entry and number. -/
namespace Go.Proofs.Ytncooadaeifekaa
open Go.RowKit
theorem M.En.kind_bounds (e : M.En) (h : e.right = true) : 1 ≤ e.kind ∧ e.kind ≤ 3 := by
  simp only [M.En.right, Bool.and_eq_true, M.En.counts] at h
  have h2 := h.2
  by_cases k1 : e.kind = 1
  · omega
  · by_cases k2 : e.kind = 2
    · omega
    · by_cases k3 : e.kind = 3
      · omega
      · simp [k1, k2, k3] at h2
theorem M.En.frame_in (e : M.En) (hr : e.right = true) (seq : Int) (h0 : 0 ≤ seq ∧ seq ≤ 281474976710655) (h : e.first ≤ seq ∧ seq < e.first + e.count) : e.frame 0 0 1 seq = (e.fr 0 0 1 seq, 0) := by
  have hk := e.kind_bounds hr
  have hf : (e.fr 0 0 1 seq).right = true := by
    unfold M.Fr.right
    rw [decide_eq_true_iff]
    simp only [M.En.fr]
    omega
  rw [M.En.frame, if_pos ⟨hr, hf, h.1, h.2⟩]
theorem M.En.frame_out (e : M.En) (seq : Int) (h : ¬ (e.first ≤ seq ∧ seq < e.first + e.count)) : e.frame 0 0 1 seq = (M.Fr.zero, 10) := by
  rw [M.En.frame, if_neg (fun hh => h ⟨hh.2.2.1, hh.2.2.2⟩)]
set_option maxRecDepth 100000 in
set_option maxHeartbeats 1000000 in
theorem groups_a (w : World) (e : M.En) (hok : e.ok) (x : Int) (hr : e.right = false) :
    Calls Try.prog 19 #[.agg (ent e), .int .i64 x] w fun r w' => r = .returned (.bool true) ∧ Below w.heap.size w w' := by
  have HOK := hid hok
  have HR := hid hr
  clear hok hr
  have hW := Below.refl w.heap.size w
  go_enter Try.func19, Try.ntmps19
  go_wp2_with (first | ((with_reducible show wpList _ _ _ (⟨some 2, _, _, _, _, _⟩ :: _) _ _); refine wpList_boxed 2 rfl rfl 82 _ rfl (ent e) rfl ?_; intro W2 N2 hNN2 hMN2 hr2 hb; have sW2 := hb.size; have hW := below_next hW hb) | (go_at_call 60; refine (anchor4_calls _).mono ?_; rintro e w1 ⟨rfl, hb⟩; have sw1 := hb.size; have hW := below_next hW hb; have hr2 := below_blk hb hr2) | ((with_reducible show wpList _ _ _ (⟨some 13, _, _, _, _, _⟩ :: _) _ _); refine wpList_load_rowg 13 rfl rfl 82 _ rfl N2 rfl _ (ent e) (0, 0) _ hr2 Try.underlying82 rfl (ty82 _ HOK.out).size ?_) | (go_at_call 62; refine (eright_b e _ HOK.out HR.out _).mono ?_; rintro e w3 ⟨rfl, hb⟩; have sw3 := hb.size; have hW := below_next hW hb; have hr2 := below_blk hb hr2; have c1 := cell_of_row _ N2 1 _ _ _ hr2; rw [ent1] at c1; have c2 := cell_of_row _ N2 2 _ _ _ hr2; rw [ent2] at c2))
  go_ret
  exact ⟨rfl, hW⟩
set_option maxRecDepth 100000 in
set_option maxHeartbeats 1000000 in
theorem groups_b (w : World) (e : M.En) (hok : e.ok) (x : Int) (hr : e.right = true) (h1 : 1099511627776 < e.first) :
    Calls Try.prog 19 #[.agg (ent e), .int .i64 x] w fun r w' => r = .returned (.bool true) ∧ Below w.heap.size w w' := by
  have HOK := hid hok
  have HR := hid hr
  have t1 : decide (1099511627776 < e.first) = true := by simpa using h1
  clear hok hr h1
  have hW := Below.refl w.heap.size w
  go_enter Try.func19, Try.ntmps19
  go_wp2_with (first | ((with_reducible show wpList _ _ _ (⟨some 2, _, _, _, _, _⟩ :: _) _ _); refine wpList_boxed 2 rfl rfl 82 _ rfl (ent e) rfl ?_; intro W2 N2 hNN2 hMN2 hr2 hb; have sW2 := hb.size; have hW := below_next hW hb) | (go_at_call 60; refine (anchor4_calls _).mono ?_; rintro e w1 ⟨rfl, hb⟩; have sw1 := hb.size; have hW := below_next hW hb; have hr2 := below_blk hb hr2) | ((with_reducible show wpList _ _ _ (⟨some 13, _, _, _, _, _⟩ :: _) _ _); refine wpList_load_rowg 13 rfl rfl 82 _ rfl N2 rfl _ (ent e) (0, 0) _ hr2 Try.underlying82 rfl (ty82 _ HOK.out).size ?_) | (go_at_call 62; refine (eright_b e _ HOK.out HR.out _).mono ?_; rintro e w3 ⟨rfl, hb⟩; have sw3 := hb.size; have hW := below_next hW hb; have hr2 := below_blk hb hr2; have c1 := cell_of_row _ N2 1 _ _ _ hr2; rw [ent1] at c1; have c2 := cell_of_row _ N2 2 _ _ _ hr2; rw [ent2] at c2))
  go_ret
  exact ⟨rfl, hW⟩
set_option maxRecDepth 100000 in
set_option maxHeartbeats 1000000 in
theorem groups_c (w : World) (e : M.En) (hok : e.ok) (x : Int) (hr : e.right = true) (h1 : ¬ 1099511627776 < e.first) (h2 : x < 0) :
    Calls Try.prog 19 #[.agg (ent e), .int .i64 x] w fun r w' => r = .returned (.bool true) ∧ Below w.heap.size w w' := by
  have HOK := hid hok
  have HR := hid hr
  have t1 : decide (1099511627776 < e.first) = false := by simpa using h1
  have t2 : decide (x < 0) = true := by simpa using h2
  clear hok hr h1 h2
  have hW := Below.refl w.heap.size w
  go_enter Try.func19, Try.ntmps19
  go_wp2_with (first | ((with_reducible show wpList _ _ _ (⟨some 2, _, _, _, _, _⟩ :: _) _ _); refine wpList_boxed 2 rfl rfl 82 _ rfl (ent e) rfl ?_; intro W2 N2 hNN2 hMN2 hr2 hb; have sW2 := hb.size; have hW := below_next hW hb) | (go_at_call 60; refine (anchor4_calls _).mono ?_; rintro e w1 ⟨rfl, hb⟩; have sw1 := hb.size; have hW := below_next hW hb; have hr2 := below_blk hb hr2) | ((with_reducible show wpList _ _ _ (⟨some 13, _, _, _, _, _⟩ :: _) _ _); refine wpList_load_rowg 13 rfl rfl 82 _ rfl N2 rfl _ (ent e) (0, 0) _ hr2 Try.underlying82 rfl (ty82 _ HOK.out).size ?_) | (go_at_call 62; refine (eright_b e _ HOK.out HR.out _).mono ?_; rintro e w3 ⟨rfl, hb⟩; have sw3 := hb.size; have hW := below_next hW hb; have hr2 := below_blk hb hr2; have c1 := cell_of_row _ N2 1 _ _ _ hr2; rw [ent1] at c1; have c2 := cell_of_row _ N2 2 _ _ _ hr2; rw [ent2] at c2))
  go_ret
  exact ⟨rfl, hW⟩
set_option maxRecDepth 100000 in
set_option maxHeartbeats 1000000 in
theorem groups_d (w : World) (e : M.En) (hok : e.ok) (x : Int) (hr : e.right = true) (h1 : ¬ 1099511627776 < e.first) (h2 : ¬ x < 0) (h3 : 2199023255552 < x) :
    Calls Try.prog 19 #[.agg (ent e), .int .i64 x] w fun r w' => r = .returned (.bool true) ∧ Below w.heap.size w w' := by
  have HOK := hid hok
  have HR := hid hr
  have t1 : decide (1099511627776 < e.first) = false := by simpa using h1
  have t2 : decide (x < 0) = false := by simpa using h2
  have t3 : decide (2199023255552 < x) = true := by simpa using h3
  clear hok hr h1 h2 h3
  have hW := Below.refl w.heap.size w
  go_enter Try.func19, Try.ntmps19
  go_wp2_with (first | ((with_reducible show wpList _ _ _ (⟨some 2, _, _, _, _, _⟩ :: _) _ _); refine wpList_boxed 2 rfl rfl 82 _ rfl (ent e) rfl ?_; intro W2 N2 hNN2 hMN2 hr2 hb; have sW2 := hb.size; have hW := below_next hW hb) | (go_at_call 60; refine (anchor4_calls _).mono ?_; rintro e w1 ⟨rfl, hb⟩; have sw1 := hb.size; have hW := below_next hW hb; have hr2 := below_blk hb hr2) | ((with_reducible show wpList _ _ _ (⟨some 13, _, _, _, _, _⟩ :: _) _ _); refine wpList_load_rowg 13 rfl rfl 82 _ rfl N2 rfl _ (ent e) (0, 0) _ hr2 Try.underlying82 rfl (ty82 _ HOK.out).size ?_) | (go_at_call 62; refine (eright_b e _ HOK.out HR.out _).mono ?_; rintro e w3 ⟨rfl, hb⟩; have sw3 := hb.size; have hW := below_next hW hb; have hr2 := below_blk hb hr2; have c1 := cell_of_row _ N2 1 _ _ _ hr2; rw [ent1] at c1; have c2 := cell_of_row _ N2 2 _ _ _ hr2; rw [ent2] at c2))
  go_ret
  exact ⟨rfl, hW⟩
set_option maxRecDepth 100000 in
set_option maxHeartbeats 2000000 in
theorem groups_in (w : World) (e0 F : Int) (C : Nat) (BK MN MT : Int) (bs : List Nat) (hok : M.En.ok ⟨e0, F, C, BK, MN, MT, bs⟩) (x : Int) (hr : M.En.right ⟨e0, F, C, BK, MN, MT, bs⟩ = true) (h1 : ¬ 1099511627776 < F) (h2 : ¬ x < 0) (h3 : ¬ 2199023255552 < x) :
    Calls Try.prog 19 #[.agg (ent ⟨e0, F, C, BK, MN, MT, bs⟩), .int .i64 x] w fun r w' => r = .returned (.bool true) ∧ Below w.heap.size w w' := by
  have hb := M.En.right_bounds _ hr
  obtain ⟨⟨b1, b2⟩, -, -, ⟨b3, b4⟩, -⟩ := hb
  have b1 : 0 ≤ F := b1
  have b3 : 1 ≤ (C : Int) := b3
  have b4 : (C : Int) ≤ 4 := b4
  obtain ⟨V, hV⟩ : ∃ V, M.En.frame ⟨e0, F, C, BK, MN, MT, bs⟩ 0 0 1 x = V := ⟨_, rfl⟩
  have hVK : V.1.ok := by rw [← hV]; exact M.frame_ok _ hok 0 0 1 x
  have HVI : Hid (F ≤ x ∧ x < F + C → V.2 = 0) := fun h => by
    rw [← hV, M.En.frame_in _ hr x ⟨by omega, by omega⟩ h]
  have HVO : Hid (¬ (F ≤ x ∧ x < F + C) → V.2 = 10) := fun h => by
    rw [← hV, M.En.frame_out _ x h]
  have HIN : Hid (∀ k : Nat, k < C → ∃ G : M.Fr, G.ok ∧ G.kind = e0 ∧ M.En.frame ⟨e0, F, C, BK, MN, MT, bs⟩ 0 0 1 (F + k) = (G, 0)) := fun k hk =>
    ⟨_, M.fr_ok _ hok 0 0 1 (F + k), rfl, M.En.frame_in _ hr (F + k) ⟨by omega, by omega⟩ ⟨by show F ≤ F + k; omega, by show F + k < F + C; omega⟩⟩
  have HSUM : Hid (∀ k : Nat, k ≤ C → wrap64 (F + k) = F + k) := fun k hk => by unfold wrap64; omega
  have t1 : decide (1099511627776 < F) = false := by simpa using h1
  have t2 : decide (x < 0) = false := by simpa using h2
  have t3 : decide (2199023255552 < x) = false := by simpa using h3
  have HOK := hid hok
  have HR := hid hr
  have HV := hid hV
  have HVK := hid hVK
  have hC4 : C ≤ 4 := by omega
  clear hok hr hV hVK h1 h2 h3 b1 b2 b3 b4
  have hW := Below.refl w.heap.size w
  go_enter Try.func19, Try.ntmps19
  go_wp2_with (first | ((with_reducible show wpList _ _ _ (⟨some 2, _, _, _, _, _⟩ :: _) _ _); refine wpList_boxed 2 rfl rfl 82 _ rfl (ent ⟨e0, F, C, BK, MN, MT, bs⟩) rfl ?_; intro W2 N2 hNN2 hMN2 hr2 hb; have sW2 := hb.size; have hW := below_next hW hb) | (go_at_call 60; refine (anchor4_calls _).mono ?_; rintro e w1 ⟨rfl, hb⟩; have sw1 := hb.size; have hW := below_next hW hb; have hr2 := below_blk hb hr2) | ((with_reducible show wpList _ _ _ (⟨some 13, _, _, _, _, _⟩ :: _) _ _); refine wpList_load_rowg 13 rfl rfl 82 _ rfl N2 rfl _ (ent ⟨e0, F, C, BK, MN, MT, bs⟩) (0, 0) _ hr2 Try.underlying82 rfl (ty82 _ HOK.out).size ?_) | (go_at_call 62; refine (eright_b ⟨e0, F, C, BK, MN, MT, bs⟩ _ HOK.out HR.out _).mono ?_; rintro e w3 ⟨rfl, hb⟩; have sw3 := hb.size; have hW := below_next hW hb; have hr2 := below_blk hb hr2; have c1 := cell_of_row _ N2 1 _ _ _ hr2; rw [ent1] at c1; have c2 := cell_of_row _ N2 2 _ _ _ hr2; rw [ent2] at c2))
  go_loopw [5, 31] (fun n i wr => ∃ k : Nat, k ≤ C ∧ n = .int .i64 k ∧ i = .int .i64 k ∧ Hid (wr.heap[N2]? = some (.cells (ent ⟨e0, F, C, BK, MN, MT, bs⟩) 82 (0, 0)) ∧ Below w.heap.size w wr)) (fun _ i _ => C - (intOf i).toNat)
  case atStart => exact ⟨0, Nat.zero_le _, rfl, rfl, hr2, hW⟩
  case round =>
    clear c1 c2 hr2 hW t1 t2 t3
    obtain ⟨k, hk, rfl, rfl, HH⟩ := hrel
    obtain ⟨hr2, hW⟩ := HH.out
    have c1 := cell_of_row _ N2 1 _ _ _ hr2
    rw [ent1] at c1
    have c2 := cell_of_row _ N2 2 _ _ _ hr2
    rw [ent2] at c2
    by_cases hlt : k < C
    · obtain ⟨G, hGk, hGe, hG⟩ := HIN.out k hlt
      have hsum := HSUM.out k hk
      have HG := hid hG
      have HGK := hid hGk
      have HGE := hid hGe
      have tl : decide ((k : Int) < (C : Int)) = true := by simpa using hlt
      clear hG hGk hGe
      go_wp2_with (first | ((with_reducible show wpList _ _ _ (⟨some 35, _, _, _, _, _⟩ :: _) _ _); refine wpList_load_rowg 35 rfl rfl 82 _ rfl N2 rfl _ (ent ⟨e0, F, C, BK, MN, MT, bs⟩) (0, 0) _ hr2 Try.underlying82 rfl (ty82 _ HOK.out).size ?_) | (go_at_call 63; refine (eframe_calls ⟨e0, F, C, BK, MN, MT, bs⟩ HOK.out 0 0 1 (F + k) _).mono ?_; rintro e w4 ⟨rfl, hb⟩; rw [HG.out]; have sw4 := hb.size; have hW := below_next hW hb; have hr2 := below_blk hb hr2) | ((with_reducible show wpList _ _ _ (⟨some 7, _, _, _, _, _⟩ :: _) _ _); refine wpList_local 7 rfl rfl rfl rfl 41 rfl _ rfl (frm G) rfl (of_decide_eq_true (by kernel_rfl)) (ty41 _ HGK.out) (frm_all _) ?_; intro W7 N7 hNN7 hMN7 hr7 hb; have sW7 := hb.size; have hW := below_next hW hb; have hr2 := below_blk hb hr2; have c1 := cell_of_row _ N2 1 _ _ _ hr2; rw [ent1] at c1; have c2 := cell_of_row _ N2 2 _ _ _ hr2; rw [ent2] at c2; have c0 := cell_of_row _ N2 0 _ _ _ hr2; rw [ent0] at c0; have d0 := cell_of_row _ N7 0 _ _ _ hr7; rw [frm0, HGE.out] at d0))
      go_roundw
      case rel => exact ⟨k + 1, by omega, by go_num, by go_num, hr2, hW⟩
      case measure => simp [intOf]; omega
    · obtain rfl : C = k := by omega
      have hsum := HSUM.out C (Nat.le_refl C)
      by_cases hx1 : F ≤ x
      · have tx1 : decide (F ≤ x) = true := by simpa using hx1
        by_cases hx2 : x < F + C
        · have tx2 : decide (x < F + C) = true := by simpa using hx2
          have tv : (V.2 == 0) = true := by rw [beq_iff_eq]; exact HVI.out ⟨hx1, hx2⟩
          clear hx1 hx2
          go_wp2_with (first | ((with_reducible show wpList _ _ _ (⟨some 56, _, _, _, _, _⟩ :: _) _ _); refine wpList_load_rowg 56 rfl rfl 82 _ rfl N2 rfl _ (ent ⟨e0, F, C, BK, MN, MT, bs⟩) (0, 0) _ hr2 Try.underlying82 rfl (ty82 _ HOK.out).size ?_) | (go_at_call 63; refine (eframe_calls ⟨e0, F, C, BK, MN, MT, bs⟩ HOK.out 0 0 1 x _).mono ?_; rintro e w5 ⟨rfl, hb⟩; rw [HV.out]; have sw5 := hb.size; have hW := below_next hW hb; have hr2 := below_blk hb hr2) | ((with_reducible show wpList _ _ _ (⟨some 9, _, _, _, _, _⟩ :: _) _ _); refine wpList_local 9 rfl rfl rfl rfl 41 rfl _ rfl (frm V.1) rfl (of_decide_eq_true (by kernel_rfl)) (ty41 _ HVK.out) (frm_all _) ?_; intro W9 N9 hNN9 hMN9 hr9 hb; have sW9 := hb.size; have hW := below_next hW hb; have hr2 := below_blk hb hr2; have c1 := cell_of_row _ N2 1 _ _ _ hr2; rw [ent1] at c1; have c2 := cell_of_row _ N2 2 _ _ _ hr2; rw [ent2] at c2))
          go_ret
          exact ⟨rfl, hW⟩
        · have tx2 : decide (x < F + C) = false := by simpa using hx2
          have tv : (V.2 == 0) = false := by rw [beq_eq_false_iff_ne, HVO.out (fun h => hx2 h.2)]; decide
          clear hx1 hx2
          go_wp2_with (first | ((with_reducible show wpList _ _ _ (⟨some 56, _, _, _, _, _⟩ :: _) _ _); refine wpList_load_rowg 56 rfl rfl 82 _ rfl N2 rfl _ (ent ⟨e0, F, C, BK, MN, MT, bs⟩) (0, 0) _ hr2 Try.underlying82 rfl (ty82 _ HOK.out).size ?_) | (go_at_call 63; refine (eframe_calls ⟨e0, F, C, BK, MN, MT, bs⟩ HOK.out 0 0 1 x _).mono ?_; rintro e w5 ⟨rfl, hb⟩; rw [HV.out]; have sw5 := hb.size; have hW := below_next hW hb; have hr2 := below_blk hb hr2) | ((with_reducible show wpList _ _ _ (⟨some 9, _, _, _, _, _⟩ :: _) _ _); refine wpList_local 9 rfl rfl rfl rfl 41 rfl _ rfl (frm V.1) rfl (of_decide_eq_true (by kernel_rfl)) (ty41 _ HVK.out) (frm_all _) ?_; intro W9 N9 hNN9 hMN9 hr9 hb; have sW9 := hb.size; have hW := below_next hW hb; have hr2 := below_blk hb hr2; have c1 := cell_of_row _ N2 1 _ _ _ hr2; rw [ent1] at c1; have c2 := cell_of_row _ N2 2 _ _ _ hr2; rw [ent2] at c2))
          go_ret
          exact ⟨rfl, hW⟩
      · have tx1 : decide (F ≤ x) = false := by simpa using hx1
        have tv : (V.2 == 0) = false := by rw [beq_eq_false_iff_ne, HVO.out (fun h => hx1 h.1)]; decide
        clear hx1
        go_wp2_with (first | ((with_reducible show wpList _ _ _ (⟨some 56, _, _, _, _, _⟩ :: _) _ _); refine wpList_load_rowg 56 rfl rfl 82 _ rfl N2 rfl _ (ent ⟨e0, F, C, BK, MN, MT, bs⟩) (0, 0) _ hr2 Try.underlying82 rfl (ty82 _ HOK.out).size ?_) | (go_at_call 63; refine (eframe_calls ⟨e0, F, C, BK, MN, MT, bs⟩ HOK.out 0 0 1 x _).mono ?_; rintro e w5 ⟨rfl, hb⟩; rw [HV.out]; have sw5 := hb.size; have hW := below_next hW hb; have hr2 := below_blk hb hr2) | ((with_reducible show wpList _ _ _ (⟨some 9, _, _, _, _, _⟩ :: _) _ _); refine wpList_local 9 rfl rfl rfl rfl 41 rfl _ rfl (frm V.1) rfl (of_decide_eq_true (by kernel_rfl)) (ty41 _ HVK.out) (frm_all _) ?_; intro W9 N9 hNN9 hMN9 hr9 hb; have sW9 := hb.size; have hW := below_next hW hb; have hr2 := below_blk hb hr2; have c1 := cell_of_row _ N2 1 _ _ _ hr2; rw [ent1] at c1; have c2 := cell_of_row _ N2 2 _ _ _ hr2; rw [ent2] at c2))
        go_ret
        exact ⟨rfl, hW⟩
theorem groups_walk (w : World) (e : M.En) (hok : e.ok) (x : Int) :
    Calls Try.prog 19 #[.agg (ent e), .int .i64 x] w fun r w' => r = .returned (.bool true) ∧ Below w.heap.size w w' := by
  by_cases hr : e.right = true
  · by_cases h1 : 1099511627776 < e.first
    · exact groups_b w e hok x hr h1
    · by_cases h2 : x < 0
      · exact groups_c w e hok x hr h1 h2
      · by_cases h3 : 2199023255552 < x
        · exact groups_d w e hok x hr h1 h2 h3
        · have hb := (M.En.right_bounds _ hr).2.2.2.1
          obtain ⟨e0, F, c, BK, MN, MT, bs⟩ := e
          obtain ⟨C, rfl⟩ : ∃ n : Nat, c = n := ⟨c.toNat, by have := hb.1; simp only at this; omega⟩
          exact groups_in w e0 F C BK MN MT bs hok x hr h1 h2 h3
  · exact groups_a w e hok x (by simpa using hr)
end Go.Proofs.Ytncooadaeifekaa

/- EntryGroups is proved: for any entry and number the law returns true. No condition. -/
namespace Go.Proofs.Ytncooadaeifekaa.entryGroups
open Go.ChangeShapes Go.WideShapes Go.ChangeAt Go.RowKit
set_option maxRecDepth 100000 in
theorem lifted (os : Os) (started : os.Started) (H : Type) (enc : TypeId × Value → H) :
    ReturnsInHanded {} Try.checked os 19 .any (Rows.entryGroupsSpec.pre6 enc Try.prog Try.f19 Rows.entryGroupsRow.domain false) (Rows.entryGroupsSpec.post enc Try.prog Try.f19 false true false false) := by
  refine returnsInHanded_of_change (C := Try.checked) own started (by kernel_rfl) Try.func19
    (ChangeSpec.witness6 (enc := enc) (C := Try.checked) false ⟨#[], #[.agg (Array.replicate 6 (.int .i64 0) ++ Array.replicate 32 (.int .u8 0)), .int .i64 0], []⟩ 8 (by kernel_rfl) (by kernel_rfl) (by kernel_rfl) (by kernel_rfl)) ?_
  intro W base args ds gs before hval0 hW hcnd _
  have hval : ∀ (j : Nat) t v, Try.f19.params[j]? = some t → args[j]? = some v → Value.okWide Try.prog W .any base t v := hval0
  have hW' := hW
  obtain ⟨p, q, hA0, hV, rfl, hfz, hnd⟩ := hW
  have hA : DataW.TrodAll enc Try.prog W 0 (fun _ => true) true Try.f19.params.toList args.toList ds p := hA0
  rw [Try.params19] at hA hval
  obtain ⟨v0, vs0, d0, ds0, p0, q0, hargs, rfl, rfl, h0, r0⟩ := trodAll_cons hA
  obtain ⟨v1, vs1, d1, ds1, p1, q1, rfl, rfl, rfl, h1, r1⟩ := trodAll_cons r0
  obtain ⟨rfl, rfl, rfl⟩ := trodAll_nil r1
  obtain rfl : args = #[v0, v1] := by cases args; simp_all
  obtain ⟨rfl, rfl⟩ := trodVars_none hV
  have k0 := h0
  have lt0 := trod_fin k0
  obtain ⟨x0, rfl, n0⟩ := open_entry (hval 0 82 v0 rfl rfl) h0
  have k1 := h1
  have lt1 := trod_fin k1
  obtain ⟨a1, rfl, _, _, w1⟩ := open_int Try.underlying3 (hval 1 3 v1 rfl rfl) h1
  have n1 := bounds_i64 w1
  clear hA0 hval0
  refine (groups_walk W x0 n0 a1).mono fun e W' ⟨he, bel⟩ => ?_
  subst he
  exact ⟨_, rfl, _, _, _, [], _, [], hW', trodAll_mk1 (shut_bool Try.underlying4 _), (trodAll_cons_mk (Below.trod laidOut (by kernel_rfl) (of_decide_eq_true (by kernel_rfl)) k0 bel lt0) (trodAll_cons_mk (Below.trod laidOut (by kernel_rfl) (of_decide_eq_true (by kernel_rfl)) k1 bel lt1) trodAll_mk0)), rfl, bel.frame _, fun h => by cases h⟩
theorem facts : joinedFacts Try.prog 19 Try.f19 Rows.entryGroupsSpec Rows.entryGroupsRow = true := by
  unfold joinedFacts
  rw [may_enter, lifts_final, make_is]
  kernel_rfl
theorem over : Rows.entryGroupsRow.holds Try.pinned (OpenSpec.ofChange Rows.entryGroupsSpec) :=
  OpenClaim.holds_of_wide 19 Try.f19 rfl rfl rfl rfl rfl rfl rfl ⟨rfl, rfl, rfl, rfl, rfl⟩ rfl rfl rfl rfl rfl (by kernel_rfl) Try.func19 facts
    (of_decide_eq_true (by kernel_rfl)) (by unfold Func.isWrapper; first | (rw [if_pos (by decide +kernel)]; kernel_rfl) | (rw [if_neg (by decide +kernel)]; exact ⟨rfl, rfl⟩))
    (fun os started H enc _ => lifted os started H enc)
theorem proved : Rows.EntryGroupsSaid := over
#print axioms proved
end Go.Proofs.Ytncooadaeifekaa.entryGroups
