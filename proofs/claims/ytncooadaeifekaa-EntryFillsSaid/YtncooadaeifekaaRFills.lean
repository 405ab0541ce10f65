/- EntryFills is proved: for any byte and numbers the law returns true. No condition. -/
import Derived.Test.YtncooadaeifekaaPF5
/- Walk of the law EntryFills: it answers true for any byte and numbers. -/
namespace Go.Proofs.Ytncooadaeifekaa
open Go.RowKit
theorem fill_is (b : Nat) (hb0 : b < 256) (X : List Nat) (hX : List.replicate 32 b = X) (w : World) :
    Calls Try.prog 64 #[.int .u8 b] w fun e w' => e = .returned (.agg (sct X)) ∧ Below w.heap.size w w' := by subst hX; exact fill_calls b hb0 w
theorem body_tail (e : M.En) (k : Nat) : nth e.body (12 + k) = nth e.bytes k := by
  have hl : (M.leB 6 e.first.toNat ++ M.leB 1 e.count.toNat ++ M.leB 1 e.block.toNat ++ M.leB 2 e.many.toNat ++ M.leB 2 e.mate.toNat).length = 12 := by simp [M.leB_length]
  unfold M.En.body nth
  rw [List.getD_eq_getElem?_getD, List.getElem?_append_right (by rw [hl]; omega), hl, Nat.add_sub_cancel_left, List.getD_eq_getElem?_getD]
theorem fills_right (x y : Int) : ((M.En.mk 2 0 1 x y 0 (List.replicate 32 0)).right = true) = ((0 ≤ x ∧ x ≤ 255) ∧ 1 ≤ y ∧ y ≤ 256 - x) := by
  simp [M.En.right, M.En.counts]
set_option maxRecDepth 100000 in
set_option maxHeartbeats 1000000 in
theorem fills_a (w : World) (b : Nat) (hb0 : b < 256) (x y : Int) (h0 : x < 0) :
    Calls Try.prog 20 #[.int .u8 b, .int .i64 x, .int .i64 y] w fun r w' => r = .returned (.bool true) ∧ Below w.heap.size w w' := by
  obtain ⟨X, hX⟩ : ∃ X, List.replicate 32 b = X := ⟨_, rfl⟩
  have hxl : X.length = 32 := by rw [← hX]; simp
  have hxn : ∀ k, k < 32 → nth X k = b := fun k hk => by rw [← hX]; unfold nth; rw [List.getD_eq_getElem?_getD, List.getElem?_replicate, if_pos hk]; rfl
  obtain ⟨E, hE⟩ : ∃ E : M.En, E = ⟨2, 0, 1, x, y, 0, List.replicate 32 0⟩ := ⟨_, rfl⟩
  have hok : E.ok := by rw [hE]; exact ⟨by simp, by simp⟩
  have hbld : Hid (∀ w, (Instr.build 82 #[(0, .int .i64 2), (2, .int .i64 1), (3, .int .i64 x), (4, .int .i64 y)]).run Try.prog w = .ok (.agg (ent E)) w) := fun w => by rw [hE]; kernel_rfl
  obtain ⟨BDY, hBDY⟩ : ∃ B : List Nat, B = List.replicate 44 0 := ⟨_, rfl⟩
  have HBL : Hid (BDY.length = 44) := by show _ = _; rw [hBDY]; simp
  have HV : Hid (E.bod = (BDY, 10)) := by show _ = _; rw [M.En.bod, if_neg (by rw [hE, fills_right]; omega), hBDY]
  clear hBDY
  have t0 : decide (x < 0) = true := by simpa using h0
  have HX := hid hX
  have HXL := hid hxl
  have HXN := hid hxn
  have HOK := hid hok
  clear hX hxl hxn hok hE h0
  have hW := Below.refl w.heap.size w
  go_enter Try.func20, Try.ntmps20
  go_wp2_with (first | (go_at_call 60; refine (anchor4_calls _).mono ?_; rintro e w1 ⟨rfl, hb⟩; have sw1 := hb.size; have hW := below_next hW hb) | (go_at_call 64; refine (fill_is b hb0 X HX.out _).mono ?_; rintro e w2 ⟨rfl, hb⟩; have sw2 := hb.size; have hW := below_next hW hb) | ((with_reducible show wpList _ _ _ (⟨some 7, _, _, _, _, _⟩ :: _) _ _); refine wpList_local 7 rfl rfl rfl rfl 80 rfl _ rfl (sct X) rfl (of_decide_eq_true (by kernel_rfl)) (ty80 _ HXL.out) (sct_all _) ?_; intro W7 N7 hNN7 hMN7 hr7 hb; have sW7 := hb.size; have hW := below_next hW hb) | ((with_reducible show wpList _ _ _ (⟨some 18, _, _, _, _, _⟩ :: _) _ _); refine wpList_load_rowg 18 rfl rfl 80 _ rfl N7 rfl _ (sct X) (0, 0) _ hr7 Try.underlying80 rfl (ty80 _ HXL.out).size ?_))
  go_loopw [19] (fun i wr => ∃ k : Nat, k ≤ 32 ∧ i = .int .i64 k ∧ Hid (Below w.heap.size w wr)) (fun i _ => 32 - (intOf i).toNat)
  case atStart => exact ⟨0, Nat.zero_le _, rfl, hW⟩
  case round =>
    clear hW
    obtain ⟨k, hk, rfl, HH⟩ := hrel
    have hW := HH.out
    by_cases hlt : k < 32
    · go_wp2_with (first | ((with_reducible show wpList _ _ _ (⟨some 21, _, _, _, _, _⟩ :: _) _ _); refine wpList_index80 21 rfl rfl _ _ rfl X k rfl rfl HXL.out hlt ?_; rw [HXN.out k hlt]))
      go_roundw
      case rel => exact ⟨k + 1, by omega, by go_num, hW⟩
      case measure => simp [intOf]; omega
    · obtain rfl : k = 32 := by omega
      go_wp2_with (first | ((with_reducible show wpList _ _ _ (⟨some 29, _, _, _, _, _⟩ :: _) _ _); refine wpList_build_p 29 rfl rfl 82 _ rfl #[(0, .int .i64 2), (2, .int .i64 1), (3, .int .i64 x), (4, .int .i64 y)] (by kernel_rfl) (ent E) hbld.out ?_) | (go_at_call 61; refine (body_calls E HOK.out _).mono ?_; rintro e w5 ⟨rfl, hb⟩; rw [HV.out]; have sw5 := hb.size; have hW := below_next hW hb) | ((with_reducible show wpList _ _ _ (⟨some 10, _, _, _, _, _⟩ :: _) _ _); refine wpList_local 10 rfl rfl rfl rfl 39 rfl _ rfl (sct BDY) rfl (of_decide_eq_true (by kernel_rfl)) (ty39 _ HBL.out) (sct_all _) ?_; intro W10 N10 hNN10 hMN10 hr10 hb; have sW10 := hb.size; have hW := below_next hW hb))
      go_ret
      exact ⟨rfl, hW⟩
set_option maxRecDepth 100000 in
set_option maxHeartbeats 1000000 in
theorem fills_b (w : World) (b : Nat) (hb0 : b < 256) (x y : Int) (h0 : ¬ x < 0) (h1 : 255 < x) :
    Calls Try.prog 20 #[.int .u8 b, .int .i64 x, .int .i64 y] w fun r w' => r = .returned (.bool true) ∧ Below w.heap.size w w' := by
  obtain ⟨X, hX⟩ : ∃ X, List.replicate 32 b = X := ⟨_, rfl⟩
  have hxl : X.length = 32 := by rw [← hX]; simp
  have hxn : ∀ k, k < 32 → nth X k = b := fun k hk => by rw [← hX]; unfold nth; rw [List.getD_eq_getElem?_getD, List.getElem?_replicate, if_pos hk]; rfl
  obtain ⟨E, hE⟩ : ∃ E : M.En, E = ⟨2, 0, 1, x, y, 0, List.replicate 32 0⟩ := ⟨_, rfl⟩
  have hok : E.ok := by rw [hE]; exact ⟨by simp, by simp⟩
  have hbld : Hid (∀ w, (Instr.build 82 #[(0, .int .i64 2), (2, .int .i64 1), (3, .int .i64 x), (4, .int .i64 y)]).run Try.prog w = .ok (.agg (ent E)) w) := fun w => by rw [hE]; kernel_rfl
  obtain ⟨BDY, hBDY⟩ : ∃ B : List Nat, B = List.replicate 44 0 := ⟨_, rfl⟩
  have HBL : Hid (BDY.length = 44) := by show _ = _; rw [hBDY]; simp
  have HV : Hid (E.bod = (BDY, 10)) := by show _ = _; rw [M.En.bod, if_neg (by rw [hE, fills_right]; omega), hBDY]
  clear hBDY
  have t0 : decide (x < 0) = false := by simpa using h0
  have t1 : decide (255 < x) = true := by simpa using h1
  have HX := hid hX
  have HXL := hid hxl
  have HXN := hid hxn
  have HOK := hid hok
  clear hX hxl hxn hok hE h0 h1
  have hW := Below.refl w.heap.size w
  go_enter Try.func20, Try.ntmps20
  go_wp2_with (first | (go_at_call 60; refine (anchor4_calls _).mono ?_; rintro e w1 ⟨rfl, hb⟩; have sw1 := hb.size; have hW := below_next hW hb) | (go_at_call 64; refine (fill_is b hb0 X HX.out _).mono ?_; rintro e w2 ⟨rfl, hb⟩; have sw2 := hb.size; have hW := below_next hW hb) | ((with_reducible show wpList _ _ _ (⟨some 7, _, _, _, _, _⟩ :: _) _ _); refine wpList_local 7 rfl rfl rfl rfl 80 rfl _ rfl (sct X) rfl (of_decide_eq_true (by kernel_rfl)) (ty80 _ HXL.out) (sct_all _) ?_; intro W7 N7 hNN7 hMN7 hr7 hb; have sW7 := hb.size; have hW := below_next hW hb) | ((with_reducible show wpList _ _ _ (⟨some 18, _, _, _, _, _⟩ :: _) _ _); refine wpList_load_rowg 18 rfl rfl 80 _ rfl N7 rfl _ (sct X) (0, 0) _ hr7 Try.underlying80 rfl (ty80 _ HXL.out).size ?_))
  go_loopw [19] (fun i wr => ∃ k : Nat, k ≤ 32 ∧ i = .int .i64 k ∧ Hid (Below w.heap.size w wr)) (fun i _ => 32 - (intOf i).toNat)
  case atStart => exact ⟨0, Nat.zero_le _, rfl, hW⟩
  case round =>
    clear hW
    obtain ⟨k, hk, rfl, HH⟩ := hrel
    have hW := HH.out
    by_cases hlt : k < 32
    · go_wp2_with (first | ((with_reducible show wpList _ _ _ (⟨some 21, _, _, _, _, _⟩ :: _) _ _); refine wpList_index80 21 rfl rfl _ _ rfl X k rfl rfl HXL.out hlt ?_; rw [HXN.out k hlt]))
      go_roundw
      case rel => exact ⟨k + 1, by omega, by go_num, hW⟩
      case measure => simp [intOf]; omega
    · obtain rfl : k = 32 := by omega
      go_wp2_with (first | ((with_reducible show wpList _ _ _ (⟨some 29, _, _, _, _, _⟩ :: _) _ _); refine wpList_build_p 29 rfl rfl 82 _ rfl #[(0, .int .i64 2), (2, .int .i64 1), (3, .int .i64 x), (4, .int .i64 y)] (by kernel_rfl) (ent E) hbld.out ?_) | (go_at_call 61; refine (body_calls E HOK.out _).mono ?_; rintro e w5 ⟨rfl, hb⟩; rw [HV.out]; have sw5 := hb.size; have hW := below_next hW hb) | ((with_reducible show wpList _ _ _ (⟨some 10, _, _, _, _, _⟩ :: _) _ _); refine wpList_local 10 rfl rfl rfl rfl 39 rfl _ rfl (sct BDY) rfl (of_decide_eq_true (by kernel_rfl)) (ty39 _ HBL.out) (sct_all _) ?_; intro W10 N10 hNN10 hMN10 hr10 hb; have sW10 := hb.size; have hW := below_next hW hb))
      go_ret
      exact ⟨rfl, hW⟩
set_option maxRecDepth 100000 in
set_option maxHeartbeats 1000000 in
theorem fills_c (w : World) (b : Nat) (hb0 : b < 256) (x y : Int) (h0 : ¬ x < 0) (h1 : ¬ 255 < x) (h2 : y < 1) :
    Calls Try.prog 20 #[.int .u8 b, .int .i64 x, .int .i64 y] w fun r w' => r = .returned (.bool true) ∧ Below w.heap.size w w' := by
  obtain ⟨X, hX⟩ : ∃ X, List.replicate 32 b = X := ⟨_, rfl⟩
  have hxl : X.length = 32 := by rw [← hX]; simp
  have hxn : ∀ k, k < 32 → nth X k = b := fun k hk => by rw [← hX]; unfold nth; rw [List.getD_eq_getElem?_getD, List.getElem?_replicate, if_pos hk]; rfl
  obtain ⟨E, hE⟩ : ∃ E : M.En, E = ⟨2, 0, 1, x, y, 0, List.replicate 32 0⟩ := ⟨_, rfl⟩
  have hok : E.ok := by rw [hE]; exact ⟨by simp, by simp⟩
  have hbld : Hid (∀ w, (Instr.build 82 #[(0, .int .i64 2), (2, .int .i64 1), (3, .int .i64 x), (4, .int .i64 y)]).run Try.prog w = .ok (.agg (ent E)) w) := fun w => by rw [hE]; kernel_rfl
  obtain ⟨BDY, hBDY⟩ : ∃ B : List Nat, B = List.replicate 44 0 := ⟨_, rfl⟩
  have HBL : Hid (BDY.length = 44) := by show _ = _; rw [hBDY]; simp
  have HV : Hid (E.bod = (BDY, 10)) := by show _ = _; rw [M.En.bod, if_neg (by rw [hE, fills_right]; omega), hBDY]
  clear hBDY
  have t0 : decide (x < 0) = false := by simpa using h0
  have t1 : decide (255 < x) = false := by simpa using h1
  have t2 : decide (y < 1) = true := by simpa using h2
  have HX := hid hX
  have HXL := hid hxl
  have HXN := hid hxn
  have HOK := hid hok
  clear hX hxl hxn hok hE h0 h1 h2
  have hW := Below.refl w.heap.size w
  go_enter Try.func20, Try.ntmps20
  go_wp2_with (first | (go_at_call 60; refine (anchor4_calls _).mono ?_; rintro e w1 ⟨rfl, hb⟩; have sw1 := hb.size; have hW := below_next hW hb) | (go_at_call 64; refine (fill_is b hb0 X HX.out _).mono ?_; rintro e w2 ⟨rfl, hb⟩; have sw2 := hb.size; have hW := below_next hW hb) | ((with_reducible show wpList _ _ _ (⟨some 7, _, _, _, _, _⟩ :: _) _ _); refine wpList_local 7 rfl rfl rfl rfl 80 rfl _ rfl (sct X) rfl (of_decide_eq_true (by kernel_rfl)) (ty80 _ HXL.out) (sct_all _) ?_; intro W7 N7 hNN7 hMN7 hr7 hb; have sW7 := hb.size; have hW := below_next hW hb) | ((with_reducible show wpList _ _ _ (⟨some 18, _, _, _, _, _⟩ :: _) _ _); refine wpList_load_rowg 18 rfl rfl 80 _ rfl N7 rfl _ (sct X) (0, 0) _ hr7 Try.underlying80 rfl (ty80 _ HXL.out).size ?_))
  go_loopw [19] (fun i wr => ∃ k : Nat, k ≤ 32 ∧ i = .int .i64 k ∧ Hid (Below w.heap.size w wr)) (fun i _ => 32 - (intOf i).toNat)
  case atStart => exact ⟨0, Nat.zero_le _, rfl, hW⟩
  case round =>
    clear hW
    obtain ⟨k, hk, rfl, HH⟩ := hrel
    have hW := HH.out
    by_cases hlt : k < 32
    · go_wp2_with (first | ((with_reducible show wpList _ _ _ (⟨some 21, _, _, _, _, _⟩ :: _) _ _); refine wpList_index80 21 rfl rfl _ _ rfl X k rfl rfl HXL.out hlt ?_; rw [HXN.out k hlt]))
      go_roundw
      case rel => exact ⟨k + 1, by omega, by go_num, hW⟩
      case measure => simp [intOf]; omega
    · obtain rfl : k = 32 := by omega
      go_wp2_with (first | ((with_reducible show wpList _ _ _ (⟨some 29, _, _, _, _, _⟩ :: _) _ _); refine wpList_build_p 29 rfl rfl 82 _ rfl #[(0, .int .i64 2), (2, .int .i64 1), (3, .int .i64 x), (4, .int .i64 y)] (by kernel_rfl) (ent E) hbld.out ?_) | (go_at_call 61; refine (body_calls E HOK.out _).mono ?_; rintro e w5 ⟨rfl, hb⟩; rw [HV.out]; have sw5 := hb.size; have hW := below_next hW hb) | ((with_reducible show wpList _ _ _ (⟨some 10, _, _, _, _, _⟩ :: _) _ _); refine wpList_local 10 rfl rfl rfl rfl 39 rfl _ rfl (sct BDY) rfl (of_decide_eq_true (by kernel_rfl)) (ty39 _ HBL.out) (sct_all _) ?_; intro W10 N10 hNN10 hMN10 hr10 hb; have sW10 := hb.size; have hW := below_next hW hb))
      go_ret
      exact ⟨rfl, hW⟩
set_option maxRecDepth 100000 in
set_option maxHeartbeats 1000000 in
theorem fills_d (w : World) (b : Nat) (hb0 : b < 256) (x y : Int) (h0 : ¬ x < 0) (h1 : ¬ 255 < x) (h2 : ¬ y < 1) (h3 : 256 - x < y) :
    Calls Try.prog 20 #[.int .u8 b, .int .i64 x, .int .i64 y] w fun r w' => r = .returned (.bool true) ∧ Below w.heap.size w w' := by
  obtain ⟨X, hX⟩ : ∃ X, List.replicate 32 b = X := ⟨_, rfl⟩
  have hxl : X.length = 32 := by rw [← hX]; simp
  have hxn : ∀ k, k < 32 → nth X k = b := fun k hk => by rw [← hX]; unfold nth; rw [List.getD_eq_getElem?_getD, List.getElem?_replicate, if_pos hk]; rfl
  obtain ⟨E, hE⟩ : ∃ E : M.En, E = ⟨2, 0, 1, x, y, 0, List.replicate 32 0⟩ := ⟨_, rfl⟩
  have hok : E.ok := by rw [hE]; exact ⟨by simp, by simp⟩
  have hbld : Hid (∀ w, (Instr.build 82 #[(0, .int .i64 2), (2, .int .i64 1), (3, .int .i64 x), (4, .int .i64 y)]).run Try.prog w = .ok (.agg (ent E)) w) := fun w => by rw [hE]; kernel_rfl
  obtain ⟨BDY, hBDY⟩ : ∃ B : List Nat, B = List.replicate 44 0 := ⟨_, rfl⟩
  have HBL : Hid (BDY.length = 44) := by show _ = _; rw [hBDY]; simp
  have HV : Hid (E.bod = (BDY, 10)) := by show _ = _; rw [M.En.bod, if_neg (by rw [hE, fills_right]; omega), hBDY]
  clear hBDY
  have t0 : decide (x < 0) = false := by simpa using h0
  have t1 : decide (255 < x) = false := by simpa using h1
  have t2 : decide (y < 1) = false := by simpa using h2
  have t3 : decide (256 - x < y) = true := by simpa using h3
  have hsub : wrap64 (256 - x) = 256 - x := by unfold wrap64; omega
  have HX := hid hX
  have HXL := hid hxl
  have HXN := hid hxn
  have HOK := hid hok
  clear hX hxl hxn hok hE h0 h1 h2 h3
  have hW := Below.refl w.heap.size w
  go_enter Try.func20, Try.ntmps20
  go_wp2_with (first | (go_at_call 60; refine (anchor4_calls _).mono ?_; rintro e w1 ⟨rfl, hb⟩; have sw1 := hb.size; have hW := below_next hW hb) | (go_at_call 64; refine (fill_is b hb0 X HX.out _).mono ?_; rintro e w2 ⟨rfl, hb⟩; have sw2 := hb.size; have hW := below_next hW hb) | ((with_reducible show wpList _ _ _ (⟨some 7, _, _, _, _, _⟩ :: _) _ _); refine wpList_local 7 rfl rfl rfl rfl 80 rfl _ rfl (sct X) rfl (of_decide_eq_true (by kernel_rfl)) (ty80 _ HXL.out) (sct_all _) ?_; intro W7 N7 hNN7 hMN7 hr7 hb; have sW7 := hb.size; have hW := below_next hW hb) | ((with_reducible show wpList _ _ _ (⟨some 18, _, _, _, _, _⟩ :: _) _ _); refine wpList_load_rowg 18 rfl rfl 80 _ rfl N7 rfl _ (sct X) (0, 0) _ hr7 Try.underlying80 rfl (ty80 _ HXL.out).size ?_))
  go_loopw [19] (fun i wr => ∃ k : Nat, k ≤ 32 ∧ i = .int .i64 k ∧ Hid (Below w.heap.size w wr)) (fun i _ => 32 - (intOf i).toNat)
  case atStart => exact ⟨0, Nat.zero_le _, rfl, hW⟩
  case round =>
    clear hW
    obtain ⟨k, hk, rfl, HH⟩ := hrel
    have hW := HH.out
    by_cases hlt : k < 32
    · go_wp2_with (first | ((with_reducible show wpList _ _ _ (⟨some 21, _, _, _, _, _⟩ :: _) _ _); refine wpList_index80 21 rfl rfl _ _ rfl X k rfl rfl HXL.out hlt ?_; rw [HXN.out k hlt]))
      go_roundw
      case rel => exact ⟨k + 1, by omega, by go_num, hW⟩
      case measure => simp [intOf]; omega
    · obtain rfl : k = 32 := by omega
      go_wp2_with (first | ((with_reducible show wpList _ _ _ (⟨some 29, _, _, _, _, _⟩ :: _) _ _); refine wpList_build_p 29 rfl rfl 82 _ rfl #[(0, .int .i64 2), (2, .int .i64 1), (3, .int .i64 x), (4, .int .i64 y)] (by kernel_rfl) (ent E) hbld.out ?_) | (go_at_call 61; refine (body_calls E HOK.out _).mono ?_; rintro e w5 ⟨rfl, hb⟩; rw [HV.out]; have sw5 := hb.size; have hW := below_next hW hb) | ((with_reducible show wpList _ _ _ (⟨some 10, _, _, _, _, _⟩ :: _) _ _); refine wpList_local 10 rfl rfl rfl rfl 39 rfl _ rfl (sct BDY) rfl (of_decide_eq_true (by kernel_rfl)) (ty39 _ HBL.out) (sct_all _) ?_; intro W10 N10 hNN10 hMN10 hr10 hb; have sW10 := hb.size; have hW := below_next hW hb))
      go_ret
      exact ⟨rfl, hW⟩
set_option maxRecDepth 100000 in
set_option maxHeartbeats 1000000 in
theorem fills_e (w : World) (b : Nat) (hb0 : b < 256) (x y : Int) (h0 : ¬ x < 0) (h1 : ¬ 255 < x) (h2 : ¬ y < 1) (h3 : ¬ 256 - x < y) :
    Calls Try.prog 20 #[.int .u8 b, .int .i64 x, .int .i64 y] w fun r w' => r = .returned (.bool true) ∧ Below w.heap.size w w' := by
  obtain ⟨X, hX⟩ : ∃ X, List.replicate 32 b = X := ⟨_, rfl⟩
  have hxl : X.length = 32 := by rw [← hX]; simp
  have hxn : ∀ k, k < 32 → nth X k = b := fun k hk => by rw [← hX]; unfold nth; rw [List.getD_eq_getElem?_getD, List.getElem?_replicate, if_pos hk]; rfl
  obtain ⟨E, hE⟩ : ∃ E : M.En, E = ⟨2, 0, 1, x, y, 0, List.replicate 32 0⟩ := ⟨_, rfl⟩
  have hok : E.ok := by rw [hE]; exact ⟨by simp, by simp⟩
  have hbld : Hid (∀ w, (Instr.build 82 #[(0, .int .i64 2), (2, .int .i64 1), (3, .int .i64 x), (4, .int .i64 y)]).run Try.prog w = .ok (.agg (ent E)) w) := fun w => by rw [hE]; kernel_rfl
  have hr : E.right = true := by rw [hE, fills_right]; omega
  obtain ⟨BDY, hBDY⟩ : ∃ B : List Nat, E.body = B := ⟨_, rfl⟩
  have HBL : Hid (BDY.length = 44) := by show _ = _; rw [← hBDY]; exact E.body_length hok
  have HBZ : Hid (∀ k, k < 32 → nth BDY (12 + k) = 0) := fun k hk => by
    rw [← hBDY, body_tail, hE]
    unfold nth; rw [List.getD_eq_getElem?_getD, List.getElem?_replicate, if_pos hk]; rfl
  have HV : Hid (E.bod = (BDY, 0)) := by show _ = _; rw [M.En.bod, if_pos hr, hBDY]
  clear hBDY hr
  have t0 : decide (x < 0) = false := by simpa using h0
  have t1 : decide (255 < x) = false := by simpa using h1
  have t2 : decide (y < 1) = false := by simpa using h2
  have t3 : decide (256 - x < y) = false := by simpa using h3
  have hsub : wrap64 (256 - x) = 256 - x := by unfold wrap64; omega
  have HX := hid hX
  have HXL := hid hxl
  have HXN := hid hxn
  have HOK := hid hok
  clear hX hxl hxn hok hE h0 h1 h2 h3
  have hW := Below.refl w.heap.size w
  go_enter Try.func20, Try.ntmps20
  go_wp2_with (first | (go_at_call 60; refine (anchor4_calls _).mono ?_; rintro e w1 ⟨rfl, hb⟩; have sw1 := hb.size; have hW := below_next hW hb) | (go_at_call 64; refine (fill_is b hb0 X HX.out _).mono ?_; rintro e w2 ⟨rfl, hb⟩; have sw2 := hb.size; have hW := below_next hW hb) | ((with_reducible show wpList _ _ _ (⟨some 7, _, _, _, _, _⟩ :: _) _ _); refine wpList_local 7 rfl rfl rfl rfl 80 rfl _ rfl (sct X) rfl (of_decide_eq_true (by kernel_rfl)) (ty80 _ HXL.out) (sct_all _) ?_; intro W7 N7 hNN7 hMN7 hr7 hb; have sW7 := hb.size; have hW := below_next hW hb) | ((with_reducible show wpList _ _ _ (⟨some 18, _, _, _, _, _⟩ :: _) _ _); refine wpList_load_rowg 18 rfl rfl 80 _ rfl N7 rfl _ (sct X) (0, 0) _ hr7 Try.underlying80 rfl (ty80 _ HXL.out).size ?_))
  go_loopw [19] (fun i wr => ∃ k : Nat, k ≤ 32 ∧ i = .int .i64 k ∧ Hid (Below w.heap.size w wr)) (fun i _ => 32 - (intOf i).toNat)
  case atStart => exact ⟨0, Nat.zero_le _, rfl, hW⟩
  case round =>
    clear hW
    obtain ⟨k, hk, rfl, HH⟩ := hrel
    have hW := HH.out
    by_cases hlt : k < 32
    · go_wp2_with (first | ((with_reducible show wpList _ _ _ (⟨some 21, _, _, _, _, _⟩ :: _) _ _); refine wpList_index80 21 rfl rfl _ _ rfl X k rfl rfl HXL.out hlt ?_; rw [HXN.out k hlt]))
      go_roundw
      case rel => exact ⟨k + 1, by omega, by go_num, hW⟩
      case measure => simp [intOf]; omega
    · obtain rfl : k = 32 := by omega
      go_wp2_with (first | ((with_reducible show wpList _ _ _ (⟨some 29, _, _, _, _, _⟩ :: _) _ _); refine wpList_build_p 29 rfl rfl 82 _ rfl #[(0, .int .i64 2), (2, .int .i64 1), (3, .int .i64 x), (4, .int .i64 y)] (by kernel_rfl) (ent E) hbld.out ?_) | (go_at_call 61; refine (body_calls E HOK.out _).mono ?_; rintro e w5 ⟨rfl, hb⟩; rw [HV.out]; have sw5 := hb.size; have hW := below_next hW hb) | ((with_reducible show wpList _ _ _ (⟨some 10, _, _, _, _, _⟩ :: _) _ _); refine wpList_local 10 rfl rfl rfl rfl 39 rfl _ rfl (sct BDY) rfl (of_decide_eq_true (by kernel_rfl)) (ty39 _ HBL.out) (sct_all _) ?_; intro W10 N10 hNN10 hMN10 hr10 hb; have sW10 := hb.size; have hW := below_next hW hb))
      go_loopw [53] (fun i wr => ∃ k : Nat, k ≤ 32 ∧ i = .int .i64 k ∧ Hid (wr.heap[N10]? = some (.cells (sct BDY) 39 (0, 0))) ∧ Hid (Below w.heap.size w wr)) (fun i _ => 32 - (intOf i).toNat)
      case atStart => exact ⟨0, Nat.zero_le _, rfl, hr10, hW⟩
      case round =>
        clear hW hr10
        obtain ⟨k, hk, rfl, HR10, HH⟩ := hrel
        have hW := HH.out
        by_cases hlt : k < 32
        · have c1 : wr.cell? ⟨N10, 12 + k, none⟩ = some (.int .u8 0) := by
            rw [cell_of_row _ _ _ _ _ _ HR10.out]
            have := u8s_at BDY (12 + k) (by rw [HBL.out]; omega)
            rw [HBZ.out k hlt] at this
            simpa [sct] using this
          go_wp2
          go_roundw
          case rel => exact ⟨k + 1, by omega, by go_num, HR10, hW⟩
          case measure => simp [intOf]; omega
        · obtain rfl : k = 32 := by omega
          go_wp2
          go_ret
          exact ⟨rfl, hW⟩
theorem fills_walk (w : World) (b : Nat) (hb0 : b < 256) (x y : Int) :
    Calls Try.prog 20 #[.int .u8 b, .int .i64 x, .int .i64 y] w fun r w' => r = .returned (.bool true) ∧ Below w.heap.size w w' := by
  by_cases h0 : x < 0
  · exact fills_a w b hb0 x y h0
  · by_cases h1 : 255 < x
    · exact fills_b w b hb0 x y h0 h1
    · by_cases h2 : y < 1
      · exact fills_c w b hb0 x y h0 h1 h2
      · by_cases h3 : 256 - x < y
        · exact fills_d w b hb0 x y h0 h1 h2 h3
        · exact fills_e w b hb0 x y h0 h1 h2 h3
end Go.Proofs.Ytncooadaeifekaa

/- EntryFills is proved: for any byte and numbers the law returns true. No condition. -/
namespace Go.Proofs.Ytncooadaeifekaa.entryFills
open Go.ChangeShapes Go.WideShapes Go.ChangeAt Go.RowKit
set_option maxRecDepth 100000 in
theorem lifted (os : Os) (started : os.Started) (H : Type) (enc : TypeId × Value → H) :
    ReturnsInHanded {} Try.checked os 20 .any (Rows.entryFillsSpec.pre6 enc Try.prog Try.f20 Rows.entryFillsRow.domain false) (Rows.entryFillsSpec.post enc Try.prog Try.f20 false true false false) := by
  refine returnsInHanded_of_change (C := Try.checked) own started (by kernel_rfl) Try.func20
    (ChangeSpec.witness6 (enc := enc) (C := Try.checked) false ⟨#[], #[.int .u8 0, .int .i64 0, .int .i64 0], []⟩ 8 (by kernel_rfl) (by kernel_rfl) (by kernel_rfl) (by kernel_rfl)) ?_
  intro W base args ds gs before hval0 hW hcnd _
  have hval : ∀ (j : Nat) t v, Try.f20.params[j]? = some t → args[j]? = some v → Value.okWide Try.prog W .any base t v := hval0
  have hW' := hW
  obtain ⟨p, q, hA0, hV, rfl, hfz, hnd⟩ := hW
  have hA : DataW.TrodAll enc Try.prog W 0 (fun _ => true) true Try.f20.params.toList args.toList ds p := hA0
  rw [Try.params20] at hA hval
  obtain ⟨v0, vs0, d0, ds0, p0, q0, hargs, rfl, rfl, h0, r0⟩ := trodAll_cons hA
  obtain ⟨v1, vs1, d1, ds1, p1, q1, rfl, rfl, rfl, h1, r1⟩ := trodAll_cons r0
  obtain ⟨v2, vs2, d2, ds2, p2, q2, rfl, rfl, rfl, h2, r2⟩ := trodAll_cons r1
  obtain ⟨rfl, rfl, rfl⟩ := trodAll_nil r2
  obtain rfl : args = #[v0, v1, v2] := by cases args; simp_all
  obtain ⟨rfl, rfl⟩ := trodVars_none hV
  have k0 := h0
  have lt0 := trod_fin k0
  obtain ⟨b0, rfl, _, _, w0⟩ := open_int Try.underlying5 (hval 0 5 v0 rfl rfl) h0
  obtain ⟨a0, rfl, n0⟩ := nat_u8 w0
  have k1 := h1
  have lt1 := trod_fin k1
  obtain ⟨a1, rfl, _, _, w1⟩ := open_int Try.underlying3 (hval 1 3 v1 rfl rfl) h1
  have n1 := bounds_i64 w1
  have k2 := h2
  have lt2 := trod_fin k2
  obtain ⟨a2, rfl, _, _, w2⟩ := open_int Try.underlying3 (hval 2 3 v2 rfl rfl) h2
  have n2 := bounds_i64 w2
  clear hA0 hval0
  refine (fills_walk W a0 n0 a1 a2).mono fun e W' ⟨he, bel⟩ => ?_
  subst he
  exact ⟨_, rfl, _, _, _, [], _, [], hW', trodAll_mk1 (shut_bool Try.underlying4 _), (trodAll_cons_mk (Below.trod laidOut (by kernel_rfl) (of_decide_eq_true (by kernel_rfl)) k0 bel lt0) (trodAll_cons_mk (Below.trod laidOut (by kernel_rfl) (of_decide_eq_true (by kernel_rfl)) k1 bel lt1) (trodAll_cons_mk (Below.trod laidOut (by kernel_rfl) (of_decide_eq_true (by kernel_rfl)) k2 bel lt2) trodAll_mk0))), rfl, bel.frame _, fun h => by cases h⟩
theorem facts : joinedFacts Try.prog 20 Try.f20 Rows.entryFillsSpec Rows.entryFillsRow = true := by
  unfold joinedFacts
  rw [may_enter, lifts_final, make_is]
  kernel_rfl
theorem over : Rows.entryFillsRow.holds Try.pinned (OpenSpec.ofChange Rows.entryFillsSpec) :=
  OpenClaim.holds_of_wide 20 Try.f20 rfl rfl rfl rfl rfl rfl rfl ⟨rfl, rfl, rfl, rfl, rfl⟩ rfl rfl rfl rfl rfl (by kernel_rfl) Try.func20 facts
    (of_decide_eq_true (by kernel_rfl)) (by unfold Func.isWrapper; first | (rw [if_pos (by decide +kernel)]; kernel_rfl) | (rw [if_neg (by decide +kernel)]; exact ⟨rfl, rfl⟩))
    (fun os started H enc _ => lifted os started H enc)
theorem proved : Rows.EntryFillsSaid := over
#print axioms proved
end Go.Proofs.Ytncooadaeifekaa.entryFills
