/- Walk of the law FrameDecodes: it answers true for any bytes. -/
import Derived.Test.YtncooadaeifekaaC19
import Derived.Test.YtncooadaeifekaaC22
namespace Go.Proofs.Ytncooadaeifekaa
open Go.RowKit Go.BigFrame
theorem sum4 (s : List Nat) (hs : s.length = 64) : M.leV (s.drop 60) = nth s 60 + 256 * nth s 61 + 65536 * nth s 62 + 16777216 * nth s 63 := by
  have e : s.drop 60 = [nth s 60, nth s 61, nth s 62, nth s 63] := by
    refine nth_eq _ _ (by simp; omega) fun j hj => ?_
    have hj4 : j < 4 := by simp at hj; omega
    rw [nth_drop]
    match j, hj4 with
    | 0, _ => simp [nth]
    | 1, _ => simp [nth]
    | 2, _ => simp [nth]
    | 3, _ => simp [nth]
  rw [e]; simp [M.leV]; omega
set_option maxRecDepth 100000 in
set_option maxHeartbeats 2000000 in
theorem decodes_walk (w : World) (s : List Nat) (h : s.length = 64 ∧ ∀ c ∈ s, c < 256) :
    Calls Try.prog 26 #[.agg (sct s)] w fun e w' => e = .returned (.bool true) ∧ Below w.heap.size w w' := by
  obtain ⟨hs, hb⟩ := h
  obtain ⟨D, hD⟩ : ∃ D, M.dec s = D := ⟨_, rfl⟩
  have hok : D.1.ok := by rw [← hD]; exact M.dec_ok s hs hb
  obtain ⟨V, hV⟩ : ∃ V, M.leV (s.drop 60) = V := ⟨_, rfl⟩
  have hsum : (nth s 60 : Int) + 256 * (nth s 61 : Int) + 65536 * (nth s 62 : Int) + 16777216 * (nth s 63 : Int) = (V : Int) := by rw [← hV, sum4 s hs]; omega
  have HS := hid hs
  have HB := hid hb
  have HD := hid hD
  have HV := hid hV
  have HOK := hid hok
  have HQ : Hid (∀ w, (Op.equalIn 10000 42 (.agg (frm D.1)) (.agg (frm D.1))).run Try.prog w = .ok true w) := fun w => by rw [eq_frm42 _ _ hok hok]; simp
  have HSUM := hid hsum
  clear hs hb hD hV hok hsum
  have hW := Below.refl w.heap.size w
  go_enter Try.func26, Try.ntmps26
  go_upto_region 3 with (first | ((with_reducible show wpList _ _ _ (⟨some 1, _, _, _, _, _⟩ :: _) _ _); refine wpList_boxed 1 rfl rfl 44 _ rfl (sct s) rfl ?_; intro W1 N1 hNN1 hMN1 hr1 hb; have sW1 := hb.size; have hW := below_next hW hb) | (go_at_call 36; refine (anchor3_calls _).mono ?_; rintro e w1 ⟨rfl, hb⟩; have sw1 := hb.size; have hW := below_next hW hb; have hr1 := below_blk hb hr1))
  clear hb
  obtain ⟨B, hB⟩ : ∃ B, B = w1.heap.size := ⟨_, rfl⟩
  have hBW : B ≤ w1.heap.size := Nat.le_of_eq hB
  have n1B : N1 < B := by rw [hB]; exact lt_of_block hr1
  have wB : w.heap.size ≤ B := by rw [hB]; exact hW.size
  refine wp_region_tail 7 [5] (spec := [none, none, none, none, none, none, some (Img ptF (rowF B (frm M.Fr.zero) 41)), none, none]) (vals := [.agg tbl, .agg (sct s), .tuple #[.agg (frm D.1), .int .i64 D.2], .tuple #[.agg (frm D.1), .int .i64 D.2], .agg (frm D.1), .int .i64 D.2, undef, undef, undef]) (by kernel_rfl) (by kernel_rfl) (by kernel_rfl) (by kernel_rfl) (by kernel_rfl) (by kernel_rfl) (by kernel_rfl) ?hst (fun hF => ?hobl) ?hQ
  case hst => exact ⟨img_stable _ _ (rowF_stable _ _ _), trivial⟩
  case hobl =>
    refine ⟨?_, ?_, ?_, ?_, ?_, ?_, ?_, trivial⟩
    · refine fun ho => ?_; rw [if_neg (by decide)]; refine obl_det hF (by kernel_rfl) (by kernel_rfl) ho (by kernel_rfl) (fun wx hbx => ?_); rw [if_pos (by kernel_rfl)]; with_reducible exact grows_call 29 #[] (.agg tbl) (by kernel_rfl) (new_calls wx) (by kernel_rfl) (by kernel_rfl)
    · refine fun ho => ?_; rw [if_neg (by decide)]; refine obl_det hF (by kernel_rfl) (by kernel_rfl) ho (by kernel_rfl) (fun wx hbx => ?_); rw [if_pos (by kernel_rfl)]; with_reducible exact grows_row 44 (.tmp 1) (by kernel_rfl) N1 (by kernel_rfl) 44 (sct s) (0, 0) _ (below_blk hbx hr1) Try.underlying44 (by kernel_rfl) (ty44 _ HS.out).size (by kernel_rfl) (by kernel_rfl)
    · refine fun ho => ?_; rw [if_neg (by decide)]; refine obl_det hF (by kernel_rfl) (by kernel_rfl) ho (by kernel_rfl) (fun wx hbx => ?_); rw [if_pos (by kernel_rfl)]; have hcc := decode_calls s HS.out HB.out wx; rw [HD.out] at hcc; with_reducible exact grows_call 40 #[.agg tbl, .agg (sct s)] (.tuple #[.agg (frm D.1), .int .i64 D.2]) (by kernel_rfl) hcc (by kernel_rfl) (by kernel_rfl)
    · refine fun ho => ?_; rw [if_neg (by decide)]; refine obl_det hF (by kernel_rfl) (by kernel_rfl) ho (by kernel_rfl) (fun wx hbx => ?_); rw [if_pos (by kernel_rfl)]; with_reducible exact grows_det (.tuple #[.agg (frm D.1), .int .i64 D.2]) (by kernel_rfl) (by kernel_rfl) (by kernel_rfl)
    · refine fun ho => ?_; rw [if_neg (by decide)]; refine obl_det hF (by kernel_rfl) (by kernel_rfl) ho (by kernel_rfl) (fun wx hbx => ?_); rw [if_pos (by kernel_rfl)]; with_reducible exact grows_det (.agg (frm D.1)) (by kernel_rfl) (by kernel_rfl) (by kernel_rfl)
    · refine fun ho => ?_; rw [if_pos (by decide)]; refine free_det ho (by kernel_rfl) (by kernel_rfl) (fun wx => ?_); kernel_rfl
    · refine fun ho => ?_; rw [if_neg (by decide)]; refine obl_det hF (by kernel_rfl) (by kernel_rfl) ho (by kernel_rfl) (fun wx hbx => ?_); rw [if_pos (by kernel_rfl)]; with_reducible exact grows_alloc 41 (by kernel_rfl) (frm M.Fr.zero) zero41 B (Nat.le_trans hBW hbx.size) (by kernel_rfl)
  case hQ =>
    intro wz hbz
    have hW := below_next hW hbz
    have hr1 := below_blk hbz hr1
    simp only [each, putAll, List.take_succ_cons, List.take_zero, List.drop_succ_cons, List.drop_zero]
    rintro x ⟨N3, rfl, hr3⟩
    simp only [ptF, Act.put, List.setIfInBounds_toArray, List.set_cons_succ, List.set_cons_zero] at hr3 ⊢
    obtain ⟨hN3, hM3, hr3⟩ := hr3
    clear hbz hB hBW
    have n13 : N1 ≠ N3 := by omega
    have w3 : w.heap.size ≤ N3 := by omega
    go_wp2_with (first | ((with_reducible show wpList _ _ _ (⟨none, _, _, _, _, _⟩ :: _) _ _); refine wpList_store_agg rfl rfl 41 _ _ rfl N3 (frm D.1) rfl rfl 41 _ hr3 (ty41 _ HOK.out) (by rw [frm_size _ M.zero_ok, frm_size _ HOK.out]) (frm_all _) ?_; intro Y3 hr3 ht))
    simp only [NormQ]
    have hr1 := ht.blk hr1 n13
    have hW := below_turned hW ht (fun k hk => by subst hk; exact w3)
    clear ht
    go_upto_region 5 with (first | ((with_reducible show wpList _ _ _ (⟨some 17, _, _, _, _, _⟩ :: _) _ _); refine wpList_load_rowg 17 rfl rfl 44 _ rfl N1 rfl _ (sct s) (0, 0) _ hr1 Try.underlying44 rfl (ty44 _ HS.out).size ?_) | (go_at_call 71; refine (rread_calls s HS.out HB.out _).mono ?_; rintro e w5 ⟨rfl, hb⟩; rw [HD.out]; have sw5 := hb.size; have hW := below_next hW hb; have hr1 := below_blk hb hr1; have hr3 := below_blk hb hr3) | ((with_reducible show wpList _ _ _ (⟨some 5, _, _, _, _, _⟩ :: _) _ _); refine wpList_local 5 rfl rfl rfl rfl 42 rfl _ rfl (frm D.1) rfl (of_decide_eq_true (by kernel_rfl)) (ty42' _ HOK.out) (frm_all _) ?_; intro W6 N6 hNN6 hMN6 hr6 hb; have sW6 := hb.size; have hW := below_next hW hb; have hr1 := below_blk hb hr1; have hr3 := below_blk hb hr3))
    have q : ∀ i, i < 64 → W6.cell? ⟨N1, i, none⟩ = some (.int .u8 (nth s i)) := fun i hi => by
      rw [cell_of_row _ _ _ _ _ _ hr1]
      have := u8s_at s i (by rw [HS.out]; exact hi)
      simpa [sct] using this
    have q0 := q 60 (by decide)
    have q1 := q 61 (by decide)
    have q2 := q 62 (by decide)
    have q3 := q 63 (by decide)
    have b0 := nth_lt s HB.out 60
    have b1 := nth_lt s HB.out 61
    have b2 := nth_lt s HB.out 62
    have b3 := nth_lt s HB.out 63
    have hsum := HSUM.out
    clear q hb
    generalize nth s 60 = x0 at *
    generalize nth s 61 = x1 at *
    generalize nth s 62 = x2 at *
    generalize nth s 63 = x3 at *
    go_upto_region 6 with (fail)
    clear b0 b1 b2 b3 q0 q1 q2 q3 hsum
    go_wp2_with (first | ((with_reducible show wpList _ _ _ (⟨some 43, _, _, _, _, _⟩ :: _) _ _); refine wpList_load_rowg 43 rfl rfl 41 _ rfl N3 rfl _ (frm D.1) (0, 0) _ hr3 Try.underlying41 rfl (ty41 _ HOK.out).size ?_) | ((with_reducible show wpList _ _ _ (⟨some 44, _, _, _, _, _⟩ :: _) _ _); refine wpList_load_rowg 44 rfl rfl 42 _ rfl N6 rfl _ (frm D.1) (0, 0) _ hr6 Try.underlying42 rfl (ty42' _ HOK.out).size ?_) | ((with_reducible show wpList _ _ _ (⟨some 45, _, _, _, _, _⟩ :: _) _ _); refine wpList_eql 45 rfl rfl 42 _ _ _ rfl (frm D.1) (frm D.1) rfl rfl grd42 true HQ.out ?_) | ((with_reducible show wpList _ _ _ (⟨some 48, _, _, _, _, _⟩ :: _) _ _); refine wpList_load_rowg 48 rfl rfl 44 _ rfl N1 rfl _ (sct s) (0, 0) _ hr1 Try.underlying44 rfl (ty44 _ HS.out).size ?_) | (go_at_call 72; refine (fsum_calls s HS.out HB.out _).mono ?_; rintro e w7 ⟨rfl, hb⟩; rw [HV.out]; have sw7 := hb.size; have hW := below_next hW hb))
    go_ret
    exact ⟨rfl, hW⟩
end Go.Proofs.Ytncooadaeifekaa
