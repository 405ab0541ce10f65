/- Walk of frame.Decode: what is a sealed sector. -/
import Derived.Test.YtncooadaeifekaaC14
namespace Go.Proofs.Ytncooadaeifekaa
open Go.RowKit Go.BigFrame
theorem cuts (s : List Nat) (hs : s.length = 64) : ∃ (L1 L2 L3 L4 L5 L6 BD : List Nat) (K0 VR Z OF EP SQ : Nat),
    (M.leV ((s.take 60).take 1) = K0 ∧ (s.take 60).drop 1 = L1) ∧ (M.leV (L1.take 1) = VR ∧ L1.drop 1 = L2) ∧ (M.leV (L2.take 2) = Z ∧ L2.drop 2 = L3) ∧ (M.leV (L3.take 2) = OF ∧ L3.drop 2 = L4) ∧ (M.leV (L4.take 4) = EP ∧ L4.drop 4 = L5) ∧ (M.leV (L5.take 6) = SQ ∧ L5.drop 6 = L6) ∧ (L6.take 44 = BD ∧ L6.drop 44 = []) ∧
    ((s.take 60).length = 60 ∧ L1.length = 59 ∧ L2.length = 58 ∧ L3.length = 56 ∧ L4.length = 54 ∧ L5.length = 50 ∧ L6.length = 44 ∧ BD.length = 44) ∧
    M.unFr s = ⟨K0, Z, OF, EP, SQ, BD⟩ ∧ M.ver s = VR := by
  refine ⟨_, _, _, _, _, _, _, _, _, _, _, _, _, ⟨rfl, rfl⟩, ⟨rfl, rfl⟩, ⟨rfl, rfl⟩, ⟨rfl, rfl⟩, ⟨rfl, rfl⟩, ⟨rfl, rfl⟩, ⟨rfl, ?_⟩, ?_, ?_, ?_⟩
  · exact List.drop_eq_nil_of_le (by simp [hs])
  · simp [hs]
  · simp [M.unFr, List.drop_take, List.take_take]
  · simp [M.ver, List.drop_take, List.take_take]
theorem build_kind41 (K : Int) (w : World) : (Instr.build 41 #[(0, .int .i64 K)]).run Try.prog w = .ok (.agg (frm ⟨K, 0, 0, 0, 0, List.replicate 44 0⟩)) w := by kernel_rfl
set_option maxRecDepth 100000 in
set_option maxHeartbeats 2000000 in
theorem decode_sealed (s : List Nat) (hs : s.length = 64) (hb : ∀ c ∈ s, c < 256) (he : M.sealed s = true) (w : World) :
    Calls Try.prog 40 #[.agg tbl, .agg (sct s)] w fun e w' => e = .returned (.tuple #[.agg (frm (M.dec s).1), .int .i64 (M.dec s).2]) ∧ Below w.heap.size w w' := by
  have HE : Hid (s.drop 60 = M.leB 4 (M.crc (s.take 60))) := (sealed_at s).1 he
  have hokU := M.unFr_ok s (by omega) hb
  obtain ⟨L1, L2, L3, L4, L5, L6, BD, K0, VR, Z, OF, EP, SQ, ⟨hv0, hd0⟩, ⟨hv1, hd1⟩, ⟨hv2, hd2⟩, ⟨hv3, hd3⟩, ⟨hv4, hd4⟩, ⟨hv5, hd5⟩, ⟨hv6, hd6⟩, ⟨hl0, hl1, hl2, hl3, hl4, hl5, hl6, hl7⟩, hU, hVer⟩ := cuts s hs
  obtain ⟨D, hD⟩ : ∃ D, D = M.dec s := ⟨_, rfl⟩
  have hDD : D = if VR = 1 ∧ (M.Fr.right ⟨K0, Z, OF, EP, SQ, BD⟩) = true then (⟨K0, Z, OF, EP, SQ, BD⟩, 0) else (M.Fr.zero, 10) := by
    rw [hD, M.dec, he, hVer, hU]; simp
  rw [← hD]
  rw [hU] at hokU
  have HOKU := hid hokU
  have HDD := hid hDD
  have HV0 := hid hv0
  have HD0 := hid hd0
  have HL0 := hid hl0
  have HV1 := hid hv1
  have HD1 := hid hd1
  have HL1 := hid hl1
  have HV2 := hid hv2
  have HD2 := hid hd2
  have HL2 := hid hl2
  have HV3 := hid hv3
  have HD3 := hid hd3
  have HL3 := hid hl3
  have HV4 := hid hv4
  have HD4 := hid hd4
  have HL4 := hid hl4
  have HV5 := hid hv5
  have HD5 := hid hd5
  have HL5 := hid hl5
  have HV6 := hid hv6
  have HD6 := hid hd6
  have HL6 := hid hl6
  have HL7 := hid hl7
  have HS := hid hs
  have HB := hid hb
  have zl : (List.replicate 44 0 : List Nat).length = 44 := by simp
  clear hs hb he hokU hU hVer hD hDD hv0 hd0 hl0 hv1 hd1 hl1 hv2 hd2 hl2 hv3 hd3 hl3 hv4 hd4 hl4 hv5 hd5 hl5 hv6 hd6 hl6 hl7
  have hW := Below.refl w.heap.size w
  go_enter Try.func40, Try.ntmps40
  go_upto_region 1 with (first | ((with_reducible show wpList _ _ _ (⟨some 2, _, _, _, _, _⟩ :: _) _ _); refine wpList_boxed 2 rfl rfl 25 _ rfl tbl rfl ?_; intro W2 N2 hN2 hM2 hr2 hb2; have hW := below_next hW hb2) | ((with_reducible show wpList _ _ _ (⟨some 3, _, _, _, _, _⟩ :: _) _ _); refine wpList_boxed 3 rfl rfl 44 _ rfl (sct s) rfl ?_; intro W3 N3 hN3 hM3 hr3 hb3; have hW := below_next hW hb3; have hr2 := below_blk hb3 hr2) | ((with_reducible show wpList _ _ _ (⟨some 4, _, _, _, _, _⟩ :: _) _ _); refine wpList_zeroed 4 rfl rfl 41 rfl _ zero41 ?_; intro W4 N4 hN4 hM4 hr4 hb4; have hW := below_next hW hb4; have hr3 := below_blk hb4 hr3; have hr2 := below_blk hb4 hr2))
  have hs3 := hasB_sct HB.out hr3
  refine wp_region_frame (spec := [none, none, some (Img (okF 60) (atF (s.take 60))), some (Img (okF 60) (atF (s.take 60))), some (Img (slF 60) (atF (s.take 60))), none, some (Img (slF 60) (atF (s.take 60))), none]) (vals := [.agg tbl, .slice (some ⟨N3, 0, none⟩) 64 64, undef, undef, undef, .int .i64 0, undef, .int .i64 0]) (by kernel_rfl) (by kernel_rfl) (by kernel_rfl) (by kernel_rfl) ?hst (fun hF => ?hobl) ?hQ
  case hst => exact ⟨img_stable _ _ (atF_stable _), img_stable _ _ (atF_stable _), img_stable _ _ (atF_stable _), img_stable _ _ (atF_stable _), trivial⟩
  case hobl =>
    refine ⟨?_, ?_, ?_, ?_, ?_, ?_, ?_, ?_, trivial⟩
    · refine fun ho => obl_det hF (by kernel_rfl) (by kernel_rfl) ho (by kernel_rfl) (fun wx hbx => ?_); rw [if_pos (by kernel_rfl)]; with_reducible exact grows_row 25 (.tmp 2) (by kernel_rfl) N2 (by kernel_rfl) 25 tbl (0, 0) _ (below_blk hbx hr2) Try.underlying25 (by kernel_rfl) (by kernel_rfl) (by kernel_rfl) (by kernel_rfl)
    · refine fun ho => obl_det hF (by kernel_rfl) (by kernel_rfl) ho (by kernel_rfl) (fun wx hbx => ?_); rw [if_pos (by kernel_rfl)]; with_reducible exact grows_det (.slice (some ⟨N3, 0, none⟩) 64 64) (by kernel_rfl) (by kernel_rfl) (by kernel_rfl)
    · refine fun ho => obl_det hF (by kernel_rfl) (by kernel_rfl) ho (by kernel_rfl) (fun wx hbx => ?_); rw [if_pos (by kernel_rfl)]; with_reducible exact grows_callE 47 #[.agg tbl, .slice (some ⟨N3, 0, none⟩) 64 64] _ (by kernel_rfl) (open_yesN 64 _ s HS.out 64 60 wx (hs3.below hbx) (by omega) (by omega) (by omega) HE.out) (by kernel_rfl)
    · refine fun ho => obl_img hF (by kernel_rfl) (by kernel_rfl) ho 2 (by kernel_rfl) 14 (okF 60) (atF (s.take 60)) (by kernel_rfl) (by kernel_rfl) (fun wx p hbx hp => ?_); rw [if_pos (by kernel_rfl)]; with_reducible exact grows_new (okF 60 p) wx (by kernel_rfl) (Below.refl _ _) (Img (okF 60) (atF (s.take 60))) (by kernel_rfl) (img_mk p hp)
    · refine fun ho => obl_img hF (by kernel_rfl) (by kernel_rfl) ho 3 (by kernel_rfl) 11 (okF 60) (atF (s.take 60)) (by kernel_rfl) (by kernel_rfl) (fun wx p hbx hp => ?_); rw [if_pos (by kernel_rfl)]; with_reducible exact grows_new (slF 60 p) wx (by kernel_rfl) (Below.refl _ _) (Img (slF 60) (atF (s.take 60))) (by kernel_rfl) (img_mk p hp)
    · refine fun ho => obl_img hF (by kernel_rfl) (by kernel_rfl) ho 3 (by kernel_rfl) 11 (okF 60) (atF (s.take 60)) (by kernel_rfl) (by kernel_rfl) (fun wx p hbx hp => ?_); rw [if_pos (by kernel_rfl)]; with_reducible exact grows_det (.int .i64 0) (by kernel_rfl) (by kernel_rfl) (by kernel_rfl)
    · refine fun ho => obl_img hF (by kernel_rfl) (by kernel_rfl) ho 4 (by kernel_rfl) 15 (slF 60) (atF (s.take 60)) (by kernel_rfl) (by kernel_rfl) (fun wx p hbx hp => ?_); rw [if_pos (by kernel_rfl)]; with_reducible exact grows_new (slF 60 p) wx (by kernel_rfl) (Below.refl _ _) (Img (slF 60) (atF (s.take 60))) (by kernel_rfl) (img_mk p hp)
    · refine fun ho => obl_det hF (by kernel_rfl) (by kernel_rfl) ho (by kernel_rfl) (fun wx hbx => ?_); rw [if_pos (by kernel_rfl)]; with_reducible exact grows_det (.int .i64 0) (by kernel_rfl) (by kernel_rfl) (by kernel_rfl)
  case hQ =>
    intro wy hby
    simp only [each, putAll]
    rintro x1 ⟨⟨xa1, xc1⟩, rfl, -⟩ x2 ⟨⟨xa2, xc2⟩, rfl, -⟩ x3 ⟨⟨xa3, xc3⟩, rfl, -⟩ x4 ⟨⟨xa, xc⟩, rfl, xh⟩
    simp only [okF, slF, atF] at xh ⊢
    have hr4 := below_blk hby hr4
    have sz2 := hb2.size
    have sz3 := hb3.size
    have szy := hby.size
    have w4N : w.heap.size ≤ N4 := by omega
    have N4y : N4 < wy.heap.size := by omega
    have hW := below_next hW hby
    obtain ⟨T, hT⟩ : ∃ T, T = s.take 60 := ⟨_, rfl⟩
    rw [← hT] at xh HV0 HD0 HL0
    clear hr2 hr3 hs3 hby hb2 hb3 hb4 hT HE
    go_upto_region 5 with (first | (go_at_call 49; refine (rnewR 60 xa T HL0.out xc _ xh (by omega)).mono ?_; rintro e y1 ⟨⟨R, rfl, hrd, hR1, hR2⟩, hb1⟩; have szr := hb1.size; have hr4 := below_blk hb1 hr4; have wR : w.heap.size ≤ R := Nat.le_trans hW.size hR1; have hW := below_next hW hb1))
    have n4 : N4 ≠ R := by omega
    clear xh hb1
    go_upto_region 6 with (first | ((with_reducible show Calls _ 56 #[_, .int .i64 1] _ _); refine (rdNumR R _ _ 1 T L1 K0 HV0.out HD0.out _ hrd (by omega) (by omega) (by rw [HL0.out]; omega) (by rw [HL0.out]; omega)).mono ?_; rintro e x0 ⟨rfl, hrd, ht⟩; have hr4 := ht.blk hr4 n4; have hW := below_turned hW ht (fun k hk => by subst hk; exact wR)) | ((with_reducible show wpList _ _ _ (⟨some 25, _, _, _, _, _⟩ :: _) _ _); refine wpList_build_as 25 rfl rfl 41 _ rfl (frm ⟨K0, 0, 0, 0, 0, List.replicate 44 0⟩) (build_kind41 K0) ?_) | ((with_reducible show wpList _ _ _ (⟨some 9, _, _, _, _, _⟩ :: _) _ _); refine wpList_local 9 rfl rfl rfl rfl 41 rfl _ rfl (frm ⟨K0, 0, 0, 0, 0, List.replicate 44 0⟩) rfl (by simp) (ty41 _ ⟨zl, by simp⟩) (frm_all _) ?_; intro W9 N9 hN9 hM9 hr9 hb9; have hr4 := below_blk hb9 hr4; have hrd := hrd.grow hb9; have sz9 := ht.size; have hW := below_next hW hb9))
    have n9 : N9 ≠ R := by omega
    have n49 : N4 ≠ N9 := by omega
    have hC : y1.heap.size ≤ N9 := by omega
    have w9 : w.heap.size ≤ N9 := by omega
    clear ht hb9
    go_upto_region 7 with (first | ((with_reducible show Calls _ 56 #[_, .int .i64 1] _ _); refine (rdNumR R _ _ 1 L1 L2 VR HV1.out HD1.out _ hrd (by omega) (by omega) (by rw [HL1.out]; omega) (by rw [HL1.out]; omega)).mono ?_; rintro e x1 ⟨rfl, hrd, ht⟩; have hr4 := ht.blk hr4 n4; have hW := below_turned hW ht (fun k hk => by subst hk; exact wR); have hr9 := ht.blk hr9 n9))
    clear ht
    go_upto_region 8 with (first | ((with_reducible show Calls _ 56 #[_, .int .i64 2] _ _); refine (rdNumR R _ _ 2 L2 L3 Z HV2.out HD2.out _ hrd (by omega) (by omega) (by rw [HL2.out]; omega) (by rw [HL2.out]; omega)).mono ?_; rintro e x2 ⟨rfl, hrd, ht⟩; have hr4 := ht.blk hr4 n4; have hW := below_turned hW ht (fun k hk => by subst hk; exact wR); have hr9 := ht.blk hr9 n9) | ((with_reducible show Calls _ 56 #[_, .int .i64 2] _ _); refine (rdNumR R _ _ 2 L3 L4 OF HV3.out HD3.out _ hrd (by omega) (by omega) (by rw [HL3.out]; omega) (by rw [HL3.out]; omega)).mono ?_; rintro e x3 ⟨rfl, hrd, ht⟩; have hr4 := ht.blk hr4 n4; have hW := below_turned hW ht (fun k hk => by subst hk; exact wR); have hr9 := ht.blk hr9 n9) | ((with_reducible show Calls _ 56 #[_, .int .i64 4] _ _); refine (rdNumR R _ _ 4 L4 L5 EP HV4.out HD4.out _ hrd (by omega) (by omega) (by rw [HL4.out]; omega) (by rw [HL4.out]; omega)).mono ?_; rintro e x4 ⟨rfl, hrd, ht⟩; have hr4 := ht.blk hr4 n4; have hW := below_turned hW ht (fun k hk => by subst hk; exact wR); have hr9 := ht.blk hr9 n9) | ((with_reducible show Calls _ 56 #[_, .int .i64 6] _ _); refine (rdNumR R _ _ 6 L5 L6 SQ HV5.out HD5.out _ hrd (by omega) (by omega) (by rw [HL5.out]; omega) (by rw [HL5.out]; omega)).mono ?_; rintro e x5 ⟨rfl, hrd, ht⟩; have hr4 := ht.blk hr4 n4; have hW := below_turned hW ht (fun k hk => by subst hk; exact wR); have hr9 := ht.blk hr9 n9) | ((with_reducible show wpList _ _ _ (⟨none, .store _ (.tmp 36) _, _, _, _, _⟩ :: _) _ _); refine wpList_store_cell rfl rfl 3 _ _ rfl N9 1 .i64 _ rfl rfl size3 41 _ (frm ⟨K0, Z, 0, 0, 0, List.replicate 44 0⟩) hr9 (by rw [frm_sizeN _ _ _ _ _ _ zl]; omega) (frm_set1 ..) ?_; intro Y1 hr9 ht; have hr4 := ht.blk hr4 n49; have hrd := hrd.turned ht (fun h => n9 h.symm) (fun k hk => .inr (by subst hk; exact hC)); have hW := below_turned hW ht (fun k hk => by subst hk; exact w9)) | ((with_reducible show wpList _ _ _ (⟨none, .store _ (.tmp 37) _, _, _, _, _⟩ :: _) _ _); refine wpList_store_cell rfl rfl 3 _ _ rfl N9 2 .i64 _ rfl rfl size3 41 _ (frm ⟨K0, Z, OF, 0, 0, List.replicate 44 0⟩) hr9 (by rw [frm_sizeN _ _ _ _ _ _ zl]; omega) (frm_set2 ..) ?_; intro Y2 hr9 ht; have hr4 := ht.blk hr4 n49; have hrd := hrd.turned ht (fun h => n9 h.symm) (fun k hk => .inr (by subst hk; exact hC)); have hW := below_turned hW ht (fun k hk => by subst hk; exact w9)) | ((with_reducible show wpList _ _ _ (⟨none, .store _ (.tmp 38) _, _, _, _, _⟩ :: _) _ _); refine wpList_store_cell rfl rfl 3 _ _ rfl N9 3 .i64 _ rfl rfl size3 41 _ (frm ⟨K0, Z, OF, EP, 0, List.replicate 44 0⟩) hr9 (by rw [frm_sizeN _ _ _ _ _ _ zl]; omega) (frm_set3 ..) ?_; intro Y3 hr9 ht; have hr4 := ht.blk hr4 n49; have hrd := hrd.turned ht (fun h => n9 h.symm) (fun k hk => .inr (by subst hk; exact hC)); have hW := below_turned hW ht (fun k hk => by subst hk; exact w9)) | ((with_reducible show wpList _ _ _ (⟨none, .store _ (.tmp 39) _, _, _, _, _⟩ :: _) _ _); refine wpList_store_cell rfl rfl 3 _ _ rfl N9 4 .i64 _ rfl rfl size3 41 _ (frm ⟨K0, Z, OF, EP, SQ, List.replicate 44 0⟩) hr9 (by rw [frm_sizeN _ _ _ _ _ _ zl]; omega) (frm_set4 ..) ?_; intro Y4 hr9 ht; have hr4 := ht.blk hr4 n49; have hrd := hrd.turned ht (fun h => n9 h.symm) (fun k hk => .inr (by subst hk; exact hC)); have hW := below_turned hW ht (fun k hk => by subst hk; exact w9)))
    refine wp_region_tail 3 [0, 1, 2] (spec := [none, none, none, none, none]) (vals := [.pointer (some ⟨N9, 5, none⟩), .slice (some ⟨N9, 5, none⟩) 44 44, .pointer (some ⟨R, 0, none⟩), undef, undef]) (by kernel_rfl) (by kernel_rfl) (by kernel_rfl) (by kernel_rfl) (by kernel_rfl) (by kernel_rfl) (by kernel_rfl) ?hst (fun hF => ?hobl) ?hQ
    case hst => exact trivial
    case hobl =>
      refine ⟨?_, ?_, ?_, trivial⟩
      · refine fun ho => ?_; rw [if_pos (by decide)]; refine free_det ho (by kernel_rfl) (by kernel_rfl) (fun wx => ?_); kernel_rfl
      · refine fun ho => ?_; rw [if_pos (by decide)]; refine free_det ho (by kernel_rfl) (by kernel_rfl) (fun wx => ?_); kernel_rfl
      · refine fun ho => ?_; rw [if_pos (by decide)]; refine free_det ho (by kernel_rfl) (by kernel_rfl) (fun wx => ?_); kernel_rfl
    case hQ =>
      intro wz hbz
      have hr4 := below_blk hbz hr4
      have hr9 := below_blk hbz hr9
      have hrd := hrd.grow hbz
      have hW := below_next hW hbz
      clear hbz
      simp only [each, putAll, List.take_succ_cons, List.take_zero, List.drop_succ_cons, List.drop_zero]
      go_wp2_with (first | ((with_reducible show Calls _ 52 _ _ _); refine (rdBytesR R _ _ 44 L6 [] BD HV6.out HD6.out _ hrd (by rw [HL6.out]; omega) (by rw [HL6.out]; omega)).mono ?_; rintro e wc ⟨⟨ab, rfl, hbd⟩, hrd, ht⟩; have hr4 := ht.blk hr4 n4; have hr9 := ht.blk hr9 n9; have hW := below_turned hW ht (fun k hk => by subst hk; exact wR)) | ((with_reducible show wpList _ _ _ (⟨some 44, _, _, _, _, _⟩ :: _) _ _); refine wpList_copy_bytes rfl (some 44) rfl _ _ rfl N9 5 44 44 44 ab rfl rfl BD HL7.out (by omega) hbd 41 _ (frm ⟨K0, Z, OF, EP, SQ, BD⟩) hr9 (by rw [frm_sizeN _ _ _ _ _ _ zl]; omega) (frm_body_put _ _ _ _ _ _ _ zl HL7.out) ?_; intro wd hr9 ht; have hr4 := ht.blk hr4 n49; have hrd := hrd.turned ht (fun h => n9 h.symm) (fun k hk => .inr (by subst hk; exact hC)); have hW := below_turned hW ht (fun k hk => by subst hk; exact w9)))
      simp only [NormQ]
      by_cases hv : VR = 1
      · by_cases hr : (M.Fr.right ⟨K0, Z, OF, EP, SQ, BD⟩) = true
        · have tv : ((VR : Int) != 1) = false := by rw [bne_eq_false_iff_eq]; omega
          have HR := hid hr
          have HDV : Hid (D = (⟨K0, Z, OF, EP, SQ, BD⟩, 0)) := by show _ = _; rw [HDD.out, if_pos ⟨hv, hr⟩]
          clear hr
          go_wp2_with (first | (go_at_call 38; refine (right_calls ⟨K0, Z, OF, EP, SQ, BD⟩ _).mono ?_; rintro e w5 ⟨rfl, hb5⟩; rw [HR.out]; have hr4 := below_blk hb5 hr4; have hr9 := below_blk hb5 hr9; have hrd := hrd.grow hb5; have hW := below_next hW hb5) | ((with_reducible show wpList _ _ _ (⟨some 48, _, _, _, _, _⟩ :: _) _ _); refine wpList_load_rowg 48 rfl rfl _ _ rfl N9 rfl 41 (frm ⟨K0, Z, OF, EP, SQ, BD⟩) (0, 0) _ hr9 Try.underlying41 rfl (ty41 _ HOKU.out).size ?_) | (go_at_call 58; refine (doneR R _ _ [] _ hrd).mono ?_; rintro e w6 ⟨rfl, hb6⟩; simp only [ne_eq, not_true, if_false]; have hr4 := below_blk hb6 hr4; have hr9 := below_blk hb6 hr9; have hW := below_next hW hb6) | ((with_reducible show wpList _ _ _ (⟨some 58, _, _, _, _, _⟩ :: _) _ _); refine wpList_load_row rfl _ _ rfl N9 rfl 41 (frm ⟨K0, Z, OF, EP, SQ, BD⟩) (0, 0) _ hr9 Try.underlying41 rfl (ty41 _ HOKU.out).size ?_) | ((with_reducible show wpList _ _ _ (⟨none, _, _, _, _, _⟩ :: _) _ _); refine wpList_store_agg rfl rfl 41 _ _ rfl N4 (frm ⟨K0, Z, OF, EP, SQ, BD⟩) rfl rfl 41 _ hr4 (ty41 _ HOKU.out) (by rw [frm_size _ M.zero_ok, frm_size _ HOKU.out]) (frm_all _) ?_; intro Z2 hrZ htZ))
          refine ret_cell 4 5 41 rfl rfl N4 rfl 41 _ (0, 0) _ hrZ Try.underlying41 rfl (ty41 _ HOKU.out).size _ rfl ⟨by rw [HDV.out]; rfl, below_turned hW htZ (fun k hk => by subst hk; exact w4N)⟩
        · have tv : ((VR : Int) != 1) = false := by rw [bne_eq_false_iff_eq]; omega
          have HR : Hid ((M.Fr.right ⟨K0, Z, OF, EP, SQ, BD⟩) = false) := by show _ = _; simpa using hr
          have HDV : Hid (D = (M.Fr.zero, 10)) := by show _ = _; rw [HDD.out, if_neg (fun h => hr h.2)]
          clear hr
          go_wp2_with (first | ((with_reducible show wpList _ _ _ (⟨some 57, _, _, _, _, _⟩ :: _) _ _); refine wpList_build_as 57 rfl rfl 41 _ rfl (frm M.Fr.zero) build_zero41 ?_) | ((with_reducible show wpList _ _ _ (⟨none, _, _, _, _, _⟩ :: _) _ _); refine wpList_store_agg rfl rfl 41 _ _ rfl N4 (frm M.Fr.zero) rfl rfl 41 _ hr4 (ty41 _ M.zero_ok) rfl (frm_all _) ?_; intro Z2 hrZ htZ) | (go_at_call 38; refine (right_calls ⟨K0, Z, OF, EP, SQ, BD⟩ _).mono ?_; rintro e w5 ⟨rfl, hb5⟩; rw [HR.out]; have hr4 := below_blk hb5 hr4; have hW := below_next hW hb5) | ((with_reducible show wpList _ _ _ (⟨some 48, _, _, _, _, _⟩ :: _) _ _); refine wpList_load_rowg 48 rfl rfl _ _ rfl N9 rfl 41 (frm ⟨K0, Z, OF, EP, SQ, BD⟩) (0, 0) _ hr9 Try.underlying41 rfl (ty41 _ HOKU.out).size ?_))
          refine ret_cell 4 5 41 rfl rfl N4 rfl 41 _ (0, 0) _ hrZ Try.underlying41 rfl (ty41 _ M.zero_ok).size _ rfl ⟨by rw [HDV.out]; rfl, below_turned hW htZ (fun k hk => by subst hk; exact w4N)⟩
      · have tv : ((VR : Int) != 1) = true := by rw [bne_iff_ne]; omega
        have HDV : Hid (D = (M.Fr.zero, 10)) := by show _ = _; rw [HDD.out, if_neg (fun h => hv h.1)]
        clear hv
        go_wp2_with (first | ((with_reducible show wpList _ _ _ (⟨some 57, _, _, _, _, _⟩ :: _) _ _); refine wpList_build_as 57 rfl rfl 41 _ rfl (frm M.Fr.zero) build_zero41 ?_) | ((with_reducible show wpList _ _ _ (⟨none, _, _, _, _, _⟩ :: _) _ _); refine wpList_store_agg rfl rfl 41 _ _ rfl N4 (frm M.Fr.zero) rfl rfl 41 _ hr4 (ty41 _ M.zero_ok) rfl (frm_all _) ?_; intro Z2 hrZ htZ) | (go_at_call 38; refine (right_calls ⟨K0, Z, OF, EP, SQ, BD⟩ _).mono ?_; rintro e w5 ⟨rfl, hb5⟩; rw [HR.out]; have hr4 := below_blk hb5 hr4; have hW := below_next hW hb5) | ((with_reducible show wpList _ _ _ (⟨some 48, _, _, _, _, _⟩ :: _) _ _); refine wpList_load_rowg 48 rfl rfl _ _ rfl N9 rfl 41 (frm ⟨K0, Z, OF, EP, SQ, BD⟩) (0, 0) _ hr9 Try.underlying41 rfl (ty41 _ HOKU.out).size ?_))
        refine ret_cell 4 5 41 rfl rfl N4 rfl 41 _ (0, 0) _ hrZ Try.underlying41 rfl (ty41 _ M.zero_ok).size _ rfl ⟨by rw [HDV.out]; rfl, below_turned hW htZ (fun k hk => by subst hk; exact w4N)⟩
theorem decode_calls (s : List Nat) (hs : s.length = 64) (hb : ∀ c ∈ s, c < 256) (w : World) :
    Calls Try.prog 40 #[.agg tbl, .agg (sct s)] w fun e w' => e = .returned (.tuple #[.agg (frm (M.dec s).1), .int .i64 (M.dec s).2]) ∧ Below w.heap.size w w' := by
  by_cases he : M.sealed s = true
  · exact decode_sealed s hs hb he w
  · have he : M.sealed s = false := by simpa using he
    rw [M.dec_unsealed s he]
    exact decode_unsealed s hs hb he w
end Go.Proofs.Ytncooadaeifekaa
