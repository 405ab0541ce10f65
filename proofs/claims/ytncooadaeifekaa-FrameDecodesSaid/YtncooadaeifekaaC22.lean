/- Walks of a sector's Sum and of the reference's Read. -/
import Derived.Test.YtncooadaeifekaaK14
import Derived.Test.YtncooadaeifekaaC17
import Derived.Test.YtncooadaeifekaaM7
namespace Go.Proofs.Ytncooadaeifekaa
open Go.RowKit Go.BigFrame
set_option maxRecDepth 100000 in
set_option maxHeartbeats 400000 in
theorem fsum_calls (s : List Nat) (hs : s.length = 64) (hb : ∀ c ∈ s, c < 256) (w : World) :
    Calls Try.prog 72 #[.agg (sct s)] w fun e w' => e = .returned (.int .i64 (M.leV (s.drop 60))) ∧ Below w.heap.size w w' := by
  obtain ⟨V, hV⟩ : ∃ V, M.leV ((s.drop 60).take 4) = V := ⟨_, rfl⟩
  have h60 : (s.drop 60).length = 4 := by simp; omega
  have e60 : (s.drop 60).take 4 = s.drop 60 := List.take_of_length_le (by omega)
  have eV : M.leV (s.drop 60) = V := by rw [← hV, e60]
  rw [eV]
  have HS := hid hs
  have HB := hid hb
  have HV := hid hV
  have H60 := hid h60
  have E60 := hid e60
  clear hs hb hV h60 e60 eV
  have hW := Below.refl w.heap.size w
  go_enter Try.func72, Try.ntmps72
  go_wp2_with (first | ((with_reducible show wpList _ _ _ (⟨some 1, _, _, _, _, _⟩ :: _) _ _); refine wpList_boxed 1 rfl rfl 44 _ rfl (sct s) rfl ?_; intro W1 N1 hNN1 hMN1 hr1 hb; have sW1 := hb.size; have hW := below_next hW hb; have hd60 := hasB_part HB.out hr1 60 4; rw [E60.out] at hd60) | (go_at_call 49; refine (rnewR 4 _ (s.drop 60) H60.out 4 _ hd60 (by omega)).mono ?_; rintro e y1 ⟨⟨R, rfl, hrd, hR1, hR2⟩, hb1⟩; have wR : w.heap.size ≤ R := Nat.le_trans hW.size hR1; have hW := below_next hW hb1) | (go_at_call 56; refine (rdNumR R _ _ 4 (s.drop 60) [] V HV.out (List.drop_eq_nil_of_le (by rw [H60.out]; exact Nat.le_refl _)) _ hrd (by omega) (by omega) (by rw [H60.out]; omega) (by rw [H60.out]; omega)).mono ?_; rintro e y2 ⟨rfl, hrd2, ht⟩; have hW := below_turned hW ht (fun k hk => by subst hk; exact wR)))
  go_ret
  exact ⟨rfl, hW⟩
theorem take_one (l : List Nat) (h : 0 < l.length) : l.take 1 = [nth l 0] := by
  cases l with
  | nil => simp at h
  | cons c l => simp [nth]
theorem set_copyB (t p : List Nat) (m : Nat) (hl : t.length = p.length) (hm : m < p.length) : (p.take m ++ t.drop m).set m (nth p m) = p.take (m + 1) ++ t.drop (m + 1) := by
  have h1 : (p.take m).length = m := by simp; omega
  rw [List.set_append_right _ _ (by omega), h1, Nat.sub_self, List.drop_eq_getElem_cons (by omega : m < t.length), List.set_cons_zero, take_nth p m hm, List.append_assoc]
  rfl
theorem rright_b (f : M.Fr) (b : Bool) (h : f.right = b) (w : World) : Calls Try.prog 39 #[.agg (frm f)] w fun e w' => e = .returned (.bool b) ∧ Below w.heap.size w w' := by subst h; exact rright_calls f w
theorem sealed_val (s : List Nat) (hs : s.length = 64) (hb : ∀ c ∈ s, c < 256) : M.sealed s = true ↔ M.leV (s.drop 60) = M.crc (s.take 60) := by
  rw [M.sealed_iff60]
  have hl : (s.drop 60).length = 4 := by simp; omega
  have hd : ∀ c ∈ s.drop 60, c < 256 := fun c hc => hb c (List.mem_of_mem_drop hc)
  have hv : M.leB 4 (M.leV (s.drop 60)) = s.drop 60 := by have := M.leB_leV (s.drop 60) hd; rw [hl] at this; exact this
  constructor
  · intro h
    rw [h]
    exact M.leV_leB 4 _ (M.crc_lt _ fun c hc => hb c (List.mem_of_mem_take hc))
  · intro h
    rw [← h, hv]
set_option maxRecDepth 100000 in
set_option maxHeartbeats 1000000 in
theorem rread_un (s : List Nat) (hs : s.length = 64) (hb : ∀ c ∈ s, c < 256) (he : M.sealed s = false) (w : World) :
    Calls Try.prog 71 #[.agg (sct s)] w fun e w' => e = .returned (.tuple #[.agg (frm (M.dec s).1), .int .i64 (M.dec s).2]) ∧ Below w.heap.size w w' := by
  have hu := M.unFr_ok s (by omega) hb
  obtain ⟨D, hD⟩ : ∃ D, D = M.dec s := ⟨_, rfl⟩
  obtain ⟨V, hV⟩ : ∃ V, M.leV (s.drop 60) = V := ⟨_, rfl⟩
  obtain ⟨C, hC⟩ : ∃ C, M.crc (s.take 60) = C := ⟨_, rfl⟩
  have hCL : C < 4294967296 := by rw [← hC]; exact M.crc_lt _ fun c hc => hb c (List.mem_of_mem_take hc)
  have h60 : (s.drop 60).length = 4 := by simp; omega
  have ht6 : (s.take 60).length = 60 := by simp; omega
  have hse := sealed_val s hs hb
  rw [hV, hC] at hse
  rw [← hD]
  have HS := hid hs
  have HB := hid hb
  have HU := hid hu
  have HV := hid hV
  have HC := hid hC
  have HCL := hid hCL
  have HD60 := hid h60
  have HT60 := hid ht6
  have HNE : Hid (((V : Int) != (C : Int)) = true) := by
    show _ = _
    rw [bne_iff_ne]; intro h
    rw [hse.2 (by omega)] at he; cases he
  have HDV : Hid (D = (M.Fr.zero, 11)) := by show _ = _; rw [hD, M.dec_unsealed s he]
  clear hs hb hu hD hV hC hCL h60 ht6 hse he
  have hW := Below.refl w.heap.size w
  go_enter Try.func71, Try.ntmps71
  go_upto_region 2 with (first | ((with_reducible show wpList _ _ _ (⟨some 1, _, _, _, _, _⟩ :: _) _ _); refine wpList_boxed 1 rfl rfl 43 _ rfl (sct s) rfl ?_; intro W1 N1 hNN1 hMN1 hr1 hb; have sW1 := hb.size; have hW := below_next hW hb) | ((with_reducible show wpList _ _ _ (⟨some 2, _, _, _, _, _⟩ :: _) _ _); refine wpList_zeroed 2 rfl rfl 42 rfl _ zero42 ?_; intro W2 N2 hN2 hM2 hr2 hb; have sW2 := hb.size; have hW := below_next hW hb; have hr1 := below_blk hb hr1))
  have w2 : w.heap.size ≤ N2 := by omega
  have ht60 := (hasB_sct HB.out hr1).take 60
  have hd60 : HasB W2 (some ⟨N1, 60, none⟩) (s.drop 60) := by
    have h := hasB_part HB.out hr1 60 4
    rw [List.take_of_length_le (by rw [HD60.out]; exact Nat.le_refl _)] at h
    exact h
  refine wp_region_frame (spec := [none, none, none, none, none, none, none, none]) (vals := [.slice (some ⟨N1, 0, none⟩) 64 64, .slice (some ⟨N1, 60, none⟩) 4 4, .int .i64 V, .slice (some ⟨N1, 0, none⟩) 64 64, .slice (some ⟨N1, 0, none⟩) 60 64, .int .u32 C, .int .i64 C, .bool true]) (by kernel_rfl) (by kernel_rfl) (by kernel_rfl) (by kernel_rfl) ?hst (fun hF => ?hobl) ?hQ
  case hst => exact trivial
  case hobl =>
    refine ⟨?_, ?_, ?_, ?_, ?_, ?_, ?_, ?_, trivial⟩
    · refine fun ho => obl_det hF (by kernel_rfl) (by kernel_rfl) ho (by kernel_rfl) (fun wx hbx => ?_); rw [if_pos (by kernel_rfl)]; with_reducible exact grows_det (.slice (some ⟨N1, 0, none⟩) 64 64) (by kernel_rfl) (by kernel_rfl) (by kernel_rfl)
    · refine fun ho => obl_det hF (by kernel_rfl) (by kernel_rfl) ho (by kernel_rfl) (fun wx hbx => ?_); rw [if_pos (by kernel_rfl)]; with_reducible exact grows_det (.slice (some ⟨N1, 60, none⟩) 4 4) (by kernel_rfl) (by kernel_rfl) (by kernel_rfl)
    · refine fun ho => obl_det hF (by kernel_rfl) (by kernel_rfl) ho (by kernel_rfl) (fun wx hbx => ?_); rw [if_pos (by kernel_rfl)]; with_reducible exact grows_call 57 #[.slice (some ⟨N1, 60, none⟩) 4 4] (.int .i64 V) (by kernel_rfl) (readN 4 _ (s.drop 60) HD60.out 4 V HV.out wx (hd60.below hbx) (by omega)) (by kernel_rfl) (by kernel_rfl)
    · refine fun ho => obl_det hF (by kernel_rfl) (by kernel_rfl) ho (by kernel_rfl) (fun wx hbx => ?_); rw [if_pos (by kernel_rfl)]; with_reducible exact grows_det (.slice (some ⟨N1, 0, none⟩) 64 64) (by kernel_rfl) (by kernel_rfl) (by kernel_rfl)
    · refine fun ho => obl_det hF (by kernel_rfl) (by kernel_rfl) ho (by kernel_rfl) (fun wx hbx => ?_); rw [if_pos (by kernel_rfl)]; with_reducible exact grows_det (.slice (some ⟨N1, 0, none⟩) 60 64) (by kernel_rfl) (by kernel_rfl) (by kernel_rfl)
    · refine fun ho => obl_det hF (by kernel_rfl) (by kernel_rfl) ho (by kernel_rfl) (fun wx hbx => ?_); rw [if_pos (by kernel_rfl)]; with_reducible exact grows_call 34 #[.slice (some ⟨N1, 0, none⟩) 60 64] (.int .u32 C) (by kernel_rfl) (rsumC 60 _ (s.take 60) HT60.out 64 C HC.out wx (ht60.below hbx) (by omega)) (by kernel_rfl) (by kernel_rfl)
    · refine fun ho => obl_det hF (by kernel_rfl) (by kernel_rfl) ho (by kernel_rfl) (fun wx hbx => ?_); rw [if_pos (by kernel_rfl)]; with_reducible exact grows_det (.int .i64 C) (op_conv_u32 (.tmp 13) (by kernel_rfl) C (by kernel_rfl) HCL.out) (by kernel_rfl) (by kernel_rfl)
    · refine fun ho => obl_det hF (by kernel_rfl) (by kernel_rfl) ho (by kernel_rfl) (fun wx hbx => ?_); rw [if_pos (by kernel_rfl)]; with_reducible exact grows_det (.bool true) (op_neq_i (t := 3) (u := 3) (.tmp 10) (.tmp 14) (by kernel_rfl) .i64 V C (by kernel_rfl) (by kernel_rfl) true HNE.out) (by kernel_rfl) (by kernel_rfl)
  case hQ =>
    intro wy hby
    simp only [each, putAll, Act.put, List.setIfInBounds_toArray, List.set_cons_succ, List.set_cons_zero]
    have hW := below_next hW hby
    have hr1 := below_blk hby hr1
    have hr2 := below_blk hby hr2
    clear hby hd60 ht60 hb
    go_wp2_with (first | ((with_reducible show wpList _ _ _ (⟨some 16, _, _, _, _, _⟩ :: _) _ _); refine wpList_build_as 16 rfl rfl 42 _ rfl (frm M.Fr.zero) build_zero42 ?_) | ((with_reducible show wpList _ _ _ (⟨none, _, _, _, _, _⟩ :: _) _ _); refine wpList_store_agg rfl rfl 42 _ _ rfl N2 (frm M.Fr.zero) rfl rfl 42 _ hr2 (ty42' _ M.zero_ok) (rfl) (frm_all _) ?_; intro Z2 hrZ htZ))
    refine ret_cell 2 3 42 rfl rfl N2 rfl 42 _ (0, 0) _ hrZ Try.underlying42 rfl (ty42' _ M.zero_ok).size _ rfl ⟨by rw [HDV.out]; rfl, below_turned hW htZ (fun k hk => by subst hk; exact w2)⟩
set_option maxRecDepth 100000 in
set_option maxHeartbeats 2000000 in
theorem rread_se (s : List Nat) (hs : s.length = 64) (hb : ∀ c ∈ s, c < 256) (he : M.sealed s = true) (w : World) :
    Calls Try.prog 71 #[.agg (sct s)] w fun e w' => e = .returned (.tuple #[.agg (frm (M.dec s).1), .int .i64 (M.dec s).2]) ∧ Below w.heap.size w w' := by
  have hu := M.unFr_ok s (by omega) hb
  obtain ⟨D, hD⟩ : ∃ D, D = M.dec s := ⟨_, rfl⟩
  obtain ⟨V, hV⟩ : ∃ V, M.leV (s.drop 60) = V := ⟨_, rfl⟩
  obtain ⟨C, hC⟩ : ∃ C, M.crc (s.take 60) = C := ⟨_, rfl⟩
  have hCL : C < 4294967296 := by rw [← hC]; exact M.crc_lt _ fun c hc => hb c (List.mem_of_mem_take hc)
  have h60 : (s.drop 60).length = 4 := by simp; omega
  have ht6 : (s.take 60).length = 60 := by simp; omega
  have hse := sealed_val s hs hb
  rw [hV, hC] at hse
  rw [← hD]
  have HS := hid hs
  have HB := hid hb
  have HU := hid hu
  have HV := hid hV
  have HC := hid hC
  have HCL := hid hCL
  have HD60 := hid h60
  have HT60 := hid ht6
  have HNE : Hid (((V : Int) != (C : Int)) = false) := by
    show _ = _
    rw [bne_eq_false_iff_eq]; have := hse.1 he; omega
  obtain ⟨K0, hK0⟩ : ∃ K, K = nth s 0 := ⟨_, rfl⟩
  obtain ⟨VR, hVR⟩ : ∃ K, K = nth s 1 := ⟨_, rfl⟩
  obtain ⟨Z, hZ⟩ : ∃ K, M.leV ((s.drop 2).take 2) = K := ⟨_, rfl⟩
  obtain ⟨O, hO⟩ : ∃ K, M.leV ((s.drop 4).take 2) = K := ⟨_, rfl⟩
  obtain ⟨E, hE⟩ : ∃ K, M.leV ((s.drop 6).take 4) = K := ⟨_, rfl⟩
  obtain ⟨S, hS⟩ : ∃ K, M.leV ((s.drop 10).take 6) = K := ⟨_, rfl⟩
  obtain ⟨BD, hBD⟩ : ∃ K, (s.drop 16).take 44 = K := ⟨_, rfl⟩
  have hbl : BD.length = 44 := by rw [← hBD]; simp; omega
  have hbn : ∀ i, i < 44 → nth BD i = nth s (16 + i) := fun i hi => by rw [← hBD]; simp [nth, hi]
  have hk1 : M.leV (s.take 1) = K0 := by rw [hK0, take_one s (by omega)]; simp [M.leV]
  have hv1 : M.ver s = VR := by
    have e : (s.drop 1).take 1 = [nth s 1] := by rw [take_one _ (by simp; omega)]; simp [nth]
    rw [hVR, M.ver, e]; simp [M.leV]
  have hun : M.unFr s = ⟨K0, Z, O, E, S, BD⟩ := by rw [M.unFr, hk1, hZ, hO, hE, hS, hBD]
  have HDD : Hid (D = if VR = 1 ∧ (M.Fr.right ⟨K0, Z, O, E, S, BD⟩) = true then (⟨K0, Z, O, E, S, BD⟩, 0) else (M.Fr.zero, 10)) := by
    show _ = _
    rw [hD, M.dec, he, hv1, hun]; simp
  rw [hun] at hu
  have HOKU := hid hu
  have HBL := hid hbl
  have HBN := hid hbn
  have HZ := hid hZ
  have HO := hid hO
  have HE := hid hE
  have HSQ := hid hS
  have HK0 : Hid (K0 < 256) := by show _ < _; rw [hK0]; exact nth_lt s hb 0
  have HKE := hid hK0
  have HVE := hid hVR
  have HVL : Hid (VR < 256) := by show _ < _; rw [hVR]; exact nth_lt s hb 1
  have zl : (List.replicate 44 0 : List Nat).length = 44 := by simp
  clear hs hb hu hD hV hC hCL h60 ht6 hse he hK0 hVR hZ hO hE hS hBD hbl hbn hk1 hv1 hun
  have hW := Below.refl w.heap.size w
  go_enter Try.func71, Try.ntmps71
  go_upto_region 2 with (first | ((with_reducible show wpList _ _ _ (⟨some 1, _, _, _, _, _⟩ :: _) _ _); refine wpList_boxed 1 rfl rfl 43 _ rfl (sct s) rfl ?_; intro W1 N1 hNN1 hMN1 hr1 hb; have sW1 := hb.size; have hW := below_next hW hb) | ((with_reducible show wpList _ _ _ (⟨some 2, _, _, _, _, _⟩ :: _) _ _); refine wpList_zeroed 2 rfl rfl 42 rfl _ zero42 ?_; intro W2 N2 hN2 hM2 hr2 hb; have sW2 := hb.size; have hW := below_next hW hb; have hr1 := below_blk hb hr1))
  have w2 : w.heap.size ≤ N2 := by omega
  have ht60 := (hasB_sct HB.out hr1).take 60
  have hd60 : HasB W2 (some ⟨N1, 60, none⟩) (s.drop 60) := by
    have h := hasB_part HB.out hr1 60 4
    rw [List.take_of_length_le (by rw [HD60.out]; exact Nat.le_refl _)] at h
    exact h
  refine wp_region_frame (spec := [none, none, none, none, none, none, none, none]) (vals := [.slice (some ⟨N1, 0, none⟩) 64 64, .slice (some ⟨N1, 60, none⟩) 4 4, .int .i64 V, .slice (some ⟨N1, 0, none⟩) 64 64, .slice (some ⟨N1, 0, none⟩) 60 64, .int .u32 C, .int .i64 C, .bool false]) (by kernel_rfl) (by kernel_rfl) (by kernel_rfl) (by kernel_rfl) ?hst (fun hF => ?hobl) ?hQ
  case hst => exact trivial
  case hobl =>
    refine ⟨?_, ?_, ?_, ?_, ?_, ?_, ?_, ?_, trivial⟩
    · refine fun ho => obl_det hF (by kernel_rfl) (by kernel_rfl) ho (by kernel_rfl) (fun wx hbx => ?_); rw [if_pos (by kernel_rfl)]; with_reducible exact grows_det (.slice (some ⟨N1, 0, none⟩) 64 64) (by kernel_rfl) (by kernel_rfl) (by kernel_rfl)
    · refine fun ho => obl_det hF (by kernel_rfl) (by kernel_rfl) ho (by kernel_rfl) (fun wx hbx => ?_); rw [if_pos (by kernel_rfl)]; with_reducible exact grows_det (.slice (some ⟨N1, 60, none⟩) 4 4) (by kernel_rfl) (by kernel_rfl) (by kernel_rfl)
    · refine fun ho => obl_det hF (by kernel_rfl) (by kernel_rfl) ho (by kernel_rfl) (fun wx hbx => ?_); rw [if_pos (by kernel_rfl)]; with_reducible exact grows_call 57 #[.slice (some ⟨N1, 60, none⟩) 4 4] (.int .i64 V) (by kernel_rfl) (readN 4 _ (s.drop 60) HD60.out 4 V HV.out wx (hd60.below hbx) (by omega)) (by kernel_rfl) (by kernel_rfl)
    · refine fun ho => obl_det hF (by kernel_rfl) (by kernel_rfl) ho (by kernel_rfl) (fun wx hbx => ?_); rw [if_pos (by kernel_rfl)]; with_reducible exact grows_det (.slice (some ⟨N1, 0, none⟩) 64 64) (by kernel_rfl) (by kernel_rfl) (by kernel_rfl)
    · refine fun ho => obl_det hF (by kernel_rfl) (by kernel_rfl) ho (by kernel_rfl) (fun wx hbx => ?_); rw [if_pos (by kernel_rfl)]; with_reducible exact grows_det (.slice (some ⟨N1, 0, none⟩) 60 64) (by kernel_rfl) (by kernel_rfl) (by kernel_rfl)
    · refine fun ho => obl_det hF (by kernel_rfl) (by kernel_rfl) ho (by kernel_rfl) (fun wx hbx => ?_); rw [if_pos (by kernel_rfl)]; with_reducible exact grows_call 34 #[.slice (some ⟨N1, 0, none⟩) 60 64] (.int .u32 C) (by kernel_rfl) (rsumC 60 _ (s.take 60) HT60.out 64 C HC.out wx (ht60.below hbx) (by omega)) (by kernel_rfl) (by kernel_rfl)
    · refine fun ho => obl_det hF (by kernel_rfl) (by kernel_rfl) ho (by kernel_rfl) (fun wx hbx => ?_); rw [if_pos (by kernel_rfl)]; with_reducible exact grows_det (.int .i64 C) (op_conv_u32 (.tmp 13) (by kernel_rfl) C (by kernel_rfl) HCL.out) (by kernel_rfl) (by kernel_rfl)
    · refine fun ho => obl_det hF (by kernel_rfl) (by kernel_rfl) ho (by kernel_rfl) (fun wx hbx => ?_); rw [if_pos (by kernel_rfl)]; with_reducible exact grows_det (.bool false) (op_neq_i (t := 3) (u := 3) (.tmp 10) (.tmp 14) (by kernel_rfl) .i64 V C (by kernel_rfl) (by kernel_rfl) false HNE.out) (by kernel_rfl) (by kernel_rfl)
  case hQ =>
    intro wy hby
    simp only [each, putAll, Act.put, List.setIfInBounds_toArray, List.set_cons_succ, List.set_cons_zero]
    have hW := below_next hW hby
    have hr1 := below_blk hby hr1
    have hr2 := below_blk hby hr2
    clear hby hd60 ht60 hb
    go_upto_region 4 with (fail)
    have ck : wy.cell? ⟨N1, 0, none⟩ = some (.int .u8 K0) := by
      rw [cell_of_row _ _ _ _ _ _ hr1, HKE.out]
      have := u8s_at s 0 (by rw [HS.out]; omega)
      simpa [sct] using this
    obtain ⟨B, hB⟩ : ∃ B, B = wy.heap.size := ⟨_, rfl⟩
    have hBW : B ≤ wy.heap.size := Nat.le_of_eq hB
    have n2B : N2 < B := by rw [hB]; exact lt_of_block hr2
    have n1B : N1 < B := by rw [hB]; exact lt_of_block hr1
    have wB : w.heap.size ≤ B := by rw [hB]; exact hW.size
    refine wp_region_tail 17 [] (spec := [none, none, none, none, none, none, none, none, none, none, none, none, none, none, none, none, some (Img ptF (rowF B (frm M.Fr.zero) 42)), none]) (vals := [.pointer (some ⟨N1, 0, none⟩), .int .u8 K0, .int .i64 K0, .slice (some ⟨N1, 0, none⟩) 64 64, .slice (some ⟨N1, 2, none⟩) 2 62, .int .i64 Z, .slice (some ⟨N1, 0, none⟩) 64 64, .slice (some ⟨N1, 4, none⟩) 2 60, .int .i64 O, .slice (some ⟨N1, 0, none⟩) 64 64, .slice (some ⟨N1, 6, none⟩) 4 58, .int .i64 E, .slice (some ⟨N1, 0, none⟩) 64 64, .slice (some ⟨N1, 10, none⟩) 6 54, .int .i64 S, .agg (frm ⟨K0, Z, O, E, S, List.replicate 44 0⟩), undef, undef]) (by kernel_rfl) (by kernel_rfl) (by kernel_rfl) (by kernel_rfl) (by kernel_rfl) (by kernel_rfl) (by kernel_rfl) ?hst (fun hF => ?hobl) ?hQ
    case hst => exact ⟨img_stable _ _ (rowF_stable _ _ _), trivial⟩
    case hobl =>
      refine ⟨?_, ?_, ?_, ?_, ?_, ?_, ?_, ?_, ?_, ?_, ?_, ?_, ?_, ?_, ?_, ?_, ?_, trivial⟩
      · refine fun ho => ?_; rw [if_neg (by decide)]; refine obl_det hF (by kernel_rfl) (by kernel_rfl) ho (by kernel_rfl) (fun wx hbx => ?_); rw [if_pos (by kernel_rfl)]; with_reducible exact grows_det (.pointer (some ⟨N1, 0, none⟩)) (by kernel_rfl) (by kernel_rfl) (by kernel_rfl)
      · refine fun ho => ?_; rw [if_neg (by decide)]; refine obl_det hF (by kernel_rfl) (by kernel_rfl) ho (by kernel_rfl) (fun wx hbx => ?_); rw [if_pos (by kernel_rfl)]; with_reducible exact grows_det (.int .u8 K0) (op_load_u8 (.tmp 17) (by kernel_rfl) ⟨N1, 0, none⟩ (by kernel_rfl) _ ((hbx.cell (p := ⟨N1, 0, none⟩) (block_lt_of_cell (a := ⟨N1, 0, none⟩) ck)).trans ck)) (by kernel_rfl) (by kernel_rfl)
      · refine fun ho => ?_; rw [if_neg (by decide)]; refine obl_det hF (by kernel_rfl) (by kernel_rfl) ho (by kernel_rfl) (fun wx hbx => ?_); rw [if_pos (by kernel_rfl)]; with_reducible exact grows_det (.int .i64 K0) (op_conv_u8 (.tmp 18) (by kernel_rfl) K0 (by kernel_rfl) HK0.out) (by kernel_rfl) (by kernel_rfl)
      · refine fun ho => ?_; rw [if_neg (by decide)]; refine obl_det hF (by kernel_rfl) (by kernel_rfl) ho (by kernel_rfl) (fun wx hbx => ?_); rw [if_pos (by kernel_rfl)]; with_reducible exact grows_det (.slice (some ⟨N1, 0, none⟩) 64 64) (by kernel_rfl) (by kernel_rfl) (by kernel_rfl)
      · refine fun ho => ?_; rw [if_neg (by decide)]; refine obl_det hF (by kernel_rfl) (by kernel_rfl) ho (by kernel_rfl) (fun wx hbx => ?_); rw [if_pos (by kernel_rfl)]; with_reducible exact grows_det (.slice (some ⟨N1, 2, none⟩) 2 62) (by kernel_rfl) (by kernel_rfl) (by kernel_rfl)
      · refine fun ho => ?_; rw [if_neg (by decide)]; refine obl_det hF (by kernel_rfl) (by kernel_rfl) ho (by kernel_rfl) (fun wx hbx => ?_); rw [if_pos (by kernel_rfl)]; with_reducible exact grows_call 57 #[.slice (some ⟨N1, 2, none⟩) 2 62] (.int .i64 Z) (by kernel_rfl) (readN 2 _ ((s.drop 2).take 2) (by rw [List.length_take, List.length_drop, HS.out]; omega) 62 Z HZ.out wx ((hasB_part HB.out hr1 2 2).below hbx) (by omega)) (by kernel_rfl) (by kernel_rfl)
      · refine fun ho => ?_; rw [if_neg (by decide)]; refine obl_det hF (by kernel_rfl) (by kernel_rfl) ho (by kernel_rfl) (fun wx hbx => ?_); rw [if_pos (by kernel_rfl)]; with_reducible exact grows_det (.slice (some ⟨N1, 0, none⟩) 64 64) (by kernel_rfl) (by kernel_rfl) (by kernel_rfl)
      · refine fun ho => ?_; rw [if_neg (by decide)]; refine obl_det hF (by kernel_rfl) (by kernel_rfl) ho (by kernel_rfl) (fun wx hbx => ?_); rw [if_pos (by kernel_rfl)]; with_reducible exact grows_det (.slice (some ⟨N1, 4, none⟩) 2 60) (by kernel_rfl) (by kernel_rfl) (by kernel_rfl)
      · refine fun ho => ?_; rw [if_neg (by decide)]; refine obl_det hF (by kernel_rfl) (by kernel_rfl) ho (by kernel_rfl) (fun wx hbx => ?_); rw [if_pos (by kernel_rfl)]; with_reducible exact grows_call 57 #[.slice (some ⟨N1, 4, none⟩) 2 60] (.int .i64 O) (by kernel_rfl) (readN 2 _ ((s.drop 4).take 2) (by rw [List.length_take, List.length_drop, HS.out]; omega) 60 O HO.out wx ((hasB_part HB.out hr1 4 2).below hbx) (by omega)) (by kernel_rfl) (by kernel_rfl)
      · refine fun ho => ?_; rw [if_neg (by decide)]; refine obl_det hF (by kernel_rfl) (by kernel_rfl) ho (by kernel_rfl) (fun wx hbx => ?_); rw [if_pos (by kernel_rfl)]; with_reducible exact grows_det (.slice (some ⟨N1, 0, none⟩) 64 64) (by kernel_rfl) (by kernel_rfl) (by kernel_rfl)
      · refine fun ho => ?_; rw [if_neg (by decide)]; refine obl_det hF (by kernel_rfl) (by kernel_rfl) ho (by kernel_rfl) (fun wx hbx => ?_); rw [if_pos (by kernel_rfl)]; with_reducible exact grows_det (.slice (some ⟨N1, 6, none⟩) 4 58) (by kernel_rfl) (by kernel_rfl) (by kernel_rfl)
      · refine fun ho => ?_; rw [if_neg (by decide)]; refine obl_det hF (by kernel_rfl) (by kernel_rfl) ho (by kernel_rfl) (fun wx hbx => ?_); rw [if_pos (by kernel_rfl)]; with_reducible exact grows_call 57 #[.slice (some ⟨N1, 6, none⟩) 4 58] (.int .i64 E) (by kernel_rfl) (readN 4 _ ((s.drop 6).take 4) (by rw [List.length_take, List.length_drop, HS.out]; omega) 58 E HE.out wx ((hasB_part HB.out hr1 6 4).below hbx) (by omega)) (by kernel_rfl) (by kernel_rfl)
      · refine fun ho => ?_; rw [if_neg (by decide)]; refine obl_det hF (by kernel_rfl) (by kernel_rfl) ho (by kernel_rfl) (fun wx hbx => ?_); rw [if_pos (by kernel_rfl)]; with_reducible exact grows_det (.slice (some ⟨N1, 0, none⟩) 64 64) (by kernel_rfl) (by kernel_rfl) (by kernel_rfl)
      · refine fun ho => ?_; rw [if_neg (by decide)]; refine obl_det hF (by kernel_rfl) (by kernel_rfl) ho (by kernel_rfl) (fun wx hbx => ?_); rw [if_pos (by kernel_rfl)]; with_reducible exact grows_det (.slice (some ⟨N1, 10, none⟩) 6 54) (by kernel_rfl) (by kernel_rfl) (by kernel_rfl)
      · refine fun ho => ?_; rw [if_neg (by decide)]; refine obl_det hF (by kernel_rfl) (by kernel_rfl) ho (by kernel_rfl) (fun wx hbx => ?_); rw [if_pos (by kernel_rfl)]; with_reducible exact grows_call 57 #[.slice (some ⟨N1, 10, none⟩) 6 54] (.int .i64 S) (by kernel_rfl) (readN 6 _ ((s.drop 10).take 6) (by rw [List.length_take, List.length_drop, HS.out]; omega) 54 S HSQ.out wx ((hasB_part HB.out hr1 10 6).below hbx) (by omega)) (by kernel_rfl) (by kernel_rfl)
      · refine fun ho => ?_; rw [if_neg (by decide)]; refine obl_det hF (by kernel_rfl) (by kernel_rfl) ho (by kernel_rfl) (fun wx hbx => ?_); rw [if_pos (by kernel_rfl)]; with_reducible exact grows_det (.agg (frm ⟨K0, Z, O, E, S, List.replicate 44 0⟩)) (by kernel_rfl) (by kernel_rfl) (by kernel_rfl)
      · refine fun ho => ?_; rw [if_neg (by decide)]; refine obl_det hF (by kernel_rfl) (by kernel_rfl) ho (by kernel_rfl) (fun wx hbx => ?_); rw [if_pos (by kernel_rfl)]; with_reducible exact grows_alloc 42 (by kernel_rfl) (frm M.Fr.zero) zero42 B (Nat.le_trans hBW hbx.size) (by kernel_rfl)
    case hQ =>
      intro wz hbz
      have hW := below_next hW hbz
      have hr1 := below_blk hbz hr1
      have hr2 := below_blk hbz hr2
      simp only [each, putAll, List.take_succ_cons, List.take_zero, List.drop_succ_cons, List.drop_zero]
      rintro x ⟨N5, rfl, hr5⟩
      simp only [ptF, Act.put, List.setIfInBounds_toArray, List.set_cons_succ, List.set_cons_zero] at hr5 ⊢
      obtain ⟨hN5, hM5, hr5⟩ := hr5
      clear hbz ck hB hBW
      have n15 : N1 ≠ N5 := by omega
      have n25 : N2 ≠ N5 := by omega
      have w5 : w.heap.size ≤ N5 := by omega
      go_wp2_with (first | ((with_reducible show wpList _ _ _ (⟨none, _, _, _, _, _⟩ :: _) _ _); refine wpList_store_agg rfl rfl 42 _ _ rfl N5 (frm ⟨K0, Z, O, E, S, List.replicate 44 0⟩) rfl rfl 42 _ hr5 (ty42' _ ⟨zl, by simp⟩) rfl (frm_all _) ?_; intro Y5 hr5 ht))
      simp only [NormQ]
      have hr1 := ht.blk hr1 n15
      have hr2 := ht.blk hr2 n25
      have hW := below_turned hW ht (fun k hk => by subst hk; exact w5)
      clear ht
      go_wp2
      go_loopw [6] (fun i wr => ∃ k : Nat, k ≤ 44 ∧ i = .int .i64 k ∧ Hid (wr.heap[N5]? = some (.cells (frm ⟨K0, Z, O, E, S, BD.take k ++ (List.replicate 44 0).drop k⟩) 42 (0, 0))) ∧ Hid (wr.heap[N1]? = some (.cells (sct s) 43 (0, 0)) ∧ wr.heap[N2]? = some (.cells (frm M.Fr.zero) 42 (0, 0)) ∧ Below w.heap.size w wr)) (fun i _ => 44 - (intOf i).toNat)
      case atStart => exact ⟨0, Nat.zero_le _, rfl, (by show _ = _; simpa using hr5), hr1, hr2, hW⟩
      case round =>
        clear hr1 hr2 hr5 hW
        obtain ⟨k, hk, rfl, HR5, HR⟩ := hrel
        by_cases hlt : k < 44
        · have c1 : wr.cell? ⟨N1, 16 + k, none⟩ = some (.int .u8 (nth BD k)) := by
            rw [cell_of_row _ _ _ _ _ _ HR.out.1, HBN.out k hlt]
            have := u8s_at s (16 + k) (by rw [HS.out]; omega)
            simpa [sct] using this
          have c2 : ∃ v, wr.cell? ⟨N5, 5 + k, none⟩ = some v := by
            rw [cell_of_row _ _ _ _ _ _ HR5.out]
            exact ⟨_, frm_body _ k (by show k < (BD.take k ++ (List.replicate 44 0).drop k).length; rw [List.length_append, List.length_take, List.length_drop, HBL.out, zl]; omega)⟩
          obtain ⟨v0, c2⟩ := c2
          have c3 := frozen_of_row wr N5 (5 + k) _ 42 HR5.out
          have bx := nth_lt BD HOKU.out.2 k
          have hset : (BD.take k ++ (List.replicate 44 0).drop k).set k (nth BD k) = BD.take (k + 1) ++ (List.replicate 44 0).drop (k + 1) := set_copyB _ BD k (by rw [HBL.out]; simp) (by rw [HBL.out]; exact hlt)
          have HSET := hid hset
          clear hset
          generalize nth BD k = xk at *
          go_wp2
          go_roundw
          case rel =>
            refine ⟨k + 1, by omega, by go_num, ?_, ?_, ?_, HR.out.2.2.setCell w5 _⟩
            · show _ = _
              rw [heap_setCell_same _ _ _ _ 42 _ HR5.out, frm_setb, HSET.out]
            · rw [heap_setCell_other _ _ _ _ (by exact n15)]; exact HR.out.1
            · rw [heap_setCell_other _ _ _ _ (by exact n25)]; exact HR.out.2.1
          case measure => simp [intOf]; omega
        · obtain rfl : k = 44 := by omega
          have e : BD.take 44 ++ (List.replicate 44 0).drop 44 = BD := by rw [List.take_of_length_le (Nat.le_of_eq HBL.out), List.drop_eq_nil_of_le (by simp), List.append_nil]
          rw [e] at HR5
          obtain ⟨hr1, hr2, hW⟩ := HR.out
          have hr5 := HR5.out
          have c1 : wr.cell? ⟨N1, 1, none⟩ = some (.int .u8 VR) := by
            rw [cell_of_row _ _ _ _ _ _ hr1, HVE.out]
            have := u8s_at s 1 (by rw [HS.out]; omega)
            simpa [sct] using this
          have bv := HVL.out
          by_cases hv : VR = 1
          · by_cases hr : (M.Fr.right ⟨K0, Z, O, E, S, BD⟩) = true
            · have tv : ((VR : Int) != 1) = false := by rw [bne_eq_false_iff_eq]; omega
              have HR' := hid hr
              have HDV : Hid (D = (⟨K0, Z, O, E, S, BD⟩, 0)) := by show _ = _; rw [HDD.out, if_pos ⟨hv, hr⟩]
              clear hr
              go_wp2_with (first | ((with_reducible show wpList _ _ _ (⟨some 48, _, _, _, _, _⟩ :: _) _ _); refine wpList_load_rowg 48 rfl rfl 42 _ rfl N5 rfl _ (frm ⟨K0, Z, O, E, S, BD⟩) (0, 0) _ hr5 Try.underlying42 rfl (ty42' _ HOKU.out).size ?_) | (go_at_call 39; refine (rright_b ⟨K0, Z, O, E, S, BD⟩ _ HR'.out _).mono ?_; rintro e w6 ⟨rfl, hb⟩; have sw6 := hb.size; have hW := below_next hW hb; have hr2 := below_blk hb hr2; have hr5 := below_blk hb hr5) | ((with_reducible show wpList _ _ _ (⟨some 53, _, _, _, _, _⟩ :: _) _ _); refine wpList_load_rowg 53 rfl rfl 42 _ rfl N5 rfl _ (frm ⟨K0, Z, O, E, S, BD⟩) (0, 0) _ hr5 Try.underlying42 rfl (ty42' _ HOKU.out).size ?_) | ((with_reducible show wpList _ _ _ (⟨none, _, _, _, _, _⟩ :: _) _ _); refine wpList_store_agg rfl rfl 42 _ _ rfl N2 (frm ⟨K0, Z, O, E, S, BD⟩) rfl rfl 42 _ hr2 (ty42' _ HOKU.out) (by rw [frm_size _ M.zero_ok, frm_size _ HOKU.out]) (frm_all _) ?_; intro Z2 hrZ htZ))
              refine ret_cell 2 3 42 rfl rfl N2 rfl 42 _ (0, 0) _ hrZ Try.underlying42 rfl (ty42' _ HOKU.out).size _ rfl ⟨by rw [HDV.out]; rfl, below_turned hW htZ (fun k hk => by subst hk; exact w2)⟩
            · have tv : ((VR : Int) != 1) = false := by rw [bne_eq_false_iff_eq]; omega
              have HR' : Hid ((M.Fr.right ⟨K0, Z, O, E, S, BD⟩) = false) := by show _ = _; simpa using hr
              have HDV : Hid (D = (M.Fr.zero, 10)) := by show _ = _; rw [HDD.out, if_neg (fun h => hr h.2)]
              clear hr
              go_wp2_with (first | ((with_reducible show wpList _ _ _ (⟨some 48, _, _, _, _, _⟩ :: _) _ _); refine wpList_load_rowg 48 rfl rfl 42 _ rfl N5 rfl _ (frm ⟨K0, Z, O, E, S, BD⟩) (0, 0) _ hr5 Try.underlying42 rfl (ty42' _ HOKU.out).size ?_) | (go_at_call 39; refine (rright_b ⟨K0, Z, O, E, S, BD⟩ _ HR'.out _).mono ?_; rintro e w6 ⟨rfl, hb⟩; have sw6 := hb.size; have hW := below_next hW hb; have hr2 := below_blk hb hr2; have hr5 := below_blk hb hr5) | ((with_reducible show wpList _ _ _ (⟨some 52, _, _, _, _, _⟩ :: _) _ _); refine wpList_build_as 52 rfl rfl 42 _ rfl (frm M.Fr.zero) build_zero42 ?_) | ((with_reducible show wpList _ _ _ (⟨none, _, _, _, _, _⟩ :: _) _ _); refine wpList_store_agg rfl rfl 42 _ _ rfl N2 (frm M.Fr.zero) rfl rfl 42 _ hr2 (ty42' _ M.zero_ok) (rfl) (frm_all _) ?_; intro Z2 hrZ htZ))
              refine ret_cell 2 3 42 rfl rfl N2 rfl 42 _ (0, 0) _ hrZ Try.underlying42 rfl (ty42' _ M.zero_ok).size _ rfl ⟨by rw [HDV.out]; rfl, below_turned hW htZ (fun k hk => by subst hk; exact w2)⟩
          · have tv : ((VR : Int) != 1) = true := by rw [bne_iff_ne]; omega
            have HDV : Hid (D = (M.Fr.zero, 10)) := by show _ = _; rw [HDD.out, if_neg (fun h => hv h.1)]
            clear hv
            go_wp2_with (first | ((with_reducible show wpList _ _ _ (⟨some 52, _, _, _, _, _⟩ :: _) _ _); refine wpList_build_as 52 rfl rfl 42 _ rfl (frm M.Fr.zero) build_zero42 ?_) | ((with_reducible show wpList _ _ _ (⟨none, _, _, _, _, _⟩ :: _) _ _); refine wpList_store_agg rfl rfl 42 _ _ rfl N2 (frm M.Fr.zero) rfl rfl 42 _ hr2 (ty42' _ M.zero_ok) (rfl) (frm_all _) ?_; intro Z2 hrZ htZ))
            refine ret_cell 2 3 42 rfl rfl N2 rfl 42 _ (0, 0) _ hrZ Try.underlying42 rfl (ty42' _ M.zero_ok).size _ rfl ⟨by rw [HDV.out]; rfl, below_turned hW htZ (fun k hk => by subst hk; exact w2)⟩
theorem rread_calls (s : List Nat) (hs : s.length = 64) (hb : ∀ c ∈ s, c < 256) (w : World) :
    Calls Try.prog 71 #[.agg (sct s)] w fun e w' => e = .returned (.tuple #[.agg (frm (M.dec s).1), .int .i64 (M.dec s).2]) ∧ Below w.heap.size w w' := by
  by_cases he : M.sealed s = true
  · exact rread_se s hs hb he w
  · exact rread_un s hs hb (by simpa using he) w
end Go.Proofs.Ytncooadaeifekaa
