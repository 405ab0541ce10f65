/- Walk of layer 3's anchor; Encode by what it tells. -/
import Derived.Test.YtncooadaeifekaaC13
import Derived.Test.YtncooadaeifekaaC16
namespace Go.Proofs.Ytncooadaeifekaa
open Go.RowKit
def M.Fr.enc (f : M.Fr) : List Nat × Int := if f.right = true then (f.sec, 0) else (List.replicate 64 0, 10)
theorem M.enc_length (f : M.Fr) (h : f.ok) : f.enc.1.length = 64 := by
  unfold M.Fr.enc; split
  · exact M.Fr.sec_length f h
  · simp
theorem M.enc_lt (f : M.Fr) (h : f.ok) : ∀ c ∈ f.enc.1, c < 256 := by
  unfold M.Fr.enc; split
  · exact M.Fr.sec_lt f h
  · simp
theorem encode_calls (f : M.Fr) (hok : f.ok) (w : World) :
    Calls Try.prog 37 #[.agg tbl, .agg (frm f)] w fun e w' => e = .returned (.tuple #[.agg (sct f.enc.1), .int .i64 f.enc.2]) ∧ Below w.heap.size w w' := by
  unfold M.Fr.enc
  by_cases hf : f.right = true
  · rw [if_pos hf]; exact encode_right f hok hf w
  · rw [if_neg hf]; exact encode_wrong f hok (by simpa using hf) w
theorem zeros_unsealed : M.sealed (List.replicate 64 0) = false := by decide +kernel
def ancF : M.Fr := ⟨3, 0, 0, 1, 0, List.replicate 44 0⟩
theorem ancF_ok : ancF.ok := ⟨by simp [ancF], by simp [ancF]⟩
theorem build_anc (w : World) : (Instr.build 41 #[(0, .int .i64 3), (3, .int .i64 1)]).run Try.prog w = .ok (.agg (frm ancF)) w := by kernel_rfl
theorem encode_anc (w : World) : Calls Try.prog 37 #[.agg tbl, .agg (frm ancF)] w fun e w' => e = .returned (.tuple #[.agg (sct ancF.sec), .int .i64 0]) ∧ Below w.heap.size w w' := encode_right ancF ancF_ok (by decide) w
theorem decode_zeros (w : World) : Calls Try.prog 40 #[.agg tbl, .agg (sct (List.replicate 64 0))] w fun e w' => e = .returned (.tuple #[.agg (frm M.Fr.zero), .int .i64 11]) ∧ Below w.heap.size w w' := decode_unsealed _ (by simp) (by simp) zeros_unsealed w
set_option maxRecDepth 100000 in
set_option maxHeartbeats 400000 in
theorem anchor3_calls (w : World) : Calls Try.prog 36 #[] w fun e w' => e = .returned (.bool true) ∧ Below w.heap.size w w' := by
  have hW := Below.refl w.heap.size w
  have HZ := hid M.zero_ok
  have HA := hid (M.Fr.sec_length ancF ancF_ok)
  go_enter Try.func36, Try.ntmps36
  go_wp2_with (first | (go_at_call 29; refine (new_calls _).mono ?_; rintro e w1 ⟨rfl, hb⟩; have hW := below_next hW hb) | ((with_reducible show wpList _ _ _ (⟨some 1, _, _, _, _, _⟩ :: _) _ _); refine wpList_local 1 rfl rfl rfl rfl 25 rfl _ rfl tbl rfl (by simp) ty25 tbl_all ?_; intro W1 N1 hN1 hM1 hr1 hb; have hW := below_next hW hb) | ((with_reducible show wpList _ _ _ (⟨some 8, _, _, _, _, _⟩ :: _) _ _); refine wpList_load_row rfl _ _ rfl N1 rfl 25 tbl (0, 0) _ hr1 Try.underlying25 rfl (by kernel_rfl) ?_) | ((with_reducible show wpList _ _ _ (⟨some 9, _, _, _, _, _⟩ :: _) _ _); refine wpList_build_as 9 rfl rfl 44 _ rfl (sct (List.replicate 64 0)) build_zero44 ?_) | (go_at_call 40; refine (decode_zeros _).mono ?_; rintro e w2 ⟨rfl, hb⟩; have hW := below_next hW hb; have hr1 := below_blk hb hr1) | ((with_reducible show wpList _ _ _ (⟨some 2, _, _, _, _, _⟩ :: _) _ _); refine wpList_local 2 rfl rfl rfl rfl 41 rfl _ rfl (frm M.Fr.zero) rfl (by simp) (ty41 _ HZ.out) (frm_all _) ?_; intro W2 N2 hN2 hM2 hr2 hb; have hW := below_next hW hb; have hr1 := below_blk hb hr1) | ((with_reducible show wpList _ _ _ (⟨some 14, _, _, _, _, _⟩ :: _) _ _); refine wpList_load_row rfl _ _ rfl N1 rfl 25 tbl (0, 0) _ hr1 Try.underlying25 rfl (by kernel_rfl) ?_) | ((with_reducible show wpList _ _ _ (⟨some 15, _, _, _, _, _⟩ :: _) _ _); refine wpList_build_as 15 rfl rfl 41 _ rfl (frm ancF) build_anc ?_) | (go_at_call 37; refine (encode_anc _).mono ?_; rintro e w3 ⟨rfl, hb⟩; have hW := below_next hW hb) | ((with_reducible show wpList _ _ _ (⟨some 4, _, _, _, _, _⟩ :: _) _ _); refine wpList_local 4 rfl rfl rfl rfl 44 rfl _ rfl (sct ancF.sec) rfl (by simp) (ty44 _ HA.out) (sct_all _) ?_; intro W4 N4 hN4 hM4 hr4 hb; have hW := below_next hW hb))
  go_ret
  exact ⟨rfl, hW⟩
end Go.Proofs.Ytncooadaeifekaa
