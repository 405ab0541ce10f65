/- Walk of a sector's Xor. -/
import Derived.Test.YtncooadaeifekaaC18
import Derived.Test.YtncooadaeifekaaK13
namespace Go.Proofs.Ytncooadaeifekaa
open Go.RowKit Go.BigFrame
theorem sct_at (s : List Nat) (i : Nat) (h : i < s.length) : (sct s)[i]? = some (.int .u8 (nth s i)) := by
  have := u8s_at s i h
  simpa [sct] using this
set_option maxRecDepth 100000 in
set_option maxHeartbeats 1000000 in
theorem xor_calls (s p : List Nat) (hs : s.length = 64) (hp : p.length = 64) (bs : ∀ c ∈ s, c < 256) (bp : ∀ c ∈ p, c < 256) (w : World) :
    Calls Try.prog 73 #[.agg (sct s), .agg (sct p)] w fun e w' => e = .returned (.agg (sct (M.xorL s p))) ∧ Below w.heap.size w w' := by
  obtain ⟨X, hX⟩ : ∃ X, X = M.xorL s p := ⟨_, rfl⟩
  have hXl : X.length = 64 := by rw [hX, M.xorL_length _ _ (by omega)]; exact hs
  have hXn : ∀ i, i < 64 → nth X i = nth s i ^^^ nth p i := fun i hi => by rw [hX]; exact nth_xorL s p (by omega) i (by omega)
  have hXb : ∀ c ∈ X, c < 256 := by rw [hX]; exact M.xorL_lt _ _ bs bp
  rw [← hX]
  have HS := hid hs
  have HP := hid hp
  have HBS := hid bs
  have HBP := hid bp
  have HXL := hid hXl
  have HXN := hid hXn
  have HXB := hid hXb
  clear hs hp bs bp hX hXl hXn hXb
  have hW := Below.refl w.heap.size w
  go_enter Try.func73, Try.ntmps73
  go_upto_region 1 with (first | ((with_reducible show wpList _ _ _ (⟨some 2, _, _, _, _, _⟩ :: _) _ _); refine wpList_boxed 2 rfl rfl 44 _ rfl (sct s) rfl ?_; intro W2 N2 hNN2 hMN2 hr2 hb; have sW2 := hb.size; have hW := below_next hW hb) | ((with_reducible show wpList _ _ _ (⟨some 3, _, _, _, _, _⟩ :: _) _ _); refine wpList_boxed 3 rfl rfl 44 _ rfl (sct p) rfl ?_; intro W3 N3 hNN3 hMN3 hr3 hb; have sW3 := hb.size; have hW := below_next hW hb; have hr2 := below_blk hb hr2) | ((with_reducible show wpList _ _ _ (⟨some 4, _, _, _, _, _⟩ :: _) _ _); refine wpList_zeroed 4 rfl rfl 44 rfl _ zero44 ?_; intro W4 N4 hN4 hM4 hr4 hb; have sW4 := hb.size; have hW := below_next hW hb; have hr2 := below_blk hb hr2; have hr3 := below_blk hb hr3))
  have w2 : w.heap.size ≤ N2 := by omega
  have w4 : w.heap.size ≤ N4 := by omega
  have n23 : N3 ≠ N2 := by omega
  have n24 : N4 ≠ N2 := by omega
  clear hb
  go_wp2
  go_loopw [6] (fun i wr => ∃ k : Nat, k ≤ 64 ∧ i = .int .i64 k ∧ Hid (wr.heap[N2]? = some (.cells (sct (X.take k ++ s.drop k)) 44 (0, 0))) ∧ Hid (wr.heap[N3]? = some (.cells (sct p) 44 (0, 0)) ∧ wr.heap[N4]? = some (.cells (sct (List.replicate 64 0)) 44 (0, 0)) ∧ Below w.heap.size w wr)) (fun i _ => 64 - (intOf i).toNat)
  case atStart => exact ⟨0, Nat.zero_le _, rfl, (by show _ = _; simpa using hr2), hr3, hr4, hW⟩
  case round =>
    clear hr2 hr3 hr4 hW
    obtain ⟨k, hk, rfl, HR2, HR⟩ := hrel
    have hTl : (X.take k ++ s.drop k).length = 64 := by rw [List.length_append, List.length_take, List.length_drop, HXL.out, HS.out]; omega
    by_cases hlt : k < 64
    · have c1 : wr.cell? ⟨N2, k, none⟩ = some (.int .u8 (nth s k)) := by
        rw [cell_of_row _ _ _ _ _ _ HR2.out, sct_at _ _ (by omega), nth_over s X k (by rw [HXL.out]; exact hlt)]
      have c2 : wr.cell? ⟨N3, k, none⟩ = some (.int .u8 (nth p k)) := by
        rw [cell_of_row _ _ _ _ _ _ HR.out.1, sct_at _ _ (by rw [HP.out]; exact hlt)]
      have c3 := frozen_of_row wr N2 k _ 44 HR2.out
      have x1 : bits .xor .u8 (nth s k : Int) (nth p k : Int) = ((nth s k ^^^ nth p k : Nat) : Int) := xor8 _ _ (nth_lt s HBS.out k) (nth_lt p HBP.out k)
      rw [← HXN.out k hlt] at x1
      have hset : (sct (X.take k ++ s.drop k)).setIfInBounds k (.int .u8 (nth X k)) = sct (X.take (k + 1) ++ s.drop (k + 1)) := by
        rw [sct_set, set_over s X k (by rw [HS.out, HXL.out]) (by rw [HXL.out]; exact hlt)]
      have HSET := hid hset
      have bl := nth_lt s HBS.out k
      have bq := nth_lt p HBP.out k
      have bx := nth_lt X HXB.out k
      generalize nth X k = xk at *
      clear hset hTl
      go_wp2
      go_region
      go_wp2
      go_roundw
      case rel =>
        refine ⟨k + 1, by omega, by go_num, ?_, ?_, ?_, (HR.out.2.2.setCell w2 _).drew⟩
        · show _ = _
          rw [heap_drew, heap_setCell_same _ _ _ _ 44 _ HR2.out, HSET.out]
        · rw [heap_drew, heap_setCell_other _ _ _ _ (by exact n23)]; exact HR.out.1
        · rw [heap_drew, heap_setCell_other _ _ _ _ (by exact n24)]; exact HR.out.2.1
      case measure => simp [intOf]; omega
    · obtain rfl : k = 64 := by omega
      have e : X.take 64 ++ s.drop 64 = X := by rw [List.take_of_length_le (Nat.le_of_eq HXL.out), List.drop_eq_nil_of_le (Nat.le_of_eq HS.out), List.append_nil]
      rw [e] at HR2
      obtain ⟨_, hr4, hW⟩ := HR.out
      have hr2 := HR2.out
      go_wp2_with (first | ((with_reducible show wpList _ _ _ (⟨some 18, _, _, _, _, _⟩ :: _) _ _); refine wpList_load_rowg 18 rfl rfl 44 _ rfl N2 rfl _ (sct X) (0, 0) _ hr2 Try.underlying44 rfl (ty44 _ HXL.out).size ?_) | ((with_reducible show wpList _ _ _ (⟨none, _, _, _, _, _⟩ :: _) _ _); refine wpList_store_agg rfl rfl 44 _ _ rfl N4 (sct X) rfl rfl 44 _ hr4 (ty44 _ HXL.out) (by rw [sct_size, sct_size, HXL.out]; rfl) (sct_all _) ?_; intro Z2 hrZ htZ))
      refine ret_cell1 4 44 rfl rfl N4 rfl 44 _ (0, 0) _ hrZ Try.underlying44 rfl (ty44 _ HXL.out).size ⟨rfl, below_turned hW htZ (fun k hk => by subst hk; exact w4)⟩
end Go.Proofs.Ytncooadaeifekaa
