/- Walk of the law CrcSums: it answers true for any two lists of bytes, any word and any byte. -/
import Derived.Test.YtncooadaeifekaaC3
import Derived.Test.YtncooadaeifekaaK3
import Derived.Test.YtncooadaeifekaaG3
namespace Go.Proofs.Ytncooadaeifekaa
open Go.RowKit Go.BigFrame
theorem over_one (r c : Nat) (hr : r < 4294967296) (w : World) (a : Option Addr) (cap : Nat) (h : HasB w a [c]) :
    Calls Try.prog 32 #[.int .u32 r, .slice a 1 cap] w fun e w' => e = .returned (.int .u32 (M.bst r c)) ∧ Below w.heap.size w w' :=
  rover_calls r hr a [c] cap w h (by simp)
theorem rover0_calls (a : Option Addr) (l : List Nat) (cap : Nat) (w : World) (hl : HasB w a l) (hn : l.length ≤ 1000000) :
    Calls Try.prog 32 #[.int .u32 0, .slice a l.length cap] w fun e w' => e = .returned (.int .u32 (M.over 0 l)) ∧ Below w.heap.size w w' := rover_calls 0 (by decide) a l cap w hl hn
theorem over_one0 (c : Nat) (w : World) (a : Option Addr) (cap : Nat) (h : HasB w a [c]) :
    Calls Try.prog 32 #[.int .u32 0, .slice a 1 cap] w fun e w' => e = .returned (.int .u32 (M.tb c)) ∧ Below w.heap.size w w' := by
  have h1 := over_one 0 c (by decide) w a cap h
  rw [show M.bst 0 c = M.tb c by rw [M.bst, Nat.zero_xor, M.tb]] at h1
  exact h1
theorem index_tbl {o : Oper} {a : Act} {w : World} {x y : Operand} {N c : Nat} (ho : o.op = .indexAddr 25 x y) (hx : a.eval x = .pointer (some ⟨N, 0, none⟩)) (hy : a.eval y = .int .u8 c) (hc : c < 256) :
    (execOp a.eval o).run Try.prog w = .ok (.value (.pointer (some ⟨N, c, none⟩))) w := by
  unfold execOp
  have h1 : ((c : Int) < 256) := by omega
  simp only [ho, hx, hy]
  simp [go_sem, h1]
theorem load_tbl {o : Oper} {a : Act} {w : World} {x : Operand} {N c : Nat} {v : Value} (ho : o.op = .load 23 x) (hx : a.eval x = .pointer (some ⟨N, c, none⟩)) (hc : w.cell? ⟨N, c, none⟩ = some v) :
    (execOp a.eval o).run Try.prog w = .ok (.value v) w := by
  unfold execOp
  simp only [ho, hx]
  simp [go_sem, hc]
set_option maxRecDepth 100000 in
set_option maxHeartbeats 400000 in
theorem sums_walk (aa : Option Addr) (a : List Nat) (ca : Nat) (ab : Option Addr) (b : List Nat) (cb : Nat) (r c : Nat) (ha : a.length ≤ 300) (hb : b.length ≤ 300) (hr : r < 4294967296) (hc : c < 256) (w : World)
    (hA : HasB w aa a) (hB : HasB w ab b) :
    Calls Try.prog 4 #[.slice aa a.length ca, .slice ab b.length cb, .int .u32 r, .int .u8 c] w fun e w' => e = .returned (.bool true) ∧ Below w.heap.size w w' := by
  have ta : decide ((300 : Int) < (a.length : Int)) = false := by simp; omega
  have tb : decide ((300 : Int) < (b.length : Int)) = false := by simp; omega
  have hW := Below.refl w.heap.size w
  obtain ⟨L, hL⟩ : ∃ L, L = a ++ b := ⟨_, rfl⟩
  have hLn : L.length ≤ 600 := by rw [hL]; simp; omega
  have HL := hid hL
  clear hL
  go_enter Try.func4, Try.ntmps4
  go_upto_region 7 with (first | (go_at_call 28; refine (anchor_calls _).mono ?_; rintro e w1 ⟨rfl, hb1⟩; have hW := below_next hW hb1) | (go_at_call 29; refine (new_calls _).mono ?_; rintro e w2 ⟨rfl, hb2⟩; have hW := below_next hW hb2) | ((with_reducible show wpList _ _ _ (⟨some 9, _, _, _, _, _⟩ :: _) _ _); refine wpList_local 9 rfl rfl rfl rfl 25 rfl _ rfl tbl rfl (by simp) ty25 tbl_all ?_; intro W9 N9 hN9 hM9 hr9 hb9; have hW := below_next hW hb9; have hs9 := hW.size) | ((with_reducible show wpList _ _ _ (⟨some 25, _, _, _, _, _⟩ :: _) _ _); refine wpList_empty 25 rfl rfl rfl ?_; intro W25 v25 ho25 hb25; have hW := below_next hW hb25; have hr9 := below_blk hb25 hr9) | ((with_reducible show wpList _ _ _ (⟨some 27, _, _, _, _, _⟩ :: _) _ _); refine wpList_append_at 27 rfl rfl _ _ rfl W9.heap.size v25 [] a a rfl (by rfl) ho25 aa ca (by rfl) (hA.below hW) (by omega) hb25.size ?_; intro av27 cv27 W27 ho27 _ _ hb27; have hr9 := below_blkB hb27 hM9 hr9; have hW := below_nextB hW hb27 hs9) | ((with_reducible show wpList _ _ _ (⟨some 29, _, _, _, _, _⟩ :: _) _ _); refine wpList_append_at 29 rfl rfl _ _ rfl W9.heap.size _ a b L HL.out.symm (by rfl) ho27 ab cb (by rfl) (hB.below hW) (by omega) (Nat.le_trans hb25.size hb27.size) ?_; intro av29 cv29 W29 ho29 hcv29 hh29 hb29; have hr9 := below_blkB hb29 hM9 hr9; have hW := below_nextB hW hb29 hs9))
  clear hb27 ho27 hb25 ho25
  have hA29 := hA.below hW
  go_upto_region 8 with (first | ((with_reducible show wpList _ _ _ (⟨some 30, _, _, _, _, _⟩ :: _) _ _); refine wpList_load_row rfl _ _ rfl N9 rfl 25 tbl (0, 0) _ hr9 Try.underlying25 rfl (by kernel_rfl) ?_) | (go_at_call 30; refine (raw_calls aa a ca _ hA29 (by omega)).mono ?_; rintro e W32 ⟨rfl, hb32⟩; have hW := below_next hW hb32; have hr9 := below_blk hb32 hr9; have hh29 := hh29.below hb32))
  have hB32 := hB.below hW
  obtain ⟨R0, hR0⟩ : ∃ R0, R0 = M.over 0 a := ⟨_, rfl⟩
  have hR0l : R0 < 4294967296 := by rw [hR0]; exact M.over_lt _ _ (by decide) hA.1
  rw [← hR0]
  have HR0 := hid hR0
  clear hR0
  go_wp2
  go_loopw [11, 13, 35] (fun raw _ i wr => ∃ k : Nat, k ≤ b.length ∧ i = .int .i64 k ∧ raw = .int .u32 (M.over R0 (b.take k)) ∧ Below W32.heap.size W32 wr) (fun _ _ i _ => b.length - (intOf i).toNat)
  case atStart => exact ⟨0, Nat.zero_le _, rfl, rfl, Below.refl _ _⟩
  case round =>
    obtain ⟨k, hk, rfl, rfl, hbr⟩ := hrel
    by_cases hlt : k < b.length
    · have hR := over_take R0 b k hlt
      obtain ⟨R, hRe⟩ : ∃ R, R = M.over R0 (b.take k) := ⟨_, rfl⟩
      have hRl : R < 4294967296 := by rw [hRe]; exact M.over_lt _ _ hR0l (fun c hc => hB.1 c (List.mem_of_mem_take hc))
      rw [← hRe] at hR ⊢
      have HR := hid hR
      clear hR hRe
      have hr9' := below_blk hbr hr9
      have hBr := hB32.below hbr
      obtain ⟨bb, off, rfl, hcc⟩ := hBr.cell (by omega)
      have hcell := hcc k hlt
      clear hcc
      have hcb := nth_lt b hB.1 k
      go_wp2_with (first | ((with_reducible show wpList _ _ _ (⟨some 39, _, _, _, _, _⟩ :: _) _ _); refine wpList_load_row rfl _ _ rfl N9 rfl 25 tbl (0, 0) _ hr9' Try.underlying25 rfl (by kernel_rfl) ?_) | (go_at_call 31; refine (step_calls _ _ hRl hcb _).mono ?_; rintro e w' ⟨rfl, hb42⟩))
      go_roundw
      case rel => exact ⟨k + 1, by omega, by go_num, by rw [HR.out], below_next hbr hb42⟩
      case measure => simp [intOf]; omega
    · have hRB : Hid (M.over R0 (b.take k) = M.over 0 L) := by
        show M.over R0 (b.take k) = M.over 0 L
        rw [List.take_of_length_le (by omega), HR0.out, ← M.over_append, HL.out]
      rw [hRB.out]
      go_upto_region 13 with (fail)
      have hr9 := below_blk hbr hr9
      have hLr := hh29.below hbr
      have hAr := (hA.below hW).below hbr
      have hW := below_next hW hbr
      refine wp_region_frame (spec := [none, none, none, none, none, none, some (IsBytes [c]), none, none, none, none, none, none, none, none, none, none, none, none, none, none, none, none, none, none, none, none, none, none, none, none, none, none, none, none, none, none, some (IsBytes [c]), none, none, none, none]) (vals := [.agg tbl, .int .u32 r, .int .u8 c, .int .u32 (M.bst r c), .int .u32 r, .int .u8 c, undef, .int .u32 (M.bst r c), .bool true, .bool true, .agg tbl, .slice aa a.length ca, .int .u32 (M.over 0 a), .slice aa a.length ca, .int .u32 (M.over 0 a), .bool true, .bool true, .bool true, .agg tbl, .slice aa a.length ca, .int .u32 (M.over 4294967295 a ^^^ 4294967295 : Nat), .slice aa a.length ca, .int .u32 (M.over 4294967295 a ^^^ 4294967295 : Nat), .bool true, .bool true, .bool true, .agg tbl, .slice av29 L.length cv29, .int .u32 (M.over 0 L), .int .u32 (M.over 0 L), .bool true, .bool true, .bool true, .int .u8 c, .pointer (some ⟨N9, c, none⟩), .int .u32 (M.tb c), .int .u8 c, undef, .int .u32 (M.tb c), .bool true, .bool true, .bool true]) (by kernel_rfl) (by kernel_rfl) (by kernel_rfl) (by kernel_rfl) ?hst (fun hF => ?hobl) ?hQ
      case hst => exact ⟨isBytes_stable [c], isBytes_stable [c], trivial⟩
      case hobl =>
        refine ⟨?_, ?_, ?_, ?_, ?_, ?_, ?_, ?_, ?_, ?_, ?_, ?_, ?_, ?_, ?_, ?_, ?_, ?_, ?_, ?_, ?_, ?_, ?_, ?_, ?_, ?_, ?_, ?_, ?_, ?_, ?_, ?_, ?_, ?_, ?_, ?_, ?_, ?_, ?_, ?_, ?_, ?_, trivial⟩
        · refine fun ho => obl_det hF (by kernel_rfl) (by kernel_rfl) ho (by kernel_rfl) (fun wx hbx => ?_); rw [if_pos (by kernel_rfl)]; with_reducible exact grows_row 25 (.tmp 9) (by kernel_rfl) N9 (by kernel_rfl) 25 tbl (0, 0) _ (below_blk hbx hr9) Try.underlying25 (by kernel_rfl) (by kernel_rfl) (by kernel_rfl) (by kernel_rfl)
        · refine fun ho => obl_det hF (by kernel_rfl) (by kernel_rfl) ho (by kernel_rfl) (fun wx hbx => ?_); rw [if_pos (by kernel_rfl)]; with_reducible exact grows_det (.int .u32 r) (by kernel_rfl) (by kernel_rfl) (by kernel_rfl)
        · refine fun ho => obl_det hF (by kernel_rfl) (by kernel_rfl) ho (by kernel_rfl) (fun wx hbx => ?_); rw [if_pos (by kernel_rfl)]; with_reducible exact grows_det (.int .u8 c) (by kernel_rfl) (by kernel_rfl) (by kernel_rfl)
        · refine fun ho => obl_det hF (by kernel_rfl) (by kernel_rfl) ho (by kernel_rfl) (fun wx hbx => ?_); rw [if_pos (by kernel_rfl)]; have hcc := step_calls r c hr hc wx; with_reducible exact grows_call 31 #[.agg tbl, .int .u32 r, .int .u8 c] (.int .u32 (M.bst r c)) (by kernel_rfl) hcc (by kernel_rfl) (by kernel_rfl)
        · refine fun ho => obl_det hF (by kernel_rfl) (by kernel_rfl) ho (by kernel_rfl) (fun wx hbx => ?_); rw [if_pos (by kernel_rfl)]; with_reducible exact grows_det (.int .u32 r) (by kernel_rfl) (by kernel_rfl) (by kernel_rfl)
        · refine fun ho => obl_det hF (by kernel_rfl) (by kernel_rfl) ho (by kernel_rfl) (fun wx hbx => ?_); rw [if_pos (by kernel_rfl)]; with_reducible exact grows_det (.int .u8 c) (by kernel_rfl) (by kernel_rfl) (by kernel_rfl)
        · refine fun ho => obl_det hF (by kernel_rfl) (by kernel_rfl) ho (by kernel_rfl) (fun wx hbx => ?_); rw [if_pos (by kernel_rfl)]; with_reducible exact grows_new (.slice (some ⟨wx.heap.size, 0, none⟩) 1 1) (wx.alloc (.cells #[.int .u8 c] 5)) (by kernel_rfl) ((Below.refl _ _).alloc (Nat.le_refl _) _) (IsBytes [c]) (by kernel_rfl) (isBytes_one wx c hc)
        · refine fun ho => obl_one hF (by kernel_rfl) (by kernel_rfl) ho 6 (by kernel_rfl) 50 (IsBytes [c]) (by kernel_rfl) (by kernel_rfl) (fun wx x hbx hx => ?_); rw [if_pos (by kernel_rfl)]; obtain ⟨xa, xc, rfl, hxb⟩ := hx; have hcc := over_one r c hr wx xa xc hxb; with_reducible exact grows_call 32 #[.int .u32 r, .slice xa 1 xc] (.int .u32 (M.bst r c)) (by kernel_rfl) hcc (by kernel_rfl) (by kernel_rfl)
        · refine fun ho => obl_det hF (by kernel_rfl) (by kernel_rfl) ho (by kernel_rfl) (fun wx hbx => ?_); rw [if_pos (by kernel_rfl)]; have hq : Value.bool (((M.bst r c : Nat) : Int) == ((M.bst r c : Nat) : Int)) = Value.bool true := by simp
          with_reducible exact grows_det (.bool (((M.bst r c : Nat) : Int) == ((M.bst r c : Nat) : Int))) (by kernel_rfl) (by kernel_rfl) (hq.trans (by kernel_rfl))
        · refine fun ho => obl_det hF (by kernel_rfl) (by kernel_rfl) ho (by kernel_rfl) (fun wx hbx => ?_); rw [if_pos (by kernel_rfl)]; with_reducible exact grows_det (.bool true) (by kernel_rfl) (by kernel_rfl) (by kernel_rfl)
        · refine fun ho => obl_det hF (by kernel_rfl) (by kernel_rfl) ho (by kernel_rfl) (fun wx hbx => ?_); rw [if_pos (by kernel_rfl)]; with_reducible exact grows_row 25 (.tmp 9) (by kernel_rfl) N9 (by kernel_rfl) 25 tbl (0, 0) _ (below_blk hbx hr9) Try.underlying25 (by kernel_rfl) (by kernel_rfl) (by kernel_rfl) (by kernel_rfl)
        · refine fun ho => obl_det hF (by kernel_rfl) (by kernel_rfl) ho (by kernel_rfl) (fun wx hbx => ?_); rw [if_pos (by kernel_rfl)]; with_reducible exact grows_det (.slice aa a.length ca) (by kernel_rfl) (by kernel_rfl) (by kernel_rfl)
        · refine fun ho => obl_det hF (by kernel_rfl) (by kernel_rfl) ho (by kernel_rfl) (fun wx hbx => ?_); rw [if_pos (by kernel_rfl)]; have hcc := raw_calls aa a ca wx (hAr.below hbx) (by omega); with_reducible exact grows_call 30 #[.agg tbl, .slice aa a.length ca] (.int .u32 (M.over 0 a)) (by kernel_rfl) hcc (by kernel_rfl) (by kernel_rfl)
        · refine fun ho => obl_det hF (by kernel_rfl) (by kernel_rfl) ho (by kernel_rfl) (fun wx hbx => ?_); rw [if_pos (by kernel_rfl)]; with_reducible exact grows_det (.slice aa a.length ca) (by kernel_rfl) (by kernel_rfl) (by kernel_rfl)
        · refine fun ho => obl_det hF (by kernel_rfl) (by kernel_rfl) ho (by kernel_rfl) (fun wx hbx => ?_); rw [if_pos (by kernel_rfl)]; have hcc := rover0_calls aa a ca wx (hAr.below hbx) (by omega); with_reducible exact grows_call 32 #[.int .u32 0, .slice aa a.length ca] (.int .u32 (M.over 0 a)) (by kernel_rfl) hcc (by kernel_rfl) (by kernel_rfl)
        · refine fun ho => obl_det hF (by kernel_rfl) (by kernel_rfl) ho (by kernel_rfl) (fun wx hbx => ?_); rw [if_pos (by kernel_rfl)]; have hq : Value.bool (((M.over 0 a : Nat) : Int) == ((M.over 0 a : Nat) : Int)) = Value.bool true := by simp
          with_reducible exact grows_det (.bool (((M.over 0 a : Nat) : Int) == ((M.over 0 a : Nat) : Int))) (by kernel_rfl) (by kernel_rfl) (hq.trans (by kernel_rfl))
        · refine fun ho => obl_det hF (by kernel_rfl) (by kernel_rfl) ho (by kernel_rfl) (fun wx hbx => ?_); rw [if_pos (by kernel_rfl)]; with_reducible exact grows_det (.bool true) (by kernel_rfl) (by kernel_rfl) (by kernel_rfl)
        · refine fun ho => obl_det hF (by kernel_rfl) (by kernel_rfl) ho (by kernel_rfl) (fun wx hbx => ?_); rw [if_pos (by kernel_rfl)]; with_reducible exact grows_det (.bool true) (by kernel_rfl) (by kernel_rfl) (by kernel_rfl)
        · refine fun ho => obl_det hF (by kernel_rfl) (by kernel_rfl) ho (by kernel_rfl) (fun wx hbx => ?_); rw [if_pos (by kernel_rfl)]; with_reducible exact grows_row 25 (.tmp 9) (by kernel_rfl) N9 (by kernel_rfl) 25 tbl (0, 0) _ (below_blk hbx hr9) Try.underlying25 (by kernel_rfl) (by kernel_rfl) (by kernel_rfl) (by kernel_rfl)
        · refine fun ho => obl_det hF (by kernel_rfl) (by kernel_rfl) ho (by kernel_rfl) (fun wx hbx => ?_); rw [if_pos (by kernel_rfl)]; with_reducible exact grows_det (.slice aa a.length ca) (by kernel_rfl) (by kernel_rfl) (by kernel_rfl)
        · refine fun ho => obl_det hF (by kernel_rfl) (by kernel_rfl) ho (by kernel_rfl) (fun wx hbx => ?_); rw [if_pos (by kernel_rfl)]; have hcc := sum_calls aa a ca wx (hAr.below hbx) (by omega); with_reducible exact grows_call 33 #[.agg tbl, .slice aa a.length ca] (.int .u32 (M.over 4294967295 a ^^^ 4294967295 : Nat)) (by kernel_rfl) hcc (by kernel_rfl) (by kernel_rfl)
        · refine fun ho => obl_det hF (by kernel_rfl) (by kernel_rfl) ho (by kernel_rfl) (fun wx hbx => ?_); rw [if_pos (by kernel_rfl)]; with_reducible exact grows_det (.slice aa a.length ca) (by kernel_rfl) (by kernel_rfl) (by kernel_rfl)
        · refine fun ho => obl_det hF (by kernel_rfl) (by kernel_rfl) ho (by kernel_rfl) (fun wx hbx => ?_); rw [if_pos (by kernel_rfl)]; have hcc := rsum_calls aa a ca wx (hAr.below hbx) (by omega); with_reducible exact grows_call 34 #[.slice aa a.length ca] (.int .u32 (M.over 4294967295 a ^^^ 4294967295 : Nat)) (by kernel_rfl) hcc (by kernel_rfl) (by kernel_rfl)
        · refine fun ho => obl_det hF (by kernel_rfl) (by kernel_rfl) ho (by kernel_rfl) (fun wx hbx => ?_); rw [if_pos (by kernel_rfl)]; have hq : Value.bool (((M.over 4294967295 a ^^^ 4294967295 : Nat) : Int) == ((M.over 4294967295 a ^^^ 4294967295 : Nat) : Int)) = Value.bool true := by simp
          with_reducible exact grows_det (.bool (((M.over 4294967295 a ^^^ 4294967295 : Nat) : Int) == ((M.over 4294967295 a ^^^ 4294967295 : Nat) : Int))) (by kernel_rfl) (by kernel_rfl) (hq.trans (by kernel_rfl))
        · refine fun ho => obl_det hF (by kernel_rfl) (by kernel_rfl) ho (by kernel_rfl) (fun wx hbx => ?_); rw [if_pos (by kernel_rfl)]; with_reducible exact grows_det (.bool true) (by kernel_rfl) (by kernel_rfl) (by kernel_rfl)
        · refine fun ho => obl_det hF (by kernel_rfl) (by kernel_rfl) ho (by kernel_rfl) (fun wx hbx => ?_); rw [if_pos (by kernel_rfl)]; with_reducible exact grows_det (.bool true) (by kernel_rfl) (by kernel_rfl) (by kernel_rfl)
        · refine fun ho => obl_det hF (by kernel_rfl) (by kernel_rfl) ho (by kernel_rfl) (fun wx hbx => ?_); rw [if_pos (by kernel_rfl)]; with_reducible exact grows_row 25 (.tmp 9) (by kernel_rfl) N9 (by kernel_rfl) 25 tbl (0, 0) _ (below_blk hbx hr9) Try.underlying25 (by kernel_rfl) (by kernel_rfl) (by kernel_rfl) (by kernel_rfl)
        · refine fun ho => obl_det hF (by kernel_rfl) (by kernel_rfl) ho (by kernel_rfl) (fun wx hbx => ?_); rw [if_pos (by kernel_rfl)]; with_reducible exact grows_det (.slice av29 L.length cv29) (by kernel_rfl) (by kernel_rfl) (by kernel_rfl)
        · refine fun ho => obl_det hF (by kernel_rfl) (by kernel_rfl) ho (by kernel_rfl) (fun wx hbx => ?_); rw [if_pos (by kernel_rfl)]; have hcc := raw_calls av29 L cv29 wx (hLr.below hbx) (by omega); with_reducible exact grows_call 30 #[.agg tbl, .slice av29 L.length cv29] (.int .u32 (M.over 0 L)) (by kernel_rfl) hcc (by kernel_rfl) (by kernel_rfl)
        · refine fun ho => obl_det hF (by kernel_rfl) (by kernel_rfl) ho (by kernel_rfl) (fun wx hbx => ?_); rw [if_pos (by kernel_rfl)]; with_reducible exact grows_det (.int .u32 (M.over 0 L)) (by kernel_rfl) (by kernel_rfl) (by kernel_rfl)
        · refine fun ho => obl_det hF (by kernel_rfl) (by kernel_rfl) ho (by kernel_rfl) (fun wx hbx => ?_); rw [if_pos (by kernel_rfl)]; have hq : Value.bool (((M.over 0 L : Nat) : Int) == ((M.over 0 L : Nat) : Int)) = Value.bool true := by simp
          with_reducible exact grows_det (.bool (((M.over 0 L : Nat) : Int) == ((M.over 0 L : Nat) : Int))) (by kernel_rfl) (by kernel_rfl) (hq.trans (by kernel_rfl))
        · refine fun ho => obl_det hF (by kernel_rfl) (by kernel_rfl) ho (by kernel_rfl) (fun wx hbx => ?_); rw [if_pos (by kernel_rfl)]; with_reducible exact grows_det (.bool true) (by kernel_rfl) (by kernel_rfl) (by kernel_rfl)
        · refine fun ho => obl_det hF (by kernel_rfl) (by kernel_rfl) ho (by kernel_rfl) (fun wx hbx => ?_); rw [if_pos (by kernel_rfl)]; with_reducible exact grows_det (.bool true) (by kernel_rfl) (by kernel_rfl) (by kernel_rfl)
        · refine fun ho => obl_det hF (by kernel_rfl) (by kernel_rfl) ho (by kernel_rfl) (fun wx hbx => ?_); rw [if_pos (by kernel_rfl)]; with_reducible exact grows_det (.int .u8 c) (by kernel_rfl) (by kernel_rfl) (by kernel_rfl)
        · refine fun ho => obl_det hF (by kernel_rfl) (by kernel_rfl) ho (by kernel_rfl) (fun wx hbx => ?_); rw [if_pos (by kernel_rfl)]; with_reducible exact grows_det (.pointer (some ⟨N9, c, none⟩)) (index_tbl (x := .tmp 9) (y := .tmp 77) (by kernel_rfl) (by kernel_rfl) (by kernel_rfl) hc) (by kernel_rfl) (by kernel_rfl)
        · refine fun ho => obl_det hF (by kernel_rfl) (by kernel_rfl) ho (by kernel_rfl) (fun wx hbx => ?_); rw [if_pos (by kernel_rfl)]; have hcl := (cell_of_row wx N9 c tbl 25 (0, 0) (below_blk hbx hr9)).trans (tbl_at c hc); with_reducible exact grows_det (.int .u32 (M.tb c)) (load_tbl (x := .tmp 78) (by kernel_rfl) (by kernel_rfl) hcl) (by kernel_rfl) (by kernel_rfl)
        · refine fun ho => obl_det hF (by kernel_rfl) (by kernel_rfl) ho (by kernel_rfl) (fun wx hbx => ?_); rw [if_pos (by kernel_rfl)]; with_reducible exact grows_det (.int .u8 c) (by kernel_rfl) (by kernel_rfl) (by kernel_rfl)
        · refine fun ho => obl_det hF (by kernel_rfl) (by kernel_rfl) ho (by kernel_rfl) (fun wx hbx => ?_); rw [if_pos (by kernel_rfl)]; with_reducible exact grows_new (.slice (some ⟨wx.heap.size, 0, none⟩) 1 1) (wx.alloc (.cells #[.int .u8 c] 5)) (by kernel_rfl) ((Below.refl _ _).alloc (Nat.le_refl _) _) (IsBytes [c]) (by kernel_rfl) (isBytes_one wx c hc)
        · refine fun ho => obl_one hF (by kernel_rfl) (by kernel_rfl) ho 37 (by kernel_rfl) 81 (IsBytes [c]) (by kernel_rfl) (by kernel_rfl) (fun wx x hbx hx => ?_); rw [if_pos (by kernel_rfl)]; obtain ⟨xa, xc, rfl, hxb⟩ := hx; have hcc := over_one0 c wx xa xc hxb; with_reducible exact grows_call 32 #[.int .u32 0, .slice xa 1 xc] (.int .u32 (M.tb c)) (by kernel_rfl) hcc (by kernel_rfl) (by kernel_rfl)
        · refine fun ho => obl_det hF (by kernel_rfl) (by kernel_rfl) ho (by kernel_rfl) (fun wx hbx => ?_); rw [if_pos (by kernel_rfl)]; have hq : Value.bool (((M.tb c : Nat) : Int) == ((M.tb c : Nat) : Int)) = Value.bool true := by simp
          with_reducible exact grows_det (.bool (((M.tb c : Nat) : Int) == ((M.tb c : Nat) : Int))) (by kernel_rfl) (by kernel_rfl) (hq.trans (by kernel_rfl))
        · refine fun ho => obl_det hF (by kernel_rfl) (by kernel_rfl) ho (by kernel_rfl) (fun wx hbx => ?_); rw [if_pos (by kernel_rfl)]; with_reducible exact grows_det (.bool true) (by kernel_rfl) (by kernel_rfl) (by kernel_rfl)
        · refine fun ho => obl_det hF (by kernel_rfl) (by kernel_rfl) ho (by kernel_rfl) (fun wx hbx => ?_); rw [if_pos (by kernel_rfl)]; with_reducible exact grows_det (.bool true) (by kernel_rfl) (by kernel_rfl) (by kernel_rfl)
      case hQ =>
        intro wy hby
        simp only [each]
        intro x1 _ x2 _
        generalize hF : putAll _ _ _ = F
        have hd : F.defers = [] := by rw [← hF]; kernel_rfl
        have h8 : F.tmps.getD 8 undef = .bool true := by rw [← hF]; kernel_rfl
        clear hF
        go_step
        go_step
        go_step
        exact ret_of 8 rfl hd _ h8 ⟨rfl, below_next hW hby⟩
end Go.Proofs.Ytncooadaeifekaa
