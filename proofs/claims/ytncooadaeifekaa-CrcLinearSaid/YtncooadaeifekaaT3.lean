/- Walk of the law CrcLinear: it answers true for any two lists of bytes and any number of noughts. -/
import Derived.Test.YtncooadaeifekaaT2
import Derived.Test.YtncooadaeifekaaG4
namespace Go.Proofs.Ytncooadaeifekaa
open Go.RowKit Go.BigFrame
theorem lin_list (a b l : List Nat) (z n k m : Nat) (hk : k = n) (hm : m = z + n) (hn1 : n ≤ a.length) (hn2 : n ≤ b.length) (hl : l.length = m) (h : ∀ j, nth l j = if z ≤ j ∧ j < z + k then nth a (j - z) ^^^ nth b (j - z) else 0) :
    l = List.replicate z 0 ++ List.zipWith (· ^^^ ·) (a.take n) (b.take n) := by
  subst hk hm
  refine nth_eq _ _ (by simp [hl]; omega) fun j hj => ?_
  rw [hl] at hj
  rw [h j]
  unfold nth
  by_cases h1 : z ≤ j
  · rw [if_pos (by omega)]
    have h2 : j - z < k := by omega
    have h3 : j - z < a.length := by omega
    have h4 : j - z < b.length := by omega
    simp [List.getD, List.getElem?_append_right, List.getElem?_zipWith, h1, h2, h3, h4]
  · rw [if_neg (by omega)]
    have h2 : j < z := by omega
    simp [List.getD, List.getElem?_append_left, h2]
set_option maxRecDepth 100000 in
set_option maxHeartbeats 400000 in
theorem linear_walk (aa : Option Addr) (a : List Nat) (ca : Nat) (ab : Option Addr) (b : List Nat) (cb : Nat) (z n : Nat) (ha : a.length ≤ 300) (hb : b.length ≤ 300) (hca : a.length ≤ ca) (hcb : b.length ≤ cb) (hz : z ≤ 100)
    (hn : Hid (n = min a.length b.length)) (hn1 : n ≤ a.length) (hn2 : n ≤ b.length) (w : World) (hA : HasB w aa a) (hB : HasB w ab b) :
    Calls Try.prog 5 #[.slice aa a.length ca, .slice ab b.length cb, .int .i64 z] w fun e w' => e = .returned (.bool true) ∧ Below w.heap.size w w' := by
  have ta : decide ((300 : Int) < (a.length : Int)) = false := by simp; omega
  have tb : decide ((300 : Int) < (b.length : Int)) = false := by simp; omega
  have tz : decide ((z : Int) < 0) = false := by simp
  have tz2 : decide ((100 : Int) < (z : Int)) = false := by simp; omega
  have hW := Below.refl w.heap.size w
  go_enter Try.func5, Try.ntmps5
  go_upto_region 6 with (first | (go_at_call 28; refine (anchor_calls _).mono ?_; rintro e w1 ⟨rfl, hb1⟩; have hW := below_next hW hb1) | (go_at_call 29; refine (new_calls _).mono ?_; rintro e w2 ⟨rfl, hb2⟩; have hW := below_next hW hb2) | ((with_reducible show wpList _ _ _ (⟨some 7, _, _, _, _, _⟩ :: _) _ _); refine wpList_local 7 rfl rfl rfl rfl 25 rfl _ rfl tbl rfl (by simp) ty25 tbl_all ?_; intro W7 N7 hN7 hM7 hr7 hb7; have hW := below_next hW hb7))
  go_upto_region 7 with (fail)
  have hmin : (if b.length < a.length then (b.length : Int) else (a.length : Int)) = (n : Int) := by rw [show n = min a.length b.length from hn.out]; split <;> omega
  rw [hmin]
  obtain ⟨m, hm⟩ : ∃ m, m = z + n := ⟨_, rfl⟩
  have hzm : (z : Int) + (n : Int) = (m : Int) := by omega
  have hm1 : m ≤ 400 := by omega
  have HM := hid hm
  have hm2 : z + n ≤ m := by omega
  clear hm hmin
  go_upto_region 8 with ((with_reducible show wpList _ _ _ (⟨some 38, _, _, _, _, _⟩ :: _) _ _); refine wpList_make_bytes 38 rfl rfl _ rfl m (by rfl) (by omega) ?_; intro W38 N hN hMN hrow hb38; have hN2 := Nat.le_trans hW.size hN; have hr7 := below_blk hb38 hr7; have hW := below_next hW hb38)
  clear hzm
  have hne : N7 ≠ N := by omega
  go_wp2
  go_loopw [10, 40] (fun _ i wr => ∃ (k : Nat) (l : List Nat), k ≤ n ∧ i = .int .i64 k ∧ Hid (l.length = m ∧ (∀ c ∈ l, c < 256) ∧ ∀ j, nth l j = if z ≤ j ∧ j < z + k then nth a (j - z) ^^^ nth b (j - z) else 0) ∧ Hid (RowB wr N l) ∧ wr.heap[N7]? = some (.cells tbl 25 (0, 0)) ∧ Below w.heap.size w wr) (fun _ i _ => n - (intOf i).toNat)
  case atStart =>
    refine ⟨0, List.replicate m 0, Nat.zero_le _, rfl, ⟨by simp, by simp, fun j => ?_⟩, hrow, hr7, hW⟩
    rw [if_neg (by omega)]
    unfold nth
    by_cases hj : j < m <;> simp [hj]
  case round =>
    obtain ⟨k, l, hk, rfl, hl, hrw, hr7', hbr⟩ := hrel
    by_cases hlt : k < n
    · obtain ⟨ba, oa, rfl, hca'⟩ := (hA.below hbr).cell (by omega)
      obtain ⟨bb, ob, rfl, hcb'⟩ := (hB.below hbr).cell (by omega)
      have c1 := hca' k (by omega)
      have c2 := hcb' k (by omega)
      clear hca' hcb'
      have c3 := hrw.out.cell (z + k) (by rw [hl.out.1]; omega)
      have c4 := hrw.out.free (z + k)
      have x1 : bits .xor .u8 (nth a k : Int) (nth b k : Int) = ((nth a k ^^^ nth b k : Nat) : Int) := xor8 _ _ (nth_lt a hA.1 k) (nth_lt b hB.1 k)
      have hxl := xor8_lt _ _ (nth_lt a hA.1 k) (nth_lt b hB.1 k)
      obtain ⟨X, hX⟩ : ∃ X, X = nth a k ^^^ nth b k := ⟨_, rfl⟩
      rw [← hX] at x1 hxl
      have HX := hid hX
      clear hX
      go_wp2
      go_region
      go_wp2
      go_roundw
      case rel =>
        refine ⟨k + 1, l.set (z + k) X, by omega, by go_num, ⟨by simpa using hl.out.1, set_lt hl.out.2.1 _ _ hxl, fun j => ?_⟩, (hrw.out.set (z + k) X).drew, ?_, (hbr.setCell hN2 _).drew⟩
        · rw [nth_set _ _ _ _ (by rw [hl.out.1]; omega)]
          by_cases hj : j = z + k
          · rw [if_pos hj, if_pos (by omega), hj, HX.out, show z + k - z = k by omega]
          · rw [if_neg hj, hl.out.2.2 j]
            by_cases h1 : z ≤ j ∧ j < z + k
            · rw [if_pos h1, if_pos (by omega)]
            · rw [if_neg h1, if_neg (by omega)]
        · rw [heap_drew, heap_setCell_other _ _ _ _ (by exact hne)]; exact hr7'
      case measure => simp [intOf]; omega
    · have hl2 : Hid (l = List.replicate z 0 ++ List.zipWith (· ^^^ ·) (a.take n) (b.take n)) := lin_list a b l z n k m (by omega) HM.out hn1 hn2 hl.out.1 hl.out.2.2
      have hO : Hid (M.over 0 l = M.over 0 (a.take n) ^^^ M.over 0 (b.take n)) := by
        show M.over 0 l = _
        rw [hl2.out, M.over_append, M.over_zeros, M.stpN_zero]
        have := M.over_xor (a.take n) (b.take n) 0 0 (by simp; omega)
        rw [Nat.xor_self] at this
        exact this
      have hX : Hid (RowB wr N l) := hrw
      have hll := hl.out.1
      have hlen : Hid (l.length = m) := hll
      clear hll
      go_upto_region 13 with (fail)
      have hAr := hA.below hbr
      have hBr := hB.below hbr
      have hta : (a.take n).length = n := by simp; omega
      have htb : (b.take n).length = n := by simp; omega
      have hxr : bits .xor .u32 (M.over 0 (a.take n) : Int) (M.over 0 (b.take n) : Int) = (M.over 0 l : Int) := by
        rw [hO.out]
        exact xor32 _ _ (M.over_lt _ _ (by decide) (fun c hc => hA.1 c (List.mem_of_mem_take hc))) (M.over_lt _ _ (by decide) (fun c hc => hB.1 c (List.mem_of_mem_take hc)))
      refine wp_region_frame (spec := [none, none, none, none, none, none, none, none, none, none, none, none, none, none, none, none, none, none, some (IsBytesN z (List.replicate z 0)), none, none, none, none]) (vals := [.agg tbl, .slice (some ⟨N, 0, none⟩) m m, .int .u32 (M.over 0 l), .agg tbl, .slice aa a.length ca, .int .i64 n, .slice aa n ca, .int .u32 (M.over 0 (a.take n)), .agg tbl, .slice ab b.length cb, .int .i64 n, .slice ab n cb, .int .u32 (M.over 0 (b.take n)), .int .u32 (M.over 0 l), .bool true, .bool true, .agg tbl, .int .i64 z, undef, .int .u32 0, .bool true, .bool true, .bool true]) (by kernel_rfl) (by kernel_rfl) (by kernel_rfl) (by kernel_rfl) ?hst (fun hF => ?hobl) ?hQ
      case hst => exact ⟨isBytesN_stable z (List.replicate z 0), trivial⟩
      case hobl =>
        refine ⟨?_, ?_, ?_, ?_, ?_, ?_, ?_, ?_, ?_, ?_, ?_, ?_, ?_, ?_, ?_, ?_, ?_, ?_, ?_, ?_, ?_, ?_, ?_, trivial⟩
        · refine fun ho => obl_det hF (by kernel_rfl) (by kernel_rfl) ho (by kernel_rfl) (fun wx hbx => ?_); rw [if_pos (by kernel_rfl)]; with_reducible exact grows_row 25 (.tmp 7) (by kernel_rfl) N7 (by kernel_rfl) 25 tbl (0, 0) _ (below_blk hbx hr7') Try.underlying25 (by kernel_rfl) (by kernel_rfl) (by kernel_rfl) (by kernel_rfl)
        · refine fun ho => obl_det hF (by kernel_rfl) (by kernel_rfl) ho (by kernel_rfl) (fun wx hbx => ?_); rw [if_pos (by kernel_rfl)]; with_reducible exact grows_det (.slice (some ⟨N, 0, none⟩) m m) (by kernel_rfl) (by kernel_rfl) (by kernel_rfl)
        · refine fun ho => obl_det hF (by kernel_rfl) (by kernel_rfl) ho (by kernel_rfl) (fun wx hbx => ?_); rw [if_pos (by kernel_rfl)]; have hcc := raw_calls (some ⟨N, 0, none⟩) l m wx ((hX.out.below hbx).has hl.out.2.1) (by rw [hlen.out]; omega); rw [hlen.out] at hcc; with_reducible exact grows_call 30 #[.agg tbl, .slice (some ⟨N, 0, none⟩) m m] (.int .u32 (M.over 0 l)) (by kernel_rfl) hcc (by kernel_rfl) (by kernel_rfl)
        · refine fun ho => obl_det hF (by kernel_rfl) (by kernel_rfl) ho (by kernel_rfl) (fun wx hbx => ?_); rw [if_pos (by kernel_rfl)]; with_reducible exact grows_row 25 (.tmp 7) (by kernel_rfl) N7 (by kernel_rfl) 25 tbl (0, 0) _ (below_blk hbx hr7') Try.underlying25 (by kernel_rfl) (by kernel_rfl) (by kernel_rfl) (by kernel_rfl)
        · refine fun ho => obl_det hF (by kernel_rfl) (by kernel_rfl) ho (by kernel_rfl) (fun wx hbx => ?_); rw [if_pos (by kernel_rfl)]; with_reducible exact grows_det (.slice aa a.length ca) (by kernel_rfl) (by kernel_rfl) (by kernel_rfl)
        · refine fun ho => obl_det hF (by kernel_rfl) (by kernel_rfl) ho (by kernel_rfl) (fun wx hbx => ?_); rw [if_pos (by kernel_rfl)]; with_reducible exact grows_det (.int .i64 n) (by kernel_rfl) (by kernel_rfl) (by kernel_rfl)
        · refine fun ho => obl_det hF (by kernel_rfl) (by kernel_rfl) ho (by kernel_rfl) (fun wx hbx => ?_); rw [if_pos (by kernel_rfl)]; with_reducible exact grows_det (.slice aa n ca) (op_slice_to (x := .tmp 62) (y := .tmp 63) aa a.length ca n (by kernel_rfl) (by kernel_rfl) (by kernel_rfl) (Nat.le_trans hn1 hca)) (by kernel_rfl) (by kernel_rfl)
        · refine fun ho => obl_det hF (by kernel_rfl) (by kernel_rfl) ho (by kernel_rfl) (fun wx hbx => ?_); rw [if_pos (by kernel_rfl)]; have hcc := raw_calls aa (a.take n) ca wx ((hAr.below hbx).take n) (by simp; omega); rw [hta] at hcc; with_reducible exact grows_call 30 #[.agg tbl, .slice aa n ca] (.int .u32 (M.over 0 (a.take n))) (by kernel_rfl) hcc (by kernel_rfl) (by kernel_rfl)
        · refine fun ho => obl_det hF (by kernel_rfl) (by kernel_rfl) ho (by kernel_rfl) (fun wx hbx => ?_); rw [if_pos (by kernel_rfl)]; with_reducible exact grows_row 25 (.tmp 7) (by kernel_rfl) N7 (by kernel_rfl) 25 tbl (0, 0) _ (below_blk hbx hr7') Try.underlying25 (by kernel_rfl) (by kernel_rfl) (by kernel_rfl) (by kernel_rfl)
        · refine fun ho => obl_det hF (by kernel_rfl) (by kernel_rfl) ho (by kernel_rfl) (fun wx hbx => ?_); rw [if_pos (by kernel_rfl)]; with_reducible exact grows_det (.slice ab b.length cb) (by kernel_rfl) (by kernel_rfl) (by kernel_rfl)
        · refine fun ho => obl_det hF (by kernel_rfl) (by kernel_rfl) ho (by kernel_rfl) (fun wx hbx => ?_); rw [if_pos (by kernel_rfl)]; with_reducible exact grows_det (.int .i64 n) (by kernel_rfl) (by kernel_rfl) (by kernel_rfl)
        · refine fun ho => obl_det hF (by kernel_rfl) (by kernel_rfl) ho (by kernel_rfl) (fun wx hbx => ?_); rw [if_pos (by kernel_rfl)]; with_reducible exact grows_det (.slice ab n cb) (op_slice_to (x := .tmp 67) (y := .tmp 68) ab b.length cb n (by kernel_rfl) (by kernel_rfl) (by kernel_rfl) (Nat.le_trans hn2 hcb)) (by kernel_rfl) (by kernel_rfl)
        · refine fun ho => obl_det hF (by kernel_rfl) (by kernel_rfl) ho (by kernel_rfl) (fun wx hbx => ?_); rw [if_pos (by kernel_rfl)]; have hcc := raw_calls ab (b.take n) cb wx ((hBr.below hbx).take n) (by simp; omega); rw [htb] at hcc; with_reducible exact grows_call 30 #[.agg tbl, .slice ab n cb] (.int .u32 (M.over 0 (b.take n))) (by kernel_rfl) hcc (by kernel_rfl) (by kernel_rfl)
        · refine fun ho => obl_det hF (by kernel_rfl) (by kernel_rfl) ho (by kernel_rfl) (fun wx hbx => ?_); rw [if_pos (by kernel_rfl)]; with_reducible exact grows_det (.int .u32 (M.over 0 l)) (op_xor32 (x := .tmp 65) (y := .tmp 70) (M.over 0 (a.take n)) (M.over 0 (b.take n)) (M.over 0 l) (by kernel_rfl) (by kernel_rfl) (by kernel_rfl) hxr) (by kernel_rfl) (by kernel_rfl)
        · refine fun ho => obl_det hF (by kernel_rfl) (by kernel_rfl) ho (by kernel_rfl) (fun wx hbx => ?_); rw [if_pos (by kernel_rfl)]; have hq : Value.bool ((M.over 0 l : Int) == (M.over 0 l : Int)) = Value.bool true := by simp
          with_reducible exact grows_det (.bool ((M.over 0 l : Int) == (M.over 0 l : Int))) (by kernel_rfl) (by kernel_rfl) (hq.trans (by kernel_rfl))
        · refine fun ho => obl_det hF (by kernel_rfl) (by kernel_rfl) ho (by kernel_rfl) (fun wx hbx => ?_); rw [if_pos (by kernel_rfl)]; with_reducible exact grows_det (.bool true) (by kernel_rfl) (by kernel_rfl) (by kernel_rfl)
        · refine fun ho => obl_det hF (by kernel_rfl) (by kernel_rfl) ho (by kernel_rfl) (fun wx hbx => ?_); rw [if_pos (by kernel_rfl)]; with_reducible exact grows_row 25 (.tmp 7) (by kernel_rfl) N7 (by kernel_rfl) 25 tbl (0, 0) _ (below_blk hbx hr7') Try.underlying25 (by kernel_rfl) (by kernel_rfl) (by kernel_rfl) (by kernel_rfl)
        · refine fun ho => obl_det hF (by kernel_rfl) (by kernel_rfl) ho (by kernel_rfl) (fun wx hbx => ?_); rw [if_pos (by kernel_rfl)]; with_reducible exact grows_det (.int .i64 z) (by kernel_rfl) (by kernel_rfl) (by kernel_rfl)
        · refine fun ho => obl_det hF (by kernel_rfl) (by kernel_rfl) ho (by kernel_rfl) (fun wx hbx => ?_); rw [if_pos (by kernel_rfl)]; with_reducible exact grows_new (.slice (some ⟨wx.heap.size, 0, none⟩) z z) (wx.alloc (.cells (u8s (List.replicate z 0)).toArray 5)) (op_make (x := .tmp 75) z (by kernel_rfl) (by kernel_rfl) (Nat.le_trans hz (by decide))) ((Below.refl _ _).alloc (Nat.le_refl _) _) (IsBytesN z (List.replicate z 0)) (by kernel_rfl) (isBytesN_zeros wx z)
        · refine fun ho => obl_one hF (by kernel_rfl) (by kernel_rfl) ho 18 (by kernel_rfl) 76 (IsBytesN z (List.replicate z 0)) (by kernel_rfl) (by kernel_rfl) (fun wx x hbx hx => ?_); rw [if_pos (by kernel_rfl)]; obtain ⟨xa, xc, rfl, hxb⟩ := hx; have hcc := raw_calls xa (List.replicate z 0) xc wx hxb (by simp; omega); rw [List.length_replicate, M.over_zeros, M.stpN_zero] at hcc; with_reducible exact grows_call 30 #[.agg tbl, .slice xa z xc] (.int .u32 (0 : Nat)) (by kernel_rfl) hcc (by kernel_rfl) (by kernel_rfl)
        · refine fun ho => obl_det hF (by kernel_rfl) (by kernel_rfl) ho (by kernel_rfl) (fun wx hbx => ?_); rw [if_pos (by kernel_rfl)]; with_reducible exact grows_det (.bool true) (by kernel_rfl) (by kernel_rfl) (by kernel_rfl)
        · refine fun ho => obl_det hF (by kernel_rfl) (by kernel_rfl) ho (by kernel_rfl) (fun wx hbx => ?_); rw [if_pos (by kernel_rfl)]; with_reducible exact grows_det (.bool true) (by kernel_rfl) (by kernel_rfl) (by kernel_rfl)
        · refine fun ho => obl_det hF (by kernel_rfl) (by kernel_rfl) ho (by kernel_rfl) (fun wx hbx => ?_); rw [if_pos (by kernel_rfl)]; with_reducible exact grows_det (.bool true) (by kernel_rfl) (by kernel_rfl) (by kernel_rfl)
      case hQ =>
        intro wy hby
        simp only [each]
        intro x1 _
        generalize hF : putAll _ _ _ = F
        have hd : F.defers = [] := by rw [← hF]; kernel_rfl
        have h8 : F.tmps.getD 6 undef = .bool true := by rw [← hF]; kernel_rfl
        clear hF
        go_step
        go_step
        go_step
        exact ret_of 6 rfl hd _ h8 ⟨rfl, below_next hbr hby⟩
end Go.Proofs.Ytncooadaeifekaa
