/- Walks of Seal and Open. -/
import Derived.Test.YtncooadaeifekaaC8
namespace Go.Proofs.Ytncooadaeifekaa
open Go.RowKit Go.BigFrame
def M.crc (l : List Nat) : Nat := M.over 4294967295 l ^^^ 4294967295
theorem M.crc_lt (l : List Nat) (h : ∀ c ∈ l, c < 256) : M.crc l < 4294967296 := Nat.xor_lt_two_pow (n := 32) (M.over_lt _ _ (by decide) h) (by decide)
theorem leB4 (S : Nat) : M.leB 4 S = [S % 256, S / 256 % 256, S / 65536 % 256, S / 16777216 % 256] := by
  simp only [M.leB, Nat.div_div_eq_div_mul]
set_option maxRecDepth 100000 in
set_option maxHeartbeats 400000 in
theorem seal_calls (a : Option Addr) (l : List Nat) (c : Nat) (w : World) (hl : HasB w a l) (hn : l.length ≤ 900000) :
    Calls Try.prog 46 #[.agg tbl, .slice a l.length c] w fun e w' => (∃ a' cap, e = .returned (.slice a' (l ++ M.leB 4 (M.crc l)).length cap) ∧ OwnB w' w.heap.size (.slice a' (l ++ M.leB 4 (M.crc l)).length cap) (l ++ M.leB 4 (M.crc l)) ∧ (l ++ M.leB 4 (M.crc l)).length ≤ cap ∧ HasB w' a' (l ++ M.leB 4 (M.crc l))) ∧ Below w.heap.size w w' := by
  obtain ⟨S, hS⟩ : ∃ S, S = M.crc l := ⟨_, rfl⟩
  obtain ⟨L, hL⟩ : ∃ L, L = l ++ M.leB 4 (M.crc l) := ⟨_, rfl⟩
  rw [← hL]
  have hLl : L.length ≤ 900004 := by rw [hL, List.length_append, M.leB_length]; omega
  obtain ⟨c1, h1⟩ : ∃ c1 : Nat, (S : Int) % 256 = c1 := ⟨S % 256, by omega⟩
  obtain ⟨c2, h2⟩ : ∃ c1 : Nat, (S : Int) / 256 % 256 = c1 := ⟨S / 256 % 256, by omega⟩
  obtain ⟨c3, h3⟩ : ∃ c1 : Nat, (S : Int) / 65536 % 256 = c1 := ⟨S / 65536 % 256, by omega⟩
  obtain ⟨c4, h4⟩ : ∃ c1 : Nat, (S : Int) / 16777216 % 256 = c1 := ⟨S / 16777216 % 256, by omega⟩
  have hq : L = l ++ [c1, c2, c3, c4] := by rw [hL, ← hS, leB4]; congr 2; (show S % 256 = c1; omega); congr 1; (show S / 256 % 256 = c2; omega); congr 1; (show S / 65536 % 256 = c3; omega); congr 1; (show S / 16777216 % 256 = c4; omega)
  have hc4 : ∀ c ∈ [c1, c2, c3, c4], c < 256 := by simp; omega
  have HQ := hid hq
  have HC := hid hc4
  have HS := hid hS
  clear hL hq hS hc4
  have hW := Below.refl w.heap.size w
  go_enter Try.func46, Try.ntmps46
  go_wp2_with (first | ((with_reducible show wpList _ _ _ (⟨some 2, _, _, _, _, _⟩ :: _) _ _); refine wpList_boxed 2 rfl rfl 25 _ rfl tbl rfl ?_; intro W2 N2 hN2 hM2 hr2 hb2; have hW := below_next hW hb2) | ((with_reducible show wpList _ _ _ (⟨some 6, _, _, _, _, _⟩ :: _) _ _); refine wpList_load_row rfl _ _ rfl N2 rfl 25 tbl (0, 0) _ hr2 Try.underlying25 rfl (by kernel_rfl) ?_) | (go_at_call 33; refine (sum_calls a l c _ (hl.below hW) (by omega)).mono ?_; rintro e w3 ⟨rfl, hb3⟩; have hW := below_next hW hb3; rw [← M.crc, ← HS.out]) | ((with_reducible show wpList _ _ _ (⟨some 9, _, _, _, _, _⟩ :: _) _ _); refine wpList_empty 9 rfl rfl rfl ?_; intro W9 v9 ho9 hb9; have hW9 := below_next hW hb9; have ho9' := ho9.weak hW.size) | ((with_reducible show wpList _ _ _ (⟨some 11, _, _, _, _, _⟩ :: _) _ _); refine wpList_append_at 11 rfl rfl _ _ rfl w.heap.size _ [] l l rfl (by rfl) ho9' a c (by rfl) (hl.below hW9) (by omega) hW9.size ?_; intro av cv w5 ho5 hcv5 hh5 hb5; have hW5 := hW9.trans hb5) | ((with_reducible show wpList _ _ _ (⟨some 24, _, _, _, _, _⟩ :: _) _ _); refine wpList_append_at 24 rfl rfl _ _ rfl w.heap.size _ l [c1, c2, c3, c4] L HQ.out.symm (by rfl) (ho5.mono ((Below.refl _ _).alloc (Nat.le_refl _) _)) _ 4 (by rfl) (hasB_new _ [c1, c2, c3, c4] HC.out (0, 0)) (by omega) (by have := hW5.size; simp; omega) ?_; intro av6 cv6 w6 ho6 hcv6 hh6 hb6))
  go_ret
  exact ⟨⟨av6, cv6, rfl, ho6, hcv6, hh6⟩, (hW5.alloc hW5.size _).trans hb6⟩
set_option maxRecDepth 100000 in
theorem open_short (a : Option Addr) (l : List Nat) (c : Nat) (w : World) (hn : l.length < 4) :
    Calls Try.prog 47 #[.agg tbl, .slice a l.length c] w fun e w' => e = .returned (.tuple #[.slice none 0 0, .int .i64 14]) ∧ Below w.heap.size w w' := by
  have t1 : decide ((l.length : Int) - 4 < 0) = true := by simp; omega
  go_enter Try.func47, Try.ntmps47
  go_wp2_with (first | ((with_reducible show wpList _ _ _ (⟨some 2, _, _, _, _, _⟩ :: _) _ _); refine wpList_boxed 2 rfl rfl 25 _ rfl tbl rfl ?_; intro W2 N2 hN2 hM2 hr2 hb2))
  go_ret2
  exact ⟨rfl, hb2⟩
theorem nth_leB (k S j : Nat) (h : j < k) : nth (M.leB k S) j = S / 256 ^ j % 256 := by
  induction k generalizing S j with
  | zero => omega
  | succ k ih =>
    cases j with
    | zero => simp [M.leB, nth]
    | succ j =>
      have := ih (S / 256) j (by omega)
      rw [Nat.div_div_eq_div_mul, ← Nat.pow_succ'] at this
      rw [← this]
      simp [M.leB, nth]
theorem nth_drop (l : List Nat) (n j : Nat) : nth (l.drop n) j = nth l (n + j) := by simp [nth]
set_option maxRecDepth 100000 in
set_option maxHeartbeats 400000 in
theorem open_calls (a : Option Addr) (l : List Nat) (cap n : Nat) (w : World) (hl : HasB w a l) (hn : l.length = n + 4) (hn2 : l.length ≤ 900000) (hcap : l.length ≤ cap) :
    Calls Try.prog 47 #[.agg tbl, .slice a l.length cap] w fun e w' => ((l.drop n = M.leB 4 (M.crc (l.take n)) ∧ ∃ a' cap', e = .returned (.tuple #[.slice a' n cap', .int .i64 0]) ∧ HasB w' a' (l.take n) ∧ n ≤ cap' ∧ OwnB w' w.heap.size (.slice a' n cap') (l.take n)) ∨ (l.drop n ≠ M.leB 4 (M.crc (l.take n)) ∧ e = .returned (.tuple #[.slice none 0 0, .int .i64 11]))) ∧ Below w.heap.size w w' := by
  have hlen : (l.length : Int) - 4 = (n : Int) := by omega
  have t1 : decide ((n : Int) < 0) = false := by simp
  have hncap : n ≤ cap := by omega
  have hne : ¬ (cap = n) := by omega
  have hsub : l.length - n = 4 := by omega
  have htk : (l.take n).length = n := by simp; omega
  obtain ⟨b, off, rfl, hc⟩ := hl.cell (by omega)
  have HN := hid hn
  have HC := hid hc
  have hl2' := hid hl
  have HTK := hid htk
  obtain ⟨S, hS⟩ : ∃ S, S = M.crc (l.take n) := ⟨_, rfl⟩
  have hSl : S < 4294967296 := by rw [hS]; exact M.crc_lt _ fun c hc => hl.1 c (List.mem_of_mem_take hc)
  have HS := hid hS
  clear hc hn htk hS
  have hW := Below.refl w.heap.size w
  go_enter Try.func47, Try.ntmps47
  go_upto_region 4 with (first | ((with_reducible show wpList _ _ _ (⟨some 2, _, _, _, _, _⟩ :: _) _ _); refine wpList_boxed 2 rfl rfl 25 _ rfl tbl rfl ?_; intro W2 N2 hN2 hM2 hr2 hb2; have hW := below_next hW hb2))
  have hl2 := hl.below hW
  have htk := HTK.out
  refine wp_region_frame (spec := [none, none, none, none, none, none]) (vals := [.agg tbl, .slice (some ⟨b, off, none⟩) l.length cap, .int .i64 n, .slice (some ⟨b, off, none⟩) n cap, .int .u32 S, .int .u32 S]) (by kernel_rfl) (by kernel_rfl) (by kernel_rfl) (by kernel_rfl) ?hst (fun hF => ?hobl) ?hQ
  case hst => exact trivial
  case hobl =>
    refine ⟨?_, ?_, ?_, ?_, ?_, ?_, trivial⟩
    · refine fun ho => obl_det hF (by kernel_rfl) (by kernel_rfl) ho (by kernel_rfl) (fun wx hbx => ?_); rw [if_pos (by kernel_rfl)]; with_reducible exact grows_row 25 (.tmp 2) (by kernel_rfl) N2 (by kernel_rfl) 25 tbl (0, 0) _ (below_blk hbx hr2) Try.underlying25 (by kernel_rfl) (by kernel_rfl) (by kernel_rfl) (by kernel_rfl)
    · refine fun ho => obl_det hF (by kernel_rfl) (by kernel_rfl) ho (by kernel_rfl) (fun wx hbx => ?_); rw [if_pos (by kernel_rfl)]; with_reducible exact grows_det (.slice (some ⟨b, off, none⟩) l.length cap) (by kernel_rfl) (by kernel_rfl) (by kernel_rfl)
    · refine fun ho => obl_det hF (by kernel_rfl) (by kernel_rfl) ho (by kernel_rfl) (fun wx hbx => ?_); rw [if_pos (by kernel_rfl)]; with_reducible exact grows_det (.int .i64 n) (by kernel_rfl) (by kernel_rfl) (by kernel_rfl)
    · refine fun ho => obl_det hF (by kernel_rfl) (by kernel_rfl) ho (by kernel_rfl) (fun wx hbx => ?_); rw [if_pos (by kernel_rfl)]; with_reducible exact grows_det (.slice (some ⟨b, off, none⟩) n cap) (op_slice_to (x := .tmp 16) (y := .tmp 17) (some ⟨b, off, none⟩) l.length cap n (by kernel_rfl) (by kernel_rfl) (by kernel_rfl) hncap) (by kernel_rfl) (by kernel_rfl)
    · refine fun ho => obl_det hF (by kernel_rfl) (by kernel_rfl) ho (by kernel_rfl) (fun wx hbx => ?_); rw [if_pos (by kernel_rfl)]; have hcc := sum_calls (some ⟨b, off, none⟩) (l.take n) cap wx ((hl2.below hbx).take n) (by rw [htk]; omega); rw [htk, ← M.crc, ← HS.out] at hcc; with_reducible exact grows_call 33 #[.agg tbl, .slice (some ⟨b, off, none⟩) n cap] (.int .u32 S) (by kernel_rfl) hcc (by kernel_rfl) (by kernel_rfl)
    · refine fun ho => obl_det hF (by kernel_rfl) (by kernel_rfl) ho (by kernel_rfl) (fun wx hbx => ?_); rw [if_pos (by kernel_rfl)]; with_reducible exact grows_det (.int .u32 S) (by kernel_rfl) (by kernel_rfl) (by kernel_rfl)
  case hQ =>
    intro wy hby
    simp only [each, putAll]
    have hW := below_next hW hby
    clear hl2 htk hr2 hby hb2 hM2 hN2
    go_wp2_with (fail)
    clear hsub hne hlen t1
    go_loop [7, 9, 24] (fun s _ i => ∃ m V : Nat, m ≤ 4 ∧ i = .int .i64 m ∧ s = .int .u32 V ∧ Hid (V = S / 256 ^ m) ∧ Hid (∀ j, j < m → nth l (n + j) = S / 256 ^ j % 256)) (fun _ _ i => 4 - (intOf i).toNat)
    case atStart => exact ⟨0, S, Nat.zero_le _, rfl, rfl, (by show _ = _; simp), fun j hj => absurd hj (by omega)⟩
    case round =>
      obtain ⟨m, V, hm, rfl, rfl, HV, HE⟩ := hrel
      have hVl : V < 4294967296 := by rw [HV.out]; exact Nat.lt_of_le_of_lt (Nat.div_le_self _ _) hSl
      by_cases hlt : m < 4
      · have hV2 : Hid (V / 256 = S / 256 ^ (m + 1)) := by show _ = _; rw [← M.div_step, HV.out]
        have hcell : wy.cell? ⟨b, off + n + m, none⟩ = some (.int .u8 (nth l (n + m))) := by
          rw [Nat.add_assoc, hW.cell (p := ⟨b, off + (n + m), none⟩) (block_lt_of_cell (w := w) (a := ⟨b, off + (n + m), none⟩) (HC.out (n + m) (by have := HN.out; omega)))]
          exact HC.out (n + m) (by have := HN.out; omega)
        have hcb := nth_lt l hl.1 (n + m)
        by_cases he : nth l (n + m) = V % 256
        · have t2 : ((nth l (n + m) : Int) == (V : Int) % 256) = true := by rw [beq_iff_eq]; omega
          have HE2 : Hid (∀ j, j < m + 1 → nth l (n + j) = S / 256 ^ j % 256) := fun j hj => by
            by_cases e : j = m
            · subst e; rw [he, HV.out]
            · exact HE.out j (by omega)
          clear he
          go_wp2
          go_round
          case rel => exact ⟨m + 1, V / 256, by omega, by go_num, by go_num, hV2, HE2⟩
          case measure => simp [intOf]; omega
        · have t2 : ((nth l (n + m) : Int) == (V : Int) % 256) = false := by rw [beq_eq_false_iff_ne]; omega
          have hno : Hid (l.drop n ≠ M.leB 4 (M.crc (l.take n))) := fun e => he (by rw [← nth_drop, e, nth_leB _ _ _ hlt, HV.out, HS.out])
          clear he
          go_wp2
          go_ret2
          exact ⟨.inr ⟨hno.out, rfl⟩, hW⟩
      · obtain rfl : m = 4 := by omega
        have hyes : Hid (l.drop n = M.leB 4 (M.crc (l.take n))) := by
          refine nth_eq _ _ (by have := HN.out; rw [M.leB_length]; simp; omega) fun j hj => ?_
          have hj4 : j < 4 := by have := HN.out; simp at hj; omega
          rw [nth_drop, HE.out j hj4, nth_leB _ _ _ hj4, HS.out]
        have htk := HTK.out
        obtain ⟨T, hT⟩ : ∃ T, T = l.take n := ⟨_, rfl⟩
        have hTh : HasB wy (some ⟨b, off, none⟩) T := by rw [hT]; exact (hl.below hW).take n
        have hTl : T.length = n := by rw [hT]; exact htk
        have HT := hid hT
        subst hTl
        clear htk hT
        go_wp2_with (first | ((with_reducible show wpList _ _ _ (⟨some 35, _, _, _, _, _⟩ :: _) _ _); refine wpList_empty 35 rfl rfl rfl ?_; intro W9 v9 ho9 hb9; have hW9 := below_next hW hb9; have ho9' := ho9.weak hW.size) | ((with_reducible show wpList _ _ _ (⟨some 39, _, _, _, _, _⟩ :: _) _ _); refine wpList_append_at 39 rfl rfl _ _ rfl w.heap.size _ [] T T rfl (by rfl) ho9' (some ⟨b, off, none⟩) cap (by rfl) (hTh.below hb9) (by have := HN.out; omega) hW9.size ?_; intro av cv w5 ho5 hcv5 hh5 hb5; have hW5 := hW9.trans hb5))
        go_ret2
        refine ⟨.inl ⟨hyes.out, av, cv, rfl, ?_, hcv5, ?_⟩, hW5⟩
        · rw [← HT.out]; exact hh5
        · rw [← HT.out]; exact ho5
end Go.Proofs.Ytncooadaeifekaa
