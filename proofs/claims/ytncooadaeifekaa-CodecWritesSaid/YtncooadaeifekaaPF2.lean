/- Lemmas, contracts and walks, merged (texts C8 C9 M3 C10 C11 K7 K8 K9 G5 G6 F F2 T9 T8 C12 K11 K12). No condition but what each states. -/
import Derived.Laws.ResultCell
import Derived.Stop.BytesEq
import Derived.Test.YtncooadaeifekaaI
import Derived.ProofKit
import Derived.OpenShut
import Derived.ShutString
import Derived.ChangeOld
import Derived.Test.YtncooadaeifekaaPF1
/- Walks of the reader's Num, of the reference's Read and Num. -/
namespace Go.Proofs.Ytncooadaeifekaa
open Go.RowKit
theorem or64 (a b : Nat) (ha : a < 2 ^ 62) (hb : b < 2 ^ 62) : bits .or .i64 (a : Int) (b : Int) = ((a ||| b : Nat) : Int) := by
  have hx : a ||| b < 2 ^ 62 := Nat.or_lt_two_pow ha hb
  have h1 : (BitVec.ofInt 64 (a : Int)).toNat = a := by rw [BitVec.ofInt_natCast, BitVec.toNat_ofNat]; exact Nat.mod_eq_of_lt (Nat.lt_trans ha (by decide))
  have h2 : (BitVec.ofInt 64 (b : Int)).toNat = b := by rw [BitVec.ofInt_natCast, BitVec.toNat_ofNat]; exact Nat.mod_eq_of_lt (Nat.lt_trans hb (by decide))
  show IntKind.i64.wrap ((BitVec.ofInt 64 (a : Int) ||| BitVec.ofInt 64 (b : Int)).toNat : Int) = _
  rw [BitVec.toNat_or, h1, h2, IntKind.wrap_i64]; omega
theorem or_step (V c m : Nat) (hV : V < 256 ^ m) (hm : m ≤ 6) (hc : c < 256) : bits .or .i64 (V : Int) (wrap64 ((c : Int) * 2 ^ (8 * m))) = ((V + 256 ^ m * c : Nat) : Int) := by
  have e : (2 : Nat) ^ (8 * m) = 256 ^ m := by rw [Nat.pow_mul]
  have hp : 256 ^ m ≤ 281474976710656 := Nat.le_trans (Nat.pow_le_pow_right (by decide) hm) (by decide)
  have hcl : c * 256 ^ m < 2 ^ 62 := by
    have : c * 256 ^ m ≤ 255 * 281474976710656 := Nat.mul_le_mul (by omega) hp
    omega
  have e1 : ((c : Int) * 2 ^ (8 * m)) = ((c * 256 ^ m : Nat) : Int) := by rw [← e]; simp
  have e2 : wrap64 ((c * 256 ^ m : Nat) : Int) = ((c * 256 ^ m : Nat) : Int) := by
    generalize c * 256 ^ m = x at *
    unfold wrap64
    omega
  rw [e1, e2, or64 V _ (by omega) hcl]
  congr 1
  rw [Nat.or_comm, ← e, Nat.mul_comm c, ← Nat.two_pow_add_eq_or_of_lt (by rw [e]; exact hV), Nat.add_comm]
set_option maxRecDepth 100000 in
set_option maxHeartbeats 400000 in
theorem rdNum_good (R : Nat) (k : Nat) (w : World) (a : Option Addr) (l : List Nat) (cap : Nat) (hr : RdB w R a l cap false) (hk1 : 1 ≤ k) (hk7 : k ≤ 7) (hk : k ≤ l.length) (hl : l.length ≤ 1000000) :
    Calls Try.prog 56 #[.pointer (some ⟨R, 0, none⟩), .int .i64 k] w fun e w' => e = .returned (.int .i64 (M.leV (l.take k))) ∧ RdB w' R (cutAt a cap k) (l.drop k) (cap - k) false ∧ Turned (fun j => j = R) w w' := by
  have HR := hid hr
  have HL := hid hl
  clear hr hl
  go_enter Try.func56, Try.ntmps56
  go_wp2_with (first | (go_at_call 80; refine (within_yes _ (by omega) (by omega) _).mono ?_; rintro e w0 ⟨rfl, hb0⟩) | (go_at_call 78; refine (take_good R k _ a l cap (HR.out.grow hb0) hk HL.out).mono ?_; rintro e w1 ⟨rfl, hr1, ht1⟩; have hh1 := (ht1.has (HR.out.grow hb0).has (fun p hp => HR.out.2.2.2 p hp)).take k; have HT1 := hid ht1; have HR1 := hid hr1; clear ht1 hr1))
  obtain ⟨L, hL⟩ : ∃ L, L = l.take k := ⟨_, rfl⟩
  have hLl : L.length = k := by rw [hL]; simp; omega
  rw [← hL] at hh1
  have HLk := hid hL
  clear hL
  go_loop [5, 6, 7, 17] (fun v _ _ i => ∃ m V : Nat, m ≤ k ∧ i = .int .i64 m ∧ v = .int .i64 V ∧ Hid (V = M.leV (L.take m))) (fun _ _ _ i => k - (intOf i).toNat)
  case atStart => exact ⟨0, 0, Nat.zero_le _, rfl, rfl, rfl⟩
  case round =>
    obtain ⟨m, V, hm, rfl, rfl, HV⟩ := hrel
    by_cases hlt : m < k
    · have hVl : V < 256 ^ m := by rw [HV.out]; exact Nat.lt_of_lt_of_le (M.leV_lt _ fun c hc => hh1.1 c (List.mem_of_mem_take hc)) (Nat.pow_le_pow_right (by decide) (by simp; omega))
      have hor := or_step V (nth L m) m hVl (by omega) (nth_lt L hh1.1 m)
      have hV2 : Hid (V + 256 ^ m * nth L m = M.leV (L.take (m + 1))) := by show _ = _; rw [take_nth L m (by omega), M.leV_append, HV.out, List.length_take, show min m L.length = m by omega]; simp [M.leV]
      obtain ⟨V2, hVe⟩ : ∃ V2, V2 = V + 256 ^ m * nth L m := ⟨_, rfl⟩
      rw [← hVe] at hor hV2
      clear hVl hVe
      obtain ⟨b, off, rfl, hc⟩ := hh1.cell (by omega)
      have hcell := hc m (by omega)
      clear hc
      have hcb := nth_lt L hh1.1 m
      clear hLl
      go_wp2
      go_round
      case rel => exact ⟨m + 1, V2, by omega, by go_num, rfl, hV2⟩
      case measure => simp [intOf]; omega
    · have e : Hid (V = M.leV (l.take k)) := by show _ = _; rw [HV.out, ← HLk.out, List.take_of_length_le (by omega)]
      go_wp2
      go_ret
      exact ⟨by rw [← e.out]; rfl, HR1.out, (Turned.ofBelow hb0).trans HT1.out fun i hi => .inl hi⟩
set_option maxRecDepth 100000 in
set_option maxHeartbeats 400000 in
theorem rdNum_bad (R : Nat) (k : Int) (w : World) (a : Option Addr) (l : List Nat) (cap : Nat) (bad : Bool) (hr : RdB w R a l cap bad) (hk : bad = true ∨ ¬ (1 ≤ k ∧ k ≤ 7) ∨ (l.length : Int) < k) :
    Calls Try.prog 56 #[.pointer (some ⟨R, 0, none⟩), .int .i64 k] w fun e w' => e = .returned (.int .i64 0) ∧ RdB w' R none [] 0 true ∧ Turned (fun j => j = R) w w' := by
  have HR := hid hr
  by_cases hw : 1 ≤ k ∧ k ≤ 7
  · have HK : Hid (bad = true ∨ k < 0 ∨ (l.length : Int) < k) := by
      rcases hk with h | h | h
      · exact .inl h
      · exact absurd hw h
      · exact .inr (.inr h)
    have HW := hid hw
    clear hk hr hw
    go_enter Try.func56, Try.ntmps56
    go_wp2_with (first | (go_at_call 80; refine (within_yes _ HW.out.1 HW.out.2 _).mono ?_; rintro e w0 ⟨rfl, hb0⟩) | (go_at_call 78; refine (take_bad R k _ a l cap bad (HR.out.grow hb0) HK.out).mono ?_; rintro e w1 ⟨rfl, hr1, ht1⟩; have HT1 := hid ht1; have HR1 := hid hr1; clear ht1 hr1))
    go_loop [5, 6, 7, 17] (fun v _ _ i => i = .int .i64 0 ∧ v = .int .i64 0) (fun _ _ _ i => 0)
    case atStart => exact ⟨rfl, rfl⟩
    case round =>
      obtain ⟨rfl, rfl⟩ := hrel
      go_wp2
      go_ret
      exact ⟨rfl, HR1.out, (Turned.ofBelow hb0).trans HT1.out fun i hi => .inl hi⟩
  · have HW := hid hw
    clear hk hr hw
    go_enter Try.func56, Try.ntmps56
    go_wp2_with (first | (go_at_call 80; refine (within_no _ HW.out _).mono ?_; rintro e w0 ⟨rfl, hb0⟩) | (go_at_call 78; refine (take_bad R (-1) _ a l cap bad (HR.out.grow hb0) (.inr (.inl (by decide)))).mono ?_; rintro e w1 ⟨rfl, hr1, ht1⟩; have HT1 := hid ht1; have HR1 := hid hr1; clear ht1 hr1))
    go_ret
    exact ⟨rfl, HR1.out, (Turned.ofBelow hb0).trans HT1.out fun i hi => .inl hi⟩
theorem read_wrap (V c : Nat) (hV : V < 281474976710656) (hc : c < 256) : wrap64 (wrap64 (256 * (V : Int)) + (c : Int)) = ((256 * V + c : Nat) : Int) := by
  unfold wrap64; omega
set_option maxRecDepth 100000 in
set_option maxHeartbeats 400000 in
theorem read_calls (a : Option Addr) (l : List Nat) (c : Nat) (w : World) (hl : HasB w a l) (hn : l.length ≤ 7) :
    Calls Try.prog 57 #[.slice a l.length c] w fun e w' => e = .returned (.int .i64 (M.leV l)) ∧ Below w.heap.size w w' := by
  go_enter Try.func57, Try.ntmps57
  go_wp2
  go_loop [3, 4] (fun v i => ∃ m V : Nat, m ≤ l.length ∧ i = .int .i64 ((m : Int) - 1) ∧ v = .int .i64 V ∧ Hid (V = M.leV (l.drop m))) (fun _ i => (intOf i + 1).toNat)
  case atStart => exact ⟨l.length, 0, Nat.le_refl _, rfl, rfl, by show _ = _; simp [M.leV]⟩
  case round =>
    obtain ⟨m, V, hm, rfl, rfl, HV⟩ := hrel
    by_cases h0 : 0 < m
    · obtain ⟨p, rfl⟩ : ∃ p, m = p + 1 := ⟨m - 1, by omega⟩
      have hVl : V < 281474976710656 := by
        rw [HV.out]
        refine Nat.lt_of_lt_of_le (M.leV_lt _ fun c hc => hl.1 c (List.mem_of_mem_drop hc)) (Nat.le_trans (Nat.pow_le_pow_right (by decide) (?_ : _ ≤ 6)) (by decide))
        simp; omega
      have hV2 : Hid (256 * V + nth l p = M.leV (l.drop p)) := by
        show _ = _
        rw [List.drop_eq_getElem_cons (by omega), M.leV, HV.out, nth, List.getD, List.getElem?_eq_getElem (by omega)]
        simp; omega
      have HVl := hid hVl
      clear hVl h0
      obtain ⟨b, off, rfl, hc⟩ := hl.cell (by omega)
      have hcell := hc p (by omega)
      have hcb := nth_lt l hl.1 p
      clear hc
      have e1 : ((p + 1 : Nat) : Int) - 1 = (p : Int) := by omega
      rw [e1]
      go_wp2
      go_round
      case rel => exact ⟨p, 256 * V + nth l p, by omega, rfl, by rw [read_wrap V _ HVl.out hcb], hV2⟩
      case measure => simp [intOf]
    · obtain rfl : m = 0 := by omega
      go_wp2
      go_ret
      have e : Hid (V = M.leV l) := by show _ = _; rw [HV.out]; rfl
      exact ⟨by rw [← e.out]; rfl, Below.refl _ _⟩
theorem quo_wrap (Y : Nat) (h : Y < 72057594037927936) : wrap64 ((Y : Int) / 256) = ((Y / 256 : Nat) : Int) := by unfold wrap64; omega
set_option maxRecDepth 100000 in
set_option maxHeartbeats 400000 in
theorem rnum_calls (k X : Nat) (hk : k ≤ 7) (hX : X < 72057594037927936) (w : World) :
    Calls Try.prog 59 #[.int .i64 k, .int .i64 X] w fun e w' => (∃ a cap, e = .returned (.slice a k cap) ∧ k ≤ cap ∧ OwnB w' w.heap.size (.slice a k cap) (M.leB k X) ∧ HasB w' a (M.leB k X)) ∧ Below w.heap.size w w' := by
  have HX := hid hX
  clear hX
  go_enter Try.func59, Try.ntmps59
  go_wp2
  go_loopw [1, 5, 6] (fun x out i wr => ∃ m Y : Nat, m ≤ k ∧ i = .int .i64 m ∧ x = .int .i64 Y ∧ Hid (Y = X / 256 ^ m) ∧ OwnB wr w.heap.size out (M.leB m X) ∧ Below w.heap.size w wr) (fun _ _ i _ => k - (intOf i).toNat)
  case atStart => exact ⟨0, X, Nat.zero_le _, rfl, rfl, (by show _ = _; simp), ownB_nil _ _, Below.refl _ _⟩
  case round =>
    obtain ⟨m, Y, hm, rfl, rfl, HY, ho, hb⟩ := hrel
    have hYl : Hid (Y < 72057594037927936) := by show _ < _; rw [HY.out]; exact Nat.lt_of_le_of_lt (Nat.div_le_self _ _) (by have := HX.out; omega)
    by_cases hlt : m < k
    · have hY2 : Hid (Y / 256 = X / 256 ^ (m + 1)) := by show _ = _; rw [← M.div_step, HY.out]
      obtain ⟨cc, hcc⟩ : ∃ cc : Nat, (Y : Int) % 256 = cc := ⟨Y % 256, by omega⟩
      have hccl : cc < 256 := by omega
      have hL3 : M.leB m X ++ [cc] = M.leB (m + 1) X := by rw [M.leB_succ', ← HY.out, show Y % 256 = cc by omega]
      have HL3 := hid hL3
      clear hL3
      have hHO := hid ho
      have hHB := hid hb
      clear ho hb
      go_wp2_with (first | ((with_reducible show wpList _ _ _ (⟨some 17, _, _, _, _, _⟩ :: _) _ _); refine wpList_append_at 17 rfl rfl _ _ rfl w.heap.size _ (M.leB m X) [cc] (M.leB (m + 1) X) HL3.out (by rfl) (hHO.out.mono ((Below.refl _ _).alloc (Nat.le_refl _) _)) _ 1 (by rfl) (hasB_one _ cc hccl) (by rw [M.leB_length]; omega) (by have := hHB.out.size; simp; omega) ?_; intro av cv w5 ho5 hcv5 hh5 hb5))
      go_roundw
      case rel => exact ⟨m + 1, Y / 256, by omega, by go_num, by rw [quo_wrap Y hYl.out], hY2, ho5, (hHB.out.alloc hHB.out.size _).trans hb5⟩
      case measure => simp [intOf]; omega
    · obtain rfl : m = k := by omega
      obtain ⟨a, cap, rfl, hc, hh⟩ := ho.slice
      rw [M.leB_length] at hc ho ⊢
      have HO := hid ho
      clear ho
      go_wp2
      go_ret
      exact ⟨⟨a, cap, rfl, hc, HO.out, hh⟩, hb⟩

end Go.Proofs.Ytncooadaeifekaa

/- Walks of Seal and Open. -/
namespace Go.Proofs.Ytncooadaeifekaa
open Go.RowKit Go.BigFrame
def M.crc (l : List Nat) : Nat := M.over 4294967295 l ^^^ 4294967295
theorem M.crc_lt (l : List Nat) (h : ∀ c ∈ l, c < 256) : M.crc l < 4294967296 := Nat.xor_lt_two_pow (n := 32) (M.over_lt _ _ (by decide) h) (by decide)
theorem leB4 (S : Nat) : M.leB 4 S = [S % 256, S / 256 % 256, S / 65536 % 256, S / 16777216 % 256] := by
  simp only [M.leB, Nat.div_div_eq_div_mul]
set_option maxRecDepth 100000 in
set_option maxHeartbeats 400000 in
theorem seal_calls (a : Option Addr) (l : List Nat) (c : Nat) (w : World) (hl : HasB w a l) (hn : l.length ≤ 900000) :
    Calls Try.prog 46 #[.agg tbl, .slice a l.length c] w fun e w' => (∃ a' cap, e = .returned (.slice a' (l ++ M.leB 4 (M.crc l)).length cap) ∧ OwnB w' w.heap.size (.slice a' (l ++ M.leB 4 (M.crc l)).length cap) (l ++ M.leB 4 (M.crc l)) ∧ (l ++ M.leB 4 (M.crc l)).length ≤ cap ∧ HasB w' a' (l ++ M.leB 4 (M.crc l))) ∧ Below w.heap.size w w' := by
  obtain ⟨S, hS⟩ : ∃ S, S = M.crc l := ⟨_, rfl⟩
  obtain ⟨L, hL⟩ : ∃ L, L = l ++ M.leB 4 (M.crc l) := ⟨_, rfl⟩
  rw [← hL]
  have hLl : L.length ≤ 900004 := by rw [hL, List.length_append, M.leB_length]; omega
  obtain ⟨c1, h1⟩ : ∃ c1 : Nat, (S : Int) % 256 = c1 := ⟨S % 256, by omega⟩
  obtain ⟨c2, h2⟩ : ∃ c1 : Nat, (S : Int) / 256 % 256 = c1 := ⟨S / 256 % 256, by omega⟩
  obtain ⟨c3, h3⟩ : ∃ c1 : Nat, (S : Int) / 65536 % 256 = c1 := ⟨S / 65536 % 256, by omega⟩
  obtain ⟨c4, h4⟩ : ∃ c1 : Nat, (S : Int) / 16777216 % 256 = c1 := ⟨S / 16777216 % 256, by omega⟩
  have hq : L = l ++ [c1, c2, c3, c4] := by rw [hL, ← hS, leB4]; congr 2; (show S % 256 = c1; omega); congr 1; (show S / 256 % 256 = c2; omega); congr 1; (show S / 65536 % 256 = c3; omega); congr 1; (show S / 16777216 % 256 = c4; omega)
  have hc4 : ∀ c ∈ [c1, c2, c3, c4], c < 256 := by simp; omega
  have HQ := hid hq
  have HC := hid hc4
  have HS := hid hS
  clear hL hq hS hc4
  have hW := Below.refl w.heap.size w
  go_enter Try.func46, Try.ntmps46
  go_wp2_with (first | ((with_reducible show wpList _ _ _ (⟨some 2, _, _, _, _, _⟩ :: _) _ _); refine wpList_boxed 2 rfl rfl 25 _ rfl tbl rfl ?_; intro W2 N2 hN2 hM2 hr2 hb2; have hW := below_next hW hb2) | ((with_reducible show wpList _ _ _ (⟨some 6, _, _, _, _, _⟩ :: _) _ _); refine wpList_load_row rfl _ _ rfl N2 rfl 25 tbl (0, 0) _ hr2 Try.underlying25 rfl (by kernel_rfl) ?_) | (go_at_call 33; refine (sum_calls a l c _ (hl.below hW) (by omega)).mono ?_; rintro e w3 ⟨rfl, hb3⟩; have hW := below_next hW hb3; rw [← M.crc, ← HS.out]) | ((with_reducible show wpList _ _ _ (⟨some 9, _, _, _, _, _⟩ :: _) _ _); refine wpList_empty 9 rfl rfl rfl ?_; intro W9 v9 ho9 hb9; have hW9 := below_next hW hb9; have ho9' := ho9.weak hW.size) | ((with_reducible show wpList _ _ _ (⟨some 11, _, _, _, _, _⟩ :: _) _ _); refine wpList_append_at 11 rfl rfl _ _ rfl w.heap.size _ [] l l rfl (by rfl) ho9' a c (by rfl) (hl.below hW9) (by omega) hW9.size ?_; intro av cv w5 ho5 hcv5 hh5 hb5; have hW5 := hW9.trans hb5) | ((with_reducible show wpList _ _ _ (⟨some 24, _, _, _, _, _⟩ :: _) _ _); refine wpList_append_at 24 rfl rfl _ _ rfl w.heap.size _ l [c1, c2, c3, c4] L HQ.out.symm (by rfl) (ho5.mono ((Below.refl _ _).alloc (Nat.le_refl _) _)) _ 4 (by rfl) (hasB_new _ [c1, c2, c3, c4] HC.out (0, 0)) (by omega) (by have := hW5.size; simp; omega) ?_; intro av6 cv6 w6 ho6 hcv6 hh6 hb6))
  go_ret
  exact ⟨⟨av6, cv6, rfl, ho6, hcv6, hh6⟩, (hW5.alloc hW5.size _).trans hb6⟩
set_option maxRecDepth 100000 in
theorem open_short (a : Option Addr) (l : List Nat) (c : Nat) (w : World) (hn : l.length < 4) :
    Calls Try.prog 47 #[.agg tbl, .slice a l.length c] w fun e w' => e = .returned (.tuple #[.slice none 0 0, .int .i64 14]) ∧ Below w.heap.size w w' := by
  have t1 : decide ((l.length : Int) - 4 < 0) = true := by simp; omega
  go_enter Try.func47, Try.ntmps47
  go_wp2_with (first | ((with_reducible show wpList _ _ _ (⟨some 2, _, _, _, _, _⟩ :: _) _ _); refine wpList_boxed 2 rfl rfl 25 _ rfl tbl rfl ?_; intro W2 N2 hN2 hM2 hr2 hb2))
  go_ret2
  exact ⟨rfl, hb2⟩
theorem nth_leB (k S j : Nat) (h : j < k) : nth (M.leB k S) j = S / 256 ^ j % 256 := by
  induction k generalizing S j with
  | zero => omega
  | succ k ih =>
    cases j with
    | zero => simp [M.leB, nth]
    | succ j =>
      have := ih (S / 256) j (by omega)
      rw [Nat.div_div_eq_div_mul, ← Nat.pow_succ'] at this
      rw [← this]
      simp [M.leB, nth]
theorem nth_drop (l : List Nat) (n j : Nat) : nth (l.drop n) j = nth l (n + j) := by simp [nth]
set_option maxRecDepth 100000 in
set_option maxHeartbeats 400000 in
theorem open_calls (a : Option Addr) (l : List Nat) (cap n : Nat) (w : World) (hl : HasB w a l) (hn : l.length = n + 4) (hn2 : l.length ≤ 900000) (hcap : l.length ≤ cap) :
    Calls Try.prog 47 #[.agg tbl, .slice a l.length cap] w fun e w' => ((l.drop n = M.leB 4 (M.crc (l.take n)) ∧ ∃ a' cap', e = .returned (.tuple #[.slice a' n cap', .int .i64 0]) ∧ HasB w' a' (l.take n) ∧ n ≤ cap' ∧ OwnB w' w.heap.size (.slice a' n cap') (l.take n)) ∨ (l.drop n ≠ M.leB 4 (M.crc (l.take n)) ∧ e = .returned (.tuple #[.slice none 0 0, .int .i64 11]))) ∧ Below w.heap.size w w' := by
  have hlen : (l.length : Int) - 4 = (n : Int) := by omega
  have t1 : decide ((n : Int) < 0) = false := by simp
  have hncap : n ≤ cap := by omega
  have hne : ¬ (cap = n) := by omega
  have hsub : l.length - n = 4 := by omega
  have htk : (l.take n).length = n := by simp; omega
  obtain ⟨b, off, rfl, hc⟩ := hl.cell (by omega)
  have HN := hid hn
  have HC := hid hc
  have hl2' := hid hl
  have HTK := hid htk
  obtain ⟨S, hS⟩ : ∃ S, S = M.crc (l.take n) := ⟨_, rfl⟩
  have hSl : S < 4294967296 := by rw [hS]; exact M.crc_lt _ fun c hc => hl.1 c (List.mem_of_mem_take hc)
  have HS := hid hS
  clear hc hn htk hS
  have hW := Below.refl w.heap.size w
  go_enter Try.func47, Try.ntmps47
  go_upto_region 4 with (first | ((with_reducible show wpList _ _ _ (⟨some 2, _, _, _, _, _⟩ :: _) _ _); refine wpList_boxed 2 rfl rfl 25 _ rfl tbl rfl ?_; intro W2 N2 hN2 hM2 hr2 hb2; have hW := below_next hW hb2))
  have hl2 := hl.below hW
  have htk := HTK.out
  refine wp_region_frame (spec := [none, none, none, none, none, none]) (vals := [.agg tbl, .slice (some ⟨b, off, none⟩) l.length cap, .int .i64 n, .slice (some ⟨b, off, none⟩) n cap, .int .u32 S, .int .u32 S]) (by kernel_rfl) (by kernel_rfl) (by kernel_rfl) (by kernel_rfl) ?hst (fun hF => ?hobl) ?hQ
  case hst => exact trivial
  case hobl =>
    refine ⟨?_, ?_, ?_, ?_, ?_, ?_, trivial⟩
    · refine fun ho => obl_det hF (by kernel_rfl) (by kernel_rfl) ho (by kernel_rfl) (fun wx hbx => ?_); rw [if_pos (by kernel_rfl)]; with_reducible exact grows_row 25 (.tmp 2) (by kernel_rfl) N2 (by kernel_rfl) 25 tbl (0, 0) _ (below_blk hbx hr2) Try.underlying25 (by kernel_rfl) (by kernel_rfl) (by kernel_rfl) (by kernel_rfl)
    · refine fun ho => obl_det hF (by kernel_rfl) (by kernel_rfl) ho (by kernel_rfl) (fun wx hbx => ?_); rw [if_pos (by kernel_rfl)]; with_reducible exact grows_det (.slice (some ⟨b, off, none⟩) l.length cap) (by kernel_rfl) (by kernel_rfl) (by kernel_rfl)
    · refine fun ho => obl_det hF (by kernel_rfl) (by kernel_rfl) ho (by kernel_rfl) (fun wx hbx => ?_); rw [if_pos (by kernel_rfl)]; with_reducible exact grows_det (.int .i64 n) (by kernel_rfl) (by kernel_rfl) (by kernel_rfl)
    · refine fun ho => obl_det hF (by kernel_rfl) (by kernel_rfl) ho (by kernel_rfl) (fun wx hbx => ?_); rw [if_pos (by kernel_rfl)]; with_reducible exact grows_det (.slice (some ⟨b, off, none⟩) n cap) (op_slice_to (x := .tmp 16) (y := .tmp 17) (some ⟨b, off, none⟩) l.length cap n (by kernel_rfl) (by kernel_rfl) (by kernel_rfl) hncap) (by kernel_rfl) (by kernel_rfl)
    · refine fun ho => obl_det hF (by kernel_rfl) (by kernel_rfl) ho (by kernel_rfl) (fun wx hbx => ?_); rw [if_pos (by kernel_rfl)]; have hcc := sum_calls (some ⟨b, off, none⟩) (l.take n) cap wx ((hl2.below hbx).take n) (by rw [htk]; omega); rw [htk, ← M.crc, ← HS.out] at hcc; with_reducible exact grows_call 33 #[.agg tbl, .slice (some ⟨b, off, none⟩) n cap] (.int .u32 S) (by kernel_rfl) hcc (by kernel_rfl) (by kernel_rfl)
    · refine fun ho => obl_det hF (by kernel_rfl) (by kernel_rfl) ho (by kernel_rfl) (fun wx hbx => ?_); rw [if_pos (by kernel_rfl)]; with_reducible exact grows_det (.int .u32 S) (by kernel_rfl) (by kernel_rfl) (by kernel_rfl)
  case hQ =>
    intro wy hby
    simp only [each, putAll]
    have hW := below_next hW hby
    clear hl2 htk hr2 hby hb2 hM2 hN2
    go_wp2_with (fail)
    clear hsub hne hlen t1
    go_loop [7, 9, 24] (fun s _ i => ∃ m V : Nat, m ≤ 4 ∧ i = .int .i64 m ∧ s = .int .u32 V ∧ Hid (V = S / 256 ^ m) ∧ Hid (∀ j, j < m → nth l (n + j) = S / 256 ^ j % 256)) (fun _ _ i => 4 - (intOf i).toNat)
    case atStart => exact ⟨0, S, Nat.zero_le _, rfl, rfl, (by show _ = _; simp), fun j hj => absurd hj (by omega)⟩
    case round =>
      obtain ⟨m, V, hm, rfl, rfl, HV, HE⟩ := hrel
      have hVl : V < 4294967296 := by rw [HV.out]; exact Nat.lt_of_le_of_lt (Nat.div_le_self _ _) hSl
      by_cases hlt : m < 4
      · have hV2 : Hid (V / 256 = S / 256 ^ (m + 1)) := by show _ = _; rw [← M.div_step, HV.out]
        have hcell : wy.cell? ⟨b, off + n + m, none⟩ = some (.int .u8 (nth l (n + m))) := by
          rw [Nat.add_assoc, hW.cell (p := ⟨b, off + (n + m), none⟩) (block_lt_of_cell (w := w) (a := ⟨b, off + (n + m), none⟩) (HC.out (n + m) (by have := HN.out; omega)))]
          exact HC.out (n + m) (by have := HN.out; omega)
        have hcb := nth_lt l hl.1 (n + m)
        by_cases he : nth l (n + m) = V % 256
        · have t2 : ((nth l (n + m) : Int) == (V : Int) % 256) = true := by rw [beq_iff_eq]; omega
          have HE2 : Hid (∀ j, j < m + 1 → nth l (n + j) = S / 256 ^ j % 256) := fun j hj => by
            by_cases e : j = m
            · subst e; rw [he, HV.out]
            · exact HE.out j (by omega)
          clear he
          go_wp2
          go_round
          case rel => exact ⟨m + 1, V / 256, by omega, by go_num, by go_num, hV2, HE2⟩
          case measure => simp [intOf]; omega
        · have t2 : ((nth l (n + m) : Int) == (V : Int) % 256) = false := by rw [beq_eq_false_iff_ne]; omega
          have hno : Hid (l.drop n ≠ M.leB 4 (M.crc (l.take n))) := fun e => he (by rw [← nth_drop, e, nth_leB _ _ _ hlt, HV.out, HS.out])
          clear he
          go_wp2
          go_ret2
          exact ⟨.inr ⟨hno.out, rfl⟩, hW⟩
      · obtain rfl : m = 4 := by omega
        have hyes : Hid (l.drop n = M.leB 4 (M.crc (l.take n))) := by
          refine nth_eq _ _ (by have := HN.out; rw [M.leB_length]; simp; omega) fun j hj => ?_
          have hj4 : j < 4 := by have := HN.out; simp at hj; omega
          rw [nth_drop, HE.out j hj4, nth_leB _ _ _ hj4, HS.out]
        have htk := HTK.out
        obtain ⟨T, hT⟩ : ∃ T, T = l.take n := ⟨_, rfl⟩
        have hTh : HasB wy (some ⟨b, off, none⟩) T := by rw [hT]; exact (hl.below hW).take n
        have hTl : T.length = n := by rw [hT]; exact htk
        have HT := hid hT
        subst hTl
        clear htk hT
        go_wp2_with (first | ((with_reducible show wpList _ _ _ (⟨some 35, _, _, _, _, _⟩ :: _) _ _); refine wpList_empty 35 rfl rfl rfl ?_; intro W9 v9 ho9 hb9; have hW9 := below_next hW hb9; have ho9' := ho9.weak hW.size) | ((with_reducible show wpList _ _ _ (⟨some 39, _, _, _, _, _⟩ :: _) _ _); refine wpList_append_at 39 rfl rfl _ _ rfl w.heap.size _ [] T T rfl (by rfl) ho9' (some ⟨b, off, none⟩) cap (by rfl) (hTh.below hb9) (by have := HN.out; omega) hW9.size ?_; intro av cv w5 ho5 hcv5 hh5 hb5; have hW5 := hW9.trans hb5))
        go_ret2
        refine ⟨.inl ⟨hyes.out, av, cv, rfl, ?_, hcv5, ?_⟩, hW5⟩
        · rw [← HT.out]; exact hh5
        · rw [← HT.out]; exact ho5
end Go.Proofs.Ytncooadaeifekaa

/- Plain laws of frames: a frame's sector, a sector's frame. No program in sight. -/
namespace Go.Proofs.Ytncooadaeifekaa.M
structure Fr where
  kind : Int
  zone : Int
  off : Int
  epoch : Int
  seq : Int
  body : List Nat
deriving DecidableEq
def Fr.ok (f : Fr) : Prop := f.body.length = 44 ∧ ∀ c ∈ f.body, c < 256
def Fr.right (f : Fr) : Bool := decide ((1 ≤ f.kind ∧ f.kind ≤ 5) ∧ (0 ≤ f.zone ∧ f.zone ≤ 65535) ∧ (0 ≤ f.off ∧ f.off ≤ 65535) ∧ (1 ≤ f.epoch ∧ f.epoch ≤ 4294967295) ∧ (0 ≤ f.seq ∧ f.seq ≤ 281474976710655))
def Fr.zero : Fr := ⟨0, 0, 0, 0, 0, List.replicate 44 0⟩
/-- the sector's bytes ahead of the sum -/
def Fr.pre (f : Fr) : List Nat := leB 1 f.kind.toNat ++ leB 1 1 ++ leB 2 f.zone.toNat ++ leB 2 f.off.toNat ++ leB 4 f.epoch.toNat ++ leB 6 f.seq.toNat ++ f.body
def Fr.sec (f : Fr) : List Nat := f.pre ++ leB 4 (crc f.pre)
theorem Fr.pre_length (f : Fr) (h : f.ok) : f.pre.length = 60 := by simp [Fr.pre, leB_length, h.1]
theorem Fr.pre_lt (f : Fr) (h : f.ok) : ∀ c ∈ f.pre, c < 256 := fun c hc => by
  simp only [Fr.pre, List.mem_append] at hc
  rcases hc with (((((hc | hc) | hc) | hc) | hc) | hc) | hc
  all_goals first | exact leB_lt _ _ c hc | exact h.2 c hc
theorem Fr.sec_length (f : Fr) (h : f.ok) : f.sec.length = 64 := by rw [Fr.sec, List.length_append, Fr.pre_length f h, leB_length]
theorem Fr.sec_lt (f : Fr) (h : f.ok) : ∀ c ∈ f.sec, c < 256 := fun c hc => by
  rcases List.mem_append.1 hc with hc | hc
  · exact f.pre_lt h c hc
  · exact leB_lt _ _ c hc
/-- what a sector says, and its version -/
def unFr (s : List Nat) : Fr := ⟨leV (s.take 1), leV ((s.drop 2).take 2), leV ((s.drop 4).take 2), leV ((s.drop 6).take 4), leV ((s.drop 10).take 6), (s.drop 16).take 44⟩
def ver (s : List Nat) : Nat := leV ((s.drop 1).take 1)
theorem unFr_ok (s : List Nat) (hs : 60 ≤ s.length) (hb : ∀ c ∈ s, c < 256) : (unFr s).ok := by
  refine ⟨by simp [unFr]; omega, fun c hc => hb c ?_⟩
  exact List.mem_of_mem_drop (List.mem_of_mem_take hc)
theorem unFr_nonneg (s : List Nat) : 0 ≤ (unFr s).kind ∧ 0 ≤ (unFr s).zone ∧ 0 ≤ (unFr s).off ∧ 0 ≤ (unFr s).epoch ∧ 0 ≤ (unFr s).seq := by simp [unFr]
/-- a sector's bytes are written again as they were -/
theorem leB_of (s : List Nat) (hb : ∀ c ∈ s, c < 256) (a n : Nat) (h : a + n ≤ s.length) : leB n (leV ((s.drop a).take n)) = (s.drop a).take n := by
  have hl : ((s.drop a).take n).length = n := by simp; omega
  have := leB_leV ((s.drop a).take n) fun c hc => hb c (List.mem_of_mem_drop (List.mem_of_mem_take hc))
  rw [hl] at this
  exact this
theorem pre_unFr (s : List Nat) (hs : 60 ≤ s.length) (hb : ∀ c ∈ s, c < 256) (hv : ver s = 1) : (unFr s).pre = s.take 60 := by
  have h0 := leB_of s hb 0 1 (by omega)
  have h1 := leB_of s hb 1 1 (by omega)
  have h2 := leB_of s hb 2 2 (by omega)
  have h4 := leB_of s hb 4 2 (by omega)
  have h6 := leB_of s hb 6 4 (by omega)
  have h10 := leB_of s hb 10 6 (by omega)
  rw [List.drop_zero] at h0
  rw [ver] at hv
  rw [hv] at h1
  simp only [Fr.pre, unFr, Int.toNat_natCast, h0, h1, h2, h4, h6, h10]
  have cut : ∀ a n : Nat, s.take a ++ (s.drop a).take n = s.take (a + n) := fun a n => by rw [List.take_add]
  rw [cut 1 1, cut 2 2, cut 4 2, cut 6 4, cut 10 6, cut 16 44]
/-- a frame that may be is told again -/
theorem unFr_pre (f : Fr) (h : f.ok) (hr : f.right = true) (t : List Nat) : unFr (f.pre ++ t) = f ∧ ver (f.pre ++ t) = 1 := by
  simp only [Fr.right, decide_eq_true_eq] at hr
  obtain ⟨⟨h1, h2⟩, ⟨h3, h4⟩, ⟨h5, h6⟩, ⟨h7, h8⟩, h9, h10⟩ := hr
  have e : ∀ (a b c d g i j : List Nat), a.length = 1 → b.length = 1 → c.length = 2 → d.length = 2 → g.length = 4 → i.length = 6 → j.length = 44 →
      unFr (a ++ b ++ c ++ d ++ g ++ i ++ j ++ t) = ⟨leV a, leV c, leV d, leV g, leV i, j⟩ ∧ ver (a ++ b ++ c ++ d ++ g ++ i ++ j ++ t) = leV b := by
    intro a b c d g i j ha hb hc hd hg hi hj
    constructor
    · simp [unFr, List.drop_append, ha, hb, hc, hd, hg, hi, hj, List.drop_eq_nil_of_le]
    · simp [ver, ha, hb]
  obtain ⟨e1, e2⟩ := e _ _ _ _ _ _ _ (leB_length 1 f.kind.toNat) (leB_length 1 1) (leB_length 2 f.zone.toNat) (leB_length 2 f.off.toNat) (leB_length 4 f.epoch.toNat) (leB_length 6 f.seq.toNat) h.1
  refine ⟨?_, ?_⟩
  · rw [Fr.pre, e1, leV_leB _ _ (by show _ < 256; omega), leV_leB _ _ (by show _ < 65536; omega), leV_leB _ _ (by show _ < 65536; omega), leV_leB _ _ (by show _ < 4294967296; omega), leV_leB _ _ (by show _ < 281474976710656; omega)]
    cases f
    simp only [Fr.mk.injEq, and_true]
    simp only at *
    omega
  · rw [Fr.pre, e2]; rfl
/-- the sector's check: the last four bytes are the sum of those ahead -/
def sealed (s : List Nat) : Bool := decide (s.drop 60 = leB 4 (crc (s.take 60)))
theorem sealed_sec (f : Fr) (h : f.ok) : sealed f.sec = true := by
  have hl := f.pre_length h
  rw [sealed, decide_eq_true_eq]
  have h1 : f.sec.drop 60 = leB 4 (crc f.pre) := by rw [Fr.sec, List.drop_append, hl]; simp [List.drop_eq_nil_of_le, hl]
  have h2 : f.sec.take 60 = f.pre := by rw [Fr.sec, List.take_append, hl]; simp [List.take_of_length_le, hl]
  rw [h1, h2]
theorem unFr_sec (f : Fr) (h : f.ok) (hr : f.right = true) : unFr f.sec = f ∧ ver f.sec = 1 := unFr_pre f h hr _
theorem sec_unFr (s : List Nat) (hs : s.length = 64) (hb : ∀ c ∈ s, c < 256) (hv : ver s = 1) (hc : sealed s = true) : (unFr s).sec = s := by
  rw [sealed, decide_eq_true_eq] at hc
  rw [Fr.sec, pre_unFr s (by omega) hb hv, ← hc, List.take_append_drop]
theorem sec_inj (f g : Fr) (hf : f.ok) (hg : g.ok) (rf : f.right = true) (rg : g.right = true) (h : f.sec = g.sec) : f = g := by
  rw [← (unFr_sec f hf rf).1, h, (unFr_sec g hg rg).1]
end Go.Proofs.Ytncooadaeifekaa.M

/- Walks of the frame's within and Right; what a frame's and a sector's cells are. -/
namespace Go.Proofs.Ytncooadaeifekaa
open Go.RowKit
/-- a frame's cells -/
def frm (f : M.Fr) : Array Value := (Value.int .i64 f.kind :: Value.int .i64 f.zone :: Value.int .i64 f.off :: Value.int .i64 f.epoch :: Value.int .i64 f.seq :: u8s f.body).toArray
/-- a sector's cells -/
def sct (s : List Nat) : Array Value := (u8s s).toArray
theorem frm_size (f : M.Fr) (h : f.ok) : (frm f).size = 49 := by simp [frm, u8s_length, h.1]
theorem sct_size (s : List Nat) : (sct s).size = s.length := by simp [sct, u8s_length]
theorem frm_all (f : M.Fr) : (frm f).all (·.oneCell') = true := by
  refine Array.all_eq_true_iff_forall_mem.2 fun v hv => ?_
  simp only [frm, List.mem_toArray, List.mem_cons] at hv
  rcases hv with rfl | rfl | rfl | rfl | rfl | hv
  all_goals first | rfl | exact u8s_one _ v hv
theorem sct_all (s : List Nat) : (sct s).all (·.oneCell') = true := Array.all_eq_true_iff_forall_mem.2 fun v hv => u8s_one s v (by simpa [sct] using hv)
theorem frm_body (f : M.Fr) (i : Nat) (hi : i < f.body.length) : (frm f)[5 + i]? = some (.int .u8 (nth f.body i)) := by
  have := u8s_at f.body i hi
  rw [show 5 + i = i + 5 by omega]
  simpa [frm] using this
theorem ty41 (f : M.Fr) (h : f.ok) : TyRow Try.prog 41 (frm f).size := by rw [frm_size f h]; unfold TyRow; kernel_rfl
theorem ty44 (s : List Nat) (h : s.length = 64) : TyRow Try.prog 44 (sct s).size := by rw [sct_size, h]; unfold TyRow; kernel_rfl
/-- the bytes of a frame's body, where the frame lies -/
theorem hasB_body {w : World} {N : Nat} {f : M.Fr} {t : TypeId} (h : f.ok) (hr : w.heap[N]? = some (.cells (frm f) t (0, 0))) : HasB w (some ⟨N, 5, none⟩) f.body :=
  ⟨h.2, .inr ⟨N, 5, rfl, fun i hi => by rw [cell_of_row _ _ _ _ _ _ hr]; exact frm_body f i hi⟩⟩
theorem hasB_sct {w : World} {N : Nat} {s : List Nat} {t : TypeId} (h : ∀ c ∈ s, c < 256) (hr : w.heap[N]? = some (.cells (sct s) t (0, 0))) : HasB w (some ⟨N, 0, none⟩) s :=
  ⟨h, .inr ⟨N, 0, rfl, fun i hi => by rw [cell_of_row _ _ _ _ _ _ hr]; have := u8s_at s i hi; simpa [sct] using this⟩⟩
theorem fwithin_calls (x a b : Int) (w : World) :
    Calls Try.prog 76 #[.int .i64 x, .int .i64 a, .int .i64 b] w fun e w' => e = .returned (.bool (decide (a ≤ x ∧ x ≤ b))) ∧ Below w.heap.size w w' := by
  by_cases h1 : a ≤ x
  · by_cases h2 : x ≤ b
    · have t1 : decide (a ≤ x) = true := by simpa using h1
      have t2 : decide (x ≤ b) = true := by simpa using h2
      have t3 : decide (a ≤ x ∧ x ≤ b) = true := by simp [h1, h2]
      rw [t3]
      clear h1 h2 t3
      go_enter Try.func76, Try.ntmps76
      go_wp2
      go_ret
      exact ⟨rfl, Below.refl _ _⟩
    · have t1 : decide (a ≤ x) = true := by simpa using h1
      have t2 : decide (x ≤ b) = false := by simpa using h2
      have t3 : decide (a ≤ x ∧ x ≤ b) = false := by simp; omega
      rw [t3]
      clear h1 h2 t3
      go_enter Try.func76, Try.ntmps76
      go_wp2
      go_ret
      exact ⟨rfl, Below.refl _ _⟩
  · have t1 : decide (a ≤ x) = false := by simpa using h1
    have t3 : decide (a ≤ x ∧ x ≤ b) = false := by simp; omega
    rw [t3]
    clear h1 t3
    go_enter Try.func76, Try.ntmps76
    go_wp2
    go_ret
    exact ⟨rfl, Below.refl _ _⟩
end Go.Proofs.Ytncooadaeifekaa

/- Walk of a frame's Right. -/
namespace Go.Proofs.Ytncooadaeifekaa
open Go.RowKit
theorem frm0 (f : M.Fr) : (frm f)[0]? = some (.int .i64 f.kind) := by simp [frm]
theorem frm1 (f : M.Fr) : (frm f)[1]? = some (.int .i64 f.zone) := by simp [frm]
theorem frm2 (f : M.Fr) : (frm f)[2]? = some (.int .i64 f.off) := by simp [frm]
theorem frm3 (f : M.Fr) : (frm f)[3]? = some (.int .i64 f.epoch) := by simp [frm]
theorem frm4 (f : M.Fr) : (frm f)[4]? = some (.int .i64 f.seq) := by simp [frm]
set_option maxRecDepth 100000 in
set_option maxHeartbeats 400000 in
theorem right_calls (f : M.Fr) (w : World) :
    Calls Try.prog 38 #[.agg (frm f)] w fun e w' => e = .returned (.bool f.right) ∧ Below w.heap.size w w' := by
  by_cases p0 : (1 ≤ f.kind ∧ f.kind ≤ 5)
  · skip
    by_cases p1 : (0 ≤ f.zone ∧ f.zone ≤ 65535)
    · skip
      by_cases p2 : (0 ≤ f.off ∧ f.off ≤ 65535)
      · skip
        by_cases p3 : (1 ≤ f.epoch ∧ f.epoch ≤ 4294967295)
        · skip
          by_cases p4 : (0 ≤ f.seq ∧ f.seq ≤ 281474976710655)
          · skip
            have hr : f.right = true := by unfold M.Fr.right; rw [decide_eq_true_iff]; exact ⟨p0, p1, p2, p3, p4⟩
            rw [hr]
            have q0 := decide_eq_true p0
            have Q0 := hid q0
            have q1 := decide_eq_true p1
            have Q1 := hid q1
            have q2 := decide_eq_true p2
            have Q2 := hid q2
            have q3 := decide_eq_true p3
            have Q3 := hid q3
            have q4 := decide_eq_true p4
            have Q4 := hid q4
            clear hr q0 p0 q1 p1 q2 p2 q3 p3 q4 p4
            go_enter Try.func38, Try.ntmps38
            go_wp2_with (first | ((with_reducible show wpList _ _ _ (⟨some 1, _, _, _, _, _⟩ :: _) _ _); refine wpList_boxed 1 rfl rfl 41 _ rfl (frm f) rfl ?_; intro W1 N1 hN1 hM1 hr1 hb1; have hW := hb1; have c0 := cell_of_row _ N1 0 _ _ _ hr1; have c1 := cell_of_row _ N1 1 _ _ _ hr1; have c2 := cell_of_row _ N1 2 _ _ _ hr1; have c3 := cell_of_row _ N1 3 _ _ _ hr1; have c4 := cell_of_row _ N1 4 _ _ _ hr1; rw [frm0] at c0; rw [frm1] at c1; rw [frm2] at c2; rw [frm3] at c3; rw [frm4] at c4; clear hr1) | (go_at_call 76; refine (fwithin_calls _ _ _ _).mono ?_; rintro e w2 ⟨rfl, hb2⟩; have hW := below_next hW hb2; have c1 := (hb2.cell (p := ⟨N1, 1, none⟩) (block_lt_of_cell (a := ⟨N1, 1, none⟩) c1)).trans c1; have c2 := (hb2.cell (p := ⟨N1, 2, none⟩) (block_lt_of_cell (a := ⟨N1, 2, none⟩) c2)).trans c2; have c3 := (hb2.cell (p := ⟨N1, 3, none⟩) (block_lt_of_cell (a := ⟨N1, 3, none⟩) c3)).trans c3; have c4 := (hb2.cell (p := ⟨N1, 4, none⟩) (block_lt_of_cell (a := ⟨N1, 4, none⟩) c4)).trans c4; first | rw [Q0.out] | rw [Q1.out] | rw [Q2.out] | rw [Q3.out] | rw [Q4.out]))
            go_ret
            exact ⟨rfl, hW⟩
          · skip
            have hr : f.right = false := by unfold M.Fr.right; rw [decide_eq_false_iff_not]; intro h; exact p4 h.2.2.2.2
            rw [hr]
            have q0 := decide_eq_true p0
            have Q0 := hid q0
            have q1 := decide_eq_true p1
            have Q1 := hid q1
            have q2 := decide_eq_true p2
            have Q2 := hid q2
            have q3 := decide_eq_true p3
            have Q3 := hid q3
            have q4 := decide_eq_false p4
            have Q4 := hid q4
            clear hr q0 p0 q1 p1 q2 p2 q3 p3 q4 p4
            go_enter Try.func38, Try.ntmps38
            go_wp2_with (first | ((with_reducible show wpList _ _ _ (⟨some 1, _, _, _, _, _⟩ :: _) _ _); refine wpList_boxed 1 rfl rfl 41 _ rfl (frm f) rfl ?_; intro W1 N1 hN1 hM1 hr1 hb1; have hW := hb1; have c0 := cell_of_row _ N1 0 _ _ _ hr1; have c1 := cell_of_row _ N1 1 _ _ _ hr1; have c2 := cell_of_row _ N1 2 _ _ _ hr1; have c3 := cell_of_row _ N1 3 _ _ _ hr1; have c4 := cell_of_row _ N1 4 _ _ _ hr1; rw [frm0] at c0; rw [frm1] at c1; rw [frm2] at c2; rw [frm3] at c3; rw [frm4] at c4; clear hr1) | (go_at_call 76; refine (fwithin_calls _ _ _ _).mono ?_; rintro e w2 ⟨rfl, hb2⟩; have hW := below_next hW hb2; have c1 := (hb2.cell (p := ⟨N1, 1, none⟩) (block_lt_of_cell (a := ⟨N1, 1, none⟩) c1)).trans c1; have c2 := (hb2.cell (p := ⟨N1, 2, none⟩) (block_lt_of_cell (a := ⟨N1, 2, none⟩) c2)).trans c2; have c3 := (hb2.cell (p := ⟨N1, 3, none⟩) (block_lt_of_cell (a := ⟨N1, 3, none⟩) c3)).trans c3; have c4 := (hb2.cell (p := ⟨N1, 4, none⟩) (block_lt_of_cell (a := ⟨N1, 4, none⟩) c4)).trans c4; first | rw [Q0.out] | rw [Q1.out] | rw [Q2.out] | rw [Q3.out] | rw [Q4.out]))
            go_ret
            exact ⟨rfl, hW⟩
        · skip
          have hr : f.right = false := by unfold M.Fr.right; rw [decide_eq_false_iff_not]; intro h; exact p3 h.2.2.2.1
          rw [hr]
          have q0 := decide_eq_true p0
          have Q0 := hid q0
          have q1 := decide_eq_true p1
          have Q1 := hid q1
          have q2 := decide_eq_true p2
          have Q2 := hid q2
          have q3 := decide_eq_false p3
          have Q3 := hid q3
          clear hr q0 p0 q1 p1 q2 p2 q3 p3
          go_enter Try.func38, Try.ntmps38
          go_wp2_with (first | ((with_reducible show wpList _ _ _ (⟨some 1, _, _, _, _, _⟩ :: _) _ _); refine wpList_boxed 1 rfl rfl 41 _ rfl (frm f) rfl ?_; intro W1 N1 hN1 hM1 hr1 hb1; have hW := hb1; have c0 := cell_of_row _ N1 0 _ _ _ hr1; have c1 := cell_of_row _ N1 1 _ _ _ hr1; have c2 := cell_of_row _ N1 2 _ _ _ hr1; have c3 := cell_of_row _ N1 3 _ _ _ hr1; have c4 := cell_of_row _ N1 4 _ _ _ hr1; rw [frm0] at c0; rw [frm1] at c1; rw [frm2] at c2; rw [frm3] at c3; rw [frm4] at c4; clear hr1) | (go_at_call 76; refine (fwithin_calls _ _ _ _).mono ?_; rintro e w2 ⟨rfl, hb2⟩; have hW := below_next hW hb2; have c1 := (hb2.cell (p := ⟨N1, 1, none⟩) (block_lt_of_cell (a := ⟨N1, 1, none⟩) c1)).trans c1; have c2 := (hb2.cell (p := ⟨N1, 2, none⟩) (block_lt_of_cell (a := ⟨N1, 2, none⟩) c2)).trans c2; have c3 := (hb2.cell (p := ⟨N1, 3, none⟩) (block_lt_of_cell (a := ⟨N1, 3, none⟩) c3)).trans c3; have c4 := (hb2.cell (p := ⟨N1, 4, none⟩) (block_lt_of_cell (a := ⟨N1, 4, none⟩) c4)).trans c4; first | rw [Q0.out] | rw [Q1.out] | rw [Q2.out] | rw [Q3.out]))
          go_ret
          exact ⟨rfl, hW⟩
      · skip
        have hr : f.right = false := by unfold M.Fr.right; rw [decide_eq_false_iff_not]; intro h; exact p2 h.2.2.1
        rw [hr]
        have q0 := decide_eq_true p0
        have Q0 := hid q0
        have q1 := decide_eq_true p1
        have Q1 := hid q1
        have q2 := decide_eq_false p2
        have Q2 := hid q2
        clear hr q0 p0 q1 p1 q2 p2
        go_enter Try.func38, Try.ntmps38
        go_wp2_with (first | ((with_reducible show wpList _ _ _ (⟨some 1, _, _, _, _, _⟩ :: _) _ _); refine wpList_boxed 1 rfl rfl 41 _ rfl (frm f) rfl ?_; intro W1 N1 hN1 hM1 hr1 hb1; have hW := hb1; have c0 := cell_of_row _ N1 0 _ _ _ hr1; have c1 := cell_of_row _ N1 1 _ _ _ hr1; have c2 := cell_of_row _ N1 2 _ _ _ hr1; have c3 := cell_of_row _ N1 3 _ _ _ hr1; have c4 := cell_of_row _ N1 4 _ _ _ hr1; rw [frm0] at c0; rw [frm1] at c1; rw [frm2] at c2; rw [frm3] at c3; rw [frm4] at c4; clear hr1) | (go_at_call 76; refine (fwithin_calls _ _ _ _).mono ?_; rintro e w2 ⟨rfl, hb2⟩; have hW := below_next hW hb2; have c1 := (hb2.cell (p := ⟨N1, 1, none⟩) (block_lt_of_cell (a := ⟨N1, 1, none⟩) c1)).trans c1; have c2 := (hb2.cell (p := ⟨N1, 2, none⟩) (block_lt_of_cell (a := ⟨N1, 2, none⟩) c2)).trans c2; have c3 := (hb2.cell (p := ⟨N1, 3, none⟩) (block_lt_of_cell (a := ⟨N1, 3, none⟩) c3)).trans c3; have c4 := (hb2.cell (p := ⟨N1, 4, none⟩) (block_lt_of_cell (a := ⟨N1, 4, none⟩) c4)).trans c4; first | rw [Q0.out] | rw [Q1.out] | rw [Q2.out]))
        go_ret
        exact ⟨rfl, hW⟩
    · skip
      have hr : f.right = false := by unfold M.Fr.right; rw [decide_eq_false_iff_not]; intro h; exact p1 h.2.1
      rw [hr]
      have q0 := decide_eq_true p0
      have Q0 := hid q0
      have q1 := decide_eq_false p1
      have Q1 := hid q1
      clear hr q0 p0 q1 p1
      go_enter Try.func38, Try.ntmps38
      go_wp2_with (first | ((with_reducible show wpList _ _ _ (⟨some 1, _, _, _, _, _⟩ :: _) _ _); refine wpList_boxed 1 rfl rfl 41 _ rfl (frm f) rfl ?_; intro W1 N1 hN1 hM1 hr1 hb1; have hW := hb1; have c0 := cell_of_row _ N1 0 _ _ _ hr1; have c1 := cell_of_row _ N1 1 _ _ _ hr1; have c2 := cell_of_row _ N1 2 _ _ _ hr1; have c3 := cell_of_row _ N1 3 _ _ _ hr1; have c4 := cell_of_row _ N1 4 _ _ _ hr1; rw [frm0] at c0; rw [frm1] at c1; rw [frm2] at c2; rw [frm3] at c3; rw [frm4] at c4; clear hr1) | (go_at_call 76; refine (fwithin_calls _ _ _ _).mono ?_; rintro e w2 ⟨rfl, hb2⟩; have hW := below_next hW hb2; have c1 := (hb2.cell (p := ⟨N1, 1, none⟩) (block_lt_of_cell (a := ⟨N1, 1, none⟩) c1)).trans c1; have c2 := (hb2.cell (p := ⟨N1, 2, none⟩) (block_lt_of_cell (a := ⟨N1, 2, none⟩) c2)).trans c2; have c3 := (hb2.cell (p := ⟨N1, 3, none⟩) (block_lt_of_cell (a := ⟨N1, 3, none⟩) c3)).trans c3; have c4 := (hb2.cell (p := ⟨N1, 4, none⟩) (block_lt_of_cell (a := ⟨N1, 4, none⟩) c4)).trans c4; first | rw [Q0.out] | rw [Q1.out]))
      go_ret
      exact ⟨rfl, hW⟩
  · skip
    have hr : f.right = false := by unfold M.Fr.right; rw [decide_eq_false_iff_not]; intro h; exact p0 h.1
    rw [hr]
    have q0 := decide_eq_false p0
    have Q0 := hid q0
    clear hr q0 p0
    go_enter Try.func38, Try.ntmps38
    go_wp2_with (first | ((with_reducible show wpList _ _ _ (⟨some 1, _, _, _, _, _⟩ :: _) _ _); refine wpList_boxed 1 rfl rfl 41 _ rfl (frm f) rfl ?_; intro W1 N1 hN1 hM1 hr1 hb1; have hW := hb1; have c0 := cell_of_row _ N1 0 _ _ _ hr1; have c1 := cell_of_row _ N1 1 _ _ _ hr1; have c2 := cell_of_row _ N1 2 _ _ _ hr1; have c3 := cell_of_row _ N1 3 _ _ _ hr1; have c4 := cell_of_row _ N1 4 _ _ _ hr1; rw [frm0] at c0; rw [frm1] at c1; rw [frm2] at c2; rw [frm3] at c3; rw [frm4] at c4; clear hr1) | (go_at_call 76; refine (fwithin_calls _ _ _ _).mono ?_; rintro e w2 ⟨rfl, hb2⟩; have hW := below_next hW hb2; have c1 := (hb2.cell (p := ⟨N1, 1, none⟩) (block_lt_of_cell (a := ⟨N1, 1, none⟩) c1)).trans c1; have c2 := (hb2.cell (p := ⟨N1, 2, none⟩) (block_lt_of_cell (a := ⟨N1, 2, none⟩) c2)).trans c2; have c3 := (hb2.cell (p := ⟨N1, 3, none⟩) (block_lt_of_cell (a := ⟨N1, 3, none⟩) c3)).trans c3; have c4 := (hb2.cell (p := ⟨N1, 4, none⟩) (block_lt_of_cell (a := ⟨N1, 4, none⟩) c4)).trans c4; first | rw [Q0.out]))
    go_ret
    exact ⟨rfl, hW⟩
end Go.Proofs.Ytncooadaeifekaa

/- Helpers for the walks: a function's end where its first result lies in memory. No condition but what each states. -/
namespace Go.Proofs.Ytncooadaeifekaa
open Go.RowKit
theorem ret_cell {P : Program} {fn : Func} {R : Ending → World → Prop} {F : Act} {w : World} (p u : Tmp) (ty : TypeId) (h : fn.results = #[.cell p ty, .tmp u]) (hd : F.defers = []) (g : Nat) (hp : F.tmps.getD p undef = .pointer (some ⟨g, 0, none⟩))
    (T : TypeId) (cs : Array Value) (fr : Nat × Nat) (d : TypeDesc) (hg : w.heap[g]? = some (.cells cs T fr)) (hu : P.underlying ty = some d) (hdd : (match d with | .struct _ | .array _ _ => true | _ => false) = true) (hi : (P.info? ty).map (·.size) = some cs.size)
    (v : Value) (hv : F.tmps.getD u undef = v) (hR : R (.returned (.tuple #[.agg cs, v])) w) : bodyPost P fn R .ret F w := by
  refine bodyPost_ret (v := .tuple #[.agg cs, v]) ?_ hd hR
  rw [results_cell_tmp h, hp, hv]
  simp only [asAddr, Sem.run_pure, Result.andThen_ok, run_loadVar_row w g T ty cs fr d hg hu hdd hi]
/-- a whole array or struct stored into a variable -/
theorem wpList_store_agg {P : Program} {ops : Array Oper} {rest : List Oper} {o : Oper} {a : Act} {w : World} {Q : Exit → Act → World → Prop} (hgd : o.guard = none) (hd : o.dst = none) (ty : TypeId) (x y : Operand) (ho : o.op = .store ty x y)
    (g : Nat) (cs : Array Value) (hx : a.eval x = .pointer (some ⟨g, 0, none⟩)) (hy : a.eval y = .agg cs) (t : TypeId) (old : Array Value) (hg : w.heap[g]? = some (.cells old t (0, 0))) (ht : TyRow P ty cs.size)
    (hold : old.size = cs.size) (h1 : cs.all (·.oneCell') = true)
    (h : ∀ W : World, W.heap[g]? = some (.cells cs t (0, 0)) → Turned (fun k => k = g) w W → wpList P ops Q rest a W) : wpList P ops Q (o :: rest) a w := by
  refine wpList_store_row hgd ty x y ho g cs hx hy t old hg ht.size hold h1 ?_
  rw [hd]
  refine h _ ?_ ⟨rfl, rfl, rfl, by simp [World.setRow], fun k hk hn => ?_⟩
  · simp only [World.setRow, Array.getElem?_modify]
    rw [if_pos trivial, hg]; rfl
  · simp only [World.setRow, Array.getElem?_modify]
    rw [if_neg (fun e => hn e.symm)]
/-- a literal of an array or struct, by what it yields -/
theorem wpList_build_as {P : Program} {ops : Array Oper} {rest : List Oper} {o : Oper} {a : Act} {w : World} {Q : Exit → Act → World → Prop} (d : Tmp) (hd : o.dst = some d) (hgd : o.guard = none) (t : TypeId) (parts : Array (Nat × Operand)) (ho : o.op = .build t parts)
    (cs : Array Value) (hb : ∀ w, (Instr.build t (parts.map fun (i, x) => (i, a.eval x))).run P w = .ok (.agg cs) w)
    (h : wpList P ops Q rest (a.put (some d) (.agg cs)) w) : wpList P ops Q (o :: rest) a w := by
  refine wpList_plain hgd fun K hK => ?_
  unfold Oper.wp execOp
  simp only [ho, Sem.run_bind, hb, Result.andThen_ok]
  show K (a.put o.dst _) _
  rw [hd]
  exact hK _ _ h
theorem build_zero44 (w : World) : (Instr.build 44 #[]).run Try.prog w = .ok (.agg (sct (List.replicate 64 0))) w := by kernel_rfl
theorem build_zero41 (w : World) : (Instr.build 41 #[]).run Try.prog w = .ok (.agg (frm M.Fr.zero)) w := by kernel_rfl
end Go.Proofs.Ytncooadaeifekaa

/- Helpers for the walks: an array of bytes read out of bytes that lie anywhere. No condition but what each states. -/
namespace Go.Proofs.Ytncooadaeifekaa
open Go.RowKit
theorem run_loadVar_bytes {P : Program} (w : World) (g off : Nat) (s : List Nat) (ty : TypeId) (d : TypeDesc) (hs : HasB w (some ⟨g, off, none⟩) s)
    (hu : P.underlying ty = some d) (hd : (match d with | .struct _ | .array _ _ => true | _ => false) = true) (hi : (P.info? ty).map (·.size) = some s.length) :
    (loadVar ty ⟨g, off, none⟩).run P w = .ok (.agg (sct s)) w := by
  have hl : (loadCells ⟨g, off, none⟩ (u8s s).length).run P w = .ok (u8s s).toArray w :=
    run_loadCells_list (P := P) w ⟨g, off, none⟩ (u8s s) (fun j v hv => by
      have hadd : (⟨g, off, none⟩ : Addr).add j = ⟨g, off + j, none⟩ := by unfold Addr.add; split <;> simp_all
      have hj : j < s.length := by have := (List.getElem?_eq_some_iff.1 hv).1; simpa [u8s] using this
      obtain ⟨b, o, he, hc⟩ := hs.cell (by omega)
      simp only [Option.some.injEq, Addr.mk.injEq] at he
      obtain ⟨rfl, rfl, _⟩ := he
      rw [hadd, hc j hj, ← u8s_at s j hj, hv])
  rw [u8s_length] at hl
  cases hq : P.info? ty with
  | none => simp [hq] at hi
  | some i =>
    have hsz : i.size = s.length := by simpa [hq] using hi
    have hagg : (isAgg ty).run P w = .ok true w := by
      unfold isAgg
      rw [Sem.run_bind, run_underlying hu w]
      cases d <;> simp_all
    simp [loadVar, Sem.run_bind, hagg, sizeOf, typeInfo, hq, hsz, hl, sct]
/-- 'load' of an array of bytes -/
theorem wpList_load_bytes {P : Program} {ops : Array Oper} {rest : List Oper} {o : Oper} {a : Act} {w : World} {Q : Exit → Act → World → Prop} (d : Tmp) (hdst : o.dst = some d) (hgd : o.guard = none) (ty : TypeId) (x : Operand) (ho : o.op = .load ty x)
    (g off : Nat) (hx : a.eval x = .pointer (some ⟨g, off, none⟩)) (s : List Nat) (de : TypeDesc) (hs : HasB w (some ⟨g, off, none⟩) s)
    (hu : P.underlying ty = some de) (hd : (match de with | .struct _ | .array _ _ => true | _ => false) = true) (hi : (P.info? ty).map (·.size) = some s.length)
    (h : wpList P ops Q rest (a.put (some d) (.agg (sct s))) w) : wpList P ops Q (o :: rest) a w := by
  refine wpList_plain hgd fun K hK => ?_
  unfold Oper.wp execOp
  simp only [ho, hx, Instr.loadAt, Instr.sureAddr, Sem.run_bind, Sem.run_pure, Result.andThen_ok, run_loadVar_bytes w g off s ty de hs hu hd hi]
  show K (a.put o.dst _) _
  rw [hdst]
  exact hK _ _ h
end Go.Proofs.Ytncooadaeifekaa

/- Helpers for the walks: two arrays of bytes, two frames, compared. No condition but what each states. -/
namespace Go.Proofs.Ytncooadaeifekaa
open Go.RowKit
theorem size5 (w : World) : (sizeOf 5).run Try.prog w = .ok 1 w := by kernel_rfl
theorem sct_cell (s : List Nat) (h : ∀ c ∈ s, c < 256) : sct s = ((s.map UInt8.ofNat).map Extern.Stop.cell).toArray := by
  unfold sct u8s
  congr 1
  rw [List.map_map]
  apply List.map_congr_left
  intro c hc
  have := h c hc
  simp [Extern.Stop.cell, UInt8.toNat_ofNat']
  omega
theorem ofNat_eq (s t : List Nat) (hs : ∀ c ∈ s, c < 256) (ht : ∀ c ∈ t, c < 256) : (s.map UInt8.ofNat == t.map UInt8.ofNat) = decide (s = t) := by
  rw [Bool.eq_iff_iff, beq_iff_eq, decide_eq_true_eq]
  constructor
  · intro h
    have h2 := congrArg (List.map UInt8.toNat) h
    have e : ∀ l : List Nat, (∀ c ∈ l, c < 256) → (l.map UInt8.ofNat).map UInt8.toNat = l := fun l hl => by
      rw [List.map_map]
      conv => rhs; rw [← List.map_id l]
      apply List.map_congr_left
      intro c hc
      have := hl c hc
      simp [UInt8.toNat_ofNat']
      omega
    rwa [e s hs, e t ht] at h2
  · intro h; rw [h]
theorem run_equalIn_u8s (w : World) (d : Nat) (t : TypeId) (n : Nat) (ht : Try.prog.underlying t = some (.array n 5)) (s s' : List Nat) (h1 : s.length = n) (h2 : s'.length = n) (b1 : ∀ c ∈ s, c < 256) (b2 : ∀ c ∈ s', c < 256) :
    (Op.equalIn (d + 2) t (.agg (sct s)) (.agg (sct s'))).run Try.prog w = .ok (decide (s = s')) w := by
  rw [sct_cell s b1, sct_cell s' b2, run_equalIn_bytes w d t 5 n ht Try.underlying5 size5 _ _ (by simpa using h1) (by simpa using h2), ofNat_eq s s' b1 b2]
end Go.Proofs.Ytncooadaeifekaa

/- The law of a statement that draws its order, where ONE operation of it turns memory that was there: whatever order is drawn, the others only add memory, before it and behind it. -/
namespace Go.Proofs.Ytncooadaeifekaa
open Go.RowKit
section
variable {P : Program} {ops : Array Oper}
/-- the world behind the one operation that turns memory -/
def Mid (ρ : World → World → Prop) (w0 w : World) : Prop := ∃ w1 w2, Below w0.heap.size w0 w1 ∧ ρ w1 w2 ∧ Below w2.heap.size w2 w
theorem Mid.next {ρ : World → World → Prop} {w0 w w' : World} (h : Mid ρ w0 w) (hb : Below w.heap.size w w') : Mid ρ w0 w' := by
  obtain ⟨w1, w2, h1, h2, h3⟩ := h
  exact ⟨w1, w2, h1, h2, below_next h3 hb⟩
def upToM (P : Program) (ρ : World → World → Prop) (w : World) (φ : Value → World → Prop) : Result Next → Prop
  | .ok (.value v) w' => ρ w w' ∧ φ v w'
  | .ok .skip w' => ρ w w' ∧ φ undef w'
  | .ok (.enter f args) w' => w' = w ∧ Calls P f args w' (fun e w'' => ∃ v, e = .returned v ∧ ρ w w'' ∧ φ v w'')
  | _ => False
def GrowsM (P : Program) (ρ : World → World → Prop) (o : Oper) (a : Act) (w : World) (φ : Value → World → Prop) : Prop := upToM P ρ w φ ((execOp a.eval o).run P w)
theorem wp_of_growsM {ρ : World → World → Prop} {o : Oper} {a : Act} {w : World} {φ : Value → World → Prop} {K : Act → World → Prop} {Q : Exit → Act → World → Prop} (h : GrowsM P ρ o a w φ)
    (hK : ∀ v w', ρ w w' → φ v w' → K (a.put o.dst v) w') : o.wp P a w K Q := by
  unfold GrowsM at h
  unfold Oper.wp
  generalize (execOp a.eval o).run P w = r at *
  cases r with
  | ok n w' =>
    cases n <;> simp only [upToM] at h <;> simp only [Oper.upon]
    case value v => exact hK _ _ h.1 h.2
    case skip => exact hK _ _ h.1 h.2
    case enter f args => exact h.2.mono fun e w'' ⟨v, he, h1, h2⟩ => by subst he; exact hK _ _ h1 h2
  | halt x w' => simp only [upToM] at h
/-- what is owed of one operation, in the worlds of T -/
def ObG (ops : Array Oper) (σ : Nat → Value → World → Prop) (a0 : Act) (T : World → Prop) (G : Oper → Act → World → Prop) (N : World → Prop) (o : Oper) : Prop :=
  ∀ a w, T w →
    (∀ t, (∀ (j : Nat) (oj : Oper), ops[j]? = some oj → oj.dst ≠ some t) → a.tmps.getD t undef = a0.tmps.getD t undef) →
    (∀ t ∈ o.looksAt ops, ∀ (j : Nat) (oj : Oper), ops[j]? = some oj → oj.dst = some t → σ j (a.tmps.getD t undef) w) →
    if Region.wanted o (yielded ops a.tmps) then G o a w else N w
def ObN (P : Program) (ops : Array Oper) (σ : Nat → Value → World → Prop) (a0 : Act) (w0 : World) (ρ : World → World → Prop) (i : Nat) (o : Oper) : Prop :=
  ObG ops σ a0 (fun w => Below w0.heap.size w0 w ∨ Mid ρ w0 w) (fun o a w => Grows P o a w (σ i)) (fun w => σ i undef w) o
def ObM (P : Program) (ops : Array Oper) (σ : Nat → Value → World → Prop) (a0 : Act) (w0 : World) (ρ : World → World → Prop) (i : Nat) (o : Oper) : Prop :=
  ObG ops σ a0 (fun w => Below w0.heap.size w0 w) (fun o a w => GrowsM P ρ o a w (σ i)) (fun _ => False) o
structure FlowM (ops : Array Oper) (σ : Nat → Value → World → Prop) (a0 : Act) (w0 : World) (ρ : World → World → Prop) (m : Nat) (listed : Array Bool) (a : Act) (w : World) : Prop where
  phase : if listed.getD m false = true then Mid ρ w0 w else Below w0.heap.size w0 w
  size : a.tmps.size = a0.tmps.size
  defers : a.defers = a0.defers
  same : ∀ t, (∀ (j : Nat) (oj : Oper), ops[j]? = some oj → oj.dst ≠ some t) → a.tmps[t]? = a0.tmps[t]?
  held : ∀ (j : Nat) (oj : Oper) (d : Tmp), ops[j]? = some oj → oj.dst = some d → listed.getD j false = true → σ j (a.tmps.getD d undef) w
theorem flow_anyM {σ : Nat → Value → World → Prop} {a0 : Act} {w0 : World} {Q : Exit → Act → World → Prop} {ρ : World → World → Prop} {m : Nat} (hmS : m < ops.size) (hF : Flows ops a0.tmps.size)
    (hst : ∀ j v w w', σ j v w → Below w.heap.size w w' → σ j v w') (hstM : ∀ j v w w', σ j v w → ρ w w' → σ j v w')
    (hobl : ∀ (i : Nat) (o : Oper), ops[i]? = some o → if i = m then ObM P ops σ a0 w0 ρ i o else ObN P ops σ a0 w0 ρ i o)
    (hQ : ∀ a w, Mid ρ w0 w → a.tmps.size = a0.tmps.size → a.defers = a0.defers → (∀ t, (∀ (j : Nat) (oj : Oper), ops[j]? = some oj → oj.dst ≠ some t) → a.tmps[t]? = a0.tmps[t]?) →
      (∀ (j : Nat) (oj : Oper) (d : Tmp), ops[j]? = some oj → oj.dst = some d → σ j (a.tmps.getD d undef) w) → Q .normal a w) :
    ∀ (fuel : Nat) (listed : Array Bool) (a : Act) (w : World), listed.size = ops.size → unlisted ops listed ≤ fuel → FlowM ops σ a0 w0 ρ m listed a w → wpAny P .any ops Q fuel listed a w := by
  have fin : ∀ (listed : Array Bool) (a : Act) (w : World), (∀ i, i < ops.size → listed.getD i false = true) → FlowM ops σ a0 w0 ρ m listed a w → Q .normal a w := fun listed a w hall h =>
    hQ a w (by have := h.phase; rw [if_pos (hall m hmS)] at this; exact this) h.size h.defers h.same fun j oj d hj hd => h.held j oj d hj hd (hall j (Array.getElem?_eq_some_iff.1 hj).1)
  intro fuel
  induction fuel with
  | zero =>
    intro listed a w hs hu h
    have hall := unlisted_zero (ops := ops) hs (by omega)
    refine ⟨?_, fin listed a w hall h⟩
    rcases hr : Region.ready .any ops listed with _ | ⟨x, xs⟩
    · rfl
    · have hm : x ∈ Region.ready .any ops listed := by rw [hr]; simp
      obtain ⟨h1, o, ho, _⟩ := mem_ready.1 hm
      have h2 := hall x (Array.getElem?_eq_some_iff.1 ho).1
      rw [Array.getD_eq_getD_getElem?, Array.getElem?_eq_getElem (by have := (Array.getElem?_eq_some_iff.1 ho).1; omega)] at h1 h2
      simp only [Option.getD_some] at h1 h2
      rw [h1] at h2
      cases h2
  | succ fuel ih =>
    intro listed a w hs hu h
    refine ⟨fun h0 => fin listed a w (ready_nil hF hs h0) h, fun i hi => ?_⟩
    obtain ⟨hl, o, ho, hall⟩ := mem_ready.1 hi
    have hilt := (Array.getElem?_eq_some_iff.1 ho).1
    have hu' : unlisted ops (listed.setIfInBounds i true) ≤ fuel := by
      have := unlisted_step (ops := ops) hs i hilt hl
      omega
    have hget : ∀ t, (∀ (j : Nat) (oj : Oper), ops[j]? = some oj → oj.dst ≠ some t) → a.tmps.getD t undef = a0.tmps.getD t undef := fun t ht => by
      rw [Array.getD_eq_getD_getElem?, Array.getD_eq_getD_getElem?, h.same t ht]
    have hheld : ∀ t ∈ o.looksAt ops, ∀ (j : Nat) (oj : Oper), ops[j]? = some oj → oj.dst = some t → σ j (a.tmps.getD t undef) w := fun t ht j oj hj hd => by
      obtain ⟨e, he, hb, hon⟩ := hF.looks i o ho t ht j oj hj hd
      exact h.held j oj t hj hd (by rw [← hon]; exact hall e he hb)
    have next : ∀ v w', (if (listed.setIfInBounds i true).getD m false = true then Mid ρ w0 w' else Below w0.heap.size w0 w') → (∀ j u, σ j u w → σ j u w') → σ i v w' → wpAny P .any ops Q fuel (listed.setIfInBounds i true) (a.put o.dst v) w' := fun v w' hph hmv hv => by
      refine ih _ _ _ (by simpa using hs) hu' ⟨hph, ?_, ?_, ?_, ?_⟩
      · cases hd : o.dst <;> simp [Act.put, h.size]
      · cases hd : o.dst <;> simp [Act.put, h.defers]
      · intro t ht
        cases hd : o.dst with
        | none => exact h.same t ht
        | some d =>
          have hne : d ≠ t := fun e => ht i o ho (by rw [hd, e])
          simp only [Act.put, Array.getElem?_setIfInBounds_ne hne]
          exact h.same t ht
      · intro j oj d hj hd hlj
        by_cases hji : j = i
        · subst hji
          rw [ho] at hj
          obtain rfl : o = oj := by simpa using hj
          have hroom := hF.room j o d ho hd
          rw [hd]
          simp only [Act.put, Array.getD_eq_getD_getElem?]
          rw [Array.getElem?_setIfInBounds_self_of_lt (by rw [h.size]; exact hroom)]
          exact hv
        · have hlj' : listed.getD j false = true := by rw [getD_set_ne false (fun e => hji e.symm)] at hlj; exact hlj
          have hold := h.held j oj d hj hd hlj'
          have hgd : (a.put o.dst v).tmps.getD d undef = a.tmps.getD d undef := by
            cases hdi : o.dst with
            | none => rfl
            | some di =>
              have hne : di ≠ d := fun e => hji (hF.unlike i o d ho (by rw [hdi, e]) j oj hj hd)
              simp only [Act.put, Array.getD_eq_getD_getElem?, Array.getElem?_setIfInBounds_ne hne]
          rw [hgd]
          exact hmv j _ hold
    have hob := hobl i o ho
    unfold wpOp
    simp only [ho]
    by_cases him : i = m
    · subst him
      rw [if_pos rfl] at hob
      have hnl : ¬ listed.getD i false = true := by
        rw [Array.getD_eq_getD_getElem?, Array.getElem?_eq_getElem (by omega)] at hl ⊢
        simp only [Option.getD_some] at hl ⊢
        rw [hl]; simp
      have hph := h.phase
      rw [if_neg hnl] at hph
      have hob2 := hob a w hph hget hheld
      have hset : (listed.setIfInBounds i true).getD i false = true := by
        rw [Array.getD_eq_getD_getElem?, Array.getElem?_setIfInBounds_self_of_lt (by omega)]; rfl
      split
      · next hw =>
        rw [if_pos hw] at hob2
        refine .inl (wp_of_growsM hob2 fun v w' hr hv => next v w' ?_ (fun j u hu2 => hstM j u w w' hu2 hr) hv)
        rw [if_pos hset]
        exact ⟨w, w', hph, hr, Below.refl _ _⟩
      · next hw =>
        rw [if_neg hw] at hob2
        exact hob2.elim
    · rw [if_neg him] at hob
      have hset : (listed.setIfInBounds i true).getD m false = listed.getD m false := getD_set_ne false him
      have hor : Below w0.heap.size w0 w ∨ Mid ρ w0 w := by
        have := h.phase
        split at this
        · exact .inr this
        · exact .inl this
      have hph : ∀ w', Below w.heap.size w w' → if (listed.setIfInBounds i true).getD m false = true then Mid ρ w0 w' else Below w0.heap.size w0 w' := fun w' hb => by
        rw [hset]
        have := h.phase
        split at this
        · next hx => rw [if_pos hx]; exact this.next hb
        · next hx => rw [if_neg hx]; exact below_next this hb
      have hob2 := hob a w hor hget hheld
      split
      · next hw =>
        rw [if_pos hw] at hob2
        exact .inl (wp_of_grows hob2 fun v w' hb hv => next v w' (hph w' hb) (fun j u hu2 => hst j u w w' hu2 hb) hv)
      · next hw =>
        rw [if_neg hw] at hob2
        exact next undef w (hph w (Below.refl _ _)) (fun _ _ h => h) hob2
theorem wp_region_flowM {id : Nat} {σ : Nat → Value → World → Prop} {a0 : Act} {w0 : World} {Q : Exit → Act → World → Prop} {ρ : World → World → Prop} {m : Nat} (hmS : m < ops.size) (hm : P.follows .mixedOrders = true) (hB : flowB ops a0.tmps.size = true)
    (hst : ∀ j v w w', σ j v w → Below w.heap.size w w' → σ j v w') (hstM : ∀ j v w w', σ j v w → ρ w w' → σ j v w')
    (hobl : ∀ (i : Nat) (o : Oper), ops[i]? = some o → if i = m then ObM P ops σ a0 w0 ρ i o else ObN P ops σ a0 w0 ρ i o)
    (hQ : ∀ a w, Mid ρ w0 w → a.tmps.size = a0.tmps.size → a.defers = a0.defers → (∀ t, (∀ (j : Nat) (oj : Oper), ops[j]? = some oj → oj.dst ≠ some t) → a.tmps[t]? = a0.tmps[t]?) →
      (∀ (j : Nat) (oj : Oper) (d : Tmp), ops[j]? = some oj → oj.dst = some d → σ j (a.tmps.getD d undef) w) → Q .normal a w) : (Code.region id ops true).wp P Q a0 w0 := by
  refine wp_region_any hm (flow_anyM hmS (flows_of hB) hst hstM hobl hQ _ _ _ _ (by simp) ?_ ?_)
  · unfold unlisted
    exact Nat.le_trans List.countP_le_length (by simp)
  · refine ⟨?_, rfl, rfl, fun _ _ => rfl, fun j oj d hj _ hl => ?_⟩
    · rw [if_neg (by simp [Array.getD_eq_getD_getElem?, hmS])]; exact ⟨rfl, rfl, rfl, Nat.le_refl _, fun _ _ => rfl⟩
    · have hj' := (Array.getElem?_eq_some_iff.1 hj).1
      simp [Array.getD_eq_getD_getElem?, hj'] at hl
/-- G asks of the frame only how the operation runs -/
def Runs (G : Oper → Act → World → Prop) : Prop := ∀ o a b w, execOp a.eval o = execOp b.eval o → G o a w → G o b w
theorem runs_grows (P : Program) (φ : Value → World → Prop) : Runs (fun o a w => Grows P o a w φ) := fun o a b w h hg => by have hg : upTo P w φ ((execOp a.eval o).run P w) := hg; show upTo P w φ ((execOp b.eval o).run P w); rw [← h]; exact hg
theorem runs_growsM (P : Program) (ρ : World → World → Prop) (φ : Value → World → Prop) : Runs (fun o a w => GrowsM P ρ o a w φ) := fun o a b w h hg => by have hg : upToM P ρ w φ ((execOp a.eval o).run P w) := hg; show upToM P ρ w φ ((execOp b.eval o).run P w); rw [← h]; exact hg
theorem obg_det {spec : Spec} {vals : List Value} {a0 : Act} {T : World → Prop} {G : Oper → Act → World → Prop} {N : World → Prop} (hG : Runs G) (hF : Flows ops a0.tmps.size) (hlen : ops.size = vals.length) (hns : Region.noSelect ops = true) {i : Nat} {o : Oper} (ho : ops[i]? = some o)
    (hn : newsOf ops spec o = [])
    (h : ∀ w, T w → if Region.wanted o (yielded ops (putAll ops.toList vals a0).tmps) then G o (putAll ops.toList vals a0) w else N w) :
    ObG ops (known spec vals) a0 T G N o := by
  intro a w hb hs hd
  have heq := fun t ht => look_same hF hlen hs hd t ht (fun j oj hj hjd => newsOf_nil hn t ht j oj hj hjd)
  have h2 := h w hb
  rw [← same_wanted heq] at h2
  have hop := same_op (Region.noSelect_spec hns i o · · ho) heq
  split
  · next hw => rw [if_pos hw] at h2; exact hG o _ _ w hop.symm h2
  · next hw => rw [if_neg hw] at h2; exact h2
theorem obg_one {spec : Spec} {vals : List Value} {a0 : Act} {T : World → Prop} {G : Oper → Act → World → Prop} {N : World → Prop} (hG : Runs G) (hF : Flows ops a0.tmps.size) (hlen : ops.size = vals.length) (hns : Region.noSelect ops = true) {i : Nat} {o : Oper} (ho : ops[i]? = some o)
    (k : Nat) (hn : newsOf ops spec o = [k]) (t : Tmp) (S : Value → World → Prop) (hS : spec.getD k none = some S) (hk : (ops[k]?).bind (·.dst) = some t)
    (h : ∀ w x, T w → S x w → if Region.wanted o (yielded ops ((putAll ops.toList vals a0).put (some t) x).tmps) then G o ((putAll ops.toList vals a0).put (some t) x) w else N w) :
    ObG ops (known spec vals) a0 T G N o := by
  intro a w hb hs hd
  obtain ⟨ok, hok, hkd⟩ := Option.bind_eq_some_iff.1 hk
  have hmem : k ∈ newsOf ops spec o := by rw [hn]; simp
  have htl : t ∈ o.looksAt ops := by
    unfold newsOf at hmem
    rw [List.mem_filter] at hmem
    have := hmem.2
    rw [hk] at this
    simp only [Bool.and_eq_true, List.contains_iff_mem] at this
    exact this.2
  have hx := hd t htl k ok hok hkd
  have hx' : S (a.tmps.getD t undef) w := by unfold known at hx; rw [hS] at hx; exact hx
  have heq : ∀ u ∈ o.looksAt ops, a.tmps[u]?.getD undef = ((putAll ops.toList vals a0).put (some t) (a.tmps.getD t undef)).tmps[u]?.getD undef := fun u hu => by
    by_cases hut : u = t
    · subst hut
      have hroom := hF.room k ok u hok hkd
      simp only [Act.put]
      rw [Array.getElem?_setIfInBounds_self_of_lt (by rw [size_putAll]; exact hroom)]
      simp [Array.getD_eq_getD_getElem?]
    · have h1 := look_same hF hlen hs hd u hu (fun j oj hj hjd => by
        rcases newsOf_one hn u hu j oj hj hjd with h0 | h0
        · exact h0
        · subst h0
          rw [hok] at hj
          obtain rfl : ok = oj := by simpa using hj
          exact absurd (Option.some.inj (hjd.symm.trans hkd)) hut)
      rw [h1]
      simp only [Act.put, Array.getElem?_setIfInBounds_ne (Ne.symm hut)]
  have h2 := h w _ hb hx'
  rw [← same_wanted heq] at h2
  have hop := same_op (Region.noSelect_spec hns i o · · ho) heq
  split
  · next hw => rw [if_pos hw] at h2; exact hG o _ _ w hop.symm h2
  · next hw => rw [if_neg hw] at h2; exact h2
def oblAllM (P : Program) (ops : Array Oper) (σ : Nat → Value → World → Prop) (a0 : Act) (w0 : World) (ρ : World → World → Prop) (m : Nat) : List Oper → Nat → Prop
  | [], _ => True
  | o :: l, i => (ops[i]? = some o → if i = m then ObM P ops σ a0 w0 ρ i o else ObN P ops σ a0 w0 ρ i o) ∧ oblAllM P ops σ a0 w0 ρ m l (i + 1)
theorem oblAllM_use {σ : Nat → Value → World → Prop} {a0 : Act} {w0 : World} {ρ : World → World → Prop} {m : Nat} : ∀ (l : List Oper) (k : Nat), oblAllM P ops σ a0 w0 ρ m l k → ∀ (i : Nat) (o : Oper), l[i]? = some o → (ops[k + i]? = some o → if k + i = m then ObM P ops σ a0 w0 ρ (k + i) o else ObN P ops σ a0 w0 ρ (k + i) o)
  | [], _, _, i, o, h => by simp at h
  | x :: l, k, ha, 0, o, h => by
    obtain rfl : x = o := by simpa using h
    exact ha.1
  | x :: l, k, ha, i + 1, o, h => by
    have := oblAllM_use l (k + 1) ha.2 i o (by simpa using h)
    rwa [show k + 1 + i = k + (i + 1) by omega] at this
def stableM (ρ : World → World → Prop) : Spec → Prop
  | [] => True
  | none :: l => stableM ρ l
  | some S :: l => (∀ v w w', S v w → ρ w w' → S v w') ∧ stableM ρ l
theorem stableM_use {ρ : World → World → Prop} : ∀ (spec : Spec), stableM ρ spec → ∀ i S, spec.getD i none = some S → ∀ v w w', S v w → ρ w w' → S v w'
  | [], _, i, S, h => by simp at h
  | none :: l, hs, 0, S, h => by simp at h
  | none :: l, hs, i + 1, S, h => stableM_use l hs i S (by simpa using h)
  | some T :: l, hs, 0, S, h => by
    obtain rfl : T = S := by simpa using h
    exact hs.1
  | some T :: l, hs, i + 1, S, h => stableM_use l hs.2 i S (by simpa using h)
/-- what is known at the end is written out -/
theorem all_known {l : List Oper} {spec : Spec} {vals : List Value} {a0 a : Act} {w : World} {K : Act → Prop} (hF : Flows l.toArray a0.tmps.size) (hlen : l.length = vals.length) (hbare : bareB l spec = true)
    (hsz : a.tmps.size = a0.tmps.size) (hdf : a.defers = a0.defers) (hsame : ∀ t, (∀ (j : Nat) (oj : Oper), l.toArray[j]? = some oj → oj.dst ≠ some t) → a.tmps[t]? = a0.tmps[t]?)
    (hk : ∀ (j : Nat) (oj : Oper) (d : Tmp), l.toArray[j]? = some oj → oj.dst = some d → known spec vals j (a.tmps.getD d undef) w) (hQ : each spec vals w (fun vs => K (putAll l vs a0))) : K a := by
    obtain ⟨vs, hvs⟩ : ∃ vs : List Value, vs = (List.range l.length).map fun i => match (l[i]?).bind (·.dst) with | some d => a.tmps.getD d undef | none => vals.getD i undef := ⟨_, rfl⟩
    have hvl : vs.length = l.length := by simp [hvs]
    have hat : ∀ i, i < l.length → vs.getD i undef = match (l[i]?).bind (·.dst) with | some d => a.tmps.getD d undef | none => vals.getD i undef := fun i hi => by
      rw [hvs, List.getD, List.getElem?_map, List.getElem?_range hi]
      rfl
    have ha : a = putAll l vs a0 := by
      have h1 : a.tmps = (putAll l vs a0).tmps := by
        apply Array.ext_getElem?
        intro t
        by_cases hex : ∃ (j : Nat) (oj : Oper), l.toArray[j]? = some oj ∧ oj.dst = some t
        · obtain ⟨j, oj, hj, hjd⟩ := hex
          have hj' : l[j]? = some oj := by simpa using hj
          have hjl : j < l.length := (List.getElem?_eq_some_iff.1 hj').1
          have hroom := hF.room j oj t hj hjd
          rw [putAll_at l vs a0 j oj t (by omega) hj' hjd hroom (fun k ok hk hkd => hF.unlike j oj t hj hjd k ok (by simpa using hk) hkd), hat j hjl]
          simp only [hj', Option.bind_some, hjd, Array.getD_eq_getD_getElem?]
          rw [Array.getElem?_eq_getElem (by rw [hsz]; exact hroom)]
          rfl
        · have hno : ∀ (j : Nat) (oj : Oper), l.toArray[j]? = some oj → oj.dst ≠ some t := fun j oj hj hjd => hex ⟨j, oj, hj, hjd⟩
          rw [hsame t hno, putAll_other l vs a0 t (fun o2 ho2 => by
            obtain ⟨j, hj, hjo⟩ := List.mem_iff_getElem.1 ho2
            exact hno j o2 (by simp [List.getElem?_eq_getElem hj, hjo]))]
      have h2 : a.defers = (putAll l vs a0).defers := by rw [defers_putAll, hdf]
      cases a
      cases hp : putAll l vs a0
      rw [hp] at h1 h2
      simp only at h1 h2
      subst h1 h2
      rfl
    rw [ha]
    refine each_use spec vals vs w _ hQ (by omega) fun i hi => ?_
    have hil : i < l.length := by omega
    rw [hat i hil]
    cases hd : (l[i]).dst with
    | none =>
      simp only [List.getElem?_eq_getElem hil, Option.bind_some, hd]
      unfold known
      rw [bare_use l spec hbare i l[i] (List.getElem?_eq_getElem hil) hd]
    | some d =>
      simp only [List.getElem?_eq_getElem hil, Option.bind_some, hd]
      exact hk i l[i] d (by simp [hil]) hd
/-- THE LAW, with one operation that turns memory -/
theorem wp_region_mut {id : Nat} {l : List Oper} {spec : Spec} {vals : List Value} {a0 : Act} {w0 : World} {Q : Exit → Act → World → Prop} (ρ : World → World → Prop) (m : Nat) (hmS : m < l.length) (hm : P.follows .mixedOrders = true) (hB : flowB l.toArray a0.tmps.size = true)
    (hlen : l.length = vals.length) (hbare : bareB l spec = true) (hst : stableS spec) (hstM : stableM ρ spec)
    (hobl : Flows l.toArray a0.tmps.size → oblAllM P l.toArray (known spec vals) a0 w0 ρ m l 0)
    (hQ : ∀ w, Mid ρ w0 w → each spec vals w (fun vs => Q .normal (putAll l vs a0) w)) : (Code.region id l.toArray true).wp P Q a0 w0 := by
  have hF := flows_of hB
  refine wp_region_flowM (ρ := ρ) (m := m) (by simpa using hmS) hm hB (σ := known spec vals) ?_ ?_ (fun i o ho => ?_) ?_
  · intro j v w w' hk hb
    unfold known at *
    cases hs : spec.getD j none with
    | none => rw [hs] at hk; exact hk
    | some S => rw [hs] at hk; exact stable_use spec hst j S hs v w w' hk hb
  · intro j v w w' hk hb
    unfold known at *
    cases hs : spec.getD j none with
    | none => rw [hs] at hk; exact hk
    | some S => rw [hs] at hk; exact stableM_use spec hstM j S hs v w w' hk hb
  · have := oblAllM_use (ops := l.toArray) l 0 (hobl hF) i o (by simpa using ho)
    rw [Nat.zero_add] at this
    exact this ho
  · intro a w hb hsz hdf hsame hk
    exact all_known (K := fun a => Q .normal a w) hF hlen hbare hsz hdf hsame hk (hQ w hb)
end
end Go.Proofs.Ytncooadaeifekaa

/- The law of a statement that draws its order and ends in a tail of operations, each of which waits for the one ahead of it: the others only add memory; those for which the tail does not wait yield one value in whatever memory. Behind it the tail is walked in the text's order. -/
namespace Go.Proofs.Ytncooadaeifekaa
open Go.RowKit
/-- a plain end, no other -/
def NormQ (Q : Exit → Act → World → Prop) : Exit → Act → World → Prop := fun x a w => match x with
  | .normal => Q .normal a w
  | _ => False
theorem normQ_out (Q : Exit → Act → World → Prop) : ¬ LetsOut (NormQ Q) := fun ⟨_, _, h⟩ => h
section
variable {P : Program} {ops : Array Oper} {vals : List Value}
def dstOf (ops : Array Oper) (i : Nat) : Option Tmp := (ops[i]?).bind (·.dst)
theorem dstOf_eq {i : Nat} {o : Oper} (h : ops[i]? = some o) : dstOf ops i = o.dst := by simp [dstOf, h]
theorem dstOf_some {i : Nat} {d : Tmp} (h : dstOf ops i = some d) : ∃ o, ops[i]? = some o ∧ o.dst = some d := Option.bind_eq_some_iff.1 h
/-- the free operations' slots filled -/
def fill (ops : Array Oper) (vals : List Value) : List Nat → Act → Act
  | [], a => a
  | i :: is, a => fill ops vals is (a.put (dstOf ops i) (vals.getD i undef))
theorem put_size (a : Act) (d : Option Tmp) (v : Value) : (a.put d v).tmps.size = a.tmps.size := by cases d <;> simp [Act.put]
theorem put_defers (a : Act) (d : Option Tmp) (v : Value) : (a.put d v).defers = a.defers := by cases d <;> simp [Act.put]
theorem put_at (a : Act) (d : Tmp) (v : Value) (h : d < a.tmps.size) : (a.put (some d) v).tmps[d]? = some v := by
  simp only [Act.put]; rw [Array.getElem?_setIfInBounds_self_of_lt h]
theorem put_ne (a : Act) (d : Option Tmp) (v : Value) (t : Tmp) (h : d ≠ some t) : (a.put d v).tmps[t]? = a.tmps[t]? := by
  cases d with
  | none => rfl
  | some d =>
    have hne : d ≠ t := fun e => h (by rw [e])
    simp only [Act.put, Array.getElem?_setIfInBounds_ne hne]
theorem fill_size : ∀ (fs : List Nat) (a : Act), (fill ops vals fs a).tmps.size = a.tmps.size
  | [], _ => rfl
  | i :: is, a => by rw [fill, fill_size is, put_size]
theorem fill_defers : ∀ (fs : List Nat) (a : Act), (fill ops vals fs a).defers = a.defers
  | [], _ => rfl
  | i :: is, a => by rw [fill, fill_defers is, put_defers]
theorem fill_get : ∀ (fs : List Nat) (a : Act) (t : Tmp), t < a.tmps.size →
    (∃ i ∈ fs, dstOf ops i = some t ∧ (fill ops vals fs a).tmps[t]? = some (vals.getD i undef)) ∨ ((∀ i ∈ fs, dstOf ops i ≠ some t) ∧ (fill ops vals fs a).tmps[t]? = a.tmps[t]?)
  | [], a, t, _ => .inr ⟨by simp, rfl⟩
  | i :: is, a, t, ht => by
    rcases fill_get is (a.put (dstOf ops i) (vals.getD i undef)) t (by rw [put_size]; exact ht) with ⟨j, hj, h1, h2⟩ | ⟨h1, h2⟩
    · exact .inl ⟨j, by simp [hj], h1, h2⟩
    · by_cases hd : dstOf ops i = some t
      · left
        refine ⟨i, by simp, hd, ?_⟩
        rw [fill, h2, hd, put_at _ _ _ ht]
      · right
        refine ⟨fun j hj => ?_, ?_⟩
        · rcases List.mem_cons.1 hj with rfl | hj
          · exact hd
          · exact h1 j hj
        · rw [fill, h2, put_ne _ _ _ _ hd]
theorem act_ext {a b : Act} (hs : a.tmps.size = b.tmps.size) (hd : a.defers = b.defers) (h : ∀ t, t < a.tmps.size → a.tmps[t]? = b.tmps[t]?) : a = b := by
  have h1 : a.tmps = b.tmps := by
    apply Array.ext_getElem?
    intro t
    by_cases ht : t < a.tmps.size
    · exact h t ht
    · rw [Array.getElem?_eq_none (by omega), Array.getElem?_eq_none (by omega)]
  cases a; cases b; simp only at h1 hd; subst h1 hd; rfl
def Unlike (ops : Array Oper) : Prop := ∀ i j d, dstOf ops i = some d → dstOf ops j = some d → i = j
theorem unlike_of {n : Nat} (hF : Flows ops n) : Unlike ops := fun i j d hi hj => by
  obtain ⟨oi, h1, h2⟩ := dstOf_some hi
  obtain ⟨oj, h3, h4⟩ := dstOf_some hj
  exact hF.unlike j oj d h3 h4 i oi h1 h2
theorem fill_ext (hu : Unlike ops) (fs : List Nat) {a b : Act} (hs : a.tmps.size = b.tmps.size) (hd : a.defers = b.defers) (h : ∀ t, (∀ i ∈ fs, dstOf ops i ≠ some t) → a.tmps[t]? = b.tmps[t]?) : fill ops vals fs a = fill ops vals fs b := by
  refine act_ext (by rw [fill_size, fill_size, hs]) (by rw [fill_defers, fill_defers, hd]) fun t ht => ?_
  rw [fill_size] at ht
  rcases fill_get (ops := ops) (vals := vals) fs a t ht with ⟨i, hi, h1, h2⟩ | ⟨h1, h2⟩
  · rcases fill_get (ops := ops) (vals := vals) fs b t (hs ▸ ht) with ⟨j, hj, h3, h4⟩ | ⟨h3, h4⟩
    · rw [h2, h4, hu i j t h1 h3]
    · exact absurd h1 (h3 i hi)
  · rcases fill_get (ops := ops) (vals := vals) fs b t (hs ▸ ht) with ⟨j, hj, h3, h4⟩ | ⟨h3, h4⟩
    · exact absurd h3 (h1 j hj)
    · rw [h2, h4]; exact h t h1
theorem fill_put (hu : Unlike ops) (fs : List Nat) (a : Act) (d : Option Tmp) (v : Value) (hne : ∀ i ∈ fs, ∀ t, dstOf ops i = some t → d ≠ some t) : fill ops vals fs (a.put d v) = (fill ops vals fs a).put d v := by
  refine act_ext (by rw [fill_size, put_size, put_size, fill_size]) (by rw [fill_defers, put_defers, put_defers, fill_defers]) fun t ht => ?_
  rw [fill_size, put_size] at ht
  rcases fill_get (ops := ops) (vals := vals) fs (a.put d v) t (by rw [put_size]; exact ht) with ⟨i, hi, h1, h2⟩ | ⟨h1, h2⟩
  · rw [put_ne _ _ _ _ (hne i hi t h1)]
    rcases fill_get (ops := ops) (vals := vals) fs a t ht with ⟨j, hj, h3, h4⟩ | ⟨h3, h4⟩
    · rw [h2, h4, hu i j t h1 h3]
    · exact absurd h1 (h3 i hi)
  · rw [h2]
    by_cases hd : d = some t
    · subst hd
      rw [put_at _ _ _ ht, put_at _ _ _ (by rw [fill_size]; exact ht)]
    · rw [put_ne _ _ _ _ hd, put_ne _ _ _ _ hd]
      rcases fill_get (ops := ops) (vals := vals) fs a t ht with ⟨j, hj, h3, h4⟩ | ⟨h3, h4⟩
      · exact absurd h3 (h1 j hj)
      · exact h4.symm
/-- an operation of the tail in the frame as it is, out of the same in the frame that is filled -/
theorem wp_over {o : Oper} {a b : Act} {w : World} {Ka Kb : Act → World → Prop} {Q : Exit → Act → World → Prop} (he : execOp a.eval o = execOp b.eval o) (hd : a.defers = b.defers)
    (hK : ∀ ds v w', Kb (Act.put { b with defers := ds } o.dst v) w' → Ka (Act.put { a with defers := ds } o.dst v) w') (h : o.wp P b w Kb (NormQ Q)) : o.wp P a w Ka Q := by
  have hK' : ∀ v w', Kb (b.put o.dst v) w' → Ka (a.put o.dst v) w' := fun v w' h => by
    have := hK a.defers v w'
    simp only [hd] at this
    have e : (⟨a.tmps, b.defers⟩ : Act) = a := by rw [← hd]
    rw [e] at this
    exact this h
  unfold Oper.wp at *
  rw [he]
  generalize (execOp b.eval o).run P w = r at *
  cases r with
  | ok n w' =>
    cases n <;> simp only [Oper.upon] at h ⊢ <;>
      first
        | exact hK' _ _ h
        | (rw [hd]; exact hK _ _ _ h)
        | exact Calls.mono h fun e w'' he => by cases e <;> first | exact hK' _ _ he | exact False.elim he | exact absurd he (normQ_out Q)
        | exact Rows.mono h fun _ _ he => hK' _ _ he
  | halt x w' => cases x <;> simp only [Oper.upon] at h ⊢ <;> exact False.elim h
def tailB (ops : Array Oper) (n : Nat) (fs : List Nat) : Bool :=
  decide (n < ops.size) && (fs.all fun i => decide (i < n) && match ops[i]? with | some o => o.guard.isNone | none => false) &&
  (List.range ops.size).all fun k => decide (k < n) || match ops[k]? with
    | none => false
    | some o => o.guard.isNone && if k = n then (List.range n).all fun i => fs.contains i || o.after.any fun e => Region.binds .any e && e.on == i else o.after.any fun e => Region.binds .any e && e.on == k - 1
structure Tails (ops : Array Oper) (n : Nat) (fs : List Nat) : Prop where
  size : n < ops.size
  free : ∀ i ∈ fs, i < n ∧ ∀ o, ops[i]? = some o → o.guard = none
  plain : ∀ k o, n ≤ k → ops[k]? = some o → o.guard = none
  first : ∀ o, ops[n]? = some o → ∀ i, i < n → i ∉ fs → ∃ e ∈ o.after, Region.binds .any e = true ∧ e.on = i
  next : ∀ k o, n < k → ops[k]? = some o → ∃ e ∈ o.after, Region.binds .any e = true ∧ e.on = k - 1
theorem tails_of {n : Nat} {fs : List Nat} (h : tailB ops n fs = true) : Tails ops n fs := by
  simp only [tailB, Bool.and_eq_true, decide_eq_true_eq, List.all_eq_true, List.mem_range, Bool.or_eq_true] at h
  obtain ⟨⟨h1, h2⟩, h3⟩ := h
  have key : ∀ k o, n ≤ k → ops[k]? = some o → o.guard.isNone = true ∧ (if k = n then (List.range n).all (fun i => fs.contains i || o.after.any fun e => Region.binds .any e && e.on == i) else o.after.any fun e => Region.binds .any e && e.on == k - 1) = true := fun k o hk ho => by
    rcases h3 k (Array.getElem?_eq_some_iff.1 ho).1 with h | h
    · omega
    · rw [ho] at h; simpa only [Bool.and_eq_true] using h
  have any_of : ∀ (o : Oper) (i : Nat), (o.after.any fun e => Region.binds .any e && e.on == i) = true → ∃ e ∈ o.after, Region.binds .any e = true ∧ e.on = i := fun o i h => by
    obtain ⟨e, he, h3⟩ := Array.any_eq_true'.1 h
    simp only [Bool.and_eq_true, beq_iff_eq] at h3
    exact ⟨e, he, h3.1, h3.2⟩
  refine ⟨h1, fun i hi => ⟨(h2 i hi).1, fun o ho => ?_⟩, fun k o hk ho => ?_, fun o ho i hi hf => ?_, fun k o hk ho => ?_⟩
  · have := (h2 i hi).2
    rw [ho] at this
    simpa using this
  · simpa using (key k o hk ho).1
  · have := (key n o (Nat.le_refl _) ho).2
    rw [if_pos rfl] at this
    have := List.all_eq_true.1 this i (List.mem_range.2 hi)
    simp only [Bool.or_eq_true] at this
    rcases this with h | h
    · exact absurd (by simpa using h) hf
    · exact any_of o i h
  · have := (key k o (by omega) ho).2
    rw [if_neg (by omega)] at this
    exact any_of o _ this
/-- what is owed of a free operation: one value, in whatever memory -/
def FreeOk (P : Program) (ops : Array Oper) (spec : Spec) (vals : List Value) (a0 : Act) (i : Nat) : Prop :=
  ∀ o, ops[i]? = some o → newsOf ops spec o = [] ∧ spec.getD i none = none ∧ ∀ w, (execOp (putAll ops.toList vals a0).eval o).run P w = .ok (.value (vals.getD i undef)) w
/-- on its way in the tail -/
structure InTail (P : Program) (ops : Array Oper) (spec : Spec) (vals : List Value) (fs : List Nat) (n : Nat) (a0 : Act) (Q : Exit → Act → World → Prop) (k : Nat) (listed : Array Bool) (a : Act) (w : World) : Prop where
  at1 : n ≤ k
  at2 : k ≤ ops.size
  done : ∀ j, n ≤ j → j < k → listed.getD j false = true
  left : ∀ j, k ≤ j → j < ops.size → listed.getD j false = false
  heads : ∀ j, j < n → j ∉ fs → listed.getD j false = true
  size : a.tmps.size = a0.tmps.size
  same : ∀ t, (∀ (j : Nat) (oj : Oper), ops[j]? = some oj → oj.dst ≠ some t) → a.tmps[t]? = a0.tmps[t]?
  held : ∀ (j : Nat) (d : Tmp), j < n → spec.getD j none = none → dstOf ops j = some d → listed.getD j false = true → a.tmps.getD d undef = vals.getD j undef
  cont : wpList P ops (NormQ Q) (ops.toList.drop k) (fill ops vals fs a) w
theorem free_runs {spec : Spec} {a0 a : Act} {n : Nat} {listed : Array Bool} (hF : Flows ops a0.tmps.size) (hlen : ops.size = vals.length) (hns : Region.noSelect ops = true) (hfree : FreeOk P ops spec vals a0 n) {o : Oper} (ho : ops[n]? = some o)
    (hsame : ∀ t, (∀ (j : Nat) (oj : Oper), ops[j]? = some oj → oj.dst ≠ some t) → a.tmps[t]? = a0.tmps[t]?)
    (hheld : ∀ (j : Nat) (d : Tmp), j < n → spec.getD j none = none → dstOf ops j = some d → listed.getD j false = true → a.tmps.getD d undef = vals.getD j undef)
    (hall : ∀ e ∈ o.after, Region.binds .any e = true → listed.getD e.on false = true) (w : World) : (execOp a.eval o).run P w = .ok (.value (vals.getD n undef)) w := by
  obtain ⟨hn, _, hr⟩ := hfree o ho
  have heq : ∀ t ∈ o.looksAt ops, a.tmps[t]?.getD undef = (putAll ops.toList vals a0).tmps[t]?.getD undef := fun t ht => by
    refine look_same (spec := spec) (w := w) hF hlen (fun t ht => by rw [Array.getD_eq_getD_getElem?, Array.getD_eq_getD_getElem?, hsame t ht]) (fun t ht j oj hj hjd => ?_) t ht (fun j oj hj hjd => newsOf_nil hn t ht j oj hj hjd)
    have hsp := newsOf_nil hn t ht j oj hj hjd
    obtain ⟨e, he, hb, hon⟩ := hF.looks n o ho t ht j oj hj hjd
    have hlt := hF.back n o ho e he hb
    unfold known
    rw [hsp]
    exact hheld j t (by omega) hsp (by rw [dstOf_eq hj]; exact hjd) (by rw [← hon]; exact hall e he hb)
  rw [same_op (Region.noSelect_spec hns n o · · ho) heq]
  exact hr w
theorem in_tail {spec : Spec} {fs : List Nat} {n : Nat} {a0 : Act} {Q : Exit → Act → World → Prop} (hF : Flows ops a0.tmps.size) (hT : Tails ops n fs) (hlen : ops.size = vals.length) (hns : Region.noSelect ops = true)
    (hfree : ∀ i ∈ fs, FreeOk P ops spec vals a0 i) : ∀ (fuel : Nat) (k : Nat) (listed : Array Bool) (a : Act) (w : World), listed.size = ops.size → unlisted ops listed ≤ fuel → InTail P ops spec vals fs n a0 Q k listed a w → wpAny P .any ops Q fuel listed a w := by
  have hu := unlike_of hF
  have fin : ∀ (k : Nat) (listed : Array Bool) (a : Act) (w : World), (∀ i, i < ops.size → listed.getD i false = true) → InTail P ops spec vals fs n a0 Q k listed a w → Q .normal a w := fun k listed a w hall h => by
    have hk : k = ops.size := by
      by_cases hk : k < ops.size
      · have h1 := h.left k (Nat.le_refl _) hk
        rw [hall k hk] at h1
        cases h1
      · have := h.at2; omega
    have hc := h.cont
    rw [hk, List.drop_eq_nil_of_le (by simp)] at hc
    have e : fill ops vals fs a = a := by
      refine act_ext (fill_size fs a) (fill_defers fs a) fun t ht => ?_
      rw [fill_size] at ht
      rcases fill_get (ops := ops) (vals := vals) fs a t ht with ⟨i, hi, h1, h2⟩ | ⟨_, h2⟩
      · rw [h2]
        obtain ⟨o, ho, _⟩ := dstOf_some h1
        have hn := (hT.free i hi).1
        have := h.held i t hn (hfree i hi o ho).2.1 h1 (hall i (Array.getElem?_eq_some_iff.1 ho).1)
        rw [Array.getD_eq_getD_getElem?, Array.getElem?_eq_getElem ht] at this
        rw [Array.getElem?_eq_getElem ht]
        simp only [Option.getD_some] at this
        rw [this]
      · exact h2
    rw [e] at hc
    exact hc
  intro fuel
  induction fuel with
  | zero =>
    intro k listed a w hs hu0 h
    have hall := unlisted_zero (ops := ops) hs (by omega)
    refine ⟨?_, fin k listed a w hall h⟩
    rcases hr : Region.ready .any ops listed with _ | ⟨x, xs⟩
    · rfl
    · have hm : x ∈ Region.ready .any ops listed := by rw [hr]; simp
      obtain ⟨h1, o, ho, _⟩ := mem_ready.1 hm
      have h2 := hall x (Array.getElem?_eq_some_iff.1 ho).1
      rw [Array.getD_eq_getD_getElem?, Array.getElem?_eq_getElem (by have := (Array.getElem?_eq_some_iff.1 ho).1; omega)] at h1 h2
      simp only [Option.getD_some] at h1 h2
      rw [h1] at h2
      cases h2
  | succ fuel ih =>
    intro k listed a w hs hu0 h
    refine ⟨fun h0 => fin k listed a w (ready_nil hF hs h0) h, fun i hi => ?_⟩
    obtain ⟨hl, o, ho, hall⟩ := mem_ready.1 hi
    have hilt := (Array.getElem?_eq_some_iff.1 ho).1
    have hl' : listed.getD i false = false := by
      rw [Array.getD_eq_getD_getElem?, Array.getElem?_eq_getElem (by omega)] at hl ⊢
      simpa using hl
    have hu' : unlisted ops (listed.setIfInBounds i true) ≤ fuel := by
      have := unlisted_step (ops := ops) hs i hilt hl
      omega
    have hset : (listed.setIfInBounds i true).getD i false = true := by
      rw [Array.getD_eq_getD_getElem?, Array.getElem?_setIfInBounds_self_of_lt (by omega)]; rfl
    unfold wpOp
    simp only [ho]
    by_cases hin : i < n
    · have hif : i ∈ fs := by
        by_cases hif : i ∈ fs
        · exact hif
        · rw [h.heads i hin hif] at hl'; cases hl'
      have hg := (hT.free i hif).2 o ho
      rw [if_pos (by simp [Region.wanted, hg])]
      left
      have hr := free_runs hF hlen hns (hfree i hif) ho h.same (fun j d hj => h.held j d (by omega)) hall w
      unfold Oper.wp
      rw [hr]
      show wpAny P .any ops Q fuel (listed.setIfInBounds i true) (a.put o.dst (vals.getD i undef)) w
      refine ih k _ _ _ (by simpa using hs) hu' ⟨h.at1, h.at2, fun j h1 h2 => getD_set_true (h.done j h1 h2), fun j h1 h2 => ?_, fun j h1 h2 => getD_set_true (h.heads j h1 h2), by rw [put_size]; exact h.size, fun t ht => ?_, fun j d hj hsp hd hlj => ?_, ?_⟩
      · rw [getD_set_ne false (by have := h.at1; omega)]; exact h.left j h1 h2
      · rw [put_ne _ _ _ _ (ht i o ho)]; exact h.same t ht
      · by_cases hji : j = i
        · subst hji
          have hod : o.dst = some d := by rw [← dstOf_eq ho]; exact hd
          rw [Array.getD_eq_getD_getElem?, hod, put_at _ _ _ (by rw [h.size]; exact hF.room j o d ho hod)]; rfl
        · rw [getD_set_ne false (fun e => hji e.symm)] at hlj
          have hne : o.dst ≠ some d := fun e => hji (hu j i d hd (by rw [dstOf_eq ho]; exact e))
          rw [Array.getD_eq_getD_getElem?, put_ne _ _ _ _ hne, ← Array.getD_eq_getD_getElem?]
          exact h.held j d hj hsp hd hlj
      · have e : fill ops vals fs (a.put o.dst (vals.getD i undef)) = fill ops vals fs a := by
          refine fill_ext hu fs (put_size _ _ _) (put_defers _ _ _) fun t ht => ?_
          refine put_ne _ _ _ _ ?_
          rw [← dstOf_eq ho]
          exact ht i hif
        rw [e]; exact h.cont
    · have hik : i = k := by
        by_cases h1 : i < k
        · rw [h.done i (by omega) h1] at hl'; cases hl'
        · by_cases h2 : i = k
          · exact h2
          · exfalso
            obtain ⟨e, he, hb, hon⟩ := hT.next i o (by have := h.at1; omega) ho
            have h3 := hall e he hb
            rw [hon, h.left (i - 1) (by omega) (by omega)] at h3
            cases h3
      subst hik
      have hg := hT.plain i o (by omega) ho
      rw [if_pos (by simp [Region.wanted, hg])]
      left
      have hc := h.cont
      rw [List.drop_eq_getElem_cons (by simpa using hilt)] at hc
      have hoe : ops.toList[i]'(by simpa using hilt) = o := by
        rw [Array.getElem?_eq_getElem hilt] at ho
        simpa using ho
      rw [hoe] at hc
      unfold wpList at hc
      rw [if_pos (by simp [Region.wanted, hg])] at hc
      rcases hc with hc | ⟨_, hc⟩
      · have hfd : ∀ j ∈ fs, ∀ t, dstOf ops j = some t → o.dst ≠ some t := fun j hj t h1 h2 => by
          have := hu j i t h1 (by rw [dstOf_eq ho]; exact h2)
          have := (hT.free j hj).1
          omega
        refine wp_over (b := fill ops vals fs a) ?_ (fill_defers fs a).symm (fun ds v w' hk => ?_) hc
        · refine same_op (ops := ops) (Region.noSelect_spec hns i o · · ho) fun t ht => ?_
          by_cases htl : t < a.tmps.size
          · rcases fill_get (ops := ops) (vals := vals) fs a t htl with ⟨j, hj, h1, h2⟩ | ⟨_, h2⟩
            · rw [h2]
              obtain ⟨oj, hoj, hjd⟩ := dstOf_some h1
              obtain ⟨e, he, hb, hon⟩ := hF.looks i o ho t ht j oj hoj hjd
              have := h.held j t (hT.free j hj).1 (hfree j hj oj hoj).2.1 h1 (by rw [← hon]; exact hall e he hb)
              rw [Array.getD_eq_getD_getElem?] at this
              rw [this]; rfl
            · rw [h2]
          · rw [Array.getElem?_eq_none (Nat.not_lt.1 htl), Array.getElem?_eq_none (by rw [fill_size]; exact Nat.not_lt.1 htl)]
        · refine ih (i + 1) _ _ _ (by simpa using hs) hu' ⟨by have := h.at1; omega, by omega, fun j h1 h2 => ?_, fun j h1 h2 => ?_, fun j h1 h2 => getD_set_true (h.heads j h1 h2), by rw [put_size]; exact h.size, fun t ht => ?_, fun j d hj hsp hd hlj => ?_, ?_⟩
          · by_cases hji : j = i
            · subst hji; exact hset
            · exact getD_set_true (h.done j h1 (by omega))
          · rw [getD_set_ne false (by omega)]; exact h.left j (by omega) h2
          · rw [put_ne _ _ _ _ (ht i o ho)]; exact h.same t ht
          · rw [getD_set_ne false (by omega)] at hlj
            have hne : o.dst ≠ some d := fun e => by have := hu j i d hd (by rw [dstOf_eq ho]; exact e); omega
            rw [Array.getD_eq_getD_getElem?, put_ne _ _ _ _ hne, ← Array.getD_eq_getD_getElem?]
            exact h.held j d hj hsp hd hlj
          · rw [fill_put hu fs _ _ _ hfd]
            have e : fill ops vals fs { a with defers := ds } = { fill ops vals fs a with defers := ds } := by
              refine act_ext (by simp only [fill_size]) (by simp only [fill_defers]) fun t ht => ?_
              rw [fill_size] at ht
              simp only at ht
              rcases fill_get (ops := ops) (vals := vals) fs { a with defers := ds } t ht with ⟨j, hj, h1, h2⟩ | ⟨h1, h2⟩
              · rcases fill_get (ops := ops) (vals := vals) fs a t ht with ⟨j', hj', h3, h4⟩ | ⟨h3, h4⟩
                · rw [h2]; simp only [h4]; rw [hu j j' t h1 h3]
                · exact absurd h1 (h3 j hj)
              · rcases fill_get (ops := ops) (vals := vals) fs a t ht with ⟨j', hj', h3, h4⟩ | ⟨h3, h4⟩
                · exact absurd h3 (h1 j' hj')
                · rw [h2]; simp only [h4]
            rw [e]; exact hk
      · exact absurd hc (normQ_out Q)
/-- on its way ahead of the tail -/
structure InHead (ops : Array Oper) (spec : Spec) (vals : List Value) (n : Nat) (a0 : Act) (w0 : World) (listed : Array Bool) (a : Act) (w : World) : Prop where
  below : Below w0.heap.size w0 w
  left : ∀ j, n ≤ j → j < ops.size → listed.getD j false = false
  size : a.tmps.size = a0.tmps.size
  defers : a.defers = a0.defers
  same : ∀ t, (∀ (j : Nat) (oj : Oper), j < n → ops[j]? = some oj → oj.dst ≠ some t) → a.tmps[t]? = a0.tmps[t]?
  held : ∀ (j : Nat) (d : Tmp), dstOf ops j = some d → listed.getD j false = true → known spec vals j (a.tmps.getD d undef) w
theorem known_take {spec : Spec} {vals : List Value} {n j : Nat} {v : Value} {w : World} (h : j < n) : known (spec.take n) (vals.take n) j v w = known spec vals j v w := by
  unfold known
  have e1 : (spec.take n).getD j none = spec.getD j none := by simp [List.getD, h]
  have e2 : (vals.take n).getD j undef = vals.getD j undef := by simp [List.getD, h]
  rw [e1, e2]
theorem in_head {l : List Oper} {spec : Spec} {fs : List Nat} {n : Nat} {a0 : Act} {w0 : World} {Q : Exit → Act → World → Prop} (hF : Flows l.toArray a0.tmps.size) (hFh : Flows (l.take n).toArray a0.tmps.size) (hT : Tails l.toArray n fs) (hlen : l.toArray.size = vals.length) (hns : Region.noSelect l.toArray = true)
    (hbare : bareB (l.take n) (spec.take n) = true)
    (hst : ∀ j v w w', known spec vals j v w → Below w.heap.size w w' → known spec vals j v w')
    (hfree : ∀ i ∈ fs, FreeOk P l.toArray spec vals a0 i) (hobl : ∀ (i : Nat) (o : Oper), i < n → i ∉ fs → l.toArray[i]? = some o → Obl P l.toArray (known spec vals) a0 w0 i o)
    (hQ : ∀ w, Below w0.heap.size w0 w → each (spec.take n) (vals.take n) w (fun vs => wpList P l.toArray (NormQ Q) (l.drop n) (putAll (l.take n) vs a0) w)) :
    ∀ (fuel : Nat) (listed : Array Bool) (a : Act) (w : World), listed.size = l.toArray.size → unlisted l.toArray listed ≤ fuel → InHead l.toArray spec vals n a0 w0 listed a w → wpAny P .any l.toArray Q fuel listed a w := by
  have hu := unlike_of hF
  have hnl : n < l.length := by simpa using hT.size
  have go : ∀ (fuel : Nat) (listed : Array Bool) (a : Act) (w : World), listed.size = l.toArray.size → unlisted l.toArray listed ≤ fuel → InHead l.toArray spec vals n a0 w0 listed a w → (∀ j, j < n → j ∉ fs → listed.getD j false = true) → wpAny P .any l.toArray Q fuel listed a w := fun fuel listed a w hs hu0 h hall => by
    refine in_tail hF hT hlen hns hfree fuel n listed a w hs hu0 ⟨Nat.le_refl _, by simp; omega, fun j h1 h2 => by omega, h.left, hall, h.size, fun t ht => h.same t fun j oj _ hj => ht j oj hj, fun j d hj hsp hd hl => ?_, ?_⟩
    · have := h.held j d hd hl
      unfold known at this
      rw [hsp] at this
      exact this
    · refine all_known (l := l.take n) (spec := spec.take n) (vals := vals.take n) (a0 := a0) (a := fill l.toArray vals fs a) (w := w) (K := fun b => wpList P l.toArray (NormQ Q) (l.toArray.toList.drop n) b w) hFh ?_ hbare (by rw [fill_size]; exact h.size) (by rw [fill_defers]; exact h.defers) (fun t ht => ?_) (fun j oj d hj hd => ?_) (hQ w h.below)
      · have : l.length = vals.length := by simpa using hlen
        simp [this]
      · by_cases htl : t < a.tmps.size
        · rcases fill_get (ops := l.toArray) (vals := vals) fs a t htl with ⟨i, hi, h1, _⟩ | ⟨_, h2⟩
          · obtain ⟨o, ho, hod⟩ := dstOf_some h1
            exfalso
            refine ht i o ?_ hod
            have := (hT.free i hi).1
            simp only [List.getElem?_toArray] at ho ⊢
            rw [List.getElem?_take, if_pos this]; exact ho
          · rw [h2]
            refine h.same t fun j oj hj1 hj => ht j oj ?_
            simp only [List.getElem?_toArray] at hj ⊢
            rw [List.getElem?_take, if_pos hj1]; exact hj
        · rw [Array.getElem?_eq_none (by rw [fill_size]; exact Nat.not_lt.1 htl), Array.getElem?_eq_none (by rw [← h.size]; exact Nat.not_lt.1 htl)]
      · have hjn : j < n := by
          have := (Array.getElem?_eq_some_iff.1 hj).1
          simp at this; omega
        have hj' : l.toArray[j]? = some oj := by
          simp only [List.getElem?_toArray] at hj ⊢
          rw [List.getElem?_take, if_pos hjn] at hj; exact hj
        have hdj : dstOf l.toArray j = some d := by rw [dstOf_eq hj']; exact hd
        have hda : d < a.tmps.size := by rw [h.size]; exact hF.room j oj d hj' hd
        rw [known_take hjn]
        rcases fill_get (ops := l.toArray) (vals := vals) fs a d hda with ⟨i, hi, h1, h2⟩ | ⟨h1, h2⟩
        · have e := hu i j d h1 hdj
          subst e
          rw [Array.getD_eq_getD_getElem?, h2]
          unfold known
          rw [(hfree i hi oj hj').2.1]; rfl
        · rw [Array.getD_eq_getD_getElem?, h2, ← Array.getD_eq_getD_getElem?]
          exact h.held j d hdj (hall j hjn fun hf => h1 j hf hdj)
  intro fuel
  induction fuel with
  | zero =>
    intro listed a w hs hu0 h
    have hall := unlisted_zero (ops := l.toArray) hs (by omega)
    exact go 0 listed a w hs hu0 h fun j hj _ => hall j (by simp; omega)
  | succ fuel ih =>
    intro listed a w hs hu0 h
    by_cases hall : ∀ j, j < n → j ∉ fs → listed.getD j false = true
    · exact go _ listed a w hs hu0 h hall
    refine ⟨fun h0 => absurd (fun j hj _ => ready_nil hF hs h0 j (by simp; omega)) hall, fun i hi => ?_⟩
    obtain ⟨hl, o, ho, hafter⟩ := mem_ready.1 hi
    have hilt := (Array.getElem?_eq_some_iff.1 ho).1
    have hu' : unlisted l.toArray (listed.setIfInBounds i true) ≤ fuel := by
      have := unlisted_step (ops := l.toArray) hs i hilt hl
      omega
    have hin : i < n := by
      by_cases hin : i < n
      · exact hin
      · exfalso
        by_cases h1 : i = n
        · subst h1
          refine hall fun j hj hjf => ?_
          obtain ⟨e, he, hb, hon⟩ := hT.first o ho j hj hjf
          rw [← hon]; exact hafter e he hb
        · obtain ⟨e, he, hb, hon⟩ := hT.next i o (by omega) ho
          have h3 := hafter e he hb
          rw [hon, h.left (i - 1) (by omega) (by omega)] at h3
          cases h3
    have next : ∀ v w', Below w.heap.size w w' → known spec vals i v w' → wpAny P .any l.toArray Q fuel (listed.setIfInBounds i true) (a.put o.dst v) w' := fun v w' hb hv => by
      refine ih _ _ _ (by simpa using hs) hu' ⟨below_next h.below hb, fun j h1 h2 => ?_, by rw [put_size]; exact h.size, by rw [put_defers]; exact h.defers, fun t ht => ?_, fun j d hd hlj => ?_⟩
      · rw [getD_set_ne false (by omega)]; exact h.left j h1 h2
      · rw [put_ne _ _ _ _ (ht i o hin ho)]; exact h.same t ht
      · by_cases hji : j = i
        · subst hji
          have hod : o.dst = some d := by rw [← dstOf_eq ho]; exact hd
          rw [Array.getD_eq_getD_getElem?, hod, put_at _ _ _ (by rw [h.size]; exact hF.room j o d ho hod)]
          exact hv
        · rw [getD_set_ne false (fun e => hji e.symm)] at hlj
          have hne : o.dst ≠ some d := fun e => hji (hu j i d hd (by rw [dstOf_eq ho]; exact e))
          rw [Array.getD_eq_getD_getElem?, put_ne _ _ _ _ hne, ← Array.getD_eq_getD_getElem?]
          exact hst j _ w w' (h.held j d hd hlj) hb
    unfold wpOp
    simp only [ho]
    by_cases hif : i ∈ fs
    · rw [if_pos (by simp [Region.wanted, (hT.free i hif).2 o ho])]
      left
      have hr := free_runs (listed := listed) (a := a) hF hlen hns (hfree i hif) ho (fun t ht => h.same t fun j oj _ hj => ht j oj hj) (fun j d hj hsp hd hlj => by
        have := h.held j d hd hlj
        unfold known at this
        rw [hsp] at this
        exact this) hafter w
      unfold Oper.wp
      rw [hr]
      refine next _ _ (Below.refl _ _) ?_
      unfold known
      rw [(hfree i hif o ho).2.1]
    · have hob := hobl i o hin hif ho a w h.below (fun t ht => by
        rw [Array.getD_eq_getD_getElem?, Array.getD_eq_getD_getElem?, h.same t fun j oj _ hj => ht j oj hj]) (fun t ht j oj hj hd => by
        obtain ⟨e, he, hb, hon⟩ := hF.looks i o ho t ht j oj hj hd
        exact h.held j t (by rw [dstOf_eq hj]; exact hd) (by rw [← hon]; exact hafter e he hb))
      split
      · next hw =>
        rw [if_pos hw] at hob
        exact .inl (wp_of_grows hob next)
      · next hw =>
        rw [if_neg hw] at hob
        exact next undef w (Below.refl _ _) hob
def oblAllT (P : Program) (ops : Array Oper) (spec : Spec) (vals : List Value) (a0 : Act) (w0 : World) (fs : List Nat) : List Oper → Nat → Prop
  | [], _ => True
  | o :: l, i => (ops[i]? = some o → if i ∈ fs then FreeOk P ops spec vals a0 i else Obl P ops (known spec vals) a0 w0 i o) ∧ oblAllT P ops spec vals a0 w0 fs l (i + 1)
theorem oblAllT_use {spec : Spec} {a0 : Act} {w0 : World} {fs : List Nat} : ∀ (l : List Oper) (k : Nat), oblAllT P ops spec vals a0 w0 fs l k → ∀ (i : Nat) (o : Oper), l[i]? = some o → (ops[k + i]? = some o → if k + i ∈ fs then FreeOk P ops spec vals a0 (k + i) else Obl P ops (known spec vals) a0 w0 (k + i) o)
  | [], _, _, i, o, h => by simp at h
  | x :: l, k, ha, 0, o, h => by
    obtain rfl : x = o := by simpa using h
    exact ha.1
  | x :: l, k, ha, i + 1, o, h => by
    have := oblAllT_use l (k + 1) ha.2 i o (by simpa using h)
    rwa [show k + 1 + i = k + (i + 1) by omega] at this
theorem free_det {spec : Spec} {a0 : Act} {i : Nat} {o : Oper} (ho : ops[i]? = some o) (hn : newsOf ops spec o = []) (hs : spec.getD i none = none) (h : ∀ w, (execOp (putAll ops.toList vals a0).eval o).run P w = .ok (.value (vals.getD i undef)) w) : FreeOk P ops spec vals a0 i := fun o' ho' => by
  rw [ho] at ho'
  obtain rfl : o = o' := by simpa using ho'
  exact ⟨hn, hs, h⟩
/-- THE LAW, with a tail -/
theorem wp_region_tail {id : Nat} {l : List Oper} {spec : Spec} {a0 : Act} {w0 : World} {Q : Exit → Act → World → Prop} (n : Nat) (fs : List Nat) (hm : P.follows .mixedOrders = true) (hB : flowB l.toArray a0.tmps.size = true) (hBh : flowB (l.take n).toArray a0.tmps.size = true)
    (hTb : tailB l.toArray n fs = true) (hns : Region.noSelect l.toArray = true) (hlen : l.length = vals.length) (hbare : bareB (l.take n) (spec.take n) = true) (hst : stableS spec)
    (hobl : Flows l.toArray a0.tmps.size → oblAllT P l.toArray spec vals a0 w0 fs (l.take n) 0)
    (hQ : ∀ w, Below w0.heap.size w0 w → each (spec.take n) (vals.take n) w (fun vs => wpList P l.toArray (NormQ Q) (l.drop n) (putAll (l.take n) vs a0) w)) : (Code.region id l.toArray true).wp P Q a0 w0 := by
  have hF := flows_of hB
  have hT := tails_of hTb
  have hob := oblAllT_use (P := P) (ops := l.toArray) (l.take n) 0 (hobl hF)
  refine wp_region_any hm (in_head (P := P) (l := l) (spec := spec) (vals := vals) (fs := fs) (n := n) (a0 := a0) (w0 := w0) hF (flows_of hBh) hT (by simpa using hlen) hns hbare ?_ (fun i hi => ?_) (fun i o hi hif ho => ?_) hQ _ _ _ _ (by simp) ?_ ?_)
  · intro j v w w' hk hb
    unfold known at *
    cases hs : spec.getD j none with
    | none => rw [hs] at hk; exact hk
    | some S => rw [hs] at hk; exact stable_use spec hst j S hs v w w' hk hb
  · have hin := (hT.free i hi).1
    have hsz : i < l.length := by have := hT.size; simp at this; omega
    have := hob i l[i] (by rw [List.getElem?_take, if_pos hin]; exact List.getElem?_eq_getElem hsz) (by simp [hsz])
    rw [Nat.zero_add, if_pos hi] at this
    exact this
  · have := hob i o (by rw [List.getElem?_take, if_pos hi]; simpa using ho) (by rw [Nat.zero_add]; exact ho)
    rw [Nat.zero_add, if_neg hif] at this
    exact this
  · unfold unlisted
    exact Nat.le_trans List.countP_le_length (by simp)
  · refine ⟨⟨rfl, rfl, rfl, Nat.le_refl _, fun _ _ => rfl⟩, fun j h1 h2 => ?_, rfl, rfl, fun _ _ => rfl, fun j d hd hl => ?_⟩
    · simp at h2; simp [h2]
    · obtain ⟨o, ho, _⟩ := dstOf_some hd
      have hj' := (Array.getElem?_eq_some_iff.1 ho).1
      simp at hj'
      simp [hj'] at hl
end
end Go.Proofs.Ytncooadaeifekaa

/- Helpers for the rows: integers and slices of bytes that come in, opened for the walks. No condition but what each states. -/
namespace Go.Proofs.Ytncooadaeifekaa
open Go.ChangeShapes Go.WideShapes Go.ChangeAt Go.RowKit
theorem own : ownKnob Try.prog.godebug = none := by kernel_rfl
theorem laidOut : laidOutB Try.prog = true := by kernel_rfl
theorem nat_u8 {n : Int} (h : (Lit.int .u8 n).wf = true) : ∃ k : Nat, n = k ∧ k < 256 := by
  obtain ⟨h1, h2⟩ := bounds_u8 h
  exact ⟨n.toNat, by omega, by omega⟩
theorem nat_u32 {n : Int} (h : (Lit.int .u32 n).wf = true) : ∃ k : Nat, n = k ∧ k < 4294967296 := by
  obtain ⟨h1, h2⟩ := bounds_u32 h
  exact ⟨n.toNat, by omega, by omega⟩
/-- a slice of bytes that came in -/
theorem open_bytes {H : Type} {enc : TypeId × Value → H} {P : Program} {W : World} {base : Nat} {d : DataW H} {p : List MemPlace} {t e : TypeId} {v : Value}
    (ht : P.underlying t = some (.slice e)) (he : P.underlying e = some (.int .u8)) (hc : P.cellsOf e = 1) (hv : Value.okWide P W .any base t v) (h : DataW.Trod enc P W 0 (fun _ => true) true t v d p) :
    ∃ (a : Option Addr) (l : List Nat) (cap : Nat), v = .slice a l.length cap ∧ l.length ≤ 9223372036854775807 ∧ HasB W a l := by
  obtain ⟨a, len, cap, rfl⟩ := okWide_slice ht hv
  obtain ⟨fuel, hf⟩ := h
  rcases open_ints ht he hc hf with ⟨hcs, _⟩ | ⟨x, l, c, zs, hcs, _, hl, hm, hz, _, hcell, hwz⟩
  · simp [Value.cells] at hcs
    obtain ⟨rfl, rfl, rfl⟩ := hcs
    exact ⟨none, [], 0, rfl, by simp, by simp, .inl rfl⟩
  · simp [Value.cells] at hcs
    obtain ⟨rfl, rfl, rfl⟩ := hcs
    have hz' : zs.length = cap := by simpa using hz
    have hlen : ((zs.take len).map Int.toNat).length = len := by simp; omega
    refine ⟨some x, (zs.take len).map Int.toNat, cap, by rw [hlen], by rw [hlen]; unfold maxLen at hm; omega, ?_, ?_⟩
    · intro c hc
      obtain ⟨n, hn, rfl⟩ := List.mem_map.1 hc
      have := bounds_u8 (hwz n (List.mem_of_mem_take hn))
      omega
    · by_cases h0 : len = 0
      · left; subst h0; rfl
      · right
        obtain ⟨b, off, spot⟩ := x
        have hc0 := hcell 0 (by omega)
        have hspot : spot = none := by simpa [Addr.add] using World.cell?_spot hc0
        subst hspot
        refine ⟨b, off, rfl, fun i hi => ?_⟩
        rw [hlen] at hi
        have hci := hcell i (by omega)
        have hadd : (⟨b, off, none⟩ : Addr).add i = ⟨b, off + i, none⟩ := by unfold Addr.add; split <;> simp_all
        rw [hadd] at hci
        rw [hci]
        have hlt : i < zs.length := by omega
        have hb := bounds_u8 (hwz zs[i] (List.getElem_mem hlt))
        simp [nth, List.getD, hlt, hi]
        omega
theorem trod_fin {H : Type} {enc : TypeId × Value → H} {P : Program} {W : World} {d : DataW H} {p : List MemPlace} {t : TypeId} {v : Value} (h : DataW.Trod enc P W 0 (fun _ => true) true t v d p) :
    ∀ x ∈ p, x.block < W.heap.size := by obtain ⟨m, hm⟩ := h; exact DataW.trod_lt m _ _ _ hm
end Go.Proofs.Ytncooadaeifekaa

/- Helpers for the rows: a slice of bytes that comes in, its capacity told too. No condition but what each states. -/
namespace Go.Proofs.Ytncooadaeifekaa
open Go.ChangeShapes Go.WideShapes Go.ChangeAt Go.RowKit
theorem open_bytesc {H : Type} {enc : TypeId × Value → H} {P : Program} {W : World} {base : Nat} {d : DataW H} {p : List MemPlace} {t e : TypeId} {v : Value}
    (ht : P.underlying t = some (.slice e)) (he : P.underlying e = some (.int .u8)) (hc : P.cellsOf e = 1) (hv : Value.okWide P W .any base t v) (h : DataW.Trod enc P W 0 (fun _ => true) true t v d p) :
    ∃ (a : Option Addr) (l : List Nat) (cap : Nat), v = .slice a l.length cap ∧ l.length ≤ 9223372036854775807 ∧ l.length ≤ cap ∧ HasB W a l := by
  have h' := h
  obtain ⟨a, l, cap, rfl, hm, hb⟩ := open_bytes ht he hc hv h
  refine ⟨a, l, cap, rfl, hm, ?_, hb⟩
  obtain ⟨fuel, hf⟩ := h'
  rcases open_ints ht he hc hf with ⟨hcs, _⟩ | ⟨x, n, c, zs, hcs, _, hl, _⟩
  · simp [Value.cells] at hcs
    obtain ⟨_, h1, _⟩ := hcs
    simp [h1]
  · simp [Value.cells] at hcs
    obtain ⟨_, h1, h2⟩ := hcs
    omega
end Go.Proofs.Ytncooadaeifekaa

/- Walk of the law CrcOpens: it answers true for any two lists of bytes. -/
namespace Go.Proofs.Ytncooadaeifekaa
open Go.RowKit Go.BigFrame
theorem seal_as (a : Option Addr) (l L : List Nat) (hL : L = l ++ M.leB 4 (M.crc l)) (c : Nat) (w : World) (hl : HasB w a l) (hn : l.length ≤ 900000) :
    Calls Try.prog 46 #[.agg tbl, .slice a l.length c] w fun e w' => (∃ a' cap, e = .returned (.slice a' L.length cap) ∧ OwnB w' w.heap.size (.slice a' L.length cap) L ∧ L.length ≤ cap ∧ HasB w' a' L) ∧ Below w.heap.size w w' := by
  subst hL; exact seal_calls a l c w hl hn
theorem open_sealed (a : Option Addr) (l L : List Nat) (hL : L = l ++ M.leB 4 (M.crc l)) (cap : Nat) (w : World) (hl : HasB w a L) (hn : l.length ≤ 800000) (hcap : L.length ≤ cap) :
    Calls Try.prog 47 #[.agg tbl, .slice a L.length cap] w fun e w' => (∃ a' cap', e = .returned (.tuple #[.slice a' l.length cap', .int .i64 0]) ∧ HasB w' a' l ∧ OwnB w' w.heap.size (.slice a' l.length cap') l) ∧ Below w.heap.size w w' := by
  have h1 : L.take l.length = l := by rw [hL]; simp
  have h2 : L.drop l.length = M.leB 4 (M.crc l) := by rw [hL]; simp
  have h3 : L.length = l.length + 4 := by rw [hL, List.length_append, M.leB_length]
  refine (open_calls a L cap l.length w hl h3 (by omega) hcap).mono ?_
  rintro e w' ⟨h, hb⟩
  rw [h1, h2] at h
  rcases h with ⟨_, a', cap', he, hh, _, ho⟩ | ⟨h, _⟩
  · exact ⟨⟨a', cap', he, hh, ho⟩, hb⟩
  · exact absurd rfl h
theorem open_yes (a : Option Addr) (l : List Nat) (cap n : Nat) (w : World) (hl : HasB w a l) (hn : l.length = n + 4) (hn2 : l.length ≤ 900000) (hcap : l.length ≤ cap) (h : l.drop n = M.leB 4 (M.crc (l.take n))) :
    Calls Try.prog 47 #[.agg tbl, .slice a l.length cap] w fun e w' => (∃ a' cap', e = .returned (.tuple #[.slice a' n cap', .int .i64 0]) ∧ HasB w' a' (l.take n) ∧ OwnB w' w.heap.size (.slice a' n cap') (l.take n)) ∧ Below w.heap.size w w' := by
  refine (open_calls a l cap n w hl hn hn2 hcap).mono ?_
  rintro e w' ⟨⟨_, a', cap', he, hh, _, ho⟩ | ⟨h1, _⟩, hb⟩
  · exact ⟨⟨a', cap', he, hh, ho⟩, hb⟩
  · exact absurd h h1
theorem open_no (a : Option Addr) (l : List Nat) (cap n : Nat) (w : World) (hl : HasB w a l) (hn : l.length = n + 4) (hn2 : l.length ≤ 900000) (hcap : l.length ≤ cap) (h : ¬ l.drop n = M.leB 4 (M.crc (l.take n))) :
    Calls Try.prog 47 #[.agg tbl, .slice a l.length cap] w fun e w' => e = .returned (.tuple #[.slice none 0 0, .int .i64 11]) ∧ Below w.heap.size w w' := by
  refine (open_calls a l cap n w hl hn hn2 hcap).mono ?_
  rintro e w' ⟨⟨h1, _⟩ | ⟨_, he⟩, hb⟩
  · exact absurd h1 h
  · exact ⟨he, hb⟩
theorem same_self (a1 : Option Addr) (l1 : List Nat) (c1 : Nat) (a2 : Option Addr) (c2 : Nat) (w : World) (h1 : HasB w a1 l1) (h2 : HasB w a2 l1) (hn : l1.length ≤ 1000000) :
    Calls Try.prog 48 #[.slice a1 l1.length c1, .slice a2 l1.length c2] w fun e w' => e = .returned (.bool true) ∧ Below w.heap.size w w' := by
  have h := same_calls a1 l1 c1 a2 l1 c2 w h1 h2 hn hn
  rw [decide_eq_true rfl] at h
  exact h
theorem same_selfN (n : Nat) (a1 : Option Addr) (l1 : List Nat) (hl : l1.length = n) (c1 : Nat) (a2 : Option Addr) (c2 : Nat) (w : World) (h1 : HasB w a1 l1) (h2 : HasB w a2 l1) (hn : n ≤ 1000000) :
    Calls Try.prog 48 #[.slice a1 n c1, .slice a2 n c2] w fun e w' => e = .returned (.bool true) ∧ Below w.heap.size w w' := by
  subst hl; exact same_self a1 l1 c1 a2 c2 w h1 h2 hn
theorem rsumN (n : Nat) (a : Option Addr) (l : List Nat) (hl : l.length = n) (cap : Nat) (w : World) (h : HasB w a l) (hn : n ≤ 1000000) :
    Calls Try.prog 34 #[.slice a n cap] w fun e w' => e = .returned (.int .u32 (M.crc l)) ∧ Below w.heap.size w w' := by
  subst hl; exact rsum_calls a l cap w h hn
theorem last4 (b : List Nat) (n : Nat) (hn : b.length = n + 4) (hb : ∀ c ∈ b, c < 256) :
    ∃ V : Nat, (nth b n : Int) + 256 * (nth b (n + 1) : Int) + 65536 * (nth b (n + 2) : Int) + 16777216 * (nth b (n + 3) : Int) = (V : Int) ∧ (V = M.crc (b.take n) ↔ b.drop n = M.leB 4 (M.crc (b.take n))) := by
  refine ⟨nth b n + 256 * nth b (n + 1) + 65536 * nth b (n + 2) + 16777216 * nth b (n + 3), by omega, ?_⟩
  have h0 := nth_lt b hb n
  have h1 := nth_lt b hb (n + 1)
  have h2 := nth_lt b hb (n + 2)
  have h3 := nth_lt b hb (n + 3)
  have hd : b.drop n = [nth b n, nth b (n + 1), nth b (n + 2), nth b (n + 3)] := by
    refine nth_eq _ _ (by simp; omega) fun j hj => ?_
    have hj4 : j < 4 := by simp at hj; omega
    rw [nth_drop]
    match j, hj4 with
    | 0, _ => simp [nth]
    | 1, _ => simp [nth]
    | 2, _ => simp [nth]
    | 3, _ => simp [nth]
  have hS := M.crc_lt (b.take n) fun c hc => hb c (List.mem_of_mem_take hc)
  rw [hd, leB4]
  generalize M.crc (b.take n) = S at *
  constructor
  · intro h
    subst h
    congr 1; omega; congr 1; omega; congr 1; omega; congr 1; omega
  · intro h
    simp only [List.cons.injEq, and_true] at h
    omega
set_option maxRecDepth 100000 in
set_option maxHeartbeats 400000 in
theorem opens_walk (aa : Option Addr) (a : List Nat) (ca : Nat) (ab : Option Addr) (b : List Nat) (cb : Nat) (ha : a.length ≤ 300) (hb : b.length ≤ 300) (hcb : b.length ≤ cb) (w : World) (hA : HasB w aa a) (hB : HasB w ab b) :
    Calls Try.prog 11 #[.slice aa a.length ca, .slice ab b.length cb] w fun e w' => e = .returned (.bool true) ∧ Below w.heap.size w w' := by
  have ta : decide ((300 : Int) < (a.length : Int)) = false := by simp; omega
  have tb : decide ((300 : Int) < (b.length : Int)) = false := by simp; omega
  obtain ⟨L, hL⟩ : ∃ L, L = a ++ M.leB 4 (M.crc a) := ⟨_, rfl⟩
  have hLl : L.length = a.length + 4 := by rw [hL, List.length_append, M.leB_length]
  have hLt : L.take a.length = a := by rw [hL]; simp
  have tL : ((L.length : Int) != (a.length : Int) + 4) = false := by rw [bne_eq_false_iff_eq]; omega
  have HL := hid hL
  have HLl := hid hLl
  have HLt := hid hLt
  have HB := hid hB
  have HA := hid hA
  have HCB := hid hcb
  have Hbl := hid hb
  have Hal := hid ha
  clear hL hLl hLt hB hA hcb
  have hW := Below.refl w.heap.size w
  go_enter Try.func11, Try.ntmps11
  go_upto_region 10 with (first | (go_at_call 28; refine (anchor_calls _).mono ?_; rintro e w1 ⟨rfl, hb1⟩; have hW := below_next hW hb1) | (go_at_call 29; refine (new_calls _).mono ?_; rintro e w2 ⟨rfl, hb2⟩; have hW := below_next hW hb2) | ((with_reducible show wpList _ _ _ (⟨some 5, _, _, _, _, _⟩ :: _) _ _); refine wpList_local 5 rfl rfl rfl rfl 25 rfl _ rfl tbl rfl (by simp) ty25 tbl_all ?_; intro W5 N5 hN5 hM5 hr5 hb5; have hW := below_next hW hb5) | ((with_reducible show wpList _ _ _ (⟨some 24, _, _, _, _, _⟩ :: _) _ _); refine wpList_load_row rfl _ _ rfl N5 rfl 25 tbl (0, 0) _ hr5 Try.underlying25 rfl (by kernel_rfl) ?_) | (go_at_call 46; refine (seal_as aa a L HL.out ca _ (HA.out.below hW) (by have := Hal.out; omega)).mono ?_; rintro e W6 ⟨⟨sa, cs, rfl, os, hcs, hs⟩, hb6⟩; have hW := below_next hW hb6; have hr5 := below_blk hb6 hr5) | ((with_reducible show wpList _ _ _ (⟨some 28, _, _, _, _, _⟩ :: _) _ _); refine wpList_load_row rfl _ _ rfl N5 rfl 25 tbl (0, 0) _ hr5 Try.underlying25 rfl (by kernel_rfl) ?_) | (go_at_call 47; refine (open_sealed sa a L HL.out cs _ hs (by have := Hal.out; omega) hcs).mono ?_; rintro e W7 ⟨⟨ax, cx, rfl, hx, _⟩, hb7⟩; have hW := below_next hW hb7; have hr5 := below_blk hb7 hr5; have hs := hs.below hb7; have hst := HLt.out ▸ hs.take a.length; have hcut : a.length ≤ cs := by have := HLl.out; omega) | ((with_reducible show Calls _ _ #[.slice ax _ _, _] _ _); refine (same_self ax a cx aa ca _ hx (HA.out.below hW) (by have := Hal.out; omega)).mono ?_; rintro e W8 ⟨rfl, hb8⟩; have hW := below_next hW hb8; have hr5 := below_blk hb8 hr5; have hst := hst.below hb8) | ((with_reducible show Calls _ _ #[.slice sa _ _, _] _ _); refine (same_self sa a cs aa ca _ hst (HA.out.below hW) (by have := Hal.out; omega)).mono ?_; rintro e W9 ⟨rfl, hb9⟩; have hW := below_next hW hb9; have hr5 := below_blk hb9 hr5))
  clear hst hcut hs hx hcs os hb9 hb8 hb7 hb6 hb5 hb2 hb1 hM5 hN5
  by_cases h4 : b.length < 4
  · have t4 : decide ((b.length : Int) < 4) = true := by simp; omega
    have H4 := hid h4
    clear h4
    go_wp2_with (first | ((with_reducible show wpList _ _ _ (⟨some 59, _, _, _, _, _⟩ :: _) _ _); refine wpList_load_row rfl _ _ rfl N5 rfl 25 tbl (0, 0) _ hr5 Try.underlying25 rfl (by kernel_rfl) ?_) | (go_at_call 47; refine (open_short ab b cb _ H4.out).mono ?_; rintro e W10 ⟨rfl, hb10⟩))
    go_ret
    exact ⟨rfl, below_next hW hb10⟩
  · obtain ⟨n, hn⟩ : ∃ n, b.length = n + 4 := ⟨b.length - 4, by omega⟩
    have t4 : decide ((b.length : Int) < 4) = false := by simp; omega
    have tn : (b.length : Int) - 4 = (n : Int) := by omega
    have hn300 : n ≤ 296 := by omega
    have HN := hid hn
    have hnb : n < b.length := by omega
    have hnb1 : n + 1 < b.length := by omega
    have hnb2 : n + 2 < b.length := by omega
    have hnb3 : n + 3 < b.length := by omega
    obtain ⟨bb, off, rfl, hc⟩ := (HB.out.below hW).cell (by omega)
    have HCC := hid hc
    clear hc hn h4
    obtain ⟨V, hV, hVS⟩ := last4 b n HN.out HB.out.1
    have HTK : Hid ((b.take n).length = n) := by show _ = _; simp; omega
    by_cases hE : b.drop n = M.leB 4 (M.crc (b.take n))
    · have HE := hid hE
      have tv : ((V : Int) != (M.crc (b.take n) : Int)) = false := by rw [bne_eq_false_iff_eq]; have := hVS.2 hE; omega
      clear hVS
      clear hE
      go_upto_region 14 with (first | ((with_reducible show wpList _ _ _ (⟨some 59, _, _, _, _, _⟩ :: _) _ _); refine wpList_load_row rfl _ _ rfl N5 rfl 25 tbl (0, 0) _ hr5 Try.underlying25 rfl (by kernel_rfl) ?_) | (go_at_call 47; refine (open_yes (some ⟨bb, off, none⟩) b cb n _ (HB.out.below hW) HN.out (by omega) HCB.out HE.out).mono ?_; rintro e W10 ⟨⟨ay, cy, rfl, hy, _⟩, hb10⟩; have hW := below_next hW hb10))
      have hcells : ∀ i, i < b.length → W10.cell? ⟨bb, off + i, none⟩ = some (.int .u8 (nth b i)) := fun i hi => by rw [hb10.cell (p := ⟨bb, off + i, none⟩) (block_lt_of_cell (w := W9) (a := ⟨bb, off + i, none⟩) (HCC.out i hi))]; exact HCC.out i hi
      have q0 := hcells n hnb
      have q1 := hcells (n + 1) hnb1
      have q2 := hcells (n + 2) hnb2
      have q3 := hcells (n + 3) hnb3
      have b0 := nth_lt b HB.out.1 n
      have b1 := nth_lt b HB.out.1 (n + 1)
      have b2 := nth_lt b HB.out.1 (n + 2)
      have b3 := nth_lt b HB.out.1 (n + 3)
      clear hcells tn
      go_quiet (fail)
      have hT : HasB (W10.drewN nq) (some ⟨bb, off, none⟩) (b.take n) := ((HB.out.below hW).below (below_drewN (Below.refl _ _) nq)).take n
      have hy := hy.below (below_drewN (Below.refl _ _) nq)
      have hW := below_drewN hW nq
      generalize W10.drewN nq = W11 at *
      clear b0 b1 b2 b3 q0 q1 q2 q3 hnb1 hnb2 hnb3 hr5
      have hncb : n ≤ cb := by have := HCB.out; omega
      go_wp2_with (first | (go_at_call 34; refine (rsumN n _ (b.take n) HTK.out cb _ hT (by omega)).mono ?_; rintro e W12 ⟨rfl, hb12⟩; have hW := below_next hW hb12) | (go_at_call 48; refine (same_selfN n ay (b.take n) HTK.out cy _ cb _ (hy.below hb12) (hT.below hb12) (by omega)).mono ?_; rintro e W13 ⟨rfl, hb13⟩; have hW := below_next hW hb13))
      go_ret
      exact ⟨rfl, hW⟩
    · have HE := hid hE
      have tv : ((V : Int) != (M.crc (b.take n) : Int)) = true := by rw [bne_iff_ne]; intro h; exact hE (hVS.1 (by omega))
      clear hVS
      clear hE
      go_upto_region 14 with (first | ((with_reducible show wpList _ _ _ (⟨some 59, _, _, _, _, _⟩ :: _) _ _); refine wpList_load_row rfl _ _ rfl N5 rfl 25 tbl (0, 0) _ hr5 Try.underlying25 rfl (by kernel_rfl) ?_) | (go_at_call 47; refine (open_no (some ⟨bb, off, none⟩) b cb n _ (HB.out.below hW) HN.out (by omega) HCB.out HE.out).mono ?_; rintro e W10 ⟨rfl, hb10⟩; have hW := below_next hW hb10))
      have hcells : ∀ i, i < b.length → W10.cell? ⟨bb, off + i, none⟩ = some (.int .u8 (nth b i)) := fun i hi => by rw [hb10.cell (p := ⟨bb, off + i, none⟩) (block_lt_of_cell (w := W9) (a := ⟨bb, off + i, none⟩) (HCC.out i hi))]; exact HCC.out i hi
      have q0 := hcells n hnb
      have q1 := hcells (n + 1) hnb1
      have q2 := hcells (n + 2) hnb2
      have q3 := hcells (n + 3) hnb3
      have b0 := nth_lt b HB.out.1 n
      have b1 := nth_lt b HB.out.1 (n + 1)
      have b2 := nth_lt b HB.out.1 (n + 2)
      have b3 := nth_lt b HB.out.1 (n + 3)
      clear hcells tn
      go_quiet (fail)
      have hT : HasB (W10.drewN nq) (some ⟨bb, off, none⟩) (b.take n) := ((HB.out.below hW).below (below_drewN (Below.refl _ _) nq)).take n
      have hW := below_drewN hW nq
      generalize W10.drewN nq = W11 at *
      clear b0 b1 b2 b3 q0 q1 q2 q3 hnb1 hnb2 hnb3 hr5
      have hncb : n ≤ cb := by have := HCB.out; omega
      go_wp2_with (first | (go_at_call 34; refine (rsumN n _ (b.take n) HTK.out cb _ hT (by omega)).mono ?_; rintro e W12 ⟨rfl, hb12⟩; have hW := below_next hW hb12))
      go_ret
      exact ⟨rfl, hW⟩
end Go.Proofs.Ytncooadaeifekaa

/- Walk of the law CodecNumbers: it answers true for all numbers. -/
namespace Go.Proofs.Ytncooadaeifekaa
open Go.RowKit
theorem zero63 : (Try.prog.info? 63).bind (fun i => i.zero.map (·.cells)) = some #[.slice none 0 0, .bool false] := by kernel_rfl
theorem penB_zero {w : World} {N : Nat} (h : w.heap[N]? = some (.cells #[.slice none 0 0, .bool false] 63 (0, 0))) : PenB w N (.slice none 0 0) [] false := ⟨h, ownB_nil _ _, by simp [Value.ownBlock]⟩
theorem nil_apart (N M : Nat) (h : N < M) : ∀ k, penSet M (.slice none 0 0) k → ¬ penSet N (.slice none 0 0) k := by
  rintro k (rfl | h1) (h2 | h2)
  · omega
  · simp [Value.ownBlock] at h2
  · simp [Value.ownBlock] at h1
  · simp [Value.ownBlock] at h1
theorem pen_apart (N M B : Nat) (v : Value) (h : N < M) (hM : M < B) (hl : ∀ j, v.ownBlock = some j → Value.ownBlock (.slice none 0 0) = some j ∨ B ≤ j) : ∀ k, penSet N v k → ¬ penSet M (.slice none 0 0) k := by
  rintro k (rfl | h1) (h2 | h2)
  · omega
  · simp [Value.ownBlock] at h2
  · rcases hl k h1 with h | h
    · simp [Value.ownBlock] at h
    · omega
  · simp [Value.ownBlock] at h2
theorem below_turned {S : Nat → Prop} {w w1 w2 : World} (hb : Below w.heap.size w w1) (ht : Turned S w1 w2) (hS : ∀ k, S k → w.heap.size ≤ k) : Below w.heap.size w w2 := hb.trans (ht.below _ hb.size hS)
theorem nil_low (N B : Nat) (h : B ≤ N) : ∀ k, penSet N (.slice none 0 0) k → B ≤ k := by
  rintro k (rfl | h1)
  · exact h
  · simp [Value.ownBlock] at h1
set_option maxRecDepth 100000 in
set_option maxHeartbeats 400000 in
theorem numbers_fit (w : World) (k A B : Nat) (hA : M.fits k A = true) (hB : M.fits k B = true) :
    Calls Try.prog 15 #[.int .i64 k, .int .i64 A, .int .i64 B] w fun e w' => e = .returned (.bool true) ∧ Below w.heap.size w w' := by
  obtain ⟨hk1, hk7, _, hAl⟩ := (M.fits_iff _ _).1 hA
  obtain ⟨_, _, _, hBl⟩ := (M.fits_iff _ _).1 hB
  simp only [Int.toNat_natCast] at hAl hBl
  have hk1' : 1 ≤ k := by omega
  have hk7' : k ≤ 7 := by omega
  obtain ⟨La, hLa⟩ : ∃ L, L = M.leB k A := ⟨_, rfl⟩
  obtain ⟨Lb, hLb⟩ : ∃ L, L = M.leB k B := ⟨_, rfl⟩
  have hlA : La.length = k := by rw [hLa, M.leB_length]
  have hlB : Lb.length = k := by rw [hLb, M.leB_length]
  have hvA : M.leV (La.take k) = A := by rw [← hlA, List.take_length, hLa, M.leV_leB _ _ hAl]
  have hvB : M.leV Lb = B := by rw [hLb, M.leV_leB _ _ hBl]
  have hAB : (La = Lb) ↔ (A = B) := ⟨fun h => by rw [← hvA, ← hvB, ← h, ← hlA, List.take_length], fun h => by rw [hLa, hLb, h]⟩
  have tlen : ((La.length : Int) == (k : Int)) = true := by rw [hlA]; simp
  have ppA : ∀ {w1 w2 : World} {N : Nat} {v : Value}, Pens N v w1 w2 ([] ++ M.leB k A) false → Pens N v w1 w2 La false := fun h => by rw [hLa]; exact h
  have ppB : ∀ {w1 w2 : World} {N : Nat} {v : Value}, Pens N v w1 w2 ([] ++ M.leB k B) false → Pens N v w1 w2 Lb false := fun h => by rw [hLb]; exact h
  have HA := hid hA
  have HB := hid hB
  have HAB := hid hAB
  have HVA := hid hvA
  have HlA := hid hlA
  have HlB := hid hlB
  clear hLa hLb hlA hlB hvA hvB hAB hA hB hAl hBl
  have hW := Below.refl w.heap.size w
  go_enter Try.func15, Try.ntmps15
  go_upto_region 8 with (first | (go_at_call 43; refine (anchor2_calls _).mono ?_; rintro e w1 ⟨rfl, hb1⟩; have hW := below_next hW hb1) | (go_at_call 45; refine (fits_calls _ _ _).mono ?_; rintro e w2 ⟨rfl, hb2⟩; have hW := below_next hW hb2; first | rw [HA.out] | rw [HB.out]) | ((with_reducible show wpList _ _ _ (⟨some 7, _, _, _, _, _⟩ :: _) _ _); refine wpList_zeroed 7 rfl rfl 63 rfl _ zero63 ?_; intro W7 N7 hN7 hM7 hr7 hb7; have hW := below_next hW hb7) | ((with_reducible show wpList _ _ _ (⟨some 8, _, _, _, _, _⟩ :: _) _ _); refine wpList_zeroed 8 rfl rfl 63 rfl _ zero63 ?_; intro W8 N8 hN8 hM8 hr8 hb8; have hW := below_next hW hb8; have hp7 := (penB_zero hr7).grow hb8; have hp8 := penB_zero hr8) | ((with_reducible show Calls _ _ #[.pointer (some ⟨N7, 0, none⟩), _, _] _ _); refine (penNum_fits N7 k A HA.out _ _ [] false hp7 (by simp)).mono ?_; rintro e w3 ⟨rfl, hs7⟩; obtain ⟨v7, hq7, ht7, hl7⟩ := ppA hs7; clear hs7; have hq8 := hp8.turned ht7 (nil_apart N7 N8 (by omega))) | ((with_reducible show Calls _ _ #[.pointer (some ⟨N8, 0, none⟩), _, _] _ _); refine (penNum_fits N8 k B HB.out _ _ [] false hq8 (by simp)).mono ?_; rintro e w4 ⟨rfl, hs8⟩; obtain ⟨v8, hr8, ht8, hl8⟩ := ppB hs8; clear hs8; have hq7' := hq7.turned ht8 (pen_apart N7 N8 W8.heap.size v7 (by omega) hM8 hl7)))
  have hN7' : w.heap.size ≤ N7 := by have := hb2.size; have := (‹Below w.heap.size w w2›).size; omega
  have hW := below_turned (below_turned hW ht7 (nil_low N7 _ hN7')) ht8 (nil_low N8 _ (by omega))
  clear hN7' ht7 ht8 hl7 hl8 hq8 hp7 hp8 hb8 hb7 hr7 hM7 hN7 hM8 hN8 ppA ppB hq7 hb2
  go_upto_region 10 with (first | ((with_reducible show Calls _ 51 #[.pointer (some ⟨N7, 0, none⟩)] _ _); refine (penOut_good N7 _ v7 La hq7' (by have := HlA.out; omega)).mono ?_; rintro e w5 ⟨⟨a5, c5, rfl, _, _, hh5⟩, hb5⟩; have hW := below_next hW hb5; have hr8 := hr8.grow hb5) | ((with_reducible show Calls _ 51 #[.pointer (some ⟨N8, 0, none⟩)] _ _); refine (penOut_good N8 _ v8 Lb hr8 (by have := HlB.out; omega)).mono ?_; rintro e w6 ⟨⟨a6, c6, rfl, _, _, hh6⟩, hb6⟩; have hW := below_next hW hb6; have hh5 := hh5.below hb6))
  have hAB := HAB.out
  by_cases hab : A = B
  · have td : decide (La = Lb) = true := by rw [decide_eq_true_iff]; exact hAB.2 hab
    have te : ((A : Int) == (B : Int)) = true := by rw [hab]; simp
    have HD := hid td
    clear hAB hab td
    go_wp2_with (first | (go_at_call 49; refine (rnew_calls a5 La c5 _ hh5 (by have := HlA.out; omega)).mono ?_; rintro e w7 ⟨⟨R, ar, cr, rfl, hrd, hR1, hR2, hR3⟩, hb7⟩; have hW7 := below_next hW hb7) | (go_at_call 56; refine (rdNum_good R k _ ar La cr hrd hk1' hk7' (by have := HlA.out; omega) (by have := HlA.out; omega)).mono ?_; rintro e w8 ⟨rfl, _, htr⟩; rw [HVA.out]) | (go_at_call 48; refine (same_calls a5 La c5 a6 Lb c6 _ (hh5.below (below_turned hb7 htr (fun k hk => by subst hk; exact hR1))) (hh6.below (below_turned hb7 htr (fun k hk => by subst hk; exact hR1))) (by have := HlA.out; omega) (by have := HlB.out; omega)).mono ?_; rintro e w9 ⟨rfl, hb9⟩; rw [HD.out]))
    go_ret
    exact ⟨rfl, below_next (below_turned hW7 htr (fun k hk => by subst hk; have := hW.size; omega)) hb9⟩
  · have td : decide (La = Lb) = false := by rw [decide_eq_false_iff_not]; exact fun h => hab (hAB.1 h)
    have te : ((A : Int) == (B : Int)) = false := by rw [beq_eq_false_iff_ne]; omega
    have HD := hid td
    clear hAB hab td
    go_wp2_with (first | (go_at_call 49; refine (rnew_calls a5 La c5 _ hh5 (by have := HlA.out; omega)).mono ?_; rintro e w7 ⟨⟨R, ar, cr, rfl, hrd, hR1, hR2, hR3⟩, hb7⟩; have hW7 := below_next hW hb7) | (go_at_call 56; refine (rdNum_good R k _ ar La cr hrd hk1' hk7' (by have := HlA.out; omega) (by have := HlA.out; omega)).mono ?_; rintro e w8 ⟨rfl, _, htr⟩; rw [HVA.out]) | (go_at_call 48; refine (same_calls a5 La c5 a6 Lb c6 _ (hh5.below (below_turned hb7 htr (fun k hk => by subst hk; exact hR1))) (hh6.below (below_turned hb7 htr (fun k hk => by subst hk; exact hR1))) (by have := HlA.out; omega) (by have := HlB.out; omega)).mono ?_; rintro e w9 ⟨rfl, hb9⟩; rw [HD.out]))
    go_ret
    exact ⟨rfl, below_next (below_turned hW7 htr (fun k hk => by subst hk; have := hW.size; omega)) hb9⟩
set_option maxRecDepth 100000 in
set_option maxHeartbeats 400000 in
theorem numbers_walk (w : World) (k : Int) (_ : -9223372036854775808 ≤ k ∧ k ≤ 9223372036854775807) (A : Int) (_ : -9223372036854775808 ≤ A ∧ A ≤ 9223372036854775807) (B : Int) (_ : -9223372036854775808 ≤ B ∧ B ≤ 9223372036854775807) :
    Calls Try.prog 15 #[.int .i64 k, .int .i64 A, .int .i64 B] w fun e w' => e = .returned (.bool true) ∧ Below w.heap.size w w' := by
  by_cases fa : M.fits k A = true
  · by_cases fb : M.fits k B = true
    · obtain ⟨hk1, _, hA0, _⟩ := (M.fits_iff _ _).1 fa
      obtain ⟨_, _, hB0, _⟩ := (M.fits_iff _ _).1 fb
      obtain ⟨n, rfl⟩ : ∃ n : Nat, k = n := ⟨k.toNat, by omega⟩
      obtain ⟨x, rfl⟩ : ∃ n : Nat, A = n := ⟨A.toNat, by omega⟩
      obtain ⟨y, rfl⟩ : ∃ n : Nat, B = n := ⟨B.toNat, by omega⟩
      exact numbers_fit w n x y fa fb
    · have fb : M.fits k B = false := by simpa using fb
      have HA := hid fa
      have HB := hid fb
      clear fa fb
      go_enter Try.func15, Try.ntmps15
      go_wp2_with (first | (go_at_call 43; refine (anchor2_calls _).mono ?_; rintro e w1 ⟨rfl, hb1⟩; have hW := hb1) | (go_at_call 45; refine (fits_calls _ _ _).mono ?_; rintro e w2 ⟨rfl, hb2⟩; have hW := below_next hW hb2; first | rw [HA.out] | rw [HB.out]))
      go_ret
      exact ⟨rfl, hW⟩
  · have fa : M.fits k A = false := by simpa using fa
    have HA := hid fa
    clear fa
    go_enter Try.func15, Try.ntmps15
    go_wp2_with (first | (go_at_call 43; refine (anchor2_calls _).mono ?_; rintro e w1 ⟨rfl, hb1⟩; have hW := hb1) | (go_at_call 45; refine (fits_calls _ _ _).mono ?_; rintro e w2 ⟨rfl, hb2⟩; have hW := below_next hW hb2; rw [HA.out]))
    go_ret
    exact ⟨rfl, hW⟩
end Go.Proofs.Ytncooadaeifekaa

/- Walk of frame.Encode. -/
namespace Go.Proofs.Ytncooadaeifekaa
open Go.RowKit
theorem zero44 : (Try.prog.info? 44).bind (fun i => i.zero.map (·.cells)) = some (sct (List.replicate 64 0)) := by kernel_rfl
set_option maxRecDepth 100000 in
set_option maxHeartbeats 400000 in
theorem encode_wrong (f : M.Fr) (hok : f.ok) (hf : f.right = false) (w : World) :
    Calls Try.prog 37 #[.agg tbl, .agg (frm f)] w fun e w' => e = .returned (.tuple #[.agg (sct (List.replicate 64 0)), .int .i64 10]) ∧ Below w.heap.size w w' := by
  have HF := hid hf
  have HOK := hid hok
  clear hf hok
  have hW := Below.refl w.heap.size w
  go_enter Try.func37, Try.ntmps37
  go_wp2_with (first | ((with_reducible show wpList _ _ _ (⟨some 2, _, _, _, _, _⟩ :: _) _ _); refine wpList_boxed 2 rfl rfl 25 _ rfl tbl rfl ?_; intro W2 N2 hN2 hM2 hr2 hb2; have hW := below_next hW hb2) | ((with_reducible show wpList _ _ _ (⟨some 3, _, _, _, _, _⟩ :: _) _ _); refine wpList_boxed 3 rfl rfl 41 _ rfl (frm f) rfl ?_; intro W3 N3 hN3 hM3 hr3 hb3; have hW := below_next hW hb3) | ((with_reducible show wpList _ _ _ (⟨some 4, _, _, _, _, _⟩ :: _) _ _); refine wpList_zeroed 4 rfl rfl 44 rfl _ zero44 ?_; intro W4 N4 hN4 hM4 hr4 hb4; have hW := below_next hW hb4; have hr3 := below_blk hb4 hr3) | ((with_reducible show wpList _ _ _ (⟨some 9, _, _, _, _, _⟩ :: _) _ _); refine wpList_load_row rfl _ _ rfl N3 rfl 41 (frm f) (0, 0) _ hr3 Try.underlying41 rfl (ty41 f HOK.out).size ?_) | (go_at_call 38; refine (right_calls f _).mono ?_; rintro e w5 ⟨rfl, hb5⟩; rw [HF.out]; have hW := below_next hW hb5; have hr4 := below_blk hb5 hr4) | ((with_reducible show wpList _ _ _ (⟨some 12, _, _, _, _, _⟩ :: _) _ _); refine wpList_build_as 12 rfl rfl 44 _ rfl (sct (List.replicate 64 0)) build_zero44 ?_) | ((with_reducible show wpList _ _ _ (⟨none, _, _, _, _, _⟩ :: _) _ _); refine wpList_store_agg rfl rfl 44 _ _ rfl N4 (sct (List.replicate 64 0)) rfl rfl 44 _ hr4 (ty44 _ (by simp)) rfl (sct_all _) ?_; intro W6 hr6 ht6))
  refine ret_cell 4 5 44 rfl rfl N4 rfl 44 _ (0, 0) _ hr6 Try.underlying44 rfl (ty44 _ (by simp)).size _ rfl ⟨rfl, below_turned hW ht6 (fun k hk => by subst hk; have := hb2.size; have := hb3.size; omega)⟩
end Go.Proofs.Ytncooadaeifekaa

/- Helpers for the walks: one cell of a known row stored into; calls that make memory, inside a drawn statement; the reader's contracts with lengths of their own. No condition but what each states. -/
namespace Go.Proofs.Ytncooadaeifekaa
open Go.RowKit
theorem wpList_wanted {P : Program} {ops : Array Oper} {rest : List Oper} {o : Oper} {a : Act} {w : World} {Q : Exit → Act → World → Prop} (hw : Region.wanted o (yielded ops a.tmps) = true)
    (h : ∀ K : Act → World → Prop, (∀ a w, wpList P ops Q rest a w → K a w) → o.wp P a w K Q) : wpList P ops Q (o :: rest) a w :=
  wpList_step fun K hK => by rw [if_pos hw]; exact h K hK
/-- 'load' of a whole array or struct, under a guard that says yes -/
theorem wpList_load_rowg {P : Program} {ops : Array Oper} {rest : List Oper} {o : Oper} {a : Act} {w : World} {Q : Exit → Act → World → Prop} (dd : Tmp) (hdst : o.dst = some dd) (hw : Region.wanted o (yielded ops a.tmps) = true) (ty : TypeId) (x : Operand) (ho : o.op = .load ty x)
    (g : Nat) (hx : a.eval x = .pointer (some ⟨g, 0, none⟩)) (t : TypeId) (cs : Array Value) (fr : Nat × Nat) (d : TypeDesc) (hg : w.heap[g]? = some (.cells cs t fr))
    (hu : P.underlying ty = some d) (hd : (match d with | .struct _ | .array _ _ => true | _ => false) = true) (hi : (P.info? ty).map (·.size) = some cs.size)
    (h : wpList P ops Q rest (a.put (some dd) (.agg cs)) w) : wpList P ops Q (o :: rest) a w :=
  wpList_wanted hw fun _ hK => wp_load_row ty x ho g hx t cs fr d hg hu hd hi (by rw [hdst]; exact hK _ _ h)
theorem size3 (w : World) : (sizeOf 3).run Try.prog w = .ok 1 w := by kernel_rfl
theorem run_store_int (w : World) (N i : Nat) (ty : TypeId) (k : IntKind) (n : Int) (old : Value) (hu : ∀ w, (sizeOf ty).run Try.prog w = .ok 1 w) (hc : w.cell? ⟨N, i, none⟩ = some old) (hf : w.frozen? ⟨N, i, none⟩ = false) :
    (Instr.storeAt ty (.pointer (some ⟨N, i, none⟩)) (.int k n)).run Try.prog w = .ok () (w.setCell ⟨N, i, none⟩ (.int k n)) := by
  simp [go_sem, hu, hc, hf]
/-- a number stored into one cell of a row that is known -/
theorem wpList_store_cell {ops : Array Oper} {rest : List Oper} {o : Oper} {a : Act} {w : World} {Q : Exit → Act → World → Prop} (hgd : o.guard = none) (hd : o.dst = none) (ty : TypeId) (x y : Operand) (ho : o.op = .store ty x y)
    (N i : Nat) (k : IntKind) (n : Int) (hx : a.eval x = .pointer (some ⟨N, i, none⟩)) (hy : a.eval y = .int k n) (hu : ∀ w, (sizeOf ty).run Try.prog w = .ok 1 w) (t : TypeId) (cs cs' : Array Value) (hg : w.heap[N]? = some (.cells cs t (0, 0))) (hi : i < cs.size) (hcs : cs.setIfInBounds i (.int k n) = cs')
    (h : ∀ W : World, W.heap[N]? = some (.cells cs' t (0, 0)) → Turned (fun k => k = N) w W → wpList Try.prog ops Q rest a W) : wpList Try.prog ops Q (o :: rest) a w := by
  subst hcs
  refine wpList_plain hgd fun K hK => ?_
  have hrun := run_store_int w N i ty k n cs[i] hu (by rw [cell_of_row w N i _ _ _ hg]; simp [hi]) (frozen_of_row w N i _ t hg)
  unfold Oper.wp execOp
  simp only [ho, hx, hy, Sem.run_bind, hrun, Result.andThen_ok, Sem.run_pure]
  show K (a.put o.dst _) _
  rw [hd]
  exact hK _ _ (h _ (heap_setCell_same w N i _ t _ hg) ((Turned.refl (fun k => k = N) w).setCell (p := ⟨N, i, none⟩) (.inl rfl) _))
theorem grows_callE {P : Program} {o : Oper} {a : Act} {w : World} {spec : Spec} {vals : List Value} {i : Nat} (f : FuncId) (args : Array Value) (S : Value → World → Prop) (h : (execOp a.eval o).run P w = .ok (.enter f args) w) (hc : Calls P f args w fun e w' => (∃ v, e = .returned v ∧ S v w') ∧ Below w.heap.size w w') (hs : spec.getD i none = some S) :
    Grows P o a w (known spec vals i) := by
  unfold Grows; rw [h]; exact ⟨Below.refl _ _, hc.mono fun e w' ⟨⟨v, he, hv⟩, hb⟩ => ⟨v, he, hb, known_new S hs hv⟩⟩
theorem zero41 : (Try.prog.info? 41).bind (fun i => i.zero.map (·.cells)) = some (frm M.Fr.zero) := by kernel_rfl
theorem open_noN (N : Nat) (a : Option Addr) (l : List Nat) (hl0 : l.length = N) (cap n : Nat) (w : World) (hl : HasB w a l) (hn : N = n + 4) (hn2 : N ≤ 900000) (hcap : N ≤ cap) (h : ¬ l.drop n = M.leB 4 (M.crc (l.take n))) :
    Calls Try.prog 47 #[.agg tbl, .slice a N cap] w fun e w' => e = .returned (.tuple #[.slice none 0 0, .int .i64 11]) ∧ Below w.heap.size w w' := by
  subst hl0; exact open_no a l cap n w hl hn hn2 hcap h
/-- a value of this form, its parts told in memory -/
def Img {α : Type} (f : α → Value) (R : α → World → Prop) (v : Value) (w : World) : Prop := ∃ p, v = f p ∧ R p w
theorem img_mk {α : Type} {f : α → Value} {R : α → World → Prop} (p : α) {w : World} (h : R p w) : Img f R (f p) w := ⟨p, rfl, h⟩
theorem img_stable {α : Type} (f : α → Value) (R : α → World → Prop) (hR : ∀ p w w', R p w → Below w.heap.size w w' → R p w') (v : Value) (w w' : World) (h : Img f R v w) (hb : Below w.heap.size w w') : Img f R v w' := by
  obtain ⟨p, hv, hh⟩ := h
  exact ⟨p, hv, hR p w w' hh hb⟩
theorem obl_img {P : Program} {ops : Array Oper} {spec : Spec} {vals : List Value} {a0 : Act} {w0 : World} (hF : Flows ops a0.tmps.size) (hlen : ops.size = vals.length) (hns : Region.noSelect ops = true) {i : Nat} {o : Oper} (ho : ops[i]? = some o)
    (k : Nat) (hn : newsOf ops spec o = [k]) (t : Tmp) {α : Type} (f : α → Value) (R : α → World → Prop) (hS : spec.getD k none = some (Img f R)) (hk : (ops[k]?).bind (·.dst) = some t)
    (h : ∀ w p, Below w0.heap.size w0 w → R p w → if Region.wanted o (yielded ops ((putAll ops.toList vals a0).put (some t) (f p)).tmps) then Grows P o ((putAll ops.toList vals a0).put (some t) (f p)) w (known spec vals i) else known spec vals i undef w) :
    Obl P ops (known spec vals) a0 w0 i o :=
  obl_one hF hlen hns ho k hn t (Img f R) hS hk fun w x hb ⟨p, hx, hR⟩ => by subst hx; exact h w p hb hR
def okF (n : Nat) (p : Option Addr × Nat) : Value := .tuple #[.slice p.1 n p.2, .int .i64 0]
def slF (n : Nat) (p : Option Addr × Nat) : Value := .slice p.1 n p.2
def atF (l : List Nat) (p : Option Addr × Nat) (w : World) : Prop := HasB w p.1 l
theorem atF_stable (l : List Nat) (p : Option Addr × Nat) (w w' : World) (h : atF l p w) (hb : Below w.heap.size w w') : atF l p w' := HasB.below h hb
theorem open_yesN (N : Nat) (a : Option Addr) (l : List Nat) (hl0 : l.length = N) (cap n : Nat) (w : World) (hl : HasB w a l) (hn : N = n + 4) (hn2 : N ≤ 900000) (hcap : N ≤ cap) (h : l.drop n = M.leB 4 (M.crc (l.take n))) :
    Calls Try.prog 47 #[.agg tbl, .slice a N cap] w fun e w' => (∃ v, e = .returned v ∧ Img (okF n) (atF (l.take n)) v w') ∧ Below w.heap.size w w' := by
  subst hl0
  refine (open_yes a l cap n w hl hn hn2 hcap h).mono ?_
  rintro e w' ⟨⟨a', cap', he, hh, _⟩, hb⟩
  exact ⟨⟨_, he, (a', cap'), rfl, hh⟩, hb⟩
theorem rnewN (n : Nat) (a : Option Addr) (l : List Nat) (hn0 : l.length = n) (c : Nat) (w : World) (hl : HasB w a l) (hn : n ≤ 1000000) :
    Calls Try.prog 49 #[.slice a n c] w fun e w' => (∃ R a' cap, e = .returned (.pointer (some ⟨R, 0, none⟩)) ∧ RdB w' R a' l cap false ∧ w.heap.size ≤ R ∧ R < w'.heap.size ∧ ∀ p, a' = some p → w.heap.size ≤ p.block ∧ p.block < w'.heap.size) ∧ Below w.heap.size w w' := by
  subst hn0; exact rnew_calls a l c w hl hn
/-- the reader's Num, by what is left and what is told -/
theorem rdNumV (R : Nat) (k : Nat) (l l2 : List Nat) (V : Nat) (hV : M.leV (l.take k) = V) (h2 : l.drop k = l2) (w : World) (a : Option Addr) (cap : Nat) (hr : RdB w R a l cap false) (hk1 : 1 ≤ k) (hk7 : k ≤ 7) (hk : k ≤ l.length) (hl : l.length ≤ 1000000) :
    Calls Try.prog 56 #[.pointer (some ⟨R, 0, none⟩), .int .i64 k] w fun e w' => e = .returned (.int .i64 V) ∧ RdB w' R (cutAt a cap k) l2 (cap - k) false ∧ Turned (fun j => j = R) w w' := by
  subst hV h2; exact rdNum_good R k w a l cap hr hk1 hk7 hk hl
/-- the reader's state, its place in memory put aside: the bytes lie in blocks from B on, below C -/
def Rd (w : World) (R : Nat) (l : List Nat) (B C : Nat) : Prop := ∃ a cap, RdB w R a l cap false ∧ ∀ p, a = some p → B ≤ p.block ∧ p.block < C
theorem Rd.turned {w w' : World} {S : Nat → Prop} {R B C : Nat} {l : List Nat} (h : Rd w R l B C) (ht : Turned S w w') (hR : ¬ S R) (hS : ∀ k, S k → k < B ∨ C ≤ k) : Rd w' R l B C := by
  obtain ⟨a, cap, hr, hp⟩ := h
  refine ⟨a, cap, hr.turned ht hR (fun p e hs => ?_), hp⟩
  have := hp p e
  rcases hS _ hs with h | h <;> omega
theorem Rd.grow {w w' : World} {R B C : Nat} {l : List Nat} (h : Rd w R l B C) (hb : Below w.heap.size w w') : Rd w' R l B C :=
  h.turned (S := fun _ => False) (Turned.ofBelow hb) (fun h => h) fun _ h => h.elim
theorem rdNumR (R B C : Nat) (k : Nat) (l l2 : List Nat) (V : Nat) (hV : M.leV (l.take k) = V) (h2 : l.drop k = l2) (w : World) (hr : Rd w R l B C) (hk1 : 1 ≤ k) (hk7 : k ≤ 7) (hk : k ≤ l.length) (hl : l.length ≤ 1000000) :
    Calls Try.prog 56 #[.pointer (some ⟨R, 0, none⟩), .int .i64 k] w fun e w' => e = .returned (.int .i64 V) ∧ Rd w' R l2 B C ∧ Turned (fun j => j = R) w w' := by
  obtain ⟨a, cap, hr, hp⟩ := hr
  refine (rdNumV R k l l2 V hV h2 w a cap hr hk1 hk7 hk hl).mono ?_
  rintro e w' ⟨he, hr', ht⟩
  refine ⟨he, ⟨_, _, hr', fun p e => ?_⟩, ht⟩
  obtain ⟨q, hq, e2⟩ := cutAt_block e
  rw [← e2]
  exact hp q hq
theorem rdBytesR (R B C : Nat) (n : Nat) (l l2 t : List Nat) (ht0 : l.take n = t) (h2 : l.drop n = l2) (w : World) (hr : Rd w R l B C) (hn : n ≤ l.length) (hl : l.length ≤ 1000000) :
    Calls Try.prog 52 #[.pointer (some ⟨R, 0, none⟩), .int .i64 n] w fun e w' => (∃ a, e = .returned (.slice a n n) ∧ HasB w' a t) ∧ Rd w' R l2 B C ∧ Turned (fun j => j = R) w w' := by
  subst ht0 h2
  obtain ⟨a, cap, hr, hp⟩ := hr
  refine (rdBytes_good R n w a l cap hr hn hl).mono ?_
  rintro e w' ⟨he, hr', ht⟩
  refine ⟨⟨a, he, (ht.has hr.has (fun p e => hr.2.2.2 p e)).take n⟩, ⟨_, _, hr', fun p e => ?_⟩, ht⟩
  obtain ⟨q, hq, e2⟩ := cutAt_block e
  rw [← e2]
  exact hp q hq
theorem doneR (R B C : Nat) (l : List Nat) (w : World) (hr : Rd w R l B C) : Calls Try.prog 58 #[.pointer (some ⟨R, 0, none⟩)] w fun e w' => e = .returned (.int .i64 (if l ≠ [] then 14 else 0)) ∧ Below w.heap.size w w' := by
  obtain ⟨a, cap, hr, hp⟩ := hr
  have := done_calls R w a l cap false hr
  simpa using this
theorem rnewR (n : Nat) (a : Option Addr) (l : List Nat) (hn0 : l.length = n) (c : Nat) (w : World) (hl : HasB w a l) (hn : n ≤ 1000000) :
    Calls Try.prog 49 #[.slice a n c] w fun e w' => (∃ R, e = .returned (.pointer (some ⟨R, 0, none⟩)) ∧ Rd w' R l w.heap.size w'.heap.size ∧ w.heap.size ≤ R ∧ R < w'.heap.size) ∧ Below w.heap.size w w' := by
  refine (rnewN n a l hn0 c w hl hn).mono ?_
  rintro e w' ⟨⟨R, a', cap, he, hr, h1, h2, h3⟩, hb⟩
  exact ⟨⟨R, he, ⟨a', cap, hr, h3⟩, h1, h2⟩, hb⟩
/-- 'copy' of just so many bytes into a row that is known -/
theorem wpList_copy_bytes {ops : Array Oper} {rest : List Oper} {o : Oper} {a : Act} {w : World} {Q : Exit → Act → World → Prop} (hgd : o.guard = none) (d : Option Tmp) (hdst : o.dst = d) (x y : Operand)
    (ho : o.op = .call { callee := .builtin .copy, args := #[x, y], argTypes := #[28, 28] }) (g off n : Nat) (cd cs : Nat) (ad : Option Addr) (hx : a.eval x = .slice (some ⟨g, off, none⟩) n cd) (hy : a.eval y = .slice ad n cs)
    (t : List Nat) (ht : t.length = n) (hn : 0 < n) (hs : HasB w ad t) (T : TypeId) (cur cur' : Array Value) (hg : w.heap[g]? = some (.cells cur T (0, 0))) (hfit : off + n ≤ cur.size)
    (hc : (cur.toList.take off ++ (u8s t ++ cur.toList.drop (off + n))).toArray = cur')
    (h : ∀ W : World, W.heap[g]? = some (.cells cur' T (0, 0)) → Turned (fun k => k = g) w W → wpList Try.prog ops Q rest (a.put d (goInt n)) W) : wpList Try.prog ops Q (o :: rest) a w := by
  subst hdst
  obtain ⟨b, o2, rfl, hcell⟩ := hs.cell (by omega)
  have hl : (u8s t).length = n := by rw [u8s_length, ht]
  subst hc
  refine wpList_copy_own hgd x y 28 28 ho 5 Try.underlying28 (by kernel_rfl) g off n cd ⟨b, o2, none⟩ n cs hx hy cur T hg (u8s t) (by rw [hl]; simp) (fun j v hj => ?_) (by rw [hl]; exact hfit) (u8s_one t) ?_
  · have hjl : j < t.length := by have := (List.getElem?_eq_some_iff.1 hj).1; simpa [u8s] using this
    have hadd : (⟨b, o2, none⟩ : Addr).add j = ⟨b, o2 + j, none⟩ := by unfold Addr.add; split <;> simp_all
    rw [hadd, hcell j hjl, ← u8s_at t j hjl, hj]
  · rw [hl]
    refine h _ (setRow_heap w g _ _ T _ hg) ⟨rfl, rfl, rfl, by simp [World.setRow], fun k hk hne => setRow_other w g k _ (fun e => hne e)⟩
theorem frm_set1 (k z o e s z' : Int) (b : List Nat) : (frm ⟨k, z, o, e, s, b⟩).setIfInBounds 1 (.int .i64 z') = frm ⟨k, z', o, e, s, b⟩ := by simp [frm]
theorem frm_set2 (k z o e s z' : Int) (b : List Nat) : (frm ⟨k, z, o, e, s, b⟩).setIfInBounds 2 (.int .i64 z') = frm ⟨k, z, z', e, s, b⟩ := by simp [frm]
theorem frm_set3 (k z o e s z' : Int) (b : List Nat) : (frm ⟨k, z, o, e, s, b⟩).setIfInBounds 3 (.int .i64 z') = frm ⟨k, z, o, z', s, b⟩ := by simp [frm]
theorem frm_set4 (k z o e s z' : Int) (b : List Nat) : (frm ⟨k, z, o, e, s, b⟩).setIfInBounds 4 (.int .i64 z') = frm ⟨k, z, o, e, z', b⟩ := by simp [frm]
theorem frm_body_put (k z o e s : Int) (b t : List Nat) (hb : b.length = 44) (_ : t.length = 44) : ((frm ⟨k, z, o, e, s, b⟩).toList.take 5 ++ (u8s t ++ (frm ⟨k, z, o, e, s, b⟩).toList.drop (5 + 44))).toArray = frm ⟨k, z, o, e, s, t⟩ := by
  have : (u8s b).length = 44 := by rw [u8s_length, hb]
  simp [frm, List.drop_eq_nil_of_le, this]
theorem frm_sizeN (k z o e s : Int) (b : List Nat) (hb : b.length = 44) : (frm ⟨k, z, o, e, s, b⟩).size = 49 := by simp [frm, u8s_length, hb]
end Go.Proofs.Ytncooadaeifekaa

/- Helpers for the walks: arrays of bytes and frames compared, under a guard or not; a whole value as a new variable. No condition but what each states. -/
namespace Go.Proofs.Ytncooadaeifekaa
open Go.RowKit
theorem fields41 : (Try.prog.fieldsOf 41).toList.map (fun f => (f.name, f.type, f.offset)) = [("Kind", 3, 0), ("Zone", 3, 1), ("Off", 3, 2), ("Epoch", 3, 3), ("Seq", 3, 4), ("Body", 39, 5)] := by kernel_rfl
theorem fields42 : (Try.prog.fieldsOf 42).toList.map (fun f => (f.name, f.type, f.offset)) = [("Kind", 3, 0), ("Zone", 3, 1), ("Off", 3, 2), ("Epoch", 3, 3), ("Seq", 3, 4), ("Body", 39, 5)] := by kernel_rfl
theorem size39 (w : World) : (sizeOf 39).run Try.prog w = .ok 44 w := by kernel_rfl
theorem part_int (w : World) (cs : Array Value) (i : Nat) (v : Value) (h : cs[i]? = some v) : (part 3 cs i).run Try.prog w = .ok v w := by
  simp [part, isAgg, run_underlying Try.underlying3, h]
theorem part_body (w : World) (f : M.Fr) (h : f.ok) : (part 39 (frm f) 5).run Try.prog w = .ok (.agg (sct f.body)) w := by
  simp only [part, isAgg, Sem.run_bind, run_underlying Try.underlying39, Result.andThen_ok, Sem.run_pure, if_true, size39]
  have e : (frm f).extract 5 (5 + 44) = sct f.body := by
    apply Array.ext'
    simp [frm, sct, List.take_of_length_le, u8s_length, h.1]
  rw [e]
theorem eqFields_step (w : World) (d : Nat) (xs ys : Array Value) (f : Field) (fs : List Field) (a b : Value) (r : Bool) (hn : f.name ≠ "_") (h1 : (part f.type xs f.offset).run Try.prog w = .ok a w) (h2 : (part f.type ys f.offset).run Try.prog w = .ok b w)
    (h3 : (Op.equalIn d f.type a b).run Try.prog w = .ok r w) : (Op.eqFields d xs ys (f :: fs)).run Try.prog w = if r then (Op.eqFields d xs ys fs).run Try.prog w else .ok false w := by
  simp only [Op.eqFields, hn, ne_eq, not_false_eq_true, if_true, Sem.run_bind, h1, h2, h3, Result.andThen_ok]
  cases r <;> simp
theorem eq_int (w : World) (d : Nat) (a b : Int) : (Op.equalIn (d + 1) 3 (.int .i64 a) (.int .i64 b)).run Try.prog w = .ok (decide (a = b)) w := by
  rw [run_equalIn_int w d 3 .i64 .i64 a b Try.underlying3]
  congr 1
theorem eqFields_frm (w : World) (d : Nat) (f g : M.Fr) (hf : f.ok) (hg : g.ok) (fs : List Field) (hfs : fs.map (fun f => (f.name, f.type, f.offset)) = [("Kind", 3, 0), ("Zone", 3, 1), ("Off", 3, 2), ("Epoch", 3, 3), ("Seq", 3, 4), ("Body", 39, 5)]) :
    (Op.eqFields (d + 2) (frm f) (frm g) fs).run Try.prog w = .ok (decide (f = g)) w := by
  obtain ⟨f0, f1, f2, f3, f4, f5, rfl⟩ : ∃ f0 f1 f2 f3 f4 f5, fs = [f0, f1, f2, f3, f4, f5] := by
    rcases fs with _ | ⟨f0, _ | ⟨f1, _ | ⟨f2, _ | ⟨f3, _ | ⟨f4, _ | ⟨f5, _ | ⟨f6, fs⟩⟩⟩⟩⟩⟩⟩
    all_goals first | exact ⟨_, _, _, _, _, _, rfl⟩ | (simp at hfs; done)
  simp only [List.map_cons, List.map_nil, List.cons.injEq, Prod.mk.injEq, and_true] at hfs
  obtain ⟨⟨n0, t0, o0⟩, ⟨n1, t1, o1⟩, ⟨n2, t2, o2⟩, ⟨n3, t3, o3⟩, ⟨n4, t4, o4⟩, n5, t5, o5⟩ := hfs
  rw [eqFields_step w _ _ _ f0 _ (.int .i64 f.kind) (.int .i64 g.kind) (decide (f.kind = g.kind)) (by rw [n0]; decide) (by rw [t0, o0]; exact part_int w _ _ _ (frm0 f)) (by rw [t0, o0]; exact part_int w _ _ _ (frm0 g)) (by rw [t0]; exact eq_int w _ _ _)]
  rw [eqFields_step w _ _ _ f1 _ (.int .i64 f.zone) (.int .i64 g.zone) (decide (f.zone = g.zone)) (by rw [n1]; decide) (by rw [t1, o1]; exact part_int w _ _ _ (frm1 f)) (by rw [t1, o1]; exact part_int w _ _ _ (frm1 g)) (by rw [t1]; exact eq_int w _ _ _)]
  rw [eqFields_step w _ _ _ f2 _ (.int .i64 f.off) (.int .i64 g.off) (decide (f.off = g.off)) (by rw [n2]; decide) (by rw [t2, o2]; exact part_int w _ _ _ (frm2 f)) (by rw [t2, o2]; exact part_int w _ _ _ (frm2 g)) (by rw [t2]; exact eq_int w _ _ _)]
  rw [eqFields_step w _ _ _ f3 _ (.int .i64 f.epoch) (.int .i64 g.epoch) (decide (f.epoch = g.epoch)) (by rw [n3]; decide) (by rw [t3, o3]; exact part_int w _ _ _ (frm3 f)) (by rw [t3, o3]; exact part_int w _ _ _ (frm3 g)) (by rw [t3]; exact eq_int w _ _ _)]
  rw [eqFields_step w _ _ _ f4 _ (.int .i64 f.seq) (.int .i64 g.seq) (decide (f.seq = g.seq)) (by rw [n4]; decide) (by rw [t4, o4]; exact part_int w _ _ _ (frm4 f)) (by rw [t4, o4]; exact part_int w _ _ _ (frm4 g)) (by rw [t4]; exact eq_int w _ _ _)]
  rw [eqFields_step w _ _ _ f5 _ (.agg (sct f.body)) (.agg (sct g.body)) (decide (f.body = g.body)) (by rw [n5]; decide) (by rw [t5, o5]; exact part_body w f hf) (by rw [t5, o5]; exact part_body w g hg) (by rw [t5]; exact run_equalIn_u8s w d 39 44 Try.underlying39 _ _ hf.1 hg.1 hf.2 hg.2)]
  simp only [Op.eqFields, Sem.run_pure]
  obtain ⟨k, z, o, e, s, b⟩ := f
  obtain ⟨k', z', o', e', s', b'⟩ := g
  simp only [M.Fr.mk.injEq]
  by_cases h1 : k = k' <;> by_cases h2 : z = z' <;> by_cases h3 : o = o' <;> by_cases h4 : e = e' <;> by_cases h5 : s = s' <;> by_cases h6 : b = b' <;> simp [h1, h2, h3, h4, h5, h6]
theorem eq_frm41 (f g : M.Fr) (hf : f.ok) (hg : g.ok) (w : World) : (Op.equalIn 10000 41 (.agg (frm f)) (.agg (frm g))).run Try.prog w = .ok (decide (f = g)) w := by
  rw [run_equalIn_agg w 9999 41 _ _ (by kernel_rfl) (by kernel_rfl)]
  exact eqFields_frm w 9997 f g hf hg _ fields41
theorem eq_frm42 (f g : M.Fr) (hf : f.ok) (hg : g.ok) (w : World) : (Op.equalIn 10000 42 (.agg (frm f)) (.agg (frm g))).run Try.prog w = .ok (decide (f = g)) w := by
  rw [run_equalIn_agg w 9999 42 _ _ (by kernel_rfl) (by kernel_rfl)]
  exact eqFields_frm w 9997 f g hf hg _ fields42
theorem eq_sct (t n : Nat) (ht : Try.prog.underlying t = some (.array n 5)) (s s' : List Nat) (h1 : s.length = n) (h2 : s'.length = n) (b1 : ∀ c ∈ s, c < 256) (b2 : ∀ c ∈ s', c < 256) (w : World) :
    (Op.equalIn 10000 t (.agg (sct s)) (.agg (sct s'))).run Try.prog w = .ok (decide (s = s')) w := run_equalIn_u8s w 9998 t n ht s s' h1 h2 b1 b2
/-- '==' of arrays or structs -/
theorem op_eql {o : Oper} {F : Act} {w : World} (t u : TypeId) (x y : Operand) (ho : o.op = .binOp .eql t x y u) (cs ds : Array Value) (hx : F.eval x = .agg cs) (hy : F.eval y = .agg ds) (hm : Try.prog.eqGuardType Try.prog.depth t = false) (r : Bool)
    (h : ∀ w, (Op.equalIn 10000 t (.agg cs) (.agg ds)).run Try.prog w = .ok r w) : (execOp F.eval o).run Try.prog w = .ok (.value (.bool r)) w := by
  unfold execOp
  simp only [ho, hx, hy, Sem.run_bind, run_eqGuard_agg w .eql t x y cs ds hm, run_eql_struct, h, Result.andThen_ok, Sem.run_pure]
theorem op_neq {o : Oper} {F : Act} {w : World} (t u : TypeId) (x y : Operand) (ho : o.op = .binOp .neq t x y u) (cs ds : Array Value) (hx : F.eval x = .agg cs) (hy : F.eval y = .agg ds) (hm : Try.prog.eqGuardType Try.prog.depth t = false) (r : Bool)
    (h : ∀ w, (Op.equalIn 10000 t (.agg cs) (.agg ds)).run Try.prog w = .ok r w) : (execOp F.eval o).run Try.prog w = .ok (.value (.bool (!r))) w := by
  unfold execOp
  simp only [ho, hx, hy, Sem.run_bind, run_eqGuard_agg w .neq t x y cs ds hm, run_neq_struct, h, Result.andThen_ok, Sem.run_pure]
section
variable {ops : Array Oper} {rest : List Oper} {o : Oper} {a : Act} {w : World} {Q : Exit → Act → World → Prop}
theorem wpList_eql (d : Tmp) (hd : o.dst = some d) (hw : Region.wanted o (yielded ops a.tmps) = true) (t u : TypeId) (x y : Operand) (ho : o.op = .binOp .eql t x y u) (cs ds : Array Value) (hx : a.eval x = .agg cs) (hy : a.eval y = .agg ds) (hm : Try.prog.eqGuardType Try.prog.depth t = false) (r : Bool)
    (he : ∀ w, (Op.equalIn 10000 t (.agg cs) (.agg ds)).run Try.prog w = .ok r w) (h : wpList Try.prog ops Q rest (a.put (some d) (.bool r)) w) : wpList Try.prog ops Q (o :: rest) a w :=
  wpList_wanted hw fun K hK => by
    unfold Oper.wp
    rw [op_eql t u x y ho cs ds hx hy hm r he]
    show K (a.put o.dst _) _
    rw [hd]
    exact hK _ _ h
theorem wpList_neq (d : Tmp) (hd : o.dst = some d) (hw : Region.wanted o (yielded ops a.tmps) = true) (t u : TypeId) (x y : Operand) (ho : o.op = .binOp .neq t x y u) (cs ds : Array Value) (hx : a.eval x = .agg cs) (hy : a.eval y = .agg ds) (hm : Try.prog.eqGuardType Try.prog.depth t = false) (r : Bool)
    (he : ∀ w, (Op.equalIn 10000 t (.agg cs) (.agg ds)).run Try.prog w = .ok r w) (h : wpList Try.prog ops Q rest (a.put (some d) (.bool (!r))) w) : wpList Try.prog ops Q (o :: rest) a w :=
  wpList_wanted hw fun K hK => by
    unfold Oper.wp
    rw [op_neq t u x y ho cs ds hx hy hm r he]
    show K (a.put o.dst _) _
    rw [hd]
    exact hK _ _ h
/-- a literal under a guard that says yes -/
theorem wpList_build_g {P : Program} {ops : Array Oper} {rest : List Oper} {o : Oper} {a : Act} {w : World} {Q : Exit → Act → World → Prop} (d : Tmp) (hd : o.dst = some d) (hw : Region.wanted o (yielded ops a.tmps) = true) (t : TypeId) (parts : Array (Nat × Operand)) (ho : o.op = .build t parts)
    (cs : Array Value) (hb : ∀ w, (Instr.build t (parts.map fun (i, x) => (i, a.eval x))).run P w = .ok (.agg cs) w)
    (h : wpList P ops Q rest (a.put (some d) (.agg cs)) w) : wpList P ops Q (o :: rest) a w := by
  refine wpList_wanted hw fun K hK => ?_
  unfold Oper.wp execOp
  simp only [ho, Sem.run_bind, hb, Result.andThen_ok]
  show K (a.put o.dst _) _
  rw [hd]
  exact hK _ _ h
end
theorem grd41 : Try.prog.eqGuardType Try.prog.depth 41 = false := by kernel_rfl
theorem grd42 : Try.prog.eqGuardType Try.prog.depth 42 = false := by kernel_rfl
theorem grd43 : Try.prog.eqGuardType Try.prog.depth 43 = false := by kernel_rfl
theorem grd44 : Try.prog.eqGuardType Try.prog.depth 44 = false := by kernel_rfl
end Go.Proofs.Ytncooadaeifekaa
