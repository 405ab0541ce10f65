/- Walks of the reader's Num, of the reference's Read and Num. -/
import Derived.Test.YtncooadaeifekaaC7
namespace Go.Proofs.Ytncooadaeifekaa
open Go.RowKit
theorem or64 (a b : Nat) (ha : a < 2 ^ 62) (hb : b < 2 ^ 62) : bits .or .i64 (a : Int) (b : Int) = ((a ||| b : Nat) : Int) := by
  have hx : a ||| b < 2 ^ 62 := Nat.or_lt_two_pow ha hb
  have h1 : (BitVec.ofInt 64 (a : Int)).toNat = a := by rw [BitVec.ofInt_natCast, BitVec.toNat_ofNat]; exact Nat.mod_eq_of_lt (Nat.lt_trans ha (by decide))
  have h2 : (BitVec.ofInt 64 (b : Int)).toNat = b := by rw [BitVec.ofInt_natCast, BitVec.toNat_ofNat]; exact Nat.mod_eq_of_lt (Nat.lt_trans hb (by decide))
  show IntKind.i64.wrap ((BitVec.ofInt 64 (a : Int) ||| BitVec.ofInt 64 (b : Int)).toNat : Int) = _
  rw [BitVec.toNat_or, h1, h2, IntKind.wrap_i64]; omega
theorem or_step (V c m : Nat) (hV : V < 256 ^ m) (hm : m ≤ 6) (hc : c < 256) : bits .or .i64 (V : Int) (wrap64 ((c : Int) * 2 ^ (8 * m))) = ((V + 256 ^ m * c : Nat) : Int) := by
  have e : (2 : Nat) ^ (8 * m) = 256 ^ m := by rw [Nat.pow_mul]
  have hp : 256 ^ m ≤ 281474976710656 := Nat.le_trans (Nat.pow_le_pow_right (by decide) hm) (by decide)
  have hcl : c * 256 ^ m < 2 ^ 62 := by
    have : c * 256 ^ m ≤ 255 * 281474976710656 := Nat.mul_le_mul (by omega) hp
    omega
  have e1 : ((c : Int) * 2 ^ (8 * m)) = ((c * 256 ^ m : Nat) : Int) := by rw [← e]; simp
  have e2 : wrap64 ((c * 256 ^ m : Nat) : Int) = ((c * 256 ^ m : Nat) : Int) := by
    generalize c * 256 ^ m = x at *
    unfold wrap64
    omega
  rw [e1, e2, or64 V _ (by omega) hcl]
  congr 1
  rw [Nat.or_comm, ← e, Nat.mul_comm c, ← Nat.two_pow_add_eq_or_of_lt (by rw [e]; exact hV), Nat.add_comm]
set_option maxRecDepth 100000 in
set_option maxHeartbeats 400000 in
theorem rdNum_good (R : Nat) (k : Nat) (w : World) (a : Option Addr) (l : List Nat) (cap : Nat) (hr : RdB w R a l cap false) (hk1 : 1 ≤ k) (hk7 : k ≤ 7) (hk : k ≤ l.length) (hl : l.length ≤ 1000000) :
    Calls Try.prog 56 #[.pointer (some ⟨R, 0, none⟩), .int .i64 k] w fun e w' => e = .returned (.int .i64 (M.leV (l.take k))) ∧ RdB w' R (cutAt a cap k) (l.drop k) (cap - k) false ∧ Turned (fun j => j = R) w w' := by
  have HR := hid hr
  have HL := hid hl
  clear hr hl
  go_enter Try.func56, Try.ntmps56
  go_wp2_with (first | (go_at_call 80; refine (within_yes _ (by omega) (by omega) _).mono ?_; rintro e w0 ⟨rfl, hb0⟩) | (go_at_call 78; refine (take_good R k _ a l cap (HR.out.grow hb0) hk HL.out).mono ?_; rintro e w1 ⟨rfl, hr1, ht1⟩; have hh1 := (ht1.has (HR.out.grow hb0).has (fun p hp => HR.out.2.2.2 p hp)).take k; have HT1 := hid ht1; have HR1 := hid hr1; clear ht1 hr1))
  obtain ⟨L, hL⟩ : ∃ L, L = l.take k := ⟨_, rfl⟩
  have hLl : L.length = k := by rw [hL]; simp; omega
  rw [← hL] at hh1
  have HLk := hid hL
  clear hL
  go_loop [5, 6, 7, 17] (fun v _ _ i => ∃ m V : Nat, m ≤ k ∧ i = .int .i64 m ∧ v = .int .i64 V ∧ Hid (V = M.leV (L.take m))) (fun _ _ _ i => k - (intOf i).toNat)
  case atStart => exact ⟨0, 0, Nat.zero_le _, rfl, rfl, rfl⟩
  case round =>
    obtain ⟨m, V, hm, rfl, rfl, HV⟩ := hrel
    by_cases hlt : m < k
    · have hVl : V < 256 ^ m := by rw [HV.out]; exact Nat.lt_of_lt_of_le (M.leV_lt _ fun c hc => hh1.1 c (List.mem_of_mem_take hc)) (Nat.pow_le_pow_right (by decide) (by simp; omega))
      have hor := or_step V (nth L m) m hVl (by omega) (nth_lt L hh1.1 m)
      have hV2 : Hid (V + 256 ^ m * nth L m = M.leV (L.take (m + 1))) := by show _ = _; rw [take_nth L m (by omega), M.leV_append, HV.out, List.length_take, show min m L.length = m by omega]; simp [M.leV]
      obtain ⟨V2, hVe⟩ : ∃ V2, V2 = V + 256 ^ m * nth L m := ⟨_, rfl⟩
      rw [← hVe] at hor hV2
      clear hVl hVe
      obtain ⟨b, off, rfl, hc⟩ := hh1.cell (by omega)
      have hcell := hc m (by omega)
      clear hc
      have hcb := nth_lt L hh1.1 m
      clear hLl
      go_wp2
      go_round
      case rel => exact ⟨m + 1, V2, by omega, by go_num, rfl, hV2⟩
      case measure => simp [intOf]; omega
    · have e : Hid (V = M.leV (l.take k)) := by show _ = _; rw [HV.out, ← HLk.out, List.take_of_length_le (by omega)]
      go_wp2
      go_ret
      exact ⟨by rw [← e.out]; rfl, HR1.out, (Turned.ofBelow hb0).trans HT1.out fun i hi => .inl hi⟩
set_option maxRecDepth 100000 in
set_option maxHeartbeats 400000 in
theorem rdNum_bad (R : Nat) (k : Int) (w : World) (a : Option Addr) (l : List Nat) (cap : Nat) (bad : Bool) (hr : RdB w R a l cap bad) (hk : bad = true ∨ ¬ (1 ≤ k ∧ k ≤ 7) ∨ (l.length : Int) < k) :
    Calls Try.prog 56 #[.pointer (some ⟨R, 0, none⟩), .int .i64 k] w fun e w' => e = .returned (.int .i64 0) ∧ RdB w' R none [] 0 true ∧ Turned (fun j => j = R) w w' := by
  have HR := hid hr
  by_cases hw : 1 ≤ k ∧ k ≤ 7
  · have HK : Hid (bad = true ∨ k < 0 ∨ (l.length : Int) < k) := by
      rcases hk with h | h | h
      · exact .inl h
      · exact absurd hw h
      · exact .inr (.inr h)
    have HW := hid hw
    clear hk hr hw
    go_enter Try.func56, Try.ntmps56
    go_wp2_with (first | (go_at_call 80; refine (within_yes _ HW.out.1 HW.out.2 _).mono ?_; rintro e w0 ⟨rfl, hb0⟩) | (go_at_call 78; refine (take_bad R k _ a l cap bad (HR.out.grow hb0) HK.out).mono ?_; rintro e w1 ⟨rfl, hr1, ht1⟩; have HT1 := hid ht1; have HR1 := hid hr1; clear ht1 hr1))
    go_loop [5, 6, 7, 17] (fun v _ _ i => i = .int .i64 0 ∧ v = .int .i64 0) (fun _ _ _ i => 0)
    case atStart => exact ⟨rfl, rfl⟩
    case round =>
      obtain ⟨rfl, rfl⟩ := hrel
      go_wp2
      go_ret
      exact ⟨rfl, HR1.out, (Turned.ofBelow hb0).trans HT1.out fun i hi => .inl hi⟩
  · have HW := hid hw
    clear hk hr hw
    go_enter Try.func56, Try.ntmps56
    go_wp2_with (first | (go_at_call 80; refine (within_no _ HW.out _).mono ?_; rintro e w0 ⟨rfl, hb0⟩) | (go_at_call 78; refine (take_bad R (-1) _ a l cap bad (HR.out.grow hb0) (.inr (.inl (by decide)))).mono ?_; rintro e w1 ⟨rfl, hr1, ht1⟩; have HT1 := hid ht1; have HR1 := hid hr1; clear ht1 hr1))
    go_ret
    exact ⟨rfl, HR1.out, (Turned.ofBelow hb0).trans HT1.out fun i hi => .inl hi⟩
theorem read_wrap (V c : Nat) (hV : V < 281474976710656) (hc : c < 256) : wrap64 (wrap64 (256 * (V : Int)) + (c : Int)) = ((256 * V + c : Nat) : Int) := by
  unfold wrap64; omega
set_option maxRecDepth 100000 in
set_option maxHeartbeats 400000 in
theorem read_calls (a : Option Addr) (l : List Nat) (c : Nat) (w : World) (hl : HasB w a l) (hn : l.length ≤ 7) :
    Calls Try.prog 57 #[.slice a l.length c] w fun e w' => e = .returned (.int .i64 (M.leV l)) ∧ Below w.heap.size w w' := by
  go_enter Try.func57, Try.ntmps57
  go_wp2
  go_loop [3, 4] (fun v i => ∃ m V : Nat, m ≤ l.length ∧ i = .int .i64 ((m : Int) - 1) ∧ v = .int .i64 V ∧ Hid (V = M.leV (l.drop m))) (fun _ i => (intOf i + 1).toNat)
  case atStart => exact ⟨l.length, 0, Nat.le_refl _, rfl, rfl, by show _ = _; simp [M.leV]⟩
  case round =>
    obtain ⟨m, V, hm, rfl, rfl, HV⟩ := hrel
    by_cases h0 : 0 < m
    · obtain ⟨p, rfl⟩ : ∃ p, m = p + 1 := ⟨m - 1, by omega⟩
      have hVl : V < 281474976710656 := by
        rw [HV.out]
        refine Nat.lt_of_lt_of_le (M.leV_lt _ fun c hc => hl.1 c (List.mem_of_mem_drop hc)) (Nat.le_trans (Nat.pow_le_pow_right (by decide) (?_ : _ ≤ 6)) (by decide))
        simp; omega
      have hV2 : Hid (256 * V + nth l p = M.leV (l.drop p)) := by
        show _ = _
        rw [List.drop_eq_getElem_cons (by omega), M.leV, HV.out, nth, List.getD, List.getElem?_eq_getElem (by omega)]
        simp; omega
      have HVl := hid hVl
      clear hVl h0
      obtain ⟨b, off, rfl, hc⟩ := hl.cell (by omega)
      have hcell := hc p (by omega)
      have hcb := nth_lt l hl.1 p
      clear hc
      have e1 : ((p + 1 : Nat) : Int) - 1 = (p : Int) := by omega
      rw [e1]
      go_wp2
      go_round
      case rel => exact ⟨p, 256 * V + nth l p, by omega, rfl, by rw [read_wrap V _ HVl.out hcb], hV2⟩
      case measure => simp [intOf]
    · obtain rfl : m = 0 := by omega
      go_wp2
      go_ret
      have e : Hid (V = M.leV l) := by show _ = _; rw [HV.out]; rfl
      exact ⟨by rw [← e.out]; rfl, Below.refl _ _⟩
theorem quo_wrap (Y : Nat) (h : Y < 72057594037927936) : wrap64 ((Y : Int) / 256) = ((Y / 256 : Nat) : Int) := by unfold wrap64; omega
set_option maxRecDepth 100000 in
set_option maxHeartbeats 400000 in
theorem rnum_calls (k X : Nat) (hk : k ≤ 7) (hX : X < 72057594037927936) (w : World) :
    Calls Try.prog 59 #[.int .i64 k, .int .i64 X] w fun e w' => (∃ a cap, e = .returned (.slice a k cap) ∧ k ≤ cap ∧ OwnB w' w.heap.size (.slice a k cap) (M.leB k X) ∧ HasB w' a (M.leB k X)) ∧ Below w.heap.size w w' := by
  have HX := hid hX
  clear hX
  go_enter Try.func59, Try.ntmps59
  go_wp2
  go_loopw [1, 5, 6] (fun x out i wr => ∃ m Y : Nat, m ≤ k ∧ i = .int .i64 m ∧ x = .int .i64 Y ∧ Hid (Y = X / 256 ^ m) ∧ OwnB wr w.heap.size out (M.leB m X) ∧ Below w.heap.size w wr) (fun _ _ i _ => k - (intOf i).toNat)
  case atStart => exact ⟨0, X, Nat.zero_le _, rfl, rfl, (by show _ = _; simp), ownB_nil _ _, Below.refl _ _⟩
  case round =>
    obtain ⟨m, Y, hm, rfl, rfl, HY, ho, hb⟩ := hrel
    have hYl : Hid (Y < 72057594037927936) := by show _ < _; rw [HY.out]; exact Nat.lt_of_le_of_lt (Nat.div_le_self _ _) (by have := HX.out; omega)
    by_cases hlt : m < k
    · have hY2 : Hid (Y / 256 = X / 256 ^ (m + 1)) := by show _ = _; rw [← M.div_step, HY.out]
      obtain ⟨cc, hcc⟩ : ∃ cc : Nat, (Y : Int) % 256 = cc := ⟨Y % 256, by omega⟩
      have hccl : cc < 256 := by omega
      have hL3 : M.leB m X ++ [cc] = M.leB (m + 1) X := by rw [M.leB_succ', ← HY.out, show Y % 256 = cc by omega]
      have HL3 := hid hL3
      clear hL3
      have hHO := hid ho
      have hHB := hid hb
      clear ho hb
      go_wp2_with (first | ((with_reducible show wpList _ _ _ (⟨some 17, _, _, _, _, _⟩ :: _) _ _); refine wpList_append_at 17 rfl rfl _ _ rfl w.heap.size _ (M.leB m X) [cc] (M.leB (m + 1) X) HL3.out (by rfl) (hHO.out.mono ((Below.refl _ _).alloc (Nat.le_refl _) _)) _ 1 (by rfl) (hasB_one _ cc hccl) (by rw [M.leB_length]; omega) (by have := hHB.out.size; simp; omega) ?_; intro av cv w5 ho5 hcv5 hh5 hb5))
      go_roundw
      case rel => exact ⟨m + 1, Y / 256, by omega, by go_num, by rw [quo_wrap Y hYl.out], hY2, ho5, (hHB.out.alloc hHB.out.size _).trans hb5⟩
      case measure => simp [intOf]; omega
    · obtain rfl : m = k := by omega
      obtain ⟨a, cap, rfl, hc, hh⟩ := ho.slice
      rw [M.leB_length] at hc ho ⊢
      have HO := hid ho
      clear ho
      go_wp2
      go_ret
      exact ⟨⟨a, cap, rfl, hc, HO.out, hh⟩, hb⟩

end Go.Proofs.Ytncooadaeifekaa
