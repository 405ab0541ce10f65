/- Walks of the reference's step, Over, Sum and of the anchor of layer 1; memory only grows. -/
import Derived.Test.YtncooadaeifekaaC2
import Derived.Lib.SlBytesConst
namespace Go.Proofs.Ytncooadaeifekaa
open Go.RowKit
set_option maxRecDepth 100000 in
theorem rstep_calls (r c : Nat) (hr : r < 4294967296) (hc : c < 256) (w : World) :
    Calls Try.prog 75 #[.int .u32 r, .int .u8 c] w fun e w' => e = .returned (.int .u32 (M.bst r c)) ∧ Below w.heap.size w w' := by
  have e1 : bits .xor .u32 (r : Int) (c : Int) = ((r ^^^ c : Nat) : Int) := xor32 r c hr (by omega)
  have hx := xor32_lt r c hr (by omega)
  obtain ⟨X, hX⟩ : ∃ X, X = r ^^^ c := ⟨_, rfl⟩
  rw [← hX] at e1 hx
  have HX : Hid (M.bst r c = M.stpN 8 X) := by rw [hX]; rfl
  clear hX
  go_enter Try.func75, Try.ntmps75
  go_wp2
  go_loop [0, 5, 6] (fun r j _ => ∃ m : Nat, m ≤ 8 ∧ j = .int .i64 m ∧ r = .int .u32 (M.stpN m X)) (fun _ j _ => 8 - (intOf j).toNat)
  case atStart => exact ⟨0, by omega, rfl, rfl⟩
  case round =>
    obtain ⟨m, hm, rfl, rfl⟩ := hrel
    obtain ⟨R, hR⟩ : ∃ R, R = M.stpN m X := ⟨_, rfl⟩
    have hRl : R < 4294967296 := by rw [hR]; exact M.stpN_lt _ _ (by omega)
    have hs : M.stpN (m + 1) X = M.stp R := by rw [M.stpN_succ', hR]
    have HS := hid hs
    have HR := hid hR
    rw [← hR]
    clear hs hR e1
    by_cases hm8 : m < 8
    · have hst : Hid (M.stp R = if R % 2 = 1 then (R / 2) ^^^ 2197175160 else R / 2) := rfl
      have hx : bits .xor .u32 ((R : Int) / 2) 2197175160 = ((R / 2 ^^^ 2197175160 : Nat) : Int) := xor32 (R / 2) 2197175160 (by omega) (by decide)
      by_cases hodd : R % 2 = 1
      · have hS2 : Hid (M.stpN (m + 1) X = R / 2 ^^^ 2197175160) := by have := HS.out; rw [hst.out, if_pos hodd] at this; exact this
        have ht2 : ((R : Int) % 2 == 1) = true := by rw [beq_iff_eq]; omega
        clear hodd
        go_wp2
        go_round
        case rel => exact ⟨m + 1, by omega, by go_num, by rw [hS2.out]⟩
        case measure => simp [intOf]; omega
      · have hS2 : Hid (M.stpN (m + 1) X = R / 2) := by have := HS.out; rw [hst.out, if_neg hodd] at this; exact this
        have ht2 : ((R : Int) % 2 == 1) = false := by rw [beq_eq_false_iff_ne]; omega
        clear hodd
        go_wp2
        go_round
        case rel => exact ⟨m + 1, by omega, by go_num, by rw [hS2.out]; go_num⟩
        case measure => simp [intOf]; omega
    · have hm' : m = 8 := by omega
      have hT : Hid (R = M.bst r c) := by show R = M.bst r c; rw [HR.out, hm', HX.out]
      clear hm'
      go_wp2
      go_ret
      exact ⟨by rw [← hT.out]; rfl, Below.refl _ _⟩
set_option maxRecDepth 100000 in
theorem rover_calls (r : Nat) (hr : r < 4294967296) (a : Option Addr) (l : List Nat) (cap : Nat) (w : World) (hl : HasB w a l) (hn : l.length ≤ 1000000) :
    Calls Try.prog 32 #[.int .u32 r, .slice a l.length cap] w fun e w' => e = .returned (.int .u32 (M.over r l)) ∧ Below w.heap.size w w' := by
  go_enter Try.func32, Try.ntmps32
  go_wp2
  go_loopw [0, 5] (fun r' i wr => ∃ k : Nat, k ≤ l.length ∧ i = .int .i64 k ∧ r' = .int .u32 (M.over r (l.take k)) ∧ Below w.heap.size w wr) (fun _ i _ => l.length - (intOf i).toNat)
  case atStart => exact ⟨0, Nat.zero_le _, rfl, rfl, Below.refl _ _⟩
  case round =>
    obtain ⟨k, hk, rfl, rfl, hb⟩ := hrel
    by_cases hlt : k < l.length
    · have hR := over_take r l k hlt
      obtain ⟨R, hRe⟩ : ∃ R, R = M.over r (l.take k) := ⟨_, rfl⟩
      have hRl : R < 4294967296 := by rw [hRe]; exact M.over_lt _ _ hr (fun c hc => hl.1 c (List.mem_of_mem_take hc))
      rw [← hRe] at hR ⊢
      have HR := hid hR
      clear hR hRe
      obtain ⟨bb, off, rfl, hc⟩ := (hl.below hb).cell (by omega)
      have hcell := hc k hlt
      clear hc
      have hcb := nth_lt l hl.1 k
      go_wp2_with (go_at_call 75; refine (rstep_calls _ _ hRl hcb _).mono ?_; rintro e w' ⟨rfl, hb2⟩)
      go_roundw
      case rel => exact ⟨k + 1, by omega, by go_num, by rw [HR.out], below_next hb hb2⟩
      case measure => simp [intOf]; omega
    · go_wp2
      go_ret
      exact ⟨by rw [List.take_of_length_le (by omega)]; rfl, hb⟩
theorem compl32 (x : Nat) (h : x < 4294967296) : x ^^^ 4294967295 = 4294967295 - x := by
  have h1 : x ^^^ 4294967295 = (2 ^ 32 - 1) - x := by
    apply Nat.eq_of_testBit_eq; intro i
    have e : (2 : Nat) ^ 32 - 1 - x = 2 ^ 32 - (x + 1) := by omega
    rw [e, Nat.testBit_two_pow_sub_succ h, Nat.testBit_xor, show (4294967295 : Nat) = 2 ^ 32 - 1 from rfl, Nat.testBit_two_pow_sub_one]
    by_cases hi : i < 32
    · simp [hi]
    · have : x.testBit i = false := Nat.testBit_lt_two_pow (Nat.lt_of_lt_of_le h (Nat.pow_le_pow_right (by decide) (by omega) : 2 ^ 32 ≤ 2 ^ i))
      simp [hi, this]
  rw [h1]
set_option maxRecDepth 100000 in
theorem rsum_calls (a : Option Addr) (l : List Nat) (cap : Nat) (w : World) (hl : HasB w a l) (hn : l.length ≤ 1000000) :
    Calls Try.prog 34 #[.slice a l.length cap] w fun e w' => e = .returned (.int .u32 (M.over 4294967295 l ^^^ 4294967295 : Nat)) ∧ Below w.heap.size w w' := by
  have hlt := M.over_lt 4294967295 l (by decide) hl.1
  have e1 := compl32 _ hlt
  have HE := hid e1
  clear e1
  go_enter Try.func34, Try.ntmps34
  go_wp2_with (go_at_call 32; refine (rover_calls 4294967295 (by decide) a l cap _ hl hn).mono ?_; rintro e w' ⟨rfl, hb2⟩)
  go_ret
  exact ⟨ret_int (by rw [HE.out]; omega), hb2⟩
theorem hasB_new (w : World) (l : List Nat) (hl : ∀ c ∈ l, c < 256) (fr : Nat × Nat) : HasB (w.alloc (.cells (l.map fun (c : Nat) => Value.int .u8 c).toArray 5 fr)) (some ⟨w.heap.size, 0, none⟩) l := by
  refine ⟨hl, .inr ⟨w.heap.size, 0, rfl, fun i hi => ?_⟩⟩
  rw [cell_of_row _ _ _ _ _ _ (heap_alloc_new w _)]
  simp [nth, hi]
def nine : List Nat := [49, 50, 51, 52, 53, 54, 55, 56, 57]
theorem nine_sum : M.over 4294967295 nine ^^^ 4294967295 = 3808858755 := by decide +kernel
set_option maxRecDepth 100000 in
theorem anchor_calls (w : World) :
    Calls Try.prog 28 #[] w fun e w' => e = .returned (.bool true) ∧ Below w.heap.size w w' := by
  have hs := nine_sum
  have HS := hid hs
  clear hs
  have kc := fun (w : World) (C : Array Value) (n c : Nat) => Lib.run_convert_bytes_const (P := Try.prog) w 28 5 C n c Try.underlying28 Try.underlying5
  go_enter Try.func28, Try.ntmps28
  go_wp2_with (first | (go_at_call 29; refine (new_calls _).mono ?_; rintro e w' ⟨rfl, hb2⟩))
  refine (sum_calls _ nine 9 _ (hasB_new _ nine (by decide) _) (by decide)).mono ?_
  rintro e w2 ⟨rfl, hb3⟩
  rw [HS.out]
  go_wp2
  go_ret
  exact ⟨rfl, below_next (hb2.alloc (by have := hb2.size; omega) _) hb3⟩
end Go.Proofs.Ytncooadaeifekaa
