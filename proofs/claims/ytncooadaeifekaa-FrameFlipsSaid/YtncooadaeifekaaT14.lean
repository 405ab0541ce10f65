/- Walk of the law FrameFlips: it answers true for any frame, word and place. -/
import Derived.Test.YtncooadaeifekaaC19
import Derived.Test.YtncooadaeifekaaT6
import Derived.Test.YtncooadaeifekaaM7
namespace Go.Proofs.Ytncooadaeifekaa
open Go.RowKit Go.BigFrame
theorem sct_put (s : List Nat) (i v : Nat) : (sct s).setIfInBounds i (.int .u8 v) = sct (s.set i v) := by
  apply Array.ext'
  simp [sct, u8s, List.map_set]
theorem flip_skip (word a k j : Nat) (b : Bool) (h : word.testBit k = false) : (b ^^ (decide (a ≤ j ∧ j < a + k) && word.testBit (j - a))) = (b ^^ (decide (a ≤ j ∧ j < a + (k + 1)) && word.testBit (j - a))) := by
  rw [burst_skip word a k j h]
theorem flip_step (word a k j : Nat) (b : Bool) (h : word.testBit k = true) : ((b ^^ (decide (a ≤ j ∧ j < a + k) && word.testBit (j - a))) ^^ decide (j = a + k)) = (b ^^ (decide (a ≤ j ∧ j < a + (k + 1)) && word.testBit (j - a))) := by
  rw [← burst_step word a k j h]
  by_cases e : j = a + k
  · subst e; simp
  · simp [e]
set_option maxRecDepth 100000 in
set_option maxHeartbeats 1000000 in
theorem flips_walk (w : World) (f : M.Fr) (hok : f.ok) (hr : f.right = true) (word a : Nat) (hw : 0 < word) (hw2 : word < 4294967296) (ha : a ≤ 480) :
    Calls Try.prog 25 #[.agg (frm f), .int .u32 word, .int .i64 a] w fun e w' => e = .returned (.bool true) ∧ Below w.heap.size w w' := by
  have t2 : decide ((a : Int) < 0) = false := by simp
  have t3 : decide ((480 : Int) < (a : Int)) = false := by simp; omega
  have t4 : ((word : Int) == 0) = false := by rw [beq_eq_false_iff_ne]; omega
  have HOK := hid hok
  have HR := hid hr
  have HSL := hid (M.Fr.sec_length f hok)
  have HSLT := hid (M.Fr.sec_lt f hok)
  have HSE := hid (M.sealed_sec f hok)
  clear hok hr
  have hW := Below.refl w.heap.size w
  go_enter Try.func25, Try.ntmps25
  go_upto_region 7 with (first | ((with_reducible show wpList _ _ _ (⟨some 3, _, _, _, _, _⟩ :: _) _ _); refine wpList_boxed 3 rfl rfl 41 _ rfl (frm f) rfl ?_; intro W3 N3 hNN3 hMN3 hr3 hb; have sW3 := hb.size; have hW := below_next hW hb) | (go_at_call 36; refine (anchor3_calls _).mono ?_; rintro e w1 ⟨rfl, hb⟩; have sw1 := hb.size; have hW := below_next hW hb; have hr3 := below_blk hb hr3) | (go_at_call 29; refine (new_calls _).mono ?_; rintro e w2 ⟨rfl, hb⟩; have sw2 := hb.size; have hW := below_next hW hb; have hr3 := below_blk hb hr3) | ((with_reducible show wpList _ _ _ (⟨some 7, _, _, _, _, _⟩ :: _) _ _); refine wpList_local 7 rfl rfl rfl rfl 25 rfl _ rfl tbl rfl (by simp) ty25 tbl_all ?_; intro W7 N7 hNN7 hMN7 hr7 hb; have sW7 := hb.size; have hW := below_next hW hb; have hr3 := below_blk hb hr3) | ((with_reducible show wpList _ _ _ (⟨some 17, _, _, _, _, _⟩ :: _) _ _); refine wpList_load_rowg 17 rfl rfl 25 _ rfl N7 rfl _ tbl (0, 0) _ hr7 Try.underlying25 rfl (by kernel_rfl) ?_) | ((with_reducible show wpList _ _ _ (⟨some 18, _, _, _, _, _⟩ :: _) _ _); refine wpList_load_rowg 18 rfl rfl 41 _ rfl N3 rfl _ (frm f) (0, 0) _ hr3 Try.underlying41 rfl (ty41 _ HOK.out).size ?_) | (go_at_call 37; refine (encode_right f HOK.out HR.out _).mono ?_; rintro e w4 ⟨rfl, hb⟩; have sw4 := hb.size; have hW := below_next hW hb; have hr3 := below_blk hb hr3; have hr7 := below_blk hb hr7) | ((with_reducible show wpList _ _ _ (⟨some 8, _, _, _, _, _⟩ :: _) _ _); refine wpList_local 8 rfl rfl rfl rfl 44 rfl _ rfl (sct f.sec) rfl (by simp) (ty44 _ HSL.out) (sct_all _) ?_; intro W8 N8 hNN8 hMN8 hr8 hb; have sW8 := hb.size; have hW := below_next hW hb; have hr3 := below_blk hb hr3; have hr7 := below_blk hb hr7))
  have w8 : w.heap.size ≤ N8 := by omega
  have n78 : N7 ≠ N8 := by omega
  go_wp2
  go_loopw [36] (fun i wr => ∃ (k : Nat) (l : List Nat), k ≤ 32 ∧ i = .int .i64 k ∧ Hid (l.length = 64 ∧ (∀ c ∈ l, c < 256) ∧ ∀ j, M.bitL l j = (M.bitL f.sec j ^^ (decide (a ≤ j ∧ j < a + k) && word.testBit (j - a)))) ∧ Hid (wr.heap[N8]? = some (.cells (sct l) 44 (0, 0))) ∧ Hid (Turned (fun k => k = N8) W8 wr)) (fun i _ => 32 - (intOf i).toNat)
  case atStart =>
    refine ⟨0, f.sec, Nat.zero_le _, rfl, ⟨HSL.out, HSLT.out, fun j => ?_⟩, hr8, Turned.refl _ _⟩
    rw [decide_eq_false (by omega)]; simp
  case round =>
    obtain ⟨k, l, hk, rfl, hl, HR8, HT⟩ := hrel
    by_cases hlt : k < 32
    · have htest := word_bit word k hw2
      have hnN : a + k < 512 := by omega
      by_cases hbit : word.testBit k = true
      · rw [hbit] at htest
        have c1 : wr.cell? ⟨N8, (a + k) / 8, none⟩ = some (.int .u8 (nth l ((a + k) / 8))) := by
          rw [cell_of_row _ _ _ _ _ _ HR8.out]
          have := u8s_at l ((a + k) / 8) (by rw [hl.out.1]; omega)
          simpa [sct] using this
        have hpow := pow8 (a + k)
        have hp8 := p8_lt (a + k)
        have hnl := nth_lt l hl.out.2.1 ((a + k) / 8)
        have hor := xor8 _ _ hnl hp8
        have horl := xor8_lt _ _ hnl hp8
        obtain ⟨Y, hY⟩ : ∃ Y, Y = nth l ((a + k) / 8) ^^^ 2 ^ ((a + k) % 8) := ⟨_, rfl⟩
        have hB2 : Hid (∀ j, M.bitL (l.set ((a + k) / 8) Y) j = (M.bitL f.sec j ^^ (decide (a ≤ j ∧ j < a + (k + 1)) && word.testBit (j - a)))) := fun j => by
          rw [flip_bit l (a + k) Y (by rw [hl.out.1]; exact hnN) hY, hl.out.2.2 j]
          exact flip_step word a k j _ hbit
        have hY8 : Y < 256 := by rw [hY]; exact horl
        obtain ⟨pb, hpb'⟩ : ∃ pb, pb = 2 ^ ((a + k) % 8) := ⟨_, rfl⟩
        rw [← hpb'] at hpow hor hp8 hY
        rw [← hY] at hor
        have c2 := frozen_of_row wr N8 ((a + k) / 8) _ 44 HR8.out
        clear hpb' hY horl hbit
        go_wp2
        go_roundw
        case rel =>
          exact ⟨k + 1, l.set ((a + k) / 8) Y, by omega, by go_num, ⟨by simpa using hl.out.1, set_lt hl.out.2.1 _ _ hY8, hB2.out⟩, (by show _ = _; rw [heap_setCell_same _ _ _ _ 44 _ HR8.out, sct_put]), HT.out.setCell (p := ⟨N8, (a + k) / 8, none⟩) (.inl rfl) _⟩
        case measure => simp [intOf]; omega
      · rw [Bool.not_eq_true] at hbit
        rw [hbit] at htest
        have hB2 : Hid (∀ j, M.bitL l j = (M.bitL f.sec j ^^ (decide (a ≤ j ∧ j < a + (k + 1)) && word.testBit (j - a)))) := fun j => by
          rw [hl.out.2.2 j]
          exact flip_skip word a k j _ hbit
        clear hbit
        go_wp2
        go_roundw
        case rel =>
          exact ⟨k + 1, l, by omega, by go_num, ⟨hl.out.1, hl.out.2.1, hB2.out⟩, HR8, HT⟩
        case measure => simp [intOf]; omega
    · have hk32 : k = 32 := by omega
      have hun : Hid (M.sealed l = false) := M.flips_unsealed f.sec l HSL.out hl.out.1 HSLT.out hl.out.2.1 HSE.out word a hw hw2 (by omega) (fun j => by rw [hl.out.2.2 j, hk32])
      have hr7 := HT.out.blk hr7 (fun h => n78 h)
      have hW := below_turned hW HT.out (fun k hk => by subst hk; exact w8)
      have hr8 := HR8.out
      clear hk32
      go_wp2_with (first | ((with_reducible show wpList _ _ _ (⟨some 61, _, _, _, _, _⟩ :: _) _ _); refine wpList_load_rowg 61 rfl rfl 25 _ rfl N7 rfl _ tbl (0, 0) _ hr7 Try.underlying25 rfl (by kernel_rfl) ?_) | ((with_reducible show wpList _ _ _ (⟨some 62, _, _, _, _, _⟩ :: _) _ _); refine wpList_load_rowg 62 rfl rfl 44 _ rfl N8 rfl _ (sct l) (0, 0) _ hr8 Try.underlying44 rfl (ty44 _ hl.out.1).size ?_) | (go_at_call 40; refine (decode_unsealed l hl.out.1 hl.out.2.1 hun.out _).mono ?_; rintro e w9 ⟨rfl, hb⟩; have sw9 := hb.size; have hW := below_next hW hb) | ((with_reducible show wpList _ _ _ (⟨some 11, _, _, _, _, _⟩ :: _) _ _); refine wpList_local 11 rfl rfl rfl rfl 41 rfl _ rfl (frm M.Fr.zero) rfl (by simp) (ty41 _ M.zero_ok) (frm_all _) ?_; intro W11 N11 hNN11 hMN11 hr11 hb; have sW11 := hb.size; have hW := below_next hW hb))
      go_ret
      exact ⟨rfl, hW⟩
set_option maxRecDepth 100000 in
set_option maxHeartbeats 1000000 in
theorem flips_wrong (w : World) (f : M.Fr) (hok : f.ok) (hr : f.right = false) (word : Nat) (at_ : Int) :
    Calls Try.prog 25 #[.agg (frm f), .int .u32 word, .int .i64 at_] w fun e w' => e = .returned (.bool true) ∧ Below w.heap.size w w' := by
  have HOK := hid hok
  have HR := hid hr
  clear hok hr
  have hW := Below.refl w.heap.size w
  go_enter Try.func25, Try.ntmps25
  go_wp2_with (first | ((with_reducible show wpList _ _ _ (⟨some 3, _, _, _, _, _⟩ :: _) _ _); refine wpList_boxed 3 rfl rfl 41 _ rfl (frm f) rfl ?_; intro W3 N3 hNN3 hMN3 hr3 hb; have sW3 := hb.size; have hW := below_next hW hb) | (go_at_call 36; refine (anchor3_calls _).mono ?_; rintro e w1 ⟨rfl, hb⟩; have sw1 := hb.size; have hW := below_next hW hb; have hr3 := below_blk hb hr3) | (go_at_call 29; refine (new_calls _).mono ?_; rintro e w2 ⟨rfl, hb⟩; have sw2 := hb.size; have hW := below_next hW hb; have hr3 := below_blk hb hr3) | ((with_reducible show wpList _ _ _ (⟨some 7, _, _, _, _, _⟩ :: _) _ _); refine wpList_local 7 rfl rfl rfl rfl 25 rfl _ rfl tbl rfl (by simp) ty25 tbl_all ?_; intro W7 N7 hNN7 hMN7 hr7 hb; have sW7 := hb.size; have hW := below_next hW hb; have hr3 := below_blk hb hr3) | ((with_reducible show wpList _ _ _ (⟨some 17, _, _, _, _, _⟩ :: _) _ _); refine wpList_load_rowg 17 rfl rfl 25 _ rfl N7 rfl _ tbl (0, 0) _ hr7 Try.underlying25 rfl (by kernel_rfl) ?_) | ((with_reducible show wpList _ _ _ (⟨some 18, _, _, _, _, _⟩ :: _) _ _); refine wpList_load_rowg 18 rfl rfl 41 _ rfl N3 rfl _ (frm f) (0, 0) _ hr3 Try.underlying41 rfl (ty41 _ HOK.out).size ?_) | (go_at_call 37; refine (encode_wrong f HOK.out HR.out _).mono ?_; rintro e w4 ⟨rfl, hb⟩; have sw4 := hb.size; have hW := below_next hW hb; have hr3 := below_blk hb hr3; have hr7 := below_blk hb hr7) | ((with_reducible show wpList _ _ _ (⟨some 8, _, _, _, _, _⟩ :: _) _ _); refine wpList_local 8 rfl rfl rfl rfl 44 rfl _ rfl (sct (List.replicate 64 0)) rfl (by simp) (ty44 _ (by simp)) (sct_all _) ?_; intro W8 N8 hNN8 hMN8 hr8 hb; have sW8 := hb.size; have hW := below_next hW hb; have hr3 := below_blk hb hr3; have hr7 := below_blk hb hr7))
  go_ret
  exact ⟨rfl, hW⟩
set_option maxRecDepth 100000 in
set_option maxHeartbeats 1000000 in
theorem flips_out1 (w : World) (f : M.Fr) (hok : f.ok) (hr : f.right = true) (word : Nat) (at_ : Int) (h : word = 0) :
    Calls Try.prog 25 #[.agg (frm f), .int .u32 word, .int .i64 at_] w fun e w' => e = .returned (.bool true) ∧ Below w.heap.size w w' := by
  have t4 : ((word : Int) == 0) = true := by rw [beq_iff_eq]; omega
  clear h
  have HOK := hid hok
  have HR := hid hr
  have HSL := hid (M.Fr.sec_length f hok)
  clear hok hr
  have hW := Below.refl w.heap.size w
  go_enter Try.func25, Try.ntmps25
  go_wp2_with (first | ((with_reducible show wpList _ _ _ (⟨some 3, _, _, _, _, _⟩ :: _) _ _); refine wpList_boxed 3 rfl rfl 41 _ rfl (frm f) rfl ?_; intro W3 N3 hNN3 hMN3 hr3 hb; have sW3 := hb.size; have hW := below_next hW hb) | (go_at_call 36; refine (anchor3_calls _).mono ?_; rintro e w1 ⟨rfl, hb⟩; have sw1 := hb.size; have hW := below_next hW hb; have hr3 := below_blk hb hr3) | (go_at_call 29; refine (new_calls _).mono ?_; rintro e w2 ⟨rfl, hb⟩; have sw2 := hb.size; have hW := below_next hW hb; have hr3 := below_blk hb hr3) | ((with_reducible show wpList _ _ _ (⟨some 7, _, _, _, _, _⟩ :: _) _ _); refine wpList_local 7 rfl rfl rfl rfl 25 rfl _ rfl tbl rfl (by simp) ty25 tbl_all ?_; intro W7 N7 hNN7 hMN7 hr7 hb; have sW7 := hb.size; have hW := below_next hW hb; have hr3 := below_blk hb hr3) | ((with_reducible show wpList _ _ _ (⟨some 17, _, _, _, _, _⟩ :: _) _ _); refine wpList_load_rowg 17 rfl rfl 25 _ rfl N7 rfl _ tbl (0, 0) _ hr7 Try.underlying25 rfl (by kernel_rfl) ?_) | ((with_reducible show wpList _ _ _ (⟨some 18, _, _, _, _, _⟩ :: _) _ _); refine wpList_load_rowg 18 rfl rfl 41 _ rfl N3 rfl _ (frm f) (0, 0) _ hr3 Try.underlying41 rfl (ty41 _ HOK.out).size ?_) | (go_at_call 37; refine (encode_right f HOK.out HR.out _).mono ?_; rintro e w4 ⟨rfl, hb⟩; have sw4 := hb.size; have hW := below_next hW hb; have hr3 := below_blk hb hr3; have hr7 := below_blk hb hr7) | ((with_reducible show wpList _ _ _ (⟨some 8, _, _, _, _, _⟩ :: _) _ _); refine wpList_local 8 rfl rfl rfl rfl 44 rfl _ rfl (sct f.sec) rfl (by simp) (ty44 _ HSL.out) (sct_all _) ?_; intro W8 N8 hNN8 hMN8 hr8 hb; have sW8 := hb.size; have hW := below_next hW hb; have hr3 := below_blk hb hr3; have hr7 := below_blk hb hr7))
  go_ret
  exact ⟨rfl, hW⟩
set_option maxRecDepth 100000 in
set_option maxHeartbeats 1000000 in
theorem flips_out2 (w : World) (f : M.Fr) (hok : f.ok) (hr : f.right = true) (word : Nat) (at_ : Int) (h0 : word ≠ 0) (h : at_ < 0) :
    Calls Try.prog 25 #[.agg (frm f), .int .u32 word, .int .i64 at_] w fun e w' => e = .returned (.bool true) ∧ Below w.heap.size w w' := by
  have t4 : ((word : Int) == 0) = false := by rw [beq_eq_false_iff_ne]; omega
  have t5 : decide (at_ < 0) = true := by simpa using h
  clear h h0
  have HOK := hid hok
  have HR := hid hr
  have HSL := hid (M.Fr.sec_length f hok)
  clear hok hr
  have hW := Below.refl w.heap.size w
  go_enter Try.func25, Try.ntmps25
  go_wp2_with (first | ((with_reducible show wpList _ _ _ (⟨some 3, _, _, _, _, _⟩ :: _) _ _); refine wpList_boxed 3 rfl rfl 41 _ rfl (frm f) rfl ?_; intro W3 N3 hNN3 hMN3 hr3 hb; have sW3 := hb.size; have hW := below_next hW hb) | (go_at_call 36; refine (anchor3_calls _).mono ?_; rintro e w1 ⟨rfl, hb⟩; have sw1 := hb.size; have hW := below_next hW hb; have hr3 := below_blk hb hr3) | (go_at_call 29; refine (new_calls _).mono ?_; rintro e w2 ⟨rfl, hb⟩; have sw2 := hb.size; have hW := below_next hW hb; have hr3 := below_blk hb hr3) | ((with_reducible show wpList _ _ _ (⟨some 7, _, _, _, _, _⟩ :: _) _ _); refine wpList_local 7 rfl rfl rfl rfl 25 rfl _ rfl tbl rfl (by simp) ty25 tbl_all ?_; intro W7 N7 hNN7 hMN7 hr7 hb; have sW7 := hb.size; have hW := below_next hW hb; have hr3 := below_blk hb hr3) | ((with_reducible show wpList _ _ _ (⟨some 17, _, _, _, _, _⟩ :: _) _ _); refine wpList_load_rowg 17 rfl rfl 25 _ rfl N7 rfl _ tbl (0, 0) _ hr7 Try.underlying25 rfl (by kernel_rfl) ?_) | ((with_reducible show wpList _ _ _ (⟨some 18, _, _, _, _, _⟩ :: _) _ _); refine wpList_load_rowg 18 rfl rfl 41 _ rfl N3 rfl _ (frm f) (0, 0) _ hr3 Try.underlying41 rfl (ty41 _ HOK.out).size ?_) | (go_at_call 37; refine (encode_right f HOK.out HR.out _).mono ?_; rintro e w4 ⟨rfl, hb⟩; have sw4 := hb.size; have hW := below_next hW hb; have hr3 := below_blk hb hr3; have hr7 := below_blk hb hr7) | ((with_reducible show wpList _ _ _ (⟨some 8, _, _, _, _, _⟩ :: _) _ _); refine wpList_local 8 rfl rfl rfl rfl 44 rfl _ rfl (sct f.sec) rfl (by simp) (ty44 _ HSL.out) (sct_all _) ?_; intro W8 N8 hNN8 hMN8 hr8 hb; have sW8 := hb.size; have hW := below_next hW hb; have hr3 := below_blk hb hr3; have hr7 := below_blk hb hr7))
  go_ret
  exact ⟨rfl, hW⟩
set_option maxRecDepth 100000 in
set_option maxHeartbeats 1000000 in
theorem flips_out3 (w : World) (f : M.Fr) (hok : f.ok) (hr : f.right = true) (word : Nat) (at_ : Int) (h0 : word ≠ 0) (h1 : ¬ at_ < 0) (h : 480 < at_) :
    Calls Try.prog 25 #[.agg (frm f), .int .u32 word, .int .i64 at_] w fun e w' => e = .returned (.bool true) ∧ Below w.heap.size w w' := by
  have t4 : ((word : Int) == 0) = false := by rw [beq_eq_false_iff_ne]; omega
  have t5 : decide (at_ < 0) = false := by simpa using h1
  have t6 : decide (480 < at_) = true := by simpa using h
  clear h h0 h1
  have HOK := hid hok
  have HR := hid hr
  have HSL := hid (M.Fr.sec_length f hok)
  clear hok hr
  have hW := Below.refl w.heap.size w
  go_enter Try.func25, Try.ntmps25
  go_wp2_with (first | ((with_reducible show wpList _ _ _ (⟨some 3, _, _, _, _, _⟩ :: _) _ _); refine wpList_boxed 3 rfl rfl 41 _ rfl (frm f) rfl ?_; intro W3 N3 hNN3 hMN3 hr3 hb; have sW3 := hb.size; have hW := below_next hW hb) | (go_at_call 36; refine (anchor3_calls _).mono ?_; rintro e w1 ⟨rfl, hb⟩; have sw1 := hb.size; have hW := below_next hW hb; have hr3 := below_blk hb hr3) | (go_at_call 29; refine (new_calls _).mono ?_; rintro e w2 ⟨rfl, hb⟩; have sw2 := hb.size; have hW := below_next hW hb; have hr3 := below_blk hb hr3) | ((with_reducible show wpList _ _ _ (⟨some 7, _, _, _, _, _⟩ :: _) _ _); refine wpList_local 7 rfl rfl rfl rfl 25 rfl _ rfl tbl rfl (by simp) ty25 tbl_all ?_; intro W7 N7 hNN7 hMN7 hr7 hb; have sW7 := hb.size; have hW := below_next hW hb; have hr3 := below_blk hb hr3) | ((with_reducible show wpList _ _ _ (⟨some 17, _, _, _, _, _⟩ :: _) _ _); refine wpList_load_rowg 17 rfl rfl 25 _ rfl N7 rfl _ tbl (0, 0) _ hr7 Try.underlying25 rfl (by kernel_rfl) ?_) | ((with_reducible show wpList _ _ _ (⟨some 18, _, _, _, _, _⟩ :: _) _ _); refine wpList_load_rowg 18 rfl rfl 41 _ rfl N3 rfl _ (frm f) (0, 0) _ hr3 Try.underlying41 rfl (ty41 _ HOK.out).size ?_) | (go_at_call 37; refine (encode_right f HOK.out HR.out _).mono ?_; rintro e w4 ⟨rfl, hb⟩; have sw4 := hb.size; have hW := below_next hW hb; have hr3 := below_blk hb hr3; have hr7 := below_blk hb hr7) | ((with_reducible show wpList _ _ _ (⟨some 8, _, _, _, _, _⟩ :: _) _ _); refine wpList_local 8 rfl rfl rfl rfl 44 rfl _ rfl (sct f.sec) rfl (by simp) (ty44 _ HSL.out) (sct_all _) ?_; intro W8 N8 hNN8 hMN8 hr8 hb; have sW8 := hb.size; have hW := below_next hW hb; have hr3 := below_blk hb hr3; have hr7 := below_blk hb hr7))
  go_ret
  exact ⟨rfl, hW⟩
theorem flips_frame (w : World) (f : M.Fr) (hok : f.ok) (word : Nat) (hw : word < 4294967296) (at_ : Int) :
    Calls Try.prog 25 #[.agg (frm f), .int .u32 word, .int .i64 at_] w fun e w' => e = .returned (.bool true) ∧ Below w.heap.size w w' := by
  by_cases hr : f.right = true
  · by_cases h0 : word = 0
    · exact flips_out1 w f hok hr word at_ h0
    · by_cases h1 : at_ < 0
      · exact flips_out2 w f hok hr word at_ h0 h1
      · by_cases h2 : 480 < at_
        · exact flips_out3 w f hok hr word at_ h0 h1 h2
        · obtain ⟨a, rfl⟩ : ∃ a : Nat, at_ = a := ⟨at_.toNat, by omega⟩
          exact flips_walk w f hok hr word a (by omega) hw (by omega)
  · exact flips_wrong w f hok (by simpa using hr) word at_
end Go.Proofs.Ytncooadaeifekaa
