/- Walks of the checksum package: Step, over, Raw, Sum, Multiple answer as the plain laws' functions do, for up to a million bytes; memory only grows. -/
import Derived.Test.YtncooadaeifekaaK
namespace Go.Proofs.Ytncooadaeifekaa
open Go.RowKit
set_option maxRecDepth 100000 in
theorem step_calls (r c : Nat) (hr : r < 4294967296) (hc : c < 256) (w : World) :
    Calls Try.prog 31 #[.agg tbl, .int .u32 r, .int .u8 c] w fun e w' => e = .returned (.int .u32 (M.bst r c)) ∧ Below w.heap.size w w' := by
  have hx := xor8_lt (r % 256) c (by omega) hc
  have e1 : bits .xor .u8 ((r : Int) % 256) (c : Int) = ((r % 256 ^^^ c : Nat) : Int) := xor8 (r % 256) c (by omega) hc
  have e2 := tbl_at _ hx
  have e3 : bits .xor .u32 ((r : Int) / 256) (M.tb (r % 256 ^^^ c) : Int) = (M.bst r c : Int) := by
    rw [M.bst_eq]; exact xor32 (r / 256) _ (by omega) (M.tb_lt _ hx)
  go_enter Try.func31, Try.ntmps31
  go_wp2
  go_ret
  exact ⟨rfl, (Below.refl _ _).alloc (Nat.le_refl _) _⟩
theorem over_take (r : Nat) (l : List Nat) (k : Nat) (h : k < l.length) : M.over r (l.take (k + 1)) = M.bst (M.over r (l.take k)) (nth l k) := by
  rw [take_nth l k h, M.over_append, M.over_cons, M.over_nil]
set_option maxRecDepth 100000 in
theorem over_calls (b : Nat) (fr : Nat × Nat) (r : Nat) (hr : r < 4294967296) (a : Option Addr) (l : List Nat) (cap : Nat) (w : World)
    (hrow : w.heap[b]? = some (.cells tbl 25 fr)) (hl : HasB w a l) (hn : l.length ≤ 1000000) :
    Calls Try.prog 74 #[.pointer (some ⟨b, 0, none⟩), .int .u32 r, .slice a l.length cap] w fun e w' => e = .returned (.int .u32 (M.over r l)) ∧ Below w.heap.size w w' := by
  go_enter Try.func74, Try.ntmps74
  go_wp2
  go_loopw [1, 11] (fun r' i wr => ∃ k : Nat, k ≤ l.length ∧ i = .int .i64 k ∧ r' = .int .u32 (M.over r (l.take k)) ∧ Below w.heap.size w wr) (fun _ i _ => l.length - (intOf i).toNat)
  case atStart => exact ⟨0, Nat.zero_le _, rfl, rfl, Below.refl _ _⟩
  case round =>
    obtain ⟨k, hk, rfl, rfl, hb⟩ := hrel
    by_cases hlt : k < l.length
    · have hR := over_take r l k hlt
      obtain ⟨R, hRe⟩ : ∃ R, R = M.over r (l.take k) := ⟨_, rfl⟩
      have hRl : R < 4294967296 := by rw [hRe]; exact M.over_lt _ _ hr (fun c hc => hl.1 c (List.mem_of_mem_take hc))
      rw [← hRe] at hR ⊢
      have HR := hid hR
      clear hR hRe
      obtain ⟨bb, off, rfl, hc⟩ := (hl.below hb).cell (by omega)
      have hcell := hc k hlt
      have hrow' := below_blk hb hrow
      clear hc
      have hcb := nth_lt l hl.1 k
      go_wp2_with (first | (go_at_call 31; refine (step_calls _ _ hRl hcb _).mono ?_; rintro e w' ⟨rfl, hb2⟩) | (refine wpList_load_row rfl _ _ rfl b rfl 25 tbl fr _ hrow' Try.underlying25 rfl (by kernel_rfl) ?_))
      go_roundw
      case rel => exact ⟨k + 1, by omega, by go_num, by rw [HR.out], below_next hb hb2⟩
      case measure => simp [intOf]; omega
    · go_wp2
      go_ret
      exact ⟨by rw [List.take_of_length_le (by omega)]; rfl, hb⟩
end Go.Proofs.Ytncooadaeifekaa
namespace Go.Proofs.Ytncooadaeifekaa
open Go.RowKit
theorem over_ok (r : Nat) (l : List Nat) (hr : r < 4294967296) (h : ∀ c ∈ l, c < 256) : M.over r l < 4294967296 := M.over_lt r l hr h
set_option maxRecDepth 100000 in
theorem raw_calls (a : Option Addr) (l : List Nat) (cap : Nat) (w : World) (hl : HasB w a l) (hn : l.length ≤ 1000000) :
    Calls Try.prog 30 #[.agg tbl, .slice a l.length cap] w fun e w' => e = .returned (.int .u32 (M.over 0 l)) ∧ Below w.heap.size w w' := by
  have hb := (Below.refl w.heap.size w).alloc (Nat.le_refl _) (.cells tbl 25)
  go_enter Try.func30, Try.ntmps30
  go_wp2_with (go_at_call 74; refine (over_calls w.heap.size (0, 0) 0 (by decide) a l cap _ (heap_alloc_new w _) (hl.below hb) hn).mono ?_; rintro e w' ⟨rfl, hb2⟩)
  go_ret
  exact ⟨rfl, below_next hb hb2⟩
set_option maxRecDepth 100000 in
theorem sum_calls (a : Option Addr) (l : List Nat) (cap : Nat) (w : World) (hl : HasB w a l) (hn : l.length ≤ 1000000) :
    Calls Try.prog 33 #[.agg tbl, .slice a l.length cap] w fun e w' => e = .returned (.int .u32 (M.over 4294967295 l ^^^ 4294967295 : Nat)) ∧ Below w.heap.size w w' := by
  have hb := (Below.refl w.heap.size w).alloc (Nat.le_refl _) (.cells tbl 25)
  have e1 : bits .xor .u32 (M.over 4294967295 l : Int) 4294967295 = ((M.over 4294967295 l ^^^ 4294967295 : Nat) : Int) := xor32 (M.over 4294967295 l) 4294967295 (M.over_lt _ _ (by decide) hl.1) (by decide)
  go_enter Try.func33, Try.ntmps33
  go_wp2_with (go_at_call 74; refine (over_calls w.heap.size (0, 0) 4294967295 (by decide) a l cap _ (heap_alloc_new w _) (hl.below hb) hn).mono ?_; rintro e w' ⟨rfl, hb2⟩)
  go_ret
  exact ⟨rfl, below_next hb hb2⟩
set_option maxRecDepth 100000 in
theorem multiple_calls (a : Option Addr) (l : List Nat) (cap : Nat) (w : World) (hl : HasB w a l) (hn : l.length ≤ 1000000) :
    Calls Try.prog 35 #[.agg tbl, .slice a l.length cap] w fun e w' => e = .returned (.bool ((M.over 0 l : Int) == 0)) ∧ Below w.heap.size w w' := by
  have hb := (Below.refl w.heap.size w).alloc (Nat.le_refl _) (.cells tbl 25)
  have hrow := heap_alloc_new w (.cells tbl 25)
  go_enter Try.func35, Try.ntmps35
  go_wp2_with (first | (go_at_call 30; refine (raw_calls a l cap _ (hl.below hb) hn).mono ?_; rintro e w' ⟨rfl, hb2⟩) | (refine wpList_load_row rfl _ _ rfl w.heap.size rfl 25 tbl (0, 0) _ hrow Try.underlying25 rfl (by kernel_rfl) ?_))
  go_ret
  exact ⟨rfl, below_next hb hb2⟩
end Go.Proofs.Ytncooadaeifekaa
