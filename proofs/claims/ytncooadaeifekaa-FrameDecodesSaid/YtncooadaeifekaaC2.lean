/- Walk of crc.New: it answers the table of all 256 words; memory only grows. No condition. -/
import Derived.Test.YtncooadaeifekaaC1
namespace Go.Proofs.Ytncooadaeifekaa
open Go.RowKit
theorem zero25 : Try.zeroCells25.size = 256 := by kernel_rfl
theorem and1 (r : Nat) (hr : r < 4294967296) : bits .and .u32 (r : Int) 1 = ((r % 2 : Nat) : Int) := by
  have h1 : (BitVec.ofInt 32 (r : Int)).toNat = r := by rw [BitVec.ofInt_natCast, BitVec.toNat_ofNat]; exact Nat.mod_eq_of_lt hr
  show IntKind.u32.wrap ((BitVec.ofInt 32 (r : Int) &&& BitVec.ofInt 32 1).toNat : Int) = _
  rw [BitVec.toNat_and, h1, IntKind.wrap_u32]
  have : (BitVec.ofInt 32 1).toNat = 1 := rfl
  rw [this, Nat.and_one_is_mod]; omega
set_option maxRecDepth 100000 in
theorem new_calls (w : World) :
    Calls Try.prog 29 #[] w fun e w' => e = .returned (.agg tbl) ∧ Below w.heap.size w w' := by
  go_enter Try.func29, Try.ntmps29
  go_wp2
  have hz := zero25
  obtain ⟨Z, hZ⟩ : ∃ Z, Z = Try.zeroCells25 := ⟨_, rfl⟩
  rw [← hZ] at hz ⊢
  have HZ := hid hz
  clear hz hZ
  go_loopw [2, 3, 4, 5, 10] (fun _ _ _ i _ wr => ∃ (k : Nat) (cs : Array Value), k ≤ 256 ∧ i = .int .i64 k ∧ Hid (cs.size = 256 ∧ (∀ j, j < k → cs[j]? = some (.int .u32 (M.tb j)))) ∧
     wr.heap[w.heap.size]? = some (.cells Z 25 (0, 0)) ∧ wr.heap[w.heap.size + 1]? = some (.cells cs 25 (0, 0)) ∧ Below w.heap.size w wr)
     (fun _ _ _ i _ _ => 256 - (intOf i).toNat)
  case atStart => 
    exact ⟨0, Z, by omega, rfl, ⟨HZ.out, fun j hj => by omega⟩, heap_alloc2_old w _ _, heap_alloc2_new w _ _, ((Below.refl _ _).alloc (Nat.le_refl _) _).alloc (by simp) _⟩
  case round =>
    obtain ⟨k, cs, hk, rfl, hcs, h1, h2, hb⟩ := hrel
    by_cases hlt : k < 256
    · go_wp2
      go_loop [3, 4, 10] (fun r _ j => ∃ m : Nat, m ≤ 8 ∧ j = .int .i64 m ∧ r = .int .u32 (M.stpN m k)) (fun _ _ j => 8 - (intOf j).toNat)
      case atStart => exact ⟨0, by omega, rfl, rfl⟩
      case round =>
        obtain ⟨m, hm, rfl, rfl⟩ := hrel
        obtain ⟨R, hR⟩ : ∃ R, R = M.stpN m k := ⟨_, rfl⟩
        have hRl : R < 4294967296 := by rw [hR]; exact M.stpN_lt _ _ (by omega)
        have hs : M.stpN (m + 1) k = M.stp R := by rw [M.stpN_succ', hR]
        have HS := hid hs
        have HR := hid hR
        rw [← hR]
        clear hs hR
        by_cases hm8 : m < 8
        · have hst : Hid (M.stp R = if R % 2 = 1 then (R / 2) ^^^ 2197175160 else R / 2) := rfl
          have ha := and1 R hRl
          have hx : bits .xor .u32 ((R : Int) / 2) 2197175160 = ((R / 2 ^^^ 2197175160 : Nat) : Int) := xor32 (R / 2) 2197175160 (by omega) (by decide)
          by_cases hodd : R % 2 = 1
          · have hS2 : Hid (M.stpN (m + 1) k = R / 2 ^^^ 2197175160) := by have := HS.out; rw [hst.out, if_pos hodd] at this; exact this
            have ht : (((R % 2 : Nat) : Int) == 1) = true := by rw [hodd]; rfl
            have ht2 : ((R : Int) % 2 == 1) = true := by rw [show ((R : Int) % 2) = ((R % 2 : Nat) : Int) by omega]; exact ht
            clear hodd
            go_wp2
            go_round
            case rel => exact ⟨m + 1, by omega, by go_num, by rw [hS2.out]⟩
            case measure => simp [intOf]; omega
          · have hS2 : Hid (M.stpN (m + 1) k = R / 2) := by have := HS.out; rw [hst.out, if_neg hodd] at this; exact this
            have h0 : R % 2 = 0 := by omega
            have ht : (((R % 2 : Nat) : Int) == 1) = false := by rw [h0]; rfl
            have ht2 : ((R : Int) % 2 == 1) = false := by rw [show ((R : Int) % 2) = ((R % 2 : Nat) : Int) by omega]; exact ht
            clear hodd h0
            go_wp2
            go_round
            case rel => exact ⟨m + 1, by omega, by go_num, by rw [hS2.out]; go_num⟩
            case measure => simp [intOf]; omega
        · have hm' : m = 8 := by omega
          have hT : Hid (R = M.tb k) := by rw [HR.out, hm']; rfl
          clear hm'
          obtain ⟨c0, hc0⟩ : ∃ v, cs[k]? = some v := ⟨_, Array.getElem?_eq_getElem (by rw [hcs.out.1]; exact hlt)⟩
          have hcell : wr.cell? ⟨w.heap.size + 1, k, none⟩ = some c0 := by rw [cell_of_row wr _ k cs 25 (0, 0) h2]; exact hc0
          have hfz : wr.frozen? ⟨w.heap.size + 1, k, none⟩ = false := frozen_of_row wr _ k cs 25 h2
          go_wp2
          go_roundw
          case rel =>
            refine ⟨k + 1, cs.setIfInBounds k (.int .u32 R), by omega, by go_num, ⟨by simp [hcs.out.1], fun j hj => ?_⟩, ?_, ?_, ?_⟩
            · by_cases hjk : j = k
              · subst hjk; rw [hT.out]; simp [hcs.out.1, hlt]
              · rw [Array.getElem?_setIfInBounds_ne (by omega)]; exact hcs.out.2 j (by omega)
            · rw [heap_setCell_other _ _ _ _ (by simp)]; exact h1
            · exact heap_setCell_same _ _ _ _ _ _ h2
            · exact hb.setCell (by simp) _
          case measure => simp [intOf]; omega
    · have hke : k = 256 := by omega
      have hcs2 : Hid (cs = tbl) := by
        apply Array.ext_getElem?
        intro i
        by_cases hi : i < 256
        · rw [hcs.out.2 i (by omega), tbl_at i hi]
        · rw [Array.getElem?_eq_none (by rw [hcs.out.1]; omega), Array.getElem?_eq_none (by rw [tbl_size]; omega)]
      rw [hcs2.out] at h2
      clear hke
      have hz : Z.size = tbl.size := by rw [HZ.out, tbl_size]
      have h3 : (wr.setRow w.heap.size tbl).heap[w.heap.size]? = some (.cells tbl 25 (0, 0)) := setRow_heap wr _ _ _ _ _ h1
      have hb3 : Below w.heap.size w (wr.setRow w.heap.size tbl) := below_setRow hb (Nat.le_refl _) _
      have HZ2 := hid hz
      clear hz
      go_wp2_with (first | (refine wpList_load_row rfl _ _ rfl (w.heap.size + 1) rfl 25 tbl (0, 0) _ h2 Try.underlying25 rfl (by kernel_rfl) ?_) | (refine wpList_store_row rfl _ _ _ rfl w.heap.size tbl rfl rfl 25 Z h1 (by kernel_rfl) HZ2.out tbl_all ?_))
      refine bodyPost_ret (v := .agg tbl) (results_cell_row rfl _ _ w.heap.size 25 tbl (0, 0) _ rfl h3 Try.underlying25 rfl (by kernel_rfl)) rfl ⟨rfl, hb3⟩
end Go.Proofs.Ytncooadaeifekaa
