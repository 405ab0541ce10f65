/- Walk of the law CrcParts: it answers true for any list of bytes and any of its bits. -/
import Derived.Test.YtncooadaeifekaaT2
import Derived.Test.YtncooadaeifekaaG4
import Derived.Test.YtncooadaeifekaaK5
namespace Go.Proofs.Ytncooadaeifekaa
open Go.RowKit Go.BigFrame
theorem pow8 (k : Nat) : (2 : Int) ^ (k % 8) % 256 = ((2 ^ (k % 8) : Nat) : Int) := by
  have h : 2 ^ (k % 8) < 256 := Nat.lt_of_lt_of_le (Nat.pow_lt_pow_right (by decide) (Nat.mod_lt k (by decide))) (by decide)
  have e : (2 : Int) ^ (k % 8) = ((2 ^ (k % 8) : Nat) : Int) := by simp
  rw [e]
  generalize 2 ^ (k % 8) = p at *
  omega
theorem flip_bit (a : List Nat) (bit X : Nat) (hb : bit < 8 * a.length) (hX : X = nth a (bit / 8) ^^^ 2 ^ (bit % 8)) (i : Nat) : M.bitL (a.set (bit / 8) X) i = (M.bitL a i ^^ decide (i = bit)) := by
  have e : ∀ l : List Nat, M.bitL l i = (nth l (i / 8)).testBit (i % 8) := fun l => rfl
  rw [e, e, nth_set _ _ _ _ (by omega)]
  by_cases h : i / 8 = bit / 8
  · rw [if_pos h, hX, Nat.testBit_xor, Nat.testBit_two_pow, h]
    congr 2
    apply propext
    omega
  · rw [if_neg h]
    have : i ≠ bit := fun e => h (by rw [e])
    simp [this]
theorem OwnB.hasAt {w : World} {B g n : Nat} {cv : Nat} {l : List Nat} (h : OwnB w B (.slice (some ⟨g, 0, none⟩) n cv) l) (hn : l.length = n) : ∀ i, i < l.length → w.cell? ⟨g, i, none⟩ = some (.int .u8 (nth l i)) := by
  intro i hi
  obtain ⟨a, cap, hv, _, hb⟩ := h.slice
  simp only [Value.slice.injEq] at hv
  obtain ⟨rfl, _, _⟩ := hv
  obtain ⟨b, off, he, hc⟩ := hb.cell (by omega)
  simp only [Option.some.injEq, Addr.mk.injEq, and_true] at he
  obtain ⟨rfl, rfl⟩ := he
  simpa using hc i hi
set_option maxRecDepth 100000 in
set_option maxHeartbeats 400000 in
theorem parts_walk (aa : Option Addr) (a : List Nat) (ca : Nat) (bit : Nat) (h0 : 0 < a.length) (ha : a.length ≤ 300) (hb : bit < 8 * a.length) (w : World) (hA : HasB w aa a) :
    Calls Try.prog 6 #[.slice aa a.length ca, .int .i64 bit] w fun e w' => e = .returned (.bool true) ∧ Below w.heap.size w w' := by
  have t0 : ((a.length : Int) == 0) = false := by rw [beq_eq_false_iff_ne]; omega
  have ta : decide ((300 : Int) < (a.length : Int)) = false := by simp; omega
  have tb : decide ((bit : Int) < 0) = false := by simp
  have tb2 : decide (8 * (a.length : Int) ≤ (bit : Int)) = false := by simp; omega
  have hW := Below.refl w.heap.size w
  go_enter Try.func6, Try.ntmps6
  go_upto_region 7 with (first | (go_at_call 28; refine (anchor_calls _).mono ?_; rintro e w1 ⟨rfl, hb1⟩; have hW := below_next hW hb1) | (go_at_call 29; refine (new_calls _).mono ?_; rintro e w2 ⟨rfl, hb2⟩; have hW := below_next hW hb2) | ((with_reducible show wpList _ _ _ (⟨some 5, _, _, _, _, _⟩ :: _) _ _); refine wpList_local 5 rfl rfl rfl rfl 25 rfl _ rfl tbl rfl (by simp) ty25 tbl_all ?_; intro W5 N5 hN5 hM5 hr5 hb5; have hW := below_next hW hb5; have hs5 := hW.size) | ((with_reducible show wpList _ _ _ (⟨some 29, _, _, _, _, _⟩ :: _) _ _); refine wpList_empty 29 rfl rfl rfl ?_; intro W29 v29 ho29 hb29; have hW := below_next hW hb29; have hr5 := below_blk hb29 hr5) | ((with_reducible show wpList _ _ _ (⟨some 31, _, _, _, _, _⟩ :: _) _ _); refine wpList_append_at 31 rfl rfl _ _ rfl W5.heap.size v29 [] a a rfl (by rfl) ho29 aa ca (by rfl) (hA.below hW) (by omega) hb29.size ?_; intro av cv W31 ho31 hcv hh31 hb31; have hr5 := below_blkB hb31 hM5 hr5; have hW := below_nextB hW hb31 hs5))
  obtain ⟨g, rfl, hg, hg2, hcell, hfz, hst⟩ := ho31.store h0
  have c1 := hcell (bit / 8) (by omega)
  have c2 := hfz (bit / 8)
  clear hcell hfz
  have hpow : (2 : Int) ^ (bit % 8) % 256 = ((2 ^ (bit % 8) : Nat) : Int) := pow8 bit
  have hp8 : 2 ^ (bit % 8) < 256 := Nat.lt_of_lt_of_le (Nat.pow_lt_pow_right (by decide) (Nat.mod_lt bit (by decide))) (by decide)
  obtain ⟨p, hp⟩ : ∃ p, p = 2 ^ (bit % 8) := ⟨_, rfl⟩
  rw [← hp] at hpow hp8
  have hx8 := xor8 _ _ (nth_lt a hA.1 (bit / 8)) hp8
  have hxl := xor8_lt _ _ (nth_lt a hA.1 (bit / 8)) hp8
  obtain ⟨X, hX⟩ : ∃ X, X = nth a (bit / 8) ^^^ p := ⟨_, rfl⟩
  rw [← hX] at hx8 hxl
  have HX : Hid (X = nth a (bit / 8) ^^^ 2 ^ (bit % 8)) := by rw [← hp]; exact hX
  clear hX hp
  go_upto_region 8 with (fail)
  have hob := hst (bit / 8) X hxl
  obtain ⟨b, hb'⟩ : ∃ b, b = a.set (bit / 8) X := ⟨_, rfl⟩
  rw [← hb'] at hob
  have hbl : Hid (b.length = a.length) := by show b.length = a.length; rw [hb', List.length_set]
  have hbw := hW.setCell (p := ⟨g, bit / 8, none⟩) (by show w.heap.size ≤ g; omega) (.int .u8 (X : Nat))
  have hr5' := heap_setCell_other W31 ⟨g, bit / 8, none⟩ N5 (.int .u8 (X : Nat)) (by show N5 ≠ g; omega)
  rw [hr5] at hr5'
  have hflip : ∀ i, i < 8 * a.length → M.bitL b i = (M.bitL a i ^^ decide (i = bit)) := fun i hi => by rw [hb']; exact flip_bit a bit X hb HX.out i
  have hBr : HasB (W31.setCell ⟨g, bit / 8, none⟩ (.int .u8 (X : Nat))) (some ⟨g, 0, none⟩) b := by
    refine ⟨hob.2, .inr ⟨g, 0, rfl, fun i hi => ?_⟩⟩
    have h1 := (OwnB.hasAt hob hbl.out) i hi
    simpa using h1
  generalize W31.setCell ⟨g, bit / 8, none⟩ (.int .u8 (X : Nat)) = wr at *
  have hAr := hA.below hbw
  have hn1 : (((M.over 4294967295 b ^^^ 4294967295 : Nat) : Int) != ((M.over 4294967295 a ^^^ 4294967295 : Nat) : Int)) = true := by
    rw [bne_iff_ne]; intro h
    have h1 : M.over 4294967295 b ^^^ 4294967295 = M.over 4294967295 a ^^^ 4294967295 := by omega
    rw [Nat.xor_comm, Nat.xor_comm (M.over 4294967295 a)] at h1
    exact M.flip_ne a b hA.1 hBr.1 hbl.out bit 4294967295 hb hflip (M.xor_cancel_left h1)
  have hn2 : (((M.over 0 b : Nat) : Int) != ((M.over 0 a : Nat) : Int)) = true := by
    rw [bne_iff_ne]; intro h
    exact M.flip_ne a b hA.1 hBr.1 hbl.out bit 0 hb hflip (by omega)
  clear hflip hb'
  refine wp_region_frame (spec := [none, none, none, none, none, none, none, none, none, none, none, none, none, none, none, none, none]) (vals := [.agg tbl, .slice (some ⟨g, 0, none⟩) a.length cv, .int .u32 (M.over 4294967295 b ^^^ 4294967295 : Nat), .agg tbl, .slice aa a.length ca, .int .u32 (M.over 4294967295 a ^^^ 4294967295 : Nat), .bool true, .bool true, .agg tbl, .slice (some ⟨g, 0, none⟩) a.length cv, .int .u32 (M.over 0 b), .agg tbl, .slice aa a.length ca, .int .u32 (M.over 0 a), .bool true, .bool true, .bool true]) (by kernel_rfl) (by kernel_rfl) (by kernel_rfl) (by kernel_rfl) ?hst (fun hF => ?hobl) ?hQ
  case hst => exact trivial
  case hobl =>
    refine ⟨?_, ?_, ?_, ?_, ?_, ?_, ?_, ?_, ?_, ?_, ?_, ?_, ?_, ?_, ?_, ?_, ?_, trivial⟩
    · refine fun ho => obl_det hF (by kernel_rfl) (by kernel_rfl) ho (by kernel_rfl) (fun wx hbx => ?_); rw [if_pos (by kernel_rfl)]; with_reducible exact grows_row 25 (.tmp 5) (by kernel_rfl) N5 (by kernel_rfl) 25 tbl (0, 0) _ (below_blk hbx hr5') Try.underlying25 (by kernel_rfl) (by kernel_rfl) (by kernel_rfl) (by kernel_rfl)
    · refine fun ho => obl_det hF (by kernel_rfl) (by kernel_rfl) ho (by kernel_rfl) (fun wx hbx => ?_); rw [if_pos (by kernel_rfl)]; with_reducible exact grows_det (.slice (some ⟨g, 0, none⟩) a.length cv) (by kernel_rfl) (by kernel_rfl) (by kernel_rfl)
    · refine fun ho => obl_det hF (by kernel_rfl) (by kernel_rfl) ho (by kernel_rfl) (fun wx hbx => ?_); rw [if_pos (by kernel_rfl)]; have hcc := sum_calls (some ⟨g, 0, none⟩) b cv wx (hBr.below hbx) (by rw [hbl.out]; omega); rw [hbl.out] at hcc; with_reducible exact grows_call 33 #[.agg tbl, .slice (some ⟨g, 0, none⟩) a.length cv] (.int .u32 (M.over 4294967295 b ^^^ 4294967295 : Nat)) (by kernel_rfl) hcc (by kernel_rfl) (by kernel_rfl)
    · refine fun ho => obl_det hF (by kernel_rfl) (by kernel_rfl) ho (by kernel_rfl) (fun wx hbx => ?_); rw [if_pos (by kernel_rfl)]; with_reducible exact grows_row 25 (.tmp 5) (by kernel_rfl) N5 (by kernel_rfl) 25 tbl (0, 0) _ (below_blk hbx hr5') Try.underlying25 (by kernel_rfl) (by kernel_rfl) (by kernel_rfl) (by kernel_rfl)
    · refine fun ho => obl_det hF (by kernel_rfl) (by kernel_rfl) ho (by kernel_rfl) (fun wx hbx => ?_); rw [if_pos (by kernel_rfl)]; with_reducible exact grows_det (.slice aa a.length ca) (by kernel_rfl) (by kernel_rfl) (by kernel_rfl)
    · refine fun ho => obl_det hF (by kernel_rfl) (by kernel_rfl) ho (by kernel_rfl) (fun wx hbx => ?_); rw [if_pos (by kernel_rfl)]; have hcc := sum_calls aa a ca wx (hAr.below hbx) (by omega); with_reducible exact grows_call 33 #[.agg tbl, .slice aa a.length ca] (.int .u32 (M.over 4294967295 a ^^^ 4294967295 : Nat)) (by kernel_rfl) hcc (by kernel_rfl) (by kernel_rfl)
    · refine fun ho => obl_det hF (by kernel_rfl) (by kernel_rfl) ho (by kernel_rfl) (fun wx hbx => ?_); rw [if_pos (by kernel_rfl)]; have hq : Value.bool (((M.over 4294967295 b ^^^ 4294967295 : Nat) : Int) != ((M.over 4294967295 a ^^^ 4294967295 : Nat) : Int)) = Value.bool true := (congrArg Value.bool hn1); with_reducible exact grows_det (.bool (((M.over 4294967295 b ^^^ 4294967295 : Nat) : Int) != ((M.over 4294967295 a ^^^ 4294967295 : Nat) : Int))) (by kernel_rfl) (by kernel_rfl) (hq.trans (by kernel_rfl))
    · refine fun ho => obl_det hF (by kernel_rfl) (by kernel_rfl) ho (by kernel_rfl) (fun wx hbx => ?_); rw [if_pos (by kernel_rfl)]; with_reducible exact grows_det (.bool true) (by kernel_rfl) (by kernel_rfl) (by kernel_rfl)
    · refine fun ho => obl_det hF (by kernel_rfl) (by kernel_rfl) ho (by kernel_rfl) (fun wx hbx => ?_); rw [if_pos (by kernel_rfl)]; with_reducible exact grows_row 25 (.tmp 5) (by kernel_rfl) N5 (by kernel_rfl) 25 tbl (0, 0) _ (below_blk hbx hr5') Try.underlying25 (by kernel_rfl) (by kernel_rfl) (by kernel_rfl) (by kernel_rfl)
    · refine fun ho => obl_det hF (by kernel_rfl) (by kernel_rfl) ho (by kernel_rfl) (fun wx hbx => ?_); rw [if_pos (by kernel_rfl)]; with_reducible exact grows_det (.slice (some ⟨g, 0, none⟩) a.length cv) (by kernel_rfl) (by kernel_rfl) (by kernel_rfl)
    · refine fun ho => obl_det hF (by kernel_rfl) (by kernel_rfl) ho (by kernel_rfl) (fun wx hbx => ?_); rw [if_pos (by kernel_rfl)]; have hcc := raw_calls (some ⟨g, 0, none⟩) b cv wx (hBr.below hbx) (by rw [hbl.out]; omega); rw [hbl.out] at hcc; with_reducible exact grows_call 30 #[.agg tbl, .slice (some ⟨g, 0, none⟩) a.length cv] (.int .u32 (M.over 0 b)) (by kernel_rfl) hcc (by kernel_rfl) (by kernel_rfl)
    · refine fun ho => obl_det hF (by kernel_rfl) (by kernel_rfl) ho (by kernel_rfl) (fun wx hbx => ?_); rw [if_pos (by kernel_rfl)]; with_reducible exact grows_row 25 (.tmp 5) (by kernel_rfl) N5 (by kernel_rfl) 25 tbl (0, 0) _ (below_blk hbx hr5') Try.underlying25 (by kernel_rfl) (by kernel_rfl) (by kernel_rfl) (by kernel_rfl)
    · refine fun ho => obl_det hF (by kernel_rfl) (by kernel_rfl) ho (by kernel_rfl) (fun wx hbx => ?_); rw [if_pos (by kernel_rfl)]; with_reducible exact grows_det (.slice aa a.length ca) (by kernel_rfl) (by kernel_rfl) (by kernel_rfl)
    · refine fun ho => obl_det hF (by kernel_rfl) (by kernel_rfl) ho (by kernel_rfl) (fun wx hbx => ?_); rw [if_pos (by kernel_rfl)]; have hcc := raw_calls aa a ca wx (hAr.below hbx) (by omega); with_reducible exact grows_call 30 #[.agg tbl, .slice aa a.length ca] (.int .u32 (M.over 0 a)) (by kernel_rfl) hcc (by kernel_rfl) (by kernel_rfl)
    · refine fun ho => obl_det hF (by kernel_rfl) (by kernel_rfl) ho (by kernel_rfl) (fun wx hbx => ?_); rw [if_pos (by kernel_rfl)]; have hq : Value.bool (((M.over 0 b : Nat) : Int) != ((M.over 0 a : Nat) : Int)) = Value.bool true := (congrArg Value.bool hn2); with_reducible exact grows_det (.bool (((M.over 0 b : Nat) : Int) != ((M.over 0 a : Nat) : Int))) (by kernel_rfl) (by kernel_rfl) (hq.trans (by kernel_rfl))
    · refine fun ho => obl_det hF (by kernel_rfl) (by kernel_rfl) ho (by kernel_rfl) (fun wx hbx => ?_); rw [if_pos (by kernel_rfl)]; with_reducible exact grows_det (.bool true) (by kernel_rfl) (by kernel_rfl) (by kernel_rfl)
    · refine fun ho => obl_det hF (by kernel_rfl) (by kernel_rfl) ho (by kernel_rfl) (fun wx hbx => ?_); rw [if_pos (by kernel_rfl)]; with_reducible exact grows_det (.bool true) (by kernel_rfl) (by kernel_rfl) (by kernel_rfl)
  case hQ =>
    intro wy hby
    simp only [each]
    generalize hF : putAll _ _ _ = F
    have hd : F.defers = [] := by rw [← hF]; kernel_rfl
    have h8 : F.tmps.getD 4 undef = .bool true := by rw [← hF]; kernel_rfl
    clear hF
    go_step
    go_step
    go_step
    exact ret_of 4 rfl hd _ h8 ⟨rfl, below_next hbw hby⟩
end Go.Proofs.Ytncooadaeifekaa
