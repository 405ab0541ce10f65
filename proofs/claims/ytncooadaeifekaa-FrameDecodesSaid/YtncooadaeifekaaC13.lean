/- Walk of frame.Encode at a frame that may be. -/
import Derived.Test.YtncooadaeifekaaC12
import Derived.Test.YtncooadaeifekaaK8
import Derived.Laws.Cover3
namespace Go.Proofs.Ytncooadaeifekaa
open Go.RowKit
theorem penNumI (N k : Nat) (x : Int) (hk : M.fits k x = true) (w : World) (v : Value) (l : List Nat) (bad : Bool) (hp : PenB w N v l bad) (hl : l.length ≤ 900000) :
    Calls Try.prog 55 #[.pointer (some ⟨N, 0, none⟩), .int .i64 k, .int .i64 x] w fun e w' => e = .returned (.tuple #[]) ∧ Pens N v w w' (l ++ M.leB k x.toNat) bad := by
  obtain ⟨_, _, h0, _⟩ := (M.fits_iff _ _).1 hk
  obtain ⟨n, rfl⟩ : ∃ n : Nat, x = n := ⟨x.toNat, by omega⟩
  exact penNum_fits N k n hk w v l bad hp hl
theorem penBytesN (n N : Nat) (a : Option Addr) (l2 : List Nat) (hn : l2.length = n) (c : Nat) (w : World) (v : Value) (l l3 : List Nat) (h3 : l ++ l2 = l3) (bad : Bool) (hp : PenB w N v l bad) (hh : HasB w a l2) (hl : l3.length ≤ 1000000) :
    Calls Try.prog 50 #[.pointer (some ⟨N, 0, none⟩), .slice a n c] w fun e w' => e = .returned (.tuple #[]) ∧ Pens N v w w' l3 bad := by
  subst hn; exact penBytes_calls N a l2 c w v l l3 h3 bad hp hh hl
theorem pens_blk {N : Nat} {W w1 : World} {l : List Nat} {bad : Bool} (h : Pens N (.slice none 0 0) W w1 l bad) {b : Nat} {o : Obj} (ho : W.heap[b]? = some o) (hb : b ≠ N) : w1.heap[b]? = some o := by
  obtain ⟨v, _, ht, _⟩ := h
  exact ht.blk ho (fun hS => by rcases hS with h | h; exact hb h; simp [Value.ownBlock] at h)
theorem pens_below {N : Nat} {w W w1 : World} {l : List Nat} {bad : Bool} (h : Pens N (.slice none 0 0) W w1 l bad) (hb : Below w.heap.size w W) (hN : w.heap.size ≤ N) : Below w.heap.size w w1 :=
  below_pens hb hN (by simp [Value.ownBlock]) h
set_option maxRecDepth 100000 in
set_option maxHeartbeats 800000 in
theorem encode_right (f : M.Fr) (hok : f.ok) (hf : f.right = true) (w : World) :
    Calls Try.prog 37 #[.agg tbl, .agg (frm f)] w fun e w' => e = .returned (.tuple #[.agg (sct f.sec), .int .i64 0]) ∧ Below w.heap.size w w' := by
  have HF := hid hf
  have hf' := hf
  simp only [M.Fr.right, decide_eq_true_eq] at hf'
  obtain ⟨⟨h1, h2⟩, ⟨h3, h4⟩, ⟨h5, h6⟩, ⟨h7, h8⟩, h9, h10⟩ := hf'
  have fit0 : Hid (M.fits (1 : Nat) f.kind = true) := (M.fits_iff _ _).2 ⟨by omega, by omega, by omega, by show _ < 256; omega⟩
  have fit1 : Hid (M.fits (2 : Nat) f.zone = true) := (M.fits_iff _ _).2 ⟨by omega, by omega, by omega, by show _ < 65536; omega⟩
  have fit2 : Hid (M.fits (2 : Nat) f.off = true) := (M.fits_iff _ _).2 ⟨by omega, by omega, by omega, by show _ < 65536; omega⟩
  have fit3 : Hid (M.fits (4 : Nat) f.epoch = true) := (M.fits_iff _ _).2 ⟨by omega, by omega, by omega, by show _ < 4294967296; omega⟩
  have fit4 : Hid (M.fits (6 : Nat) f.seq = true) := (M.fits_iff _ _).2 ⟨by omega, by omega, by omega, by show _ < 281474976710656; omega⟩
  have fit9 : Hid (M.fits (1 : Nat) 1 = true) := by show _ = _; decide
  have HOK := hid hok
  clear hf hok h1 h2 h3 h4 h5 h6 h7 h8 h9 h10
  have hW := Below.refl w.heap.size w
  go_enter Try.func37, Try.ntmps37
  go_upto_region 4 with (first | ((with_reducible show wpList _ _ _ (⟨some 2, _, _, _, _, _⟩ :: _) _ _); refine wpList_boxed 2 rfl rfl 25 _ rfl tbl rfl ?_; intro W2 N2 hN2 hM2 hr2 hb2; have hW := below_next hW hb2) | ((with_reducible show wpList _ _ _ (⟨some 3, _, _, _, _, _⟩ :: _) _ _); refine wpList_boxed 3 rfl rfl 41 _ rfl (frm f) rfl ?_; intro W3 N3 hN3 hM3 hr3 hb3; have hW := below_next hW hb3; have hr2 := below_blk hb3 hr2) | ((with_reducible show wpList _ _ _ (⟨some 4, _, _, _, _, _⟩ :: _) _ _); refine wpList_zeroed 4 rfl rfl 44 rfl _ zero44 ?_; intro W4 N4 hN4 hM4 hr4 hb4; have hW := below_next hW hb4; have hr3 := below_blk hb4 hr3; have hr2 := below_blk hb4 hr2) | ((with_reducible show wpList _ _ _ (⟨some 9, _, _, _, _, _⟩ :: _) _ _); refine wpList_load_row rfl _ _ rfl N3 rfl 41 (frm f) (0, 0) _ hr3 Try.underlying41 rfl (ty41 f HOK.out).size ?_) | (go_at_call 38; refine (right_calls f _).mono ?_; rintro e w5 ⟨rfl, hb5⟩; rw [HF.out]; have hW := below_next hW hb5; have hr4 := below_blk hb5 hr4; have hr3 := below_blk hb5 hr3; have hr2 := below_blk hb5 hr2) | ((with_reducible show wpList _ _ _ (⟨some 6, _, _, _, _, _⟩ :: _) _ _); refine wpList_zeroed 6 rfl rfl 63 rfl _ zero63 ?_; intro W6 N6 hN6 hM6 hr6 hb6; have hW := below_next hW hb6; have hr4 := below_blk hb6 hr4; have hr3 := below_blk hb6 hr3; have hr2 := below_blk hb6 hr2))
  have sz3 := hb3.size
  have sz4 := hb4.size
  have sz5 := hb5.size
  have sz2 := hb2.size
  have hwN : w.heap.size ≤ N6 := by omega
  have n2 : N2 ≠ N6 := by omega
  have n3 : N3 ≠ N6 := by omega
  have n4 : N4 ≠ N6 := by omega
  have w2N : w.heap.size ≤ N2 := by omega
  have w4N : w.heap.size ≤ N4 := by omega
  have HW6 := hid hW
  have HR2 := hid hr2
  have HR3 := hid hr3
  have HR4 := hid hr4
  have P0 := Pens.refl (penB_zero hr6)
  clear hb2 hb3 hb4 hb5 hb6 hr2 hr3 hr4 hr6 hW
  obtain ⟨v0, hp0, ht0, hl0⟩ := P0
  have c0 := cell_of_row _ N3 0 _ _ _ (ht0.blk HR3.out (fun hS => by rcases hS with h | h; exact n3 h; simp [Value.ownBlock] at h))
  rw [frm0] at c0
  go_upto_region 5 with (first | (go_at_call 55; refine (penNumI N6 1 f.kind fit0.out _ v0 ([]) false hp0 (by simp)).mono ?_; rintro e y1 ⟨rfl, hs0⟩; have P1 := Pens.trans ht0 hl0 hs0))
  clear hs0 hp0 ht0 hl0 c0
  obtain ⟨v1, hp1, ht1, hl1⟩ := P1
  go_upto_region 6 with (first | (go_at_call 55; refine (penNumI N6 1 1 fit9.out _ v1 ([] ++ M.leB 1 f.kind.toNat) false hp1 (by simp [M.leB_length])).mono ?_; rintro e y2 ⟨rfl, hs1⟩; have P2 := Pens.trans ht1 hl1 hs1))
  clear hs1 hp1 ht1 hl1
  obtain ⟨v2, hp2, ht2, hl2⟩ := P2
  have c2 := cell_of_row _ N3 1 _ _ _ (ht2.blk HR3.out (fun hS => by rcases hS with h | h; exact n3 h; simp [Value.ownBlock] at h))
  rw [frm1] at c2
  go_upto_region 7 with (first | (go_at_call 55; refine (penNumI N6 2 f.zone fit1.out _ v2 ([] ++ M.leB 1 f.kind.toNat ++ M.leB 1 (1 : Int).toNat) false hp2 (by simp [M.leB_length])).mono ?_; rintro e y3 ⟨rfl, hs2⟩; have P3 := Pens.trans ht2 hl2 hs2))
  clear hs2 hp2 ht2 hl2 c2
  obtain ⟨v3, hp3, ht3, hl3⟩ := P3
  have c3 := cell_of_row _ N3 2 _ _ _ (ht3.blk HR3.out (fun hS => by rcases hS with h | h; exact n3 h; simp [Value.ownBlock] at h))
  rw [frm2] at c3
  go_upto_region 8 with (first | (go_at_call 55; refine (penNumI N6 2 f.off fit2.out _ v3 ([] ++ M.leB 1 f.kind.toNat ++ M.leB 1 (1 : Int).toNat ++ M.leB 2 f.zone.toNat) false hp3 (by simp [M.leB_length])).mono ?_; rintro e y4 ⟨rfl, hs3⟩; have P4 := Pens.trans ht3 hl3 hs3))
  clear hs3 hp3 ht3 hl3 c3
  obtain ⟨v4, hp4, ht4, hl4⟩ := P4
  have c4 := cell_of_row _ N3 3 _ _ _ (ht4.blk HR3.out (fun hS => by rcases hS with h | h; exact n3 h; simp [Value.ownBlock] at h))
  rw [frm3] at c4
  go_upto_region 9 with (first | (go_at_call 55; refine (penNumI N6 4 f.epoch fit3.out _ v4 ([] ++ M.leB 1 f.kind.toNat ++ M.leB 1 (1 : Int).toNat ++ M.leB 2 f.zone.toNat ++ M.leB 2 f.off.toNat) false hp4 (by simp [M.leB_length])).mono ?_; rintro e y5 ⟨rfl, hs4⟩; have P5 := Pens.trans ht4 hl4 hs4))
  clear hs4 hp4 ht4 hl4 c4
  obtain ⟨v5, hp5, ht5, hl5⟩ := P5
  have c5 := cell_of_row _ N3 4 _ _ _ (ht5.blk HR3.out (fun hS => by rcases hS with h | h; exact n3 h; simp [Value.ownBlock] at h))
  rw [frm4] at c5
  go_upto_region 10 with (first | (go_at_call 55; refine (penNumI N6 6 f.seq fit4.out _ v5 ([] ++ M.leB 1 f.kind.toNat ++ M.leB 1 (1 : Int).toNat ++ M.leB 2 f.zone.toNat ++ M.leB 2 f.off.toNat ++ M.leB 4 f.epoch.toNat) false hp5 (by simp [M.leB_length])).mono ?_; rintro e y6 ⟨rfl, hs5⟩; have P6 := Pens.trans ht5 hl5 hs5))
  clear hs5 hp5 ht5 hl5 c5
  obtain ⟨v6, hp6, ht6, hl6⟩ := P6
  have hbd := hasB_body HOK.out (ht6.blk HR3.out (fun hS => by rcases hS with h | h; exact n3 h; simp [Value.ownBlock] at h))
  have hpre : ([] ++ M.leB 1 f.kind.toNat ++ M.leB 1 (1 : Int).toNat ++ M.leB 2 f.zone.toNat ++ M.leB 2 f.off.toNat ++ M.leB 4 f.epoch.toNat ++ M.leB 6 f.seq.toNat) ++ f.body = f.pre := rfl
  have HPRE := hid hpre
  clear hpre
  go_upto_region 11 with (first | (go_at_call 50; refine (penBytesN 44 N6 _ f.body HOK.out.1 44 _ v6 _ f.pre HPRE.out false hp6 hbd (by rw [M.Fr.pre_length f HOK.out]; omega)).mono ?_; rintro e y7 ⟨rfl, hs6⟩; have P7 := Pens.trans ht6 hl6 hs6))
  have hW7 := pens_below P7 HW6.out hwN
  obtain ⟨v7, hp7, ht7, hl7⟩ := P7
  have nS : ∀ k, k ≠ N6 → ¬ penSet N6 (.slice none 0 0) k := fun k hk hS => by rcases hS with h | h; exact hk h; simp [Value.ownBlock] at h
  have hr2 := ht7.blk HR2.out (nS _ n2)
  have hr4 := ht7.blk HR4.out (nS _ n4)
  have hpl : f.pre.length = 60 := M.Fr.pre_length f HOK.out
  have hsl : f.sec.length = 64 := M.Fr.sec_length f HOK.out
  have hat : ∀ (a : Option Addr) (c : Nat) (w : World), (Instr.arrayAt 44 (.slice a f.sec.length c)).run Try.prog w = .ok (.pointer a) w := fun a c w => run_arrayAt w 44 5 64 a _ c Try.underlying44 (by omega)
  have HPL := hid hpl
  have HSL := hid hsl
  clear hs6 hp6 ht6 hl6 hbd HPRE hpl hsl
  go_upto_region 14 with (first | (go_at_call 51; refine (penOut_good N6 _ v7 f.pre hp7 (by rw [HPL.out]; omega)).mono ?_; rintro e y8 ⟨⟨a8, c8, rfl, ho8, hc8, hh8⟩, hb8⟩; have hW := below_next hW7 hb8; have hr2 := below_blk hb8 hr2; have hr4 := below_blk hb8 hr4))
  go_wp2_with (first | ((with_reducible show wpList _ _ _ (⟨some 40, _, _, _, _, _⟩ :: _) _ _); refine wpList_load_row rfl _ _ rfl N2 rfl 25 tbl (0, 0) _ hr2 Try.underlying25 rfl (by kernel_rfl) ?_) | (go_at_call 46; refine (seal_as a8 f.pre f.sec rfl c8 _ hh8 (by rw [HPL.out]; omega)).mono ?_; rintro e y9 ⟨⟨a9, c9, rfl, ho9, hc9, hh9⟩, hb9⟩; have hW := below_next hW hb9; have hr4 := below_blk hb9 hr4; obtain ⟨b9, off9, rfl, hcc9⟩ := hh9.cell (by rw [HSL.out]; omega); have HC9 := hid hcc9; clear hcc9) | ((with_reducible show wpList _ _ _ (⟨some 44, _, _, _, _, _⟩ :: _) _ _); refine wpList_load_bytes 44 rfl rfl 44 _ rfl b9 off9 rfl f.sec _ hh9 Try.underlying44 rfl (by rw [HSL.out]; kernel_rfl) ?_) | ((with_reducible show wpList _ _ _ (⟨none, _, _, _, _, _⟩ :: _) _ _); refine wpList_store_agg rfl rfl 44 _ _ rfl N4 (sct f.sec) rfl rfl 44 _ hr4 (ty44 _ HSL.out) (by rw [sct_size, sct_size, HSL.out]; rfl) (sct_all _) ?_; intro Z hrZ htZ))
  refine ret_cell 4 5 44 rfl rfl N4 rfl 44 _ (0, 0) _ hrZ Try.underlying44 rfl (ty44 _ HSL.out).size _ rfl ⟨rfl, below_turned hW htZ (fun k hk => by subst hk; exact w4N)⟩
end Go.Proofs.Ytncooadaeifekaa
