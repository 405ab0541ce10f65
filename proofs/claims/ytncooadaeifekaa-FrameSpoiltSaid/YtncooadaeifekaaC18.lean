/- Walk of the reference frame's Bytes. -/
import Derived.Test.YtncooadaeifekaaK12
import Derived.Test.YtncooadaeifekaaC8
import Derived.Test.YtncooadaeifekaaM4
namespace Go.Proofs.Ytncooadaeifekaa
open Go.RowKit
/-- a literal of bytes -/
theorem wpList_lit {ops : Array Oper} {rest : List Oper} {a : Act} {w : World} {Q : Exit → Act → World → Prop} {o : Oper} (d : Tmp) (hd : o.dst = some d) (hg : o.guard = none) (n : Nat) (parts : Array (Nat × Operand)) (ho : o.op = .buildSlice 28 n parts) (l : List Nat) (hn : l.length = n) (hl : ∀ c ∈ l, c < 256) (h7 : n ≤ 1000000)
    (hb : ∀ w, (Instr.buildSlice 28 n (parts.map fun (i, x) => (i, a.eval x))).run Try.prog w = .ok (.slice (some ⟨w.heap.size, 0, none⟩) n n) (w.alloc (.cells (u8s l).toArray 5)))
    (h : ∀ (W : World) (v : Value), OwnB W w.heap.size v l → Below w.heap.size w W → wpList Try.prog ops Q rest (a.put (some d) v) W) : wpList Try.prog ops Q (o :: rest) a w := by
  have hres := h (w.alloc (.cells (u8s l).toArray 5)) (.slice (some ⟨w.heap.size, 0, none⟩) n n) ⟨by subst hn; exact World.ownsRow_lit w (u8s l).toArray l.length (Nat.le_refl _) (by unfold maxLen; omega) (by simp [u8s_length]), hl⟩ ((Below.refl _ _).alloc (Nat.le_refl _) _)
  refine wpList_plain hg fun K hK => ?_
  unfold Oper.wp execOp
  simp only [ho, Sem.run_bind, hb, Result.andThen_ok]
  show K (a.put o.dst _) _
  rw [hd]
  exact hK _ _ hres
theorem ret_cell1 {P : Program} {fn : Func} {R : Ending → World → Prop} {F : Act} {w : World} (p : Tmp) (ty : TypeId) (h : fn.results = #[.cell p ty]) (hd : F.defers = []) (g : Nat) (hp : F.tmps.getD p undef = .pointer (some ⟨g, 0, none⟩))
    (T : TypeId) (cs : Array Value) (fr : Nat × Nat) (d : TypeDesc) (hg : w.heap[g]? = some (.cells cs T fr)) (hu : P.underlying ty = some d) (hdd : (match d with | .struct _ | .array _ _ => true | _ => false) = true) (hi : (P.info? ty).map (·.size) = some cs.size)
    (hR : R (.returned (.agg cs)) w) : bodyPost P fn R .ret F w :=
  bodyPost_ret (v := .agg cs) (results_cell_row h F.tmps w g T cs fr d hp hg hu hdd hi) hd hR
theorem zero43 : (Try.prog.info? 43).bind (fun i => i.zero.map (·.cells)) = some (sct (List.replicate 64 0)) := by kernel_rfl
theorem ty43 (s : List Nat) (h : s.length = 64) : TyRow Try.prog 43 (sct s).size := by rw [sct_size, h]; unfold TyRow; kernel_rfl
theorem lit2 (K : Nat) (w : World) : (Instr.buildSlice 28 2 #[(0, .int .u8 K), (1, .int .u8 1)]).run Try.prog w = .ok (.slice (some ⟨w.heap.size, 0, none⟩) 2 2) (w.alloc (.cells (u8s [K, 1]).toArray 5)) := by kernel_rfl
theorem sct_set (s : List Nat) (i v : Nat) : (sct s).setIfInBounds i (.int .u8 v) = sct (s.set i v) := by
  apply Array.ext'
  simp [sct, u8s, List.map_set]
theorem set_copy (t p : List Nat) (m : Nat) (hl : t.length = p.length) (hm : m < p.length) : (p.take m ++ t.drop m).set m (nth p m) = p.take (m + 1) ++ t.drop (m + 1) := by
  have h1 : (p.take m).length = m := by simp; omega
  rw [List.set_append_right _ _ (by omega), h1, Nat.sub_self, List.drop_eq_getElem_cons (by omega : m < t.length), List.set_cons_zero, take_nth p m hm, List.append_assoc]
  rfl
set_option maxRecDepth 100000 in
set_option maxHeartbeats 2000000 in
theorem rbytes_calls (f : M.Fr) (hok : f.ok) (hr : f.right = true) (w : World) :
    Calls Try.prog 42 #[.agg (frm f)] w fun e w' => e = .returned (.agg (sct f.sec)) ∧ Below w.heap.size w w' := by
  obtain ⟨kind, zone, off, epoch, seq, bd⟩ := f
  simp only [M.Fr.right, decide_eq_true_eq] at hr
  obtain ⟨⟨h1, h2⟩, ⟨h3, h4⟩, ⟨h5, h6⟩, ⟨h7, h8⟩, h9, h10⟩ := hr
  obtain ⟨K, rfl⟩ : ∃ n : Nat, kind = n := ⟨kind.toNat, by omega⟩
  obtain ⟨Z, rfl⟩ : ∃ n : Nat, zone = n := ⟨zone.toNat, by omega⟩
  obtain ⟨O, rfl⟩ : ∃ n : Nat, off = n := ⟨off.toNat, by omega⟩
  obtain ⟨E, rfl⟩ : ∃ n : Nat, epoch = n := ⟨epoch.toNat, by omega⟩
  obtain ⟨S, rfl⟩ : ∃ n : Nat, seq = n := ⟨seq.toNat, by omega⟩
  have hsl := M.Fr.sec_length _ hok
  have hpl := M.Fr.pre_length _ hok
  have hslt := M.Fr.sec_lt _ hok
  obtain ⟨SEC, hSEC⟩ : ∃ SEC, SEC = (M.Fr.mk K Z O E S bd).sec := ⟨_, rfl⟩
  obtain ⟨PRE, hPRE⟩ : ∃ PRE, PRE = (M.Fr.mk K Z O E S bd).pre := ⟨_, rfl⟩
  have hSP : PRE ++ M.leB 4 (M.crc PRE) = SEC := by rw [hSEC, hPRE]; rfl
  obtain ⟨L0, hL0⟩ : ∃ L, L = [K, 1] := ⟨_, rfl⟩
  obtain ⟨L1, hL1⟩ : ∃ L, L = L0 ++ M.leB 2 Z := ⟨_, rfl⟩
  obtain ⟨L2, hL2⟩ : ∃ L, L = L1 ++ M.leB 2 O := ⟨_, rfl⟩
  obtain ⟨L3, hL3⟩ : ∃ L, L = L2 ++ M.leB 4 E := ⟨_, rfl⟩
  obtain ⟨L4, hL4⟩ : ∃ L, L = L3 ++ M.leB 6 S := ⟨_, rfl⟩
  have hPL : L4 ++ bd = PRE := by
    rw [hPRE, M.Fr.pre, hL4, hL3, hL2, hL1, hL0]
    have e : ([K, 1] : List Nat) = M.leB 1 K ++ M.leB 1 1 := by simp [M.leB]; omega
    simp only [Int.toNat_natCast, e]
  have hkk : (K : Int) % 256 = K := by omega
  have l0 : L0.length = 2 := by rw [hL0]; rfl
  have l1 : L1.length = 4 := by rw [hL1, List.length_append, M.leB_length]; omega
  have l2 : L2.length = 6 := by rw [hL2, List.length_append, M.leB_length]; omega
  have l3 : L3.length = 10 := by rw [hL3, List.length_append, M.leB_length]; omega
  have l4 : L4.length = 16 := by rw [hL4, List.length_append, M.leB_length]; omega
  have k0 : ∀ c ∈ L0, c < 256 := by rw [hL0]; simp; omega
  have bZ : Z < 72057594037927936 := by omega
  have bO : O < 72057594037927936 := by omega
  have bE : E < 72057594037927936 := by omega
  have bS : S < 72057594037927936 := by omega
  rw [← hSEC] at hsl hslt
  rw [← hPRE] at hpl
  have HZ := hid bZ
  have HO' := hid bO
  have HEE := hid bE
  have HSS := hid bS
  have HSP := hid hSP
  have HPL := hid hPL
  have HE0 := hid hL0
  have HE1 := hid hL1.symm
  have HE2 := hid hL2.symm
  have HE3 := hid hL3.symm
  have HE4 := hid hL4.symm
  have HL0 := hid l0
  have HL1 := hid l1
  have HL2 := hid l2
  have HL3 := hid l3
  have HL4 := hid l4
  have HK1 : Hid (∀ c ∈ [K, 1], c < 256) := by rw [← HE0.out]; exact k0
  have HOK := hid hok
  have HSL := hid hsl
  have HSLT := hid hslt
  have HPLEN := hid hpl
  have hfin : Hid (M.Fr.sec ⟨K, Z, O, E, S, bd⟩ = SEC) := hSEC.symm
  rw [hfin.out]
  clear bZ bO bE bS hSP hPL hL0 hL1 hL2 hL3 hL4 l0 l1 l2 l3 l4 k0 hok hsl hslt hpl hSEC hPRE h1 h2 h3 h4 h5 h6 h7 h8 h9 h10
  have hW := Below.refl w.heap.size w
  go_enter Try.func42, Try.ntmps42
  go_upto_region 1 with (first | ((with_reducible show wpList _ _ _ (⟨some 1, _, _, _, _, _⟩ :: _) _ _); refine wpList_boxed 1 rfl rfl 42 _ rfl (frm ⟨K, Z, O, E, S, bd⟩) rfl ?_; intro W1 N1 hN1 hM1 hf hb1; have hW := below_next hW hb1) | ((with_reducible show wpList _ _ _ (⟨some 2, _, _, _, _, _⟩ :: _) _ _); refine wpList_zeroed 2 rfl rfl 43 rfl _ zero43 ?_; intro W2 N2 hN2 hM2 hr2 hb2; have hW := below_next hW hb2; have hf := below_blk hb2 hf))
  obtain ⟨B, hB⟩ : ∃ B, B = W2.heap.size := ⟨_, rfl⟩
  have hwB : w.heap.size ≤ B := by rw [hB]; exact hW.size
  have hNf : N1 < B := by rw [hB]; have := hb2.size; omega
  have hN2f : N2 < B := by rw [hB]; exact hM2
  have wN2 : w.heap.size ≤ N2 := by have := hb1.size; omega
  have sB : B ≤ W2.heap.size := by omega
  have hf0 := cell_of_row _ N1 0 _ _ _ hf
  rw [frm0] at hf0
  clear hb1 hb2
  go_upto_region 2 with (fail)
  have ho : OwnB (W2.alloc (.cells #[.int .u8 K, .int .u8 1] 5)) W2.heap.size (.slice (some ⟨W2.heap.size, 0, none⟩) 2 2) L0 := by
    rw [HE0.out]
    exact ⟨World.ownsRow_lit W2 (u8s [K, 1]).toArray 2 (Nat.le_refl _) (by unfold maxLen; omega) rfl, HK1.out⟩
  have hba : Below W2.heap.size W2 (W2.alloc (.cells #[.int .u8 K, .int .u8 1] 5)) := (Below.refl _ _).alloc (Nat.le_refl _) _
  have hf := below_blk hba hf
  have hr2 := below_blk hba hr2
  have hW := below_next hW hba
  have sB := Nat.le_trans sB hba.size
  clear hba hf0
  generalize W2.alloc (.cells #[.int .u8 K, .int .u8 1] 5) = W3 at *
  generalize Value.slice (some ⟨W2.heap.size, 0, none⟩) 2 2 = v3 at *
  rw [← hB] at ho
  clear hB
  have c2 := cell_of_row _ N1 1 _ _ _ hf
  rw [frm1] at c2
  have h7 : Z < 72057594037927936 := HZ.out
  clear h7
  go_upto_region 3 with (first | (go_at_call 59; refine (rnum_calls 2 Z (by decide) HZ.out _).mono ?_; rintro e y1 ⟨⟨ax, cx, rfl, hcx, hox, hhx⟩, hbx⟩; have ho := ho.mono hbx; have hf := below_blk hbx hf; have hr2 := below_blk hbx hr2; have hW := below_next hW hbx; have sB := Nat.le_trans sB hbx.size) | ((with_reducible show wpList _ _ _ (⟨some 15, _, _, _, _, _⟩ :: _) _ _); refine wpList_append_at 15 rfl rfl _ _ rfl B _ L0 (M.leB 2 Z) L1 HE1.out (by rfl) ho _ cx (by rw [M.leB_length]; rfl) hhx (by rw [HL1.out]; omega) sB ?_; intro av cv y2 ho hcv hh hba; have sB := Nat.le_trans sB hba.size; have hf := below_blkB hba hNf hf; have hr2 := below_blkB hba hN2f hr2; have hW := hW.trans (hba.mono hwB)))
  clear hhx hox hbx hcx hh hcv
  have c3 := cell_of_row _ N1 2 _ _ _ hf
  rw [frm2] at c3
  have h7 : O < 72057594037927936 := HO'.out
  clear h7
  go_upto_region 4 with (first | (go_at_call 59; refine (rnum_calls 2 O (by decide) HO'.out _).mono ?_; rintro e y1 ⟨⟨ax, cx, rfl, hcx, hox, hhx⟩, hbx⟩; have ho := ho.mono hbx; have hf := below_blk hbx hf; have hr2 := below_blk hbx hr2; have hW := below_next hW hbx; have sB := Nat.le_trans sB hbx.size) | ((with_reducible show wpList _ _ _ (⟨some 20, _, _, _, _, _⟩ :: _) _ _); refine wpList_append_at 20 rfl rfl _ _ rfl B _ L1 (M.leB 2 O) L2 HE2.out (by rfl) ho _ cx (by rw [M.leB_length]; rfl) hhx (by rw [HL2.out]; omega) sB ?_; intro av cv y2 ho hcv hh hba; have sB := Nat.le_trans sB hba.size; have hf := below_blkB hba hNf hf; have hr2 := below_blkB hba hN2f hr2; have hW := hW.trans (hba.mono hwB)))
  clear hhx hox hbx hcx hh hcv
  have c4 := cell_of_row _ N1 3 _ _ _ hf
  rw [frm3] at c4
  have h7 : E < 72057594037927936 := HEE.out
  clear h7
  go_upto_region 5 with (first | (go_at_call 59; refine (rnum_calls 4 E (by decide) HEE.out _).mono ?_; rintro e y1 ⟨⟨ax, cx, rfl, hcx, hox, hhx⟩, hbx⟩; have ho := ho.mono hbx; have hf := below_blk hbx hf; have hr2 := below_blk hbx hr2; have hW := below_next hW hbx; have sB := Nat.le_trans sB hbx.size) | ((with_reducible show wpList _ _ _ (⟨some 25, _, _, _, _, _⟩ :: _) _ _); refine wpList_append_at 25 rfl rfl _ _ rfl B _ L2 (M.leB 4 E) L3 HE3.out (by rfl) ho _ cx (by rw [M.leB_length]; rfl) hhx (by rw [HL3.out]; omega) sB ?_; intro av cv y2 ho hcv hh hba; have sB := Nat.le_trans sB hba.size; have hf := below_blkB hba hNf hf; have hr2 := below_blkB hba hN2f hr2; have hW := hW.trans (hba.mono hwB)))
  clear hhx hox hbx hcx hh hcv
  have c5 := cell_of_row _ N1 4 _ _ _ hf
  rw [frm4] at c5
  have h7 : S < 72057594037927936 := HSS.out
  clear h7
  go_upto_region 6 with (first | (go_at_call 59; refine (rnum_calls 6 S (by decide) HSS.out _).mono ?_; rintro e y1 ⟨⟨ax, cx, rfl, hcx, hox, hhx⟩, hbx⟩; have ho := ho.mono hbx; have hf := below_blk hbx hf; have hr2 := below_blk hbx hr2; have hW := below_next hW hbx; have sB := Nat.le_trans sB hbx.size) | ((with_reducible show wpList _ _ _ (⟨some 30, _, _, _, _, _⟩ :: _) _ _); refine wpList_append_at 30 rfl rfl _ _ rfl B _ L3 (M.leB 6 S) L4 HE4.out (by rfl) ho _ cx (by rw [M.leB_length]; rfl) hhx (by rw [HL4.out]; omega) sB ?_; intro av cv y2 ho hcv hh hba; have sB := Nat.le_trans sB hba.size; have hf := below_blkB hba hNf hf; have hr2 := below_blkB hba hN2f hr2; have hW := hW.trans (hba.mono hwB)))
  clear hhx hox hbx hcx hh hcv
  go_wp2
  go_loopw [3, 4] (fun v i wr => ∃ m : Nat, m ≤ 44 ∧ i = .int .i64 m ∧ OwnB wr B v (L4 ++ bd.take m) ∧ Hid (wr.heap[N1]? = some (.cells (frm ⟨K, Z, O, E, S, bd⟩) 42 (0, 0)) ∧ wr.heap[N2]? = some (.cells (sct (List.replicate 64 0)) 43 (0, 0)) ∧ Below w.heap.size w wr ∧ B ≤ wr.heap.size)) (fun _ i _ => 44 - (intOf i).toNat)
  case atStart => exact ⟨0, Nat.zero_le _, rfl, by simpa using ho, hf, hr2, hW, sB⟩
  case round =>
    clear ho hf hr2 hW sB
    obtain ⟨m, hm, rfl, ho, HH⟩ := hrel
    by_cases hlt : m < 44
    · have hbl : bd.length = 44 := HOK.out.1
      have hLn : (L4 ++ bd.take m) ++ [nth bd m] = L4 ++ bd.take (m + 1) := by rw [take_nth bd m (by omega), List.append_assoc]
      have hLl : (L4 ++ bd.take (m + 1)).length ≤ 1000000 := by rw [List.length_append, HL4.out]; simp; omega
      obtain ⟨A, hA⟩ : ∃ A, A = L4 ++ bd.take m := ⟨_, rfl⟩
      obtain ⟨A2, hA2⟩ : ∃ A, A = L4 ++ bd.take (m + 1) := ⟨_, rfl⟩
      rw [← hA] at ho
      rw [← hA, ← hA2] at hLn
      rw [← hA2] at hLl
      have HA2 := hid hA2
      have HLn := hid hLn
      have hcell : wr.cell? ⟨N1, 5 + m, none⟩ = some (.int .u8 (nth bd m)) := by rw [cell_of_row _ _ _ _ _ _ HH.out.1]; exact frm_body ⟨K, Z, O, E, S, bd⟩ m (by show m < bd.length; omega)
      have hcb := nth_lt bd HOK.out.2 m
      have hoo := ho
      obtain ⟨a1, c1, rfl, hc1, _⟩ := ho.slice
      have HOO := hid hoo
      clear hA hA2 hLn hoo ho
      go_wp2_with (first | ((with_reducible show wpList _ _ _ (⟨some 41, _, _, _, _, _⟩ :: _) _ _); refine wpList_append_at 41 rfl rfl _ _ rfl B _ A [nth bd m] A2 HLn.out (by rfl) (HOO.out.mono ((Below.refl _ _).alloc (Nat.le_refl _) _)) _ 1 (by rfl) (hasB_one _ _ hcb) hLl (by have := HH.out.2.2.2; simp; omega) ?_; intro av cv y2 ho hcv hh hba))
      go_roundw
      case rel =>
        have hal : Below wr.heap.size wr (wr.alloc (.cells #[.int .u8 (nth bd m : Nat)] 5)) := (Below.refl _ _).alloc (Nat.le_refl _) _
        refine ⟨m + 1, by omega, by go_num, by rw [← HA2.out]; exact ho, below_blkB hba hNf (below_blk hal HH.out.1), below_blkB hba hN2f (below_blk hal HH.out.2.1), (below_next HH.out.2.2.1 hal).trans (hba.mono hwB), ?_⟩
        have := hba.size
        have := HH.out.2.2.2
        simp at *; omega
      case measure => simp [intOf]; omega
    · obtain rfl : m = 44 := by omega
      have hPL : L4 ++ bd.take 44 = PRE := by rw [List.take_of_length_le (by have := HOK.out.1; show bd.length ≤ 44; exact Nat.le_of_eq this)]; exact HPL.out
      rw [hPL] at ho
      obtain ⟨hf, hr2, hW, sB⟩ := HH.out
      obtain ⟨C, hC⟩ : ∃ C, C = M.crc PRE := ⟨_, rfl⟩
      have hCl : C < 4294967296 := by rw [hC]; exact M.crc_lt _ ho.2
      have hSP := HSP.out
      rw [← hC] at hSP
      have HC := hid hC
      have HSP2 := hid hSP
      have hoo := ho
      obtain ⟨a1, c1, rfl, hc1, hh1⟩ := ho.slice
      have HOO := hid hoo
      have HH1 := hid hh1
      have HSB := hid sB
      have HWW := hid hW
      have HR2 := hid hr2
      clear hoo ho hC hSP hPL hf hh1 sB hW hr2 HH
      go_wp2_with (first | (go_at_call 34; refine (rsum_calls a1 PRE c1 _ HH1.out (by rw [HPLEN.out]; omega)).mono ?_; rintro e z1 ⟨rfl, hz1⟩; rw [← M.crc, ← HC.out]; have ho := HOO.out.mono hz1; have hr2 := below_blk hz1 HR2.out; have hW := below_next HWW.out hz1; have sB := Nat.le_trans HSB.out hz1.size) | (go_at_call 59; refine (rnum_calls 4 C (by decide) (by omega) _).mono ?_; rintro e z2 ⟨⟨ax, cx, rfl, hcx, hox, hhx⟩, hbx⟩; have ho := ho.mono hbx; have hr2 := below_blk hbx hr2; have hW := below_next hW hbx; have sB := Nat.le_trans sB hbx.size) | ((with_reducible show wpList _ _ _ (⟨some 47, _, _, _, _, _⟩ :: _) _ _); refine wpList_append_at 47 rfl rfl _ _ rfl B _ PRE (M.leB 4 C) SEC HSP2.out (by rfl) ho _ cx (by rw [M.leB_length]; rfl) hhx (by rw [HSL.out]; omega) sB ?_; intro av cv z3 ho hcv hh hba; have hr2 := below_blkB hba hN2f hr2; have sB := Nat.le_trans sB hba.size; have hW := hW.trans (hba.mono hwB)) | ((with_reducible show wpList _ _ _ (⟨some 5, _, _, _, _, _⟩ :: _) _ _); refine wpList_zeroed 5 rfl rfl 43 rfl _ zero43 ?_; intro W5 N5 hN5 hM5 hr5 hb5; have hW := below_next hW hb5; have hr2 := below_blk hb5 hr2; have hh := hh.below hb5))
      have n25 : N2 ≠ N5 := by omega
      have w5 : w.heap.size ≤ N5 := by omega
      obtain ⟨b, off, rfl, hcc⟩ := hh.cell (by rw [HSL.out]; omega)
      have hbN : b < N5 := by
        have h1 := ho.ownLt b rfl
        omega
      have HCC := hid hcc
      clear hcc hh ho hcv hox hhx hcx hbx hz1 hba hb5 sB
      go_loopw [6] (fun i wr => ∃ m : Nat, m ≤ 64 ∧ i = .int .i64 m ∧ wr.heap[N5]? = some (.cells (sct (SEC.take m ++ (List.replicate 64 0).drop m)) 43 (0, 0)) ∧ Hid (Turned (fun k => k = N5) W5 wr)) (fun i _ => 64 - (intOf i).toNat)
      case atStart => exact ⟨0, Nat.zero_le _, rfl, by simpa using hr5, Turned.refl _ _⟩
      case round =>
        obtain ⟨m, hm, rfl, hr5, HT⟩ := hrel
        by_cases hlt : m < 64
        · have hsl := HSL.out
          have hcell : wr.cell? ⟨b, off + m, none⟩ = some (.int .u8 (nth SEC m)) := by
            rw [← HCC.out m (by omega)]
            exact World.cell?_of_block (w := W5) (HT.out.block b (by omega) (by omega))
          have hset : (sct (SEC.take m ++ (List.replicate 64 0).drop m)).setIfInBounds m (.int .u8 (nth SEC m)) = sct (SEC.take (m + 1) ++ (List.replicate 64 0).drop (m + 1)) := by
            rw [sct_set, set_copy _ _ m (by rw [HSL.out]; simp) (by omega)]
          have HSET := hid hset
          have hsz : (sct (SEC.take m ++ (List.replicate 64 0).drop m)).size = 64 := by rw [sct_size]; simp; omega
          have HSZ := hid hsz
          have HR5 := hid hr5
          clear hset hsz hr5
          go_wp2_with (first | ((with_reducible show wpList _ _ _ (⟨none, _, _, _, _, _⟩ :: _) _ _); refine wpList_store_cell rfl rfl 5 _ _ rfl N5 m .u8 (nth SEC m) rfl rfl size5 43 _ _ HR5.out (by rw [HSZ.out]; omega) HSET.out ?_; intro Y hrY htY))
          go_roundw
          case rel => exact ⟨m + 1, by omega, by go_num, hrY, HT.out.trans htY fun i hi => .inl hi⟩
          case measure => simp [intOf]; omega
        · obtain rfl : m = 64 := by omega
          have e : SEC.take 64 ++ (List.replicate 64 0).drop 64 = SEC := by rw [List.take_of_length_le (Nat.le_of_eq HSL.out), List.drop_eq_nil_of_le (by simp), List.append_nil]
          rw [e] at hr5
          have hr2 := HT.out.blk hr2 (fun h => n25 h)
          have hW := below_turned hW HT.out (fun k hk => by subst hk; exact w5)
          go_wp2_with (first | ((with_reducible show wpList _ _ _ (⟨some 58, _, _, _, _, _⟩ :: _) _ _); refine wpList_load_row rfl _ _ rfl N5 rfl 43 (sct SEC) (0, 0) _ hr5 Try.underlying43 rfl (ty43 _ HSL.out).size ?_) | ((with_reducible show wpList _ _ _ (⟨none, _, _, _, _, _⟩ :: _) _ _); refine wpList_store_agg rfl rfl 43 _ _ rfl N2 (sct SEC) rfl rfl 43 _ hr2 (ty43 _ HSL.out) (by rw [sct_size, sct_size, HSL.out]; rfl) (sct_all _) ?_; intro Z2 hrZ htZ))
          refine ret_cell1 2 43 rfl rfl N2 rfl 43 _ (0, 0) _ hrZ Try.underlying43 rfl (ty43 _ HSL.out).size ⟨rfl, below_turned hW htZ (fun k hk => by subst hk; exact wN2)⟩
end Go.Proofs.Ytncooadaeifekaa
