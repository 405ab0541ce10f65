/- Walk of the law CrcPatterns: it answers true for any bytes and pattern. -/
import Derived.Test.YtncooadaeifekaaT9
import Derived.Test.YtncooadaeifekaaC20
import Derived.Test.YtncooadaeifekaaK13
import Derived.Test.YtncooadaeifekaaK11
namespace Go.Proofs.Ytncooadaeifekaa
open Go.RowKit
theorem storeM {w : World} {B : Nat} {av : Option Addr} {cv n : Nat} {l : List Nat} (h : OwnB w B (.slice av n cv) l) (hl : l.length = n) (hne : 0 < n) :
    ∃ g, av = some ⟨g, 0, none⟩ ∧ B ≤ g ∧ g < w.heap.size ∧ (∀ i, i < n → w.cell? ⟨g, i, none⟩ = some (.int .u8 (nth l i))) ∧ (∀ i, w.frozen? ⟨g, i, none⟩ = false) ∧
      ∀ i x, x < 256 → OwnB (w.setCell ⟨g, i, none⟩ (.int .u8 (x : Nat))) B (.slice av n cv) (l.set i x) := by
  subst hl; exact OwnB.store h hne
theorem mult_is (a : Option Addr) (l : List Nat) (cap : Nat) (D : Bool) (hD : decide (M.over 0 l = 0) = D) (w : World) (hl : HasB w a l) (hn : l.length ≤ 1000000) :
    Calls Try.prog 35 #[.agg tbl, .slice a l.length cap] w fun e w' => e = .returned (.bool D) ∧ Below w.heap.size w w' := by
  subst hD
  have h := multiple_calls a l cap w hl hn
  have e : ((M.over 0 l : Int) == 0) = decide (M.over 0 l = 0) := by
    rw [Bool.eq_iff_iff, beq_iff_eq, decide_eq_true_iff]; omega
  rw [e] at h
  exact h
theorem div_is (n : Nat) (a : Option Addr) (l : List Nat) (hl0 : l.length = n) (cap : Nat) (D : Bool) (hD : decide (M.over 0 l = 0) = D) (w : World) (hl : HasB w a l) (hn : n ≤ 1000) :
    Calls Try.prog 54 #[.slice a n cap] w fun e w' => e = .returned (.bool D) ∧ Below w.heap.size w w' := by
  subst hD hl0; exact divides_calls a l cap w hl hn
theorem open_is (n : Nat) (a : Option Addr) (l : List Nat) (cap m : Nat) (hl0 : l.length = n) (E : Int) (hE : E = if l.drop m = M.leB 4 (M.crc (l.take m)) then 0 else 11) (w : World) (hl : HasB w a l) (hn : n = m + 4) (hn2 : n ≤ 900000) (hcap : n ≤ cap) :
    Calls Try.prog 47 #[.agg tbl, .slice a n cap] w fun e w' => (∃ v, e = .returned (.tuple #[v, .int .i64 E])) ∧ Below w.heap.size w w' := by
  subst hl0
  by_cases h : l.drop m = M.leB 4 (M.crc (l.take m))
  · rw [if_pos h] at hE
    refine (open_yes a l cap m w hl hn hn2 hcap h).mono ?_
    rintro e w' ⟨⟨a', cap', he, _, _⟩, hb⟩
    exact ⟨⟨_, by rw [hE]; exact he⟩, hb⟩
  · rw [if_neg h] at hE
    refine (open_no a l cap m w hl hn hn2 hcap h).mono ?_
    rintro e w' ⟨he, hb⟩
    exact ⟨⟨_, by rw [hE]; exact he⟩, hb⟩
set_option maxRecDepth 100000 in
set_option maxHeartbeats 1000000 in
theorem patterns_walk (aa : Option Addr) (a : List Nat) (ca : Nat) (ap : Option Addr) (p : List Nat) (cp : Nat) (ha : a.length ≤ 100) (hp : p.length ≤ 104) (w : World) (hA : HasB w aa a) (hP : HasB w ap p) :
    Calls Try.prog 14 #[.slice aa a.length ca, .slice ap p.length cp] w fun e w' => e = .returned (.bool true) ∧ Below w.heap.size w w' := by
  have t1 : decide ((100 : Int) < (a.length : Int)) = false := by simp; omega
  have t2 : decide ((104 : Int) < (p.length : Int)) = false := by simp; omega
  obtain ⟨D, hD⟩ : ∃ D, decide (M.over 0 p = 0) = D := ⟨_, rfl⟩
  obtain ⟨L, hL⟩ : ∃ L, L = a ++ M.leB 4 (M.crc a) := ⟨_, rfl⟩
  obtain ⟨n, hn⟩ : ∃ n, n = a.length + 4 := ⟨_, rfl⟩
  have hLn : L.length = n := by rw [hL, List.length_append, M.leB_length, hn]
  have hn104 : n ≤ 104 := by omega
  have hn0 : 0 < n := by omega
  have HN := hid hn
  have HA := hid hA
  have HP := hid hP
  have HD := hid hD
  have HL := hid hL
  have HLN := hid hLn
  clear hA hP hD hL hLn hn
  have hW := Below.refl w.heap.size w
  go_enter Try.func14, Try.ntmps14
  go_upto_region 10 with (first | (go_at_call 28; refine (anchor_calls _).mono ?_; rintro e w1 ⟨rfl, hb⟩; have sw1 := hb.size; have hW := below_next hW hb) | (go_at_call 29; refine (new_calls _).mono ?_; rintro e w2 ⟨rfl, hb⟩; have sw2 := hb.size; have hW := below_next hW hb) | ((with_reducible show wpList _ _ _ (⟨some 5, _, _, _, _, _⟩ :: _) _ _); refine wpList_local 5 rfl rfl rfl rfl 25 rfl _ rfl tbl rfl (of_decide_eq_true (by kernel_rfl)) ty25 tbl_all ?_; intro W5 N5 hNN5 hMN5 hr5 hb; have sW5 := hb.size; have hW := below_next hW hb) | ((with_reducible show wpList _ _ _ (⟨some 22, _, _, _, _, _⟩ :: _) _ _); refine wpList_load_rowg 22 rfl rfl 25 _ rfl N5 rfl _ tbl (0, 0) _ hr5 Try.underlying25 rfl (by kernel_rfl) ?_) | (go_at_call 35; refine (mult_is ap p cp D HD.out _ (HP.out.below hW) (by omega)).mono ?_; rintro e w6 ⟨rfl, hb⟩; have sw6 := hb.size; have hW := below_next hW hb; have hr5 := below_blk hb hr5) | (go_at_call 54; refine (div_is _ ap p rfl cp D HD.out _ (HP.out.below hW) (by omega)).mono ?_; rintro e w7 ⟨rfl, hb⟩; have sw7 := hb.size; have hW := below_next hW hb; have hr5 := below_blk hb hr5) | ((with_reducible show wpList _ _ _ (⟨some 28, _, _, _, _, _⟩ :: _) _ _); refine wpList_load_rowg 28 rfl rfl 25 _ rfl N5 rfl _ tbl (0, 0) _ hr5 Try.underlying25 rfl (by kernel_rfl) ?_) | (go_at_call 46; refine (seal_as aa a L HL.out ca _ (HA.out.below hW) (by omega)).mono ?_; rintro e w8 ⟨⟨sa, cs, rfl, hos, hcs, hhs⟩, hb⟩; rw [HLN.out] at hos hcs ⊢; have hgl := hos.ownLt; have sw8 := hb.size; have hW := below_next hW hb; have hr5 := below_blk hb hr5) | ((with_reducible show wpList _ _ _ (⟨some 33, _, _, _, _, _⟩ :: _) _ _); refine wpList_make_bytes 33 rfl rfl _ rfl n (by rfl) (by omega) ?_; intro W9 N9 hN9 hM9 hrow hb; have sW9 := hb.size; have hW := below_next hW hb; have hr5 := below_blk hb hr5; have hos := hos.mono hb))
  have w9 : w.heap.size ≤ N9 := by omega
  have n59 : N5 < N9 := by omega
  obtain ⟨g, rfl, hg1, hg2, _⟩ := storeM hos HLN.out hn0
  have gN : g < N9 := by have := (hgl g rfl).2; omega
  have wg : w.heap.size ≤ g := by have := (hgl g rfl).1; omega
  have n5g : N5 ≠ g := by have := (hgl g rfl).1; omega
  clear hgl hb
  obtain ⟨B, hB⟩ : ∃ B, B = w7.heap.size := ⟨_, rfl⟩
  rw [← hB] at hos
  obtain ⟨q, hq⟩ : ∃ q, q = laid (List.replicate n 0) p := ⟨_, rfl⟩
  have hql : q.length = n := by rw [hq, laid_length]; simp
  have hqb : ∀ c ∈ q, c < 256 := by rw [hq]; exact laid_lt _ _ (by simp) HP.out.1
  have HQ := hid hq
  have HQL := hid hql
  have HQB := hid hqb
  have HLB : Hid (∀ c ∈ L, c < 256) := by
    show ∀ c ∈ L, c < 256
    rw [HL.out]; intro c hc
    rcases List.mem_append.1 hc with h | h
    · exact HA.out.1 c h
    · exact M.leB_lt _ _ c h
  obtain ⟨X, hX⟩ : ∃ X, X = M.xorL L q := ⟨_, rfl⟩
  have hXl : X.length = n := by rw [hX, M.xorL_length _ _ (by rw [HLN.out, HQL.out])]; exact HLN.out
  have hXn : ∀ i, i < n → nth X i = nth L i ^^^ nth q i := fun i hi => by rw [hX]; exact nth_xorL L q (by rw [HLN.out, HQL.out]) i (by rw [HLN.out]; exact hi)
  have hXb : ∀ c ∈ X, c < 256 := by rw [hX]; exact M.xorL_lt _ _ HLB.out HQB.out
  have HX := hid hX
  have HXL := hid hXl
  have HXN := hid hXn
  have HXB := hid hXb
  clear hB hq hql hqb hX hXl hXn hXb
  have hhp := HP.out.below hW
  go_wp2_with (first | ((with_reducible show wpList _ _ _ (⟨some 36, _, _, _, _, _⟩ :: _) _ _); refine wpList_copy_row rfl (some 36) rfl _ _ rfl N9 n n (List.replicate n 0) (by simp) rfl hrow ap p cp rfl hhp ?_; intro WA kk hrow hba; rw [← HQ.out] at hrow; have hos := Turned.own (S := fun k => N9 ≤ k) ⟨hba.os, hba.tape, hba.output, hba.size, fun k hk hn => hba.block k (Nat.lt_of_not_le hn)⟩ hos (fun k hk h => by have h : N9 ≤ k := h; simp only [Value.ownBlock, Option.some.injEq] at hk; omega); have hr5 := below_blkB hba n59 hr5; have hW := hW.trans (hba.mono w9)))
  clear hhp
  go_loopw [39] (fun i wr => ∃ k : Nat, k ≤ n ∧ i = .int .i64 k ∧ Hid (OwnB wr B (.slice (some ⟨g, 0, none⟩) n cs) (X.take k ++ L.drop k)) ∧ Hid (RowB wr N9 q) ∧ Hid (wr.heap[N5]? = some (.cells tbl 25 (0, 0))) ∧ Hid (Below w.heap.size w wr)) (fun i _ => n - (intOf i).toNat)
  case atStart => exact ⟨0, Nat.zero_le _, rfl, (by show OwnB _ _ _ _; simpa using hos), hrow, hr5, hW⟩
  case round =>
    clear hos hrow hr5 hW
    obtain ⟨k, hk, rfl, HO, HR, HT, HWr⟩ := hrel
    have hTl : (X.take k ++ L.drop k).length = n := by rw [List.length_append, List.length_take, List.length_drop, HXL.out, HLN.out]; omega
    by_cases hlt : k < n
    · obtain ⟨g', hgg, _, _, hcells, hfree, hset⟩ := storeM HO.out hTl (by omega)
      obtain rfl : g = g' := by simpa using hgg
      have c1 := hcells k hlt
      have hLX : L.length = X.length := by rw [HLN.out, HXL.out]
      rw [nth_over L X k (by rw [HXL.out]; exact hlt)] at c1
      have c2 := HR.out.cell k (by rw [HQL.out]; exact hlt)
      have c3 := hfree k
      have x1 : bits .xor .u8 (nth L k : Int) (nth q k : Int) = ((nth L k ^^^ nth q k : Nat) : Int) := xor8 _ _ (nth_lt L HLB.out k) (nth_lt q HQB.out k)
      rw [← HXN.out k hlt] at x1
      have hs := hset k (nth X k) (nth_lt X HXB.out k)
      rw [set_over L X k hLX (by rw [HXL.out]; exact hlt)] at hs
      have HS := hid hs
      have bl := nth_lt L HLB.out k
      have bq := nth_lt q HQB.out k
      have bx := nth_lt X HXB.out k
      generalize nth X k = xk at *
      clear hs hcells hfree hset hgg hLX hTl
      go_wp2
      go_region
      go_wp2
      go_roundw
      case rel =>
        refine ⟨k + 1, by omega, by go_num, HS.out.drew, ?_, ?_, (HWr.out.setCell wg _).drew⟩
        · show RowB _ N9 q
          have : RowB (wr.setCell ⟨g, k, none⟩ (.int .u8 xk)) N9 q := by
            unfold RowB; rw [heap_setCell_other _ _ _ _ (by show N9 ≠ g; omega)]; exact HR.out
          exact this.drew
        · show _ = _
          rw [heap_drew, heap_setCell_other _ _ _ _ (by exact n5g)]; exact HT.out
      case measure => simp [intOf]; omega
    · obtain rfl : k = n := by omega
      have e : X.take k ++ L.drop k = X := by rw [List.take_of_length_le (Nat.le_of_eq HXL.out), List.drop_eq_nil_of_le (Nat.le_of_eq HLN.out), List.append_nil]
      rw [e] at HO
      have hhs : HasB wr (some ⟨g, 0, none⟩) X ∧ k ≤ cs := by
        obtain ⟨a1, c1, h1, h2, h3⟩ := HO.out.slice
        simp only [Value.slice.injEq] at h1
        obtain ⟨rfl, _, rfl⟩ := h1
        rw [HXL.out] at h2
        exact ⟨h3, h2⟩
      obtain ⟨hhs, hcs2⟩ := hhs
      have hqq := HR.out.has HQB.out
      obtain ⟨m, hm⟩ : ∃ m, m = a.length := ⟨_, rfl⟩
      have hkm : k = m + 4 := by rw [hm]; exact HN.out
      obtain ⟨D2, hD2⟩ : ∃ D, decide (M.over 0 q = 0) = D := ⟨_, rfl⟩
      have hsp := M.spoilt_iff L q m (by rw [HLN.out, hkm]) (by rw [HQL.out, hkm]) HLB.out HQB.out (by rw [HL.out, hm]; simp)
      rw [← HX.out] at hsp
      obtain ⟨E, hE⟩ : ∃ E : Int, E = if X.drop m = M.leB 4 (M.crc (X.take m)) then 0 else 11 := ⟨_, rfl⟩
      have hED : (E == 0) = D2 := by
        by_cases h : M.over 0 q = 0
        · rw [if_pos (hsp.2 h)] at hE
          rw [hE, ← hD2, decide_eq_true h]; rfl
        · rw [if_neg (fun h2 => h (hsp.1 h2))] at hE
          rw [hE, ← hD2, decide_eq_false h]; rfl
      have HE := hid hE
      have HD2 := hid hD2
      have HKM := hid hkm
      have hr5 := HT.out
      have hW := HWr.out
      have hn104' : k ≤ 104 := hn104
      clear hE hD2 hsp hm hkm
      go_wp2_with (first | ((with_reducible show wpList _ _ _ (⟨some 54, _, _, _, _, _⟩ :: _) _ _); refine wpList_load_rowg 54 rfl rfl 25 _ rfl N5 rfl _ tbl (0, 0) _ hr5 Try.underlying25 rfl (by kernel_rfl) ?_) | (go_at_call 47; refine (open_is k (some ⟨g, 0, none⟩) X cs m HXL.out E HE.out _ hhs HKM.out (by omega) hcs2).mono ?_; rintro e w2 ⟨⟨v, rfl⟩, hb2⟩; have hW := below_next hW hb2; have hqq := hqq.below hb2) | (go_at_call 54; refine (div_is k _ q HQL.out k D2 HD2.out _ hqq (by omega)).mono ?_; rintro e w3 ⟨rfl, hb3⟩; have hW := below_next hW hb3))
      go_ret
      exact ⟨rfl, hW⟩
set_option maxRecDepth 100000 in
theorem patterns_out1 (aa : Option Addr) (n ca : Nat) (ap : Option Addr) (m cp : Nat) (h : 100 < n) (w : World) :
    Calls Try.prog 14 #[.slice aa n ca, .slice ap m cp] w fun e w' => e = .returned (.bool true) ∧ Below w.heap.size w w' := by
  have t1 : decide ((100 : Int) < (n : Int)) = true := by simp; omega
  have hW := Below.refl w.heap.size w
  clear h
  go_enter Try.func14, Try.ntmps14
  go_wp2_with (first | (go_at_call 28; refine (anchor_calls _).mono ?_; rintro e w1 ⟨rfl, hb⟩; have sw1 := hb.size; have hW := below_next hW hb))
  go_ret
  exact ⟨rfl, hW⟩
set_option maxRecDepth 100000 in
theorem patterns_out2 (aa : Option Addr) (n ca : Nat) (ap : Option Addr) (m cp : Nat) (h0 : ¬ 100 < n) (h : 104 < m) (w : World) :
    Calls Try.prog 14 #[.slice aa n ca, .slice ap m cp] w fun e w' => e = .returned (.bool true) ∧ Below w.heap.size w w' := by
  have t1 : decide ((100 : Int) < (n : Int)) = false := by simp; omega
  have t2 : decide ((104 : Int) < (m : Int)) = true := by simp; omega
  have hW := Below.refl w.heap.size w
  clear h h0
  go_enter Try.func14, Try.ntmps14
  go_wp2_with (first | (go_at_call 28; refine (anchor_calls _).mono ?_; rintro e w1 ⟨rfl, hb⟩; have sw1 := hb.size; have hW := below_next hW hb))
  go_ret
  exact ⟨rfl, hW⟩
theorem patterns_frame (w : World) (aa : Option Addr) (a : List Nat) (ca : Nat) (_ma : a.length ≤ 9223372036854775807) (hA : HasB w aa a) (ap : Option Addr) (p : List Nat) (cp : Nat) (_mp : p.length ≤ 9223372036854775807) (hP : HasB w ap p) :
    Calls Try.prog 14 #[.slice aa a.length ca, .slice ap p.length cp] w fun e w' => e = .returned (.bool true) ∧ Below w.heap.size w w' := by
  by_cases h1 : 100 < a.length
  · exact patterns_out1 aa _ ca ap _ cp h1 w
  · by_cases h2 : 104 < p.length
    · exact patterns_out2 aa _ ca ap _ cp h1 h2 w
    · exact patterns_walk aa a ca ap p cp (by omega) (by omega) w hA hP
end Go.Proofs.Ytncooadaeifekaa
