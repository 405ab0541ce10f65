/- Walk of the law FrameSpoilt: it answers true for any frame and pattern. -/
import Derived.Test.YtncooadaeifekaaC19
import Derived.Test.YtncooadaeifekaaC20
import Derived.Test.YtncooadaeifekaaC21
import Derived.Test.YtncooadaeifekaaM7
namespace Go.Proofs.Ytncooadaeifekaa
open Go.RowKit Go.BigFrame
theorem div_is (n : Nat) (a : Option Addr) (l : List Nat) (hl0 : l.length = n) (cap : Nat) (D : Bool) (hD : decide (M.over 0 l = 0) = D) (w : World) (hl : HasB w a l) (hn : n ≤ 1000) :
    Calls Try.prog 54 #[.slice a n cap] w fun e w' => e = .returned (.bool D) ∧ Below w.heap.size w w' := by
  subst hD hl0; exact divides_calls a l cap w hl hn
theorem xor_back (X p : List Nat) (h : X.length = 64) (h2 : p.length = 64) : M.xorL (M.xorL X p) p = X := M.xorL_self X p (by omega)
theorem xor_is (s p X : List Nat) (hX : M.xorL s p = X) (hs : s.length = 64) (hp : p.length = 64) (bs : ∀ c ∈ s, c < 256) (bp : ∀ c ∈ p, c < 256) (w : World) :
    Calls Try.prog 73 #[.agg (sct s), .agg (sct p)] w fun e w' => e = .returned (.agg (sct X)) ∧ Below w.heap.size w w' := by
  subst hX; exact xor_calls s p hs hp bs bp w
set_option maxRecDepth 100000 in
set_option maxHeartbeats 2000000 in
theorem spoilt_11 (w : World) (f : M.Fr) (hok : f.ok) (hr : f.right = true) (p : List Nat) (hp : p.length = 64) (bp : ∀ c ∈ p, c < 256) (hE : (M.dec (M.xorL f.sec p)).2 = 11) (hD : decide (M.over 0 p = 0) = false) :
    Calls Try.prog 27 #[.agg (frm f), .agg (sct p)] w fun e w' => e = .returned (.bool true) ∧ Below w.heap.size w w' := by
  have hsl := M.Fr.sec_length f hok
  have hsb := M.Fr.sec_lt f hok
  obtain ⟨X, hX⟩ : ∃ X, X = M.xorL f.sec p := ⟨_, rfl⟩
  have hXl : X.length = 64 := by rw [hX, M.xorL_length _ _ (by omega)]; exact hsl
  have hXn : ∀ i, i < 64 → nth X i = nth f.sec i ^^^ nth p i := fun i hi => by rw [hX]; exact nth_xorL _ p (by omega) i (by omega)
  have hXb : ∀ c ∈ X, c < 256 := by rw [hX]; exact M.xorL_lt _ _ hsb bp
  have hXX : M.xorL X p = f.sec := by rw [hX]; exact M.xorL_self _ _ (by omega)
  rw [← hX] at hE
  have hgo := M.dec_ok X hXl hXb
  have HOK := hid hok
  have HR := hid hr
  have HSL := hid hsl
  have HSB := hid hsb
  have HPL := hid hp
  have HPB := hid bp
  have HXL := hid hXl
  have HXN := hid hXn
  have HXB := hid hXb
  have HXX := hid hXX
  have HE := hid hE
  have HD := hid hD
  have HGO := hid hgo
  have HQS : Hid (∀ w, (Op.equalIn 10000 44 (.agg (sct f.sec)) (.agg (sct f.sec))).run Try.prog w = .ok true w) := fun w => by rw [eq_sct 44 64 Try.underlying44 _ _ HSL.out HSL.out HSB.out HSB.out]; simp
  clear hok hr hsl hsb hp bp hX hXl hXn hXb hXX hE hD hgo
  have hW := Below.refl w.heap.size w
  go_enter Try.func27, Try.ntmps27
  go_upto_region 9 with (first | ((with_reducible show wpList _ _ _ (⟨some 2, _, _, _, _, _⟩ :: _) _ _); refine wpList_boxed 2 rfl rfl 41 _ rfl (frm f) rfl ?_; intro W2 N2 hNN2 hMN2 hr2 hb; have sW2 := hb.size; have hW := below_next hW hb) | ((with_reducible show wpList _ _ _ (⟨some 3, _, _, _, _, _⟩ :: _) _ _); refine wpList_boxed 3 rfl rfl 44 _ rfl (sct p) rfl ?_; intro W3 N3 hNN3 hMN3 hr3 hb; have sW3 := hb.size; have hW := below_next hW hb; have hr2 := below_blk hb hr2) | (go_at_call 36; refine (anchor3_calls _).mono ?_; rintro e w1 ⟨rfl, hb⟩; have sw1 := hb.size; have hW := below_next hW hb; have hr2 := below_blk hb hr2; have hr3 := below_blk hb hr3) | (go_at_call 29; refine (new_calls _).mono ?_; rintro e w2 ⟨rfl, hb⟩; have sw2 := hb.size; have hW := below_next hW hb; have hr2 := below_blk hb hr2; have hr3 := below_blk hb hr3) | ((with_reducible show wpList _ _ _ (⟨some 5, _, _, _, _, _⟩ :: _) _ _); refine wpList_local 5 rfl rfl rfl rfl 25 rfl _ rfl tbl rfl (of_decide_eq_true (by kernel_rfl)) ty25 tbl_all ?_; intro W5 N5 hNN5 hMN5 hr5 hb; have sW5 := hb.size; have hW := below_next hW hb; have hr2 := below_blk hb hr2; have hr3 := below_blk hb hr3) | ((with_reducible show wpList _ _ _ (⟨some 16, _, _, _, _, _⟩ :: _) _ _); refine wpList_load_rowg 16 rfl rfl 25 _ rfl N5 rfl _ tbl (0, 0) _ hr5 Try.underlying25 rfl (by kernel_rfl) ?_) | ((with_reducible show wpList _ _ _ (⟨some 17, _, _, _, _, _⟩ :: _) _ _); refine wpList_load_rowg 17 rfl rfl 41 _ rfl N2 rfl _ (frm f) (0, 0) _ hr2 Try.underlying41 rfl (ty41 _ HOK.out).size ?_) | (go_at_call 37; refine (encode_right f HOK.out HR.out _).mono ?_; rintro e w4 ⟨rfl, hb⟩; have sw4 := hb.size; have hW := below_next hW hb; have hr2 := below_blk hb hr2; have hr3 := below_blk hb hr3; have hr5 := below_blk hb hr5) | ((with_reducible show wpList _ _ _ (⟨some 6, _, _, _, _, _⟩ :: _) _ _); refine wpList_local 6 rfl rfl rfl rfl 44 rfl _ rfl (sct f.sec) rfl (of_decide_eq_true (by kernel_rfl)) (ty44 _ HSL.out) (sct_all _) ?_; intro W6 N6 hNN6 hMN6 hr6 hb; have sW6 := hb.size; have hW := below_next hW hb; have hr2 := below_blk hb hr2; have hr3 := below_blk hb hr3; have hr5 := below_blk hb hr5) | ((with_reducible show wpList _ _ _ (⟨some 25, _, _, _, _, _⟩ :: _) _ _); refine wpList_load_rowg 25 rfl rfl 44 _ rfl N6 rfl _ (sct f.sec) (0, 0) _ hr6 Try.underlying44 rfl (ty44 _ HSL.out).size ?_) | ((with_reducible show wpList _ _ _ (⟨some 26, _, _, _, _, _⟩ :: _) _ _); refine wpList_load_rowg 26 rfl rfl 44 _ rfl N3 rfl _ (sct p) (0, 0) _ hr3 Try.underlying44 rfl (ty44 _ HPL.out).size ?_) | (go_at_call 73; refine (xor_is f.sec p X (by rw [← HXX.out]; exact xor_back X p HXL.out HPL.out) HSL.out HPL.out HSB.out HPB.out _).mono ?_; rintro e w7 ⟨rfl, hb⟩; have sw7 := hb.size; have hW := below_next hW hb; have hr2 := below_blk hb hr2; have hr3 := below_blk hb hr3; have hr5 := below_blk hb hr5; have hr6 := below_blk hb hr6) | ((with_reducible show wpList _ _ _ (⟨some 8, _, _, _, _, _⟩ :: _) _ _); refine wpList_local 8 rfl rfl rfl rfl 44 rfl _ rfl (sct X) rfl (of_decide_eq_true (by kernel_rfl)) (ty44 _ HXL.out) (sct_all _) ?_; intro W8 N8 hNN8 hMN8 hr8 hb; have sW8 := hb.size; have hW := below_next hW hb; have hr2 := below_blk hb hr2; have hr3 := below_blk hb hr3; have hr5 := below_blk hb hr5; have hr6 := below_blk hb hr6) | ((with_reducible show wpList _ _ _ (⟨some 29, _, _, _, _, _⟩ :: _) _ _); refine wpList_load_rowg 29 rfl rfl 25 _ rfl N5 rfl _ tbl (0, 0) _ hr5 Try.underlying25 rfl (by kernel_rfl) ?_) | ((with_reducible show wpList _ _ _ (⟨some 30, _, _, _, _, _⟩ :: _) _ _); refine wpList_load_rowg 30 rfl rfl 44 _ rfl N8 rfl _ (sct X) (0, 0) _ hr8 Try.underlying44 rfl (ty44 _ HXL.out).size ?_) | (go_at_call 40; refine (decode_calls X HXL.out HXB.out _).mono ?_; rintro e w9 ⟨rfl, hb⟩; rw [HE.out]; have sw9 := hb.size; have hW := below_next hW hb; have hr3 := below_blk hb hr3; have hr6 := below_blk hb hr6; have hr8 := below_blk hb hr8) | ((with_reducible show wpList _ _ _ (⟨some 9, _, _, _, _, _⟩ :: _) _ _); refine wpList_local 9 rfl rfl rfl rfl 41 rfl _ rfl (frm (M.dec X).1) rfl (of_decide_eq_true (by kernel_rfl)) (ty41 _ HGO.out) (frm_all _) ?_; intro W9 N9 hNN9 hMN9 hr9 hb; have sW9 := hb.size; have hW := below_next hW hb; have hr3 := below_blk hb hr3; have hr6 := below_blk hb hr6; have hr8 := below_blk hb hr8))
  clear hb
  go_wp2
  go_loopw [34] (fun i wr => ∃ k : Nat, k ≤ 64 ∧ i = .int .i64 k ∧ Hid (wr.heap[N8]? = some (.cells (sct X) 44 (0, 0)) ∧ wr.heap[N6]? = some (.cells (sct f.sec) 44 (0, 0)) ∧ wr.heap[N3]? = some (.cells (sct p) 44 (0, 0)) ∧ Below w.heap.size w wr)) (fun i _ => 64 - (intOf i).toNat)
  case atStart => exact ⟨0, Nat.zero_le _, rfl, hr8, hr6, hr3, hW⟩
  case round =>
    clear hr2 hr3 hr5 hr6 hr8 hr9 hW
    obtain ⟨k, hk, rfl, HH⟩ := hrel
    by_cases hlt : k < 64
    · have c1 : wr.cell? ⟨N8, k, none⟩ = some (.int .u8 (nth X k)) := by rw [cell_of_row _ _ _ _ _ _ HH.out.1, sct_at _ _ (by rw [HXL.out]; exact hlt)]
      have c2 : wr.cell? ⟨N6, k, none⟩ = some (.int .u8 (nth f.sec k)) := by rw [cell_of_row _ _ _ _ _ _ HH.out.2.1, sct_at _ _ (by rw [HSL.out]; exact hlt)]
      have c3 : wr.cell? ⟨N3, k, none⟩ = some (.int .u8 (nth p k)) := by rw [cell_of_row _ _ _ _ _ _ HH.out.2.2.1, sct_at _ _ (by rw [HPL.out]; exact hlt)]
      have x1 : bits .xor .u8 (nth f.sec k : Int) (nth p k : Int) = ((nth f.sec k ^^^ nth p k : Nat) : Int) := xor8 _ _ (nth_lt _ HSB.out k) (nth_lt p HPB.out k)
      rw [← HXN.out k hlt] at x1
      have bl := nth_lt f.sec HSB.out k
      have bq := nth_lt p HPB.out k
      have bx := nth_lt X HXB.out k
      generalize nth X k = xk at *
      generalize nth f.sec k = fk at *
      generalize nth p k = pk at *
      go_wp2
      go_quiet (fail)
      have HH2 : Hid ((wr.drewN nq).heap[N8]? = some (.cells (sct X) 44 (0, 0)) ∧ (wr.drewN nq).heap[N6]? = some (.cells (sct f.sec) 44 (0, 0)) ∧ (wr.drewN nq).heap[N3]? = some (.cells (sct p) 44 (0, 0)) ∧ Below w.heap.size w (wr.drewN nq)) :=
        ⟨below_blk (below_drewN (Below.refl _ _) nq) HH.out.1, below_blk (below_drewN (Below.refl _ _) nq) HH.out.2.1, below_blk (below_drewN (Below.refl _ _) nq) HH.out.2.2.1, below_drewN HH.out.2.2.2 nq⟩
      generalize wr.drewN nq = W9 at *
      clear c1 c2 c3
      go_wp2
      go_roundw
      case rel => exact ⟨k + 1, by omega, by go_num, HH2⟩
      case measure => simp [intOf]; omega
    · obtain ⟨hr8, hr6, hr3, hW⟩ := HH.out
      go_upto_region 15 with (fail)
      refine wp_region_frame (spec := [none, none, none, none, none, none, none, none, none, none, none, none, none, none]) (vals := [.agg (sct X), .agg (sct p), .agg (sct f.sec), .agg (sct f.sec), .bool true, .bool true, .int .i64 11, .bool true, .slice (some ⟨N3, 0, none⟩) 64 64, .bool false, .bool true, .bool true, .bool true, .bool true]) (by kernel_rfl) (by kernel_rfl) (by kernel_rfl) (by kernel_rfl) ?hst (fun hF => ?hobl) ?hQ
      case hst => exact trivial
      case hobl =>
        refine ⟨?_, ?_, ?_, ?_, ?_, ?_, ?_, ?_, ?_, ?_, ?_, ?_, ?_, ?_, trivial⟩
        · refine fun ho => obl_det hF (by kernel_rfl) (by kernel_rfl) ho (by kernel_rfl) (fun wx hbx => ?_); rw [if_pos (by kernel_rfl)]; with_reducible exact grows_row 44 (.tmp 8) (by kernel_rfl) N8 (by kernel_rfl) 44 (sct X) (0, 0) _ (below_blk hbx hr8) Try.underlying44 (by kernel_rfl) (ty44 _ HXL.out).size (by kernel_rfl) (by kernel_rfl)
        · refine fun ho => obl_det hF (by kernel_rfl) (by kernel_rfl) ho (by kernel_rfl) (fun wx hbx => ?_); rw [if_pos (by kernel_rfl)]; with_reducible exact grows_row 44 (.tmp 3) (by kernel_rfl) N3 (by kernel_rfl) 44 (sct p) (0, 0) _ (below_blk hbx hr3) Try.underlying44 (by kernel_rfl) (ty44 _ HPL.out).size (by kernel_rfl) (by kernel_rfl)
        · refine fun ho => obl_det hF (by kernel_rfl) (by kernel_rfl) ho (by kernel_rfl) (fun wx hbx => ?_); rw [if_pos (by kernel_rfl)]; have hcc := xor_calls X p HXL.out HPL.out HXB.out HPB.out wx; rw [HXX.out] at hcc; with_reducible exact grows_call 73 #[.agg (sct X), .agg (sct p)] (.agg (sct f.sec)) (by kernel_rfl) hcc (by kernel_rfl) (by kernel_rfl)
        · refine fun ho => obl_det hF (by kernel_rfl) (by kernel_rfl) ho (by kernel_rfl) (fun wx hbx => ?_); rw [if_pos (by kernel_rfl)]; with_reducible exact grows_row 44 (.tmp 6) (by kernel_rfl) N6 (by kernel_rfl) 44 (sct f.sec) (0, 0) _ (below_blk hbx hr6) Try.underlying44 (by kernel_rfl) (ty44 _ HSL.out).size (by kernel_rfl) (by kernel_rfl)
        · refine fun ho => obl_det hF (by kernel_rfl) (by kernel_rfl) ho (by kernel_rfl) (fun wx hbx => ?_); rw [if_pos (by kernel_rfl)]; with_reducible exact grows_det (.bool true) (op_eql 44 44 (.tmp 51) (.tmp 52) (by kernel_rfl) (sct f.sec) (sct f.sec) (by kernel_rfl) (by kernel_rfl) grd44 _ HQS.out) (by kernel_rfl) (by kernel_rfl)
        · refine fun ho => obl_det hF (by kernel_rfl) (by kernel_rfl) ho (by kernel_rfl) (fun wx hbx => ?_); rw [if_pos (by kernel_rfl)]; with_reducible exact grows_det (.bool true) (by kernel_rfl) (by kernel_rfl) (by kernel_rfl)
        · refine fun ho => obl_det hF (by kernel_rfl) (by kernel_rfl) ho (by kernel_rfl) (fun wx hbx => ?_); rw [if_pos (by kernel_rfl)]; with_reducible exact grows_det (.int .i64 11) (by kernel_rfl) (by kernel_rfl) (by kernel_rfl)
        · refine fun ho => obl_det hF (by kernel_rfl) (by kernel_rfl) ho (by kernel_rfl) (fun wx hbx => ?_); rw [if_pos (by kernel_rfl)]; with_reducible exact grows_det (.bool true) (by kernel_rfl) (by kernel_rfl) (by kernel_rfl)
        · refine fun ho => obl_det hF (by kernel_rfl) (by kernel_rfl) ho (by kernel_rfl) (fun wx hbx => ?_); rw [if_pos (by kernel_rfl)]; with_reducible exact grows_det (.slice (some ⟨N3, 0, none⟩) 64 64) (by kernel_rfl) (by kernel_rfl) (by kernel_rfl)
        · refine fun ho => obl_det hF (by kernel_rfl) (by kernel_rfl) ho (by kernel_rfl) (fun wx hbx => ?_); rw [if_pos (by kernel_rfl)]; with_reducible exact grows_call 54 #[.slice (some ⟨N3, 0, none⟩) 64 64] (.bool false) (by kernel_rfl) (div_is 64 _ p HPL.out 64 _ HD.out wx ((hasB_sct HPB.out hr3).below hbx) (by omega)) (by kernel_rfl) (by kernel_rfl)
        · refine fun ho => obl_det hF (by kernel_rfl) (by kernel_rfl) ho (by kernel_rfl) (fun wx hbx => ?_); rw [if_pos (by kernel_rfl)]; with_reducible exact grows_det (.bool true) (by kernel_rfl) (by kernel_rfl) (by kernel_rfl)
        · refine fun ho => obl_det hF (by kernel_rfl) (by kernel_rfl) ho (by kernel_rfl) (fun wx hbx => ?_); rw [if_pos (by kernel_rfl)]; with_reducible exact grows_det (.bool true) (by kernel_rfl) (by kernel_rfl) (by kernel_rfl)
        · refine fun ho => obl_det hF (by kernel_rfl) (by kernel_rfl) ho (by kernel_rfl) (fun wx hbx => ?_); rw [if_pos (by kernel_rfl)]; with_reducible exact grows_det (.bool true) (by kernel_rfl) (by kernel_rfl) (by kernel_rfl)
        · refine fun ho => obl_det hF (by kernel_rfl) (by kernel_rfl) ho (by kernel_rfl) (fun wx hbx => ?_); rw [if_pos (by kernel_rfl)]; with_reducible exact grows_det (.bool true) (by kernel_rfl) (by kernel_rfl) (by kernel_rfl)
      case hQ =>
        intro wy hby
        simp only [each]
        generalize hF : putAll _ _ _ = F
        have hd : F.defers = [] := by rw [← hF]; kernel_rfl
        have h8 : F.tmps.getD 4 undef = .bool true := by rw [← hF]; kernel_rfl
        clear hF
        go_step
        go_step
        go_step
        exact ret_of 4 rfl hd _ h8 ⟨rfl, below_next hW hby⟩
set_option maxRecDepth 100000 in
set_option maxHeartbeats 2000000 in
theorem spoilt_0 (w : World) (f : M.Fr) (hok : f.ok) (hr : f.right = true) (p : List Nat) (hp : p.length = 64) (bp : ∀ c ∈ p, c < 256) (hE : (M.dec (M.xorL f.sec p)).2 = 0) (hD : decide (M.over 0 p = 0) = true) :
    Calls Try.prog 27 #[.agg (frm f), .agg (sct p)] w fun e w' => e = .returned (.bool true) ∧ Below w.heap.size w w' := by
  have hsl := M.Fr.sec_length f hok
  have hsb := M.Fr.sec_lt f hok
  obtain ⟨X, hX⟩ : ∃ X, X = M.xorL f.sec p := ⟨_, rfl⟩
  have hXl : X.length = 64 := by rw [hX, M.xorL_length _ _ (by omega)]; exact hsl
  have hXn : ∀ i, i < 64 → nth X i = nth f.sec i ^^^ nth p i := fun i hi => by rw [hX]; exact nth_xorL _ p (by omega) i (by omega)
  have hXb : ∀ c ∈ X, c < 256 := by rw [hX]; exact M.xorL_lt _ _ hsb bp
  have hXX : M.xorL X p = f.sec := by rw [hX]; exact M.xorL_self _ _ (by omega)
  rw [← hX] at hE
  have hgo := M.dec_ok X hXl hXb
  have HOK := hid hok
  have HR := hid hr
  have HSL := hid hsl
  have HSB := hid hsb
  have HPL := hid hp
  have HPB := hid bp
  have HXL := hid hXl
  have HXN := hid hXn
  have HXB := hid hXb
  have HXX := hid hXX
  have HE := hid hE
  have HD := hid hD
  have HGO := hid hgo
  have HQS : Hid (∀ w, (Op.equalIn 10000 44 (.agg (sct f.sec)) (.agg (sct f.sec))).run Try.prog w = .ok true w) := fun w => by rw [eq_sct 44 64 Try.underlying44 _ _ HSL.out HSL.out HSB.out HSB.out]; simp
  clear hok hr hsl hsb hp bp hX hXl hXn hXb hXX hE hD hgo
  have hW := Below.refl w.heap.size w
  go_enter Try.func27, Try.ntmps27
  go_upto_region 9 with (first | ((with_reducible show wpList _ _ _ (⟨some 2, _, _, _, _, _⟩ :: _) _ _); refine wpList_boxed 2 rfl rfl 41 _ rfl (frm f) rfl ?_; intro W2 N2 hNN2 hMN2 hr2 hb; have sW2 := hb.size; have hW := below_next hW hb) | ((with_reducible show wpList _ _ _ (⟨some 3, _, _, _, _, _⟩ :: _) _ _); refine wpList_boxed 3 rfl rfl 44 _ rfl (sct p) rfl ?_; intro W3 N3 hNN3 hMN3 hr3 hb; have sW3 := hb.size; have hW := below_next hW hb; have hr2 := below_blk hb hr2) | (go_at_call 36; refine (anchor3_calls _).mono ?_; rintro e w1 ⟨rfl, hb⟩; have sw1 := hb.size; have hW := below_next hW hb; have hr2 := below_blk hb hr2; have hr3 := below_blk hb hr3) | (go_at_call 29; refine (new_calls _).mono ?_; rintro e w2 ⟨rfl, hb⟩; have sw2 := hb.size; have hW := below_next hW hb; have hr2 := below_blk hb hr2; have hr3 := below_blk hb hr3) | ((with_reducible show wpList _ _ _ (⟨some 5, _, _, _, _, _⟩ :: _) _ _); refine wpList_local 5 rfl rfl rfl rfl 25 rfl _ rfl tbl rfl (of_decide_eq_true (by kernel_rfl)) ty25 tbl_all ?_; intro W5 N5 hNN5 hMN5 hr5 hb; have sW5 := hb.size; have hW := below_next hW hb; have hr2 := below_blk hb hr2; have hr3 := below_blk hb hr3) | ((with_reducible show wpList _ _ _ (⟨some 16, _, _, _, _, _⟩ :: _) _ _); refine wpList_load_rowg 16 rfl rfl 25 _ rfl N5 rfl _ tbl (0, 0) _ hr5 Try.underlying25 rfl (by kernel_rfl) ?_) | ((with_reducible show wpList _ _ _ (⟨some 17, _, _, _, _, _⟩ :: _) _ _); refine wpList_load_rowg 17 rfl rfl 41 _ rfl N2 rfl _ (frm f) (0, 0) _ hr2 Try.underlying41 rfl (ty41 _ HOK.out).size ?_) | (go_at_call 37; refine (encode_right f HOK.out HR.out _).mono ?_; rintro e w4 ⟨rfl, hb⟩; have sw4 := hb.size; have hW := below_next hW hb; have hr2 := below_blk hb hr2; have hr3 := below_blk hb hr3; have hr5 := below_blk hb hr5) | ((with_reducible show wpList _ _ _ (⟨some 6, _, _, _, _, _⟩ :: _) _ _); refine wpList_local 6 rfl rfl rfl rfl 44 rfl _ rfl (sct f.sec) rfl (of_decide_eq_true (by kernel_rfl)) (ty44 _ HSL.out) (sct_all _) ?_; intro W6 N6 hNN6 hMN6 hr6 hb; have sW6 := hb.size; have hW := below_next hW hb; have hr2 := below_blk hb hr2; have hr3 := below_blk hb hr3; have hr5 := below_blk hb hr5) | ((with_reducible show wpList _ _ _ (⟨some 25, _, _, _, _, _⟩ :: _) _ _); refine wpList_load_rowg 25 rfl rfl 44 _ rfl N6 rfl _ (sct f.sec) (0, 0) _ hr6 Try.underlying44 rfl (ty44 _ HSL.out).size ?_) | ((with_reducible show wpList _ _ _ (⟨some 26, _, _, _, _, _⟩ :: _) _ _); refine wpList_load_rowg 26 rfl rfl 44 _ rfl N3 rfl _ (sct p) (0, 0) _ hr3 Try.underlying44 rfl (ty44 _ HPL.out).size ?_) | (go_at_call 73; refine (xor_is f.sec p X (by rw [← HXX.out]; exact xor_back X p HXL.out HPL.out) HSL.out HPL.out HSB.out HPB.out _).mono ?_; rintro e w7 ⟨rfl, hb⟩; have sw7 := hb.size; have hW := below_next hW hb; have hr2 := below_blk hb hr2; have hr3 := below_blk hb hr3; have hr5 := below_blk hb hr5; have hr6 := below_blk hb hr6) | ((with_reducible show wpList _ _ _ (⟨some 8, _, _, _, _, _⟩ :: _) _ _); refine wpList_local 8 rfl rfl rfl rfl 44 rfl _ rfl (sct X) rfl (of_decide_eq_true (by kernel_rfl)) (ty44 _ HXL.out) (sct_all _) ?_; intro W8 N8 hNN8 hMN8 hr8 hb; have sW8 := hb.size; have hW := below_next hW hb; have hr2 := below_blk hb hr2; have hr3 := below_blk hb hr3; have hr5 := below_blk hb hr5; have hr6 := below_blk hb hr6) | ((with_reducible show wpList _ _ _ (⟨some 29, _, _, _, _, _⟩ :: _) _ _); refine wpList_load_rowg 29 rfl rfl 25 _ rfl N5 rfl _ tbl (0, 0) _ hr5 Try.underlying25 rfl (by kernel_rfl) ?_) | ((with_reducible show wpList _ _ _ (⟨some 30, _, _, _, _, _⟩ :: _) _ _); refine wpList_load_rowg 30 rfl rfl 44 _ rfl N8 rfl _ (sct X) (0, 0) _ hr8 Try.underlying44 rfl (ty44 _ HXL.out).size ?_) | (go_at_call 40; refine (decode_calls X HXL.out HXB.out _).mono ?_; rintro e w9 ⟨rfl, hb⟩; rw [HE.out]; have sw9 := hb.size; have hW := below_next hW hb; have hr3 := below_blk hb hr3; have hr6 := below_blk hb hr6; have hr8 := below_blk hb hr8) | ((with_reducible show wpList _ _ _ (⟨some 9, _, _, _, _, _⟩ :: _) _ _); refine wpList_local 9 rfl rfl rfl rfl 41 rfl _ rfl (frm (M.dec X).1) rfl (of_decide_eq_true (by kernel_rfl)) (ty41 _ HGO.out) (frm_all _) ?_; intro W9 N9 hNN9 hMN9 hr9 hb; have sW9 := hb.size; have hW := below_next hW hb; have hr3 := below_blk hb hr3; have hr6 := below_blk hb hr6; have hr8 := below_blk hb hr8))
  clear hb
  go_wp2
  go_loopw [34] (fun i wr => ∃ k : Nat, k ≤ 64 ∧ i = .int .i64 k ∧ Hid (wr.heap[N8]? = some (.cells (sct X) 44 (0, 0)) ∧ wr.heap[N6]? = some (.cells (sct f.sec) 44 (0, 0)) ∧ wr.heap[N3]? = some (.cells (sct p) 44 (0, 0)) ∧ Below w.heap.size w wr)) (fun i _ => 64 - (intOf i).toNat)
  case atStart => exact ⟨0, Nat.zero_le _, rfl, hr8, hr6, hr3, hW⟩
  case round =>
    clear hr2 hr3 hr5 hr6 hr8 hr9 hW
    obtain ⟨k, hk, rfl, HH⟩ := hrel
    by_cases hlt : k < 64
    · have c1 : wr.cell? ⟨N8, k, none⟩ = some (.int .u8 (nth X k)) := by rw [cell_of_row _ _ _ _ _ _ HH.out.1, sct_at _ _ (by rw [HXL.out]; exact hlt)]
      have c2 : wr.cell? ⟨N6, k, none⟩ = some (.int .u8 (nth f.sec k)) := by rw [cell_of_row _ _ _ _ _ _ HH.out.2.1, sct_at _ _ (by rw [HSL.out]; exact hlt)]
      have c3 : wr.cell? ⟨N3, k, none⟩ = some (.int .u8 (nth p k)) := by rw [cell_of_row _ _ _ _ _ _ HH.out.2.2.1, sct_at _ _ (by rw [HPL.out]; exact hlt)]
      have x1 : bits .xor .u8 (nth f.sec k : Int) (nth p k : Int) = ((nth f.sec k ^^^ nth p k : Nat) : Int) := xor8 _ _ (nth_lt _ HSB.out k) (nth_lt p HPB.out k)
      rw [← HXN.out k hlt] at x1
      have bl := nth_lt f.sec HSB.out k
      have bq := nth_lt p HPB.out k
      have bx := nth_lt X HXB.out k
      generalize nth X k = xk at *
      generalize nth f.sec k = fk at *
      generalize nth p k = pk at *
      go_wp2
      go_quiet (fail)
      have HH2 : Hid ((wr.drewN nq).heap[N8]? = some (.cells (sct X) 44 (0, 0)) ∧ (wr.drewN nq).heap[N6]? = some (.cells (sct f.sec) 44 (0, 0)) ∧ (wr.drewN nq).heap[N3]? = some (.cells (sct p) 44 (0, 0)) ∧ Below w.heap.size w (wr.drewN nq)) :=
        ⟨below_blk (below_drewN (Below.refl _ _) nq) HH.out.1, below_blk (below_drewN (Below.refl _ _) nq) HH.out.2.1, below_blk (below_drewN (Below.refl _ _) nq) HH.out.2.2.1, below_drewN HH.out.2.2.2 nq⟩
      generalize wr.drewN nq = W9 at *
      clear c1 c2 c3
      go_wp2
      go_roundw
      case rel => exact ⟨k + 1, by omega, by go_num, HH2⟩
      case measure => simp [intOf]; omega
    · obtain ⟨hr8, hr6, hr3, hW⟩ := HH.out
      go_upto_region 15 with (fail)
      refine wp_region_frame (spec := [none, none, none, none, none, none, none, none, none, none, none, none, none, none]) (vals := [.agg (sct X), .agg (sct p), .agg (sct f.sec), .agg (sct f.sec), .bool true, .bool true, .int .i64 0, .bool false, .slice (some ⟨N3, 0, none⟩) 64 64, .bool true, .bool false, .bool true, .bool true, .bool true]) (by kernel_rfl) (by kernel_rfl) (by kernel_rfl) (by kernel_rfl) ?hst (fun hF => ?hobl) ?hQ
      case hst => exact trivial
      case hobl =>
        refine ⟨?_, ?_, ?_, ?_, ?_, ?_, ?_, ?_, ?_, ?_, ?_, ?_, ?_, ?_, trivial⟩
        · refine fun ho => obl_det hF (by kernel_rfl) (by kernel_rfl) ho (by kernel_rfl) (fun wx hbx => ?_); rw [if_pos (by kernel_rfl)]; with_reducible exact grows_row 44 (.tmp 8) (by kernel_rfl) N8 (by kernel_rfl) 44 (sct X) (0, 0) _ (below_blk hbx hr8) Try.underlying44 (by kernel_rfl) (ty44 _ HXL.out).size (by kernel_rfl) (by kernel_rfl)
        · refine fun ho => obl_det hF (by kernel_rfl) (by kernel_rfl) ho (by kernel_rfl) (fun wx hbx => ?_); rw [if_pos (by kernel_rfl)]; with_reducible exact grows_row 44 (.tmp 3) (by kernel_rfl) N3 (by kernel_rfl) 44 (sct p) (0, 0) _ (below_blk hbx hr3) Try.underlying44 (by kernel_rfl) (ty44 _ HPL.out).size (by kernel_rfl) (by kernel_rfl)
        · refine fun ho => obl_det hF (by kernel_rfl) (by kernel_rfl) ho (by kernel_rfl) (fun wx hbx => ?_); rw [if_pos (by kernel_rfl)]; have hcc := xor_calls X p HXL.out HPL.out HXB.out HPB.out wx; rw [HXX.out] at hcc; with_reducible exact grows_call 73 #[.agg (sct X), .agg (sct p)] (.agg (sct f.sec)) (by kernel_rfl) hcc (by kernel_rfl) (by kernel_rfl)
        · refine fun ho => obl_det hF (by kernel_rfl) (by kernel_rfl) ho (by kernel_rfl) (fun wx hbx => ?_); rw [if_pos (by kernel_rfl)]; with_reducible exact grows_row 44 (.tmp 6) (by kernel_rfl) N6 (by kernel_rfl) 44 (sct f.sec) (0, 0) _ (below_blk hbx hr6) Try.underlying44 (by kernel_rfl) (ty44 _ HSL.out).size (by kernel_rfl) (by kernel_rfl)
        · refine fun ho => obl_det hF (by kernel_rfl) (by kernel_rfl) ho (by kernel_rfl) (fun wx hbx => ?_); rw [if_pos (by kernel_rfl)]; with_reducible exact grows_det (.bool true) (op_eql 44 44 (.tmp 51) (.tmp 52) (by kernel_rfl) (sct f.sec) (sct f.sec) (by kernel_rfl) (by kernel_rfl) grd44 _ HQS.out) (by kernel_rfl) (by kernel_rfl)
        · refine fun ho => obl_det hF (by kernel_rfl) (by kernel_rfl) ho (by kernel_rfl) (fun wx hbx => ?_); rw [if_pos (by kernel_rfl)]; with_reducible exact grows_det (.bool true) (by kernel_rfl) (by kernel_rfl) (by kernel_rfl)
        · refine fun ho => obl_det hF (by kernel_rfl) (by kernel_rfl) ho (by kernel_rfl) (fun wx hbx => ?_); rw [if_pos (by kernel_rfl)]; with_reducible exact grows_det (.int .i64 0) (by kernel_rfl) (by kernel_rfl) (by kernel_rfl)
        · refine fun ho => obl_det hF (by kernel_rfl) (by kernel_rfl) ho (by kernel_rfl) (fun wx hbx => ?_); rw [if_pos (by kernel_rfl)]; with_reducible exact grows_det (.bool false) (by kernel_rfl) (by kernel_rfl) (by kernel_rfl)
        · refine fun ho => obl_det hF (by kernel_rfl) (by kernel_rfl) ho (by kernel_rfl) (fun wx hbx => ?_); rw [if_pos (by kernel_rfl)]; with_reducible exact grows_det (.slice (some ⟨N3, 0, none⟩) 64 64) (by kernel_rfl) (by kernel_rfl) (by kernel_rfl)
        · refine fun ho => obl_det hF (by kernel_rfl) (by kernel_rfl) ho (by kernel_rfl) (fun wx hbx => ?_); rw [if_pos (by kernel_rfl)]; with_reducible exact grows_call 54 #[.slice (some ⟨N3, 0, none⟩) 64 64] (.bool true) (by kernel_rfl) (div_is 64 _ p HPL.out 64 _ HD.out wx ((hasB_sct HPB.out hr3).below hbx) (by omega)) (by kernel_rfl) (by kernel_rfl)
        · refine fun ho => obl_det hF (by kernel_rfl) (by kernel_rfl) ho (by kernel_rfl) (fun wx hbx => ?_); rw [if_pos (by kernel_rfl)]; with_reducible exact grows_det (.bool false) (by kernel_rfl) (by kernel_rfl) (by kernel_rfl)
        · refine fun ho => obl_det hF (by kernel_rfl) (by kernel_rfl) ho (by kernel_rfl) (fun wx hbx => ?_); rw [if_pos (by kernel_rfl)]; with_reducible exact grows_det (.bool true) (by kernel_rfl) (by kernel_rfl) (by kernel_rfl)
        · refine fun ho => obl_det hF (by kernel_rfl) (by kernel_rfl) ho (by kernel_rfl) (fun wx hbx => ?_); rw [if_pos (by kernel_rfl)]; with_reducible exact grows_det (.bool true) (by kernel_rfl) (by kernel_rfl) (by kernel_rfl)
        · refine fun ho => obl_det hF (by kernel_rfl) (by kernel_rfl) ho (by kernel_rfl) (fun wx hbx => ?_); rw [if_pos (by kernel_rfl)]; with_reducible exact grows_det (.bool true) (by kernel_rfl) (by kernel_rfl) (by kernel_rfl)
      case hQ =>
        intro wy hby
        simp only [each]
        generalize hF : putAll _ _ _ = F
        have hd : F.defers = [] := by rw [← hF]; kernel_rfl
        have h8 : F.tmps.getD 4 undef = .bool true := by rw [← hF]; kernel_rfl
        clear hF
        go_step
        go_step
        go_step
        exact ret_of 4 rfl hd _ h8 ⟨rfl, below_next hW hby⟩
set_option maxRecDepth 100000 in
set_option maxHeartbeats 2000000 in
theorem spoilt_10 (w : World) (f : M.Fr) (hok : f.ok) (hr : f.right = true) (p : List Nat) (hp : p.length = 64) (bp : ∀ c ∈ p, c < 256) (hE : (M.dec (M.xorL f.sec p)).2 = 10) (hD : decide (M.over 0 p = 0) = true) :
    Calls Try.prog 27 #[.agg (frm f), .agg (sct p)] w fun e w' => e = .returned (.bool true) ∧ Below w.heap.size w w' := by
  have hsl := M.Fr.sec_length f hok
  have hsb := M.Fr.sec_lt f hok
  obtain ⟨X, hX⟩ : ∃ X, X = M.xorL f.sec p := ⟨_, rfl⟩
  have hXl : X.length = 64 := by rw [hX, M.xorL_length _ _ (by omega)]; exact hsl
  have hXn : ∀ i, i < 64 → nth X i = nth f.sec i ^^^ nth p i := fun i hi => by rw [hX]; exact nth_xorL _ p (by omega) i (by omega)
  have hXb : ∀ c ∈ X, c < 256 := by rw [hX]; exact M.xorL_lt _ _ hsb bp
  have hXX : M.xorL X p = f.sec := by rw [hX]; exact M.xorL_self _ _ (by omega)
  rw [← hX] at hE
  have hgo := M.dec_ok X hXl hXb
  have HOK := hid hok
  have HR := hid hr
  have HSL := hid hsl
  have HSB := hid hsb
  have HPL := hid hp
  have HPB := hid bp
  have HXL := hid hXl
  have HXN := hid hXn
  have HXB := hid hXb
  have HXX := hid hXX
  have HE := hid hE
  have HD := hid hD
  have HGO := hid hgo
  have HQS : Hid (∀ w, (Op.equalIn 10000 44 (.agg (sct f.sec)) (.agg (sct f.sec))).run Try.prog w = .ok true w) := fun w => by rw [eq_sct 44 64 Try.underlying44 _ _ HSL.out HSL.out HSB.out HSB.out]; simp
  clear hok hr hsl hsb hp bp hX hXl hXn hXb hXX hE hD hgo
  have hW := Below.refl w.heap.size w
  go_enter Try.func27, Try.ntmps27
  go_upto_region 9 with (first | ((with_reducible show wpList _ _ _ (⟨some 2, _, _, _, _, _⟩ :: _) _ _); refine wpList_boxed 2 rfl rfl 41 _ rfl (frm f) rfl ?_; intro W2 N2 hNN2 hMN2 hr2 hb; have sW2 := hb.size; have hW := below_next hW hb) | ((with_reducible show wpList _ _ _ (⟨some 3, _, _, _, _, _⟩ :: _) _ _); refine wpList_boxed 3 rfl rfl 44 _ rfl (sct p) rfl ?_; intro W3 N3 hNN3 hMN3 hr3 hb; have sW3 := hb.size; have hW := below_next hW hb; have hr2 := below_blk hb hr2) | (go_at_call 36; refine (anchor3_calls _).mono ?_; rintro e w1 ⟨rfl, hb⟩; have sw1 := hb.size; have hW := below_next hW hb; have hr2 := below_blk hb hr2; have hr3 := below_blk hb hr3) | (go_at_call 29; refine (new_calls _).mono ?_; rintro e w2 ⟨rfl, hb⟩; have sw2 := hb.size; have hW := below_next hW hb; have hr2 := below_blk hb hr2; have hr3 := below_blk hb hr3) | ((with_reducible show wpList _ _ _ (⟨some 5, _, _, _, _, _⟩ :: _) _ _); refine wpList_local 5 rfl rfl rfl rfl 25 rfl _ rfl tbl rfl (of_decide_eq_true (by kernel_rfl)) ty25 tbl_all ?_; intro W5 N5 hNN5 hMN5 hr5 hb; have sW5 := hb.size; have hW := below_next hW hb; have hr2 := below_blk hb hr2; have hr3 := below_blk hb hr3) | ((with_reducible show wpList _ _ _ (⟨some 16, _, _, _, _, _⟩ :: _) _ _); refine wpList_load_rowg 16 rfl rfl 25 _ rfl N5 rfl _ tbl (0, 0) _ hr5 Try.underlying25 rfl (by kernel_rfl) ?_) | ((with_reducible show wpList _ _ _ (⟨some 17, _, _, _, _, _⟩ :: _) _ _); refine wpList_load_rowg 17 rfl rfl 41 _ rfl N2 rfl _ (frm f) (0, 0) _ hr2 Try.underlying41 rfl (ty41 _ HOK.out).size ?_) | (go_at_call 37; refine (encode_right f HOK.out HR.out _).mono ?_; rintro e w4 ⟨rfl, hb⟩; have sw4 := hb.size; have hW := below_next hW hb; have hr2 := below_blk hb hr2; have hr3 := below_blk hb hr3; have hr5 := below_blk hb hr5) | ((with_reducible show wpList _ _ _ (⟨some 6, _, _, _, _, _⟩ :: _) _ _); refine wpList_local 6 rfl rfl rfl rfl 44 rfl _ rfl (sct f.sec) rfl (of_decide_eq_true (by kernel_rfl)) (ty44 _ HSL.out) (sct_all _) ?_; intro W6 N6 hNN6 hMN6 hr6 hb; have sW6 := hb.size; have hW := below_next hW hb; have hr2 := below_blk hb hr2; have hr3 := below_blk hb hr3; have hr5 := below_blk hb hr5) | ((with_reducible show wpList _ _ _ (⟨some 25, _, _, _, _, _⟩ :: _) _ _); refine wpList_load_rowg 25 rfl rfl 44 _ rfl N6 rfl _ (sct f.sec) (0, 0) _ hr6 Try.underlying44 rfl (ty44 _ HSL.out).size ?_) | ((with_reducible show wpList _ _ _ (⟨some 26, _, _, _, _, _⟩ :: _) _ _); refine wpList_load_rowg 26 rfl rfl 44 _ rfl N3 rfl _ (sct p) (0, 0) _ hr3 Try.underlying44 rfl (ty44 _ HPL.out).size ?_) | (go_at_call 73; refine (xor_is f.sec p X (by rw [← HXX.out]; exact xor_back X p HXL.out HPL.out) HSL.out HPL.out HSB.out HPB.out _).mono ?_; rintro e w7 ⟨rfl, hb⟩; have sw7 := hb.size; have hW := below_next hW hb; have hr2 := below_blk hb hr2; have hr3 := below_blk hb hr3; have hr5 := below_blk hb hr5; have hr6 := below_blk hb hr6) | ((with_reducible show wpList _ _ _ (⟨some 8, _, _, _, _, _⟩ :: _) _ _); refine wpList_local 8 rfl rfl rfl rfl 44 rfl _ rfl (sct X) rfl (of_decide_eq_true (by kernel_rfl)) (ty44 _ HXL.out) (sct_all _) ?_; intro W8 N8 hNN8 hMN8 hr8 hb; have sW8 := hb.size; have hW := below_next hW hb; have hr2 := below_blk hb hr2; have hr3 := below_blk hb hr3; have hr5 := below_blk hb hr5; have hr6 := below_blk hb hr6) | ((with_reducible show wpList _ _ _ (⟨some 29, _, _, _, _, _⟩ :: _) _ _); refine wpList_load_rowg 29 rfl rfl 25 _ rfl N5 rfl _ tbl (0, 0) _ hr5 Try.underlying25 rfl (by kernel_rfl) ?_) | ((with_reducible show wpList _ _ _ (⟨some 30, _, _, _, _, _⟩ :: _) _ _); refine wpList_load_rowg 30 rfl rfl 44 _ rfl N8 rfl _ (sct X) (0, 0) _ hr8 Try.underlying44 rfl (ty44 _ HXL.out).size ?_) | (go_at_call 40; refine (decode_calls X HXL.out HXB.out _).mono ?_; rintro e w9 ⟨rfl, hb⟩; rw [HE.out]; have sw9 := hb.size; have hW := below_next hW hb; have hr3 := below_blk hb hr3; have hr6 := below_blk hb hr6; have hr8 := below_blk hb hr8) | ((with_reducible show wpList _ _ _ (⟨some 9, _, _, _, _, _⟩ :: _) _ _); refine wpList_local 9 rfl rfl rfl rfl 41 rfl _ rfl (frm (M.dec X).1) rfl (of_decide_eq_true (by kernel_rfl)) (ty41 _ HGO.out) (frm_all _) ?_; intro W9 N9 hNN9 hMN9 hr9 hb; have sW9 := hb.size; have hW := below_next hW hb; have hr3 := below_blk hb hr3; have hr6 := below_blk hb hr6; have hr8 := below_blk hb hr8))
  clear hb
  go_wp2
  go_loopw [34] (fun i wr => ∃ k : Nat, k ≤ 64 ∧ i = .int .i64 k ∧ Hid (wr.heap[N8]? = some (.cells (sct X) 44 (0, 0)) ∧ wr.heap[N6]? = some (.cells (sct f.sec) 44 (0, 0)) ∧ wr.heap[N3]? = some (.cells (sct p) 44 (0, 0)) ∧ Below w.heap.size w wr)) (fun i _ => 64 - (intOf i).toNat)
  case atStart => exact ⟨0, Nat.zero_le _, rfl, hr8, hr6, hr3, hW⟩
  case round =>
    clear hr2 hr3 hr5 hr6 hr8 hr9 hW
    obtain ⟨k, hk, rfl, HH⟩ := hrel
    by_cases hlt : k < 64
    · have c1 : wr.cell? ⟨N8, k, none⟩ = some (.int .u8 (nth X k)) := by rw [cell_of_row _ _ _ _ _ _ HH.out.1, sct_at _ _ (by rw [HXL.out]; exact hlt)]
      have c2 : wr.cell? ⟨N6, k, none⟩ = some (.int .u8 (nth f.sec k)) := by rw [cell_of_row _ _ _ _ _ _ HH.out.2.1, sct_at _ _ (by rw [HSL.out]; exact hlt)]
      have c3 : wr.cell? ⟨N3, k, none⟩ = some (.int .u8 (nth p k)) := by rw [cell_of_row _ _ _ _ _ _ HH.out.2.2.1, sct_at _ _ (by rw [HPL.out]; exact hlt)]
      have x1 : bits .xor .u8 (nth f.sec k : Int) (nth p k : Int) = ((nth f.sec k ^^^ nth p k : Nat) : Int) := xor8 _ _ (nth_lt _ HSB.out k) (nth_lt p HPB.out k)
      rw [← HXN.out k hlt] at x1
      have bl := nth_lt f.sec HSB.out k
      have bq := nth_lt p HPB.out k
      have bx := nth_lt X HXB.out k
      generalize nth X k = xk at *
      generalize nth f.sec k = fk at *
      generalize nth p k = pk at *
      go_wp2
      go_quiet (fail)
      have HH2 : Hid ((wr.drewN nq).heap[N8]? = some (.cells (sct X) 44 (0, 0)) ∧ (wr.drewN nq).heap[N6]? = some (.cells (sct f.sec) 44 (0, 0)) ∧ (wr.drewN nq).heap[N3]? = some (.cells (sct p) 44 (0, 0)) ∧ Below w.heap.size w (wr.drewN nq)) :=
        ⟨below_blk (below_drewN (Below.refl _ _) nq) HH.out.1, below_blk (below_drewN (Below.refl _ _) nq) HH.out.2.1, below_blk (below_drewN (Below.refl _ _) nq) HH.out.2.2.1, below_drewN HH.out.2.2.2 nq⟩
      generalize wr.drewN nq = W9 at *
      clear c1 c2 c3
      go_wp2
      go_roundw
      case rel => exact ⟨k + 1, by omega, by go_num, HH2⟩
      case measure => simp [intOf]; omega
    · obtain ⟨hr8, hr6, hr3, hW⟩ := HH.out
      go_upto_region 15 with (fail)
      refine wp_region_frame (spec := [none, none, none, none, none, none, none, none, none, none, none, none, none, none]) (vals := [.agg (sct X), .agg (sct p), .agg (sct f.sec), .agg (sct f.sec), .bool true, .bool true, .int .i64 10, .bool false, .slice (some ⟨N3, 0, none⟩) 64 64, .bool true, .bool false, .bool true, .bool true, .bool true]) (by kernel_rfl) (by kernel_rfl) (by kernel_rfl) (by kernel_rfl) ?hst (fun hF => ?hobl) ?hQ
      case hst => exact trivial
      case hobl =>
        refine ⟨?_, ?_, ?_, ?_, ?_, ?_, ?_, ?_, ?_, ?_, ?_, ?_, ?_, ?_, trivial⟩
        · refine fun ho => obl_det hF (by kernel_rfl) (by kernel_rfl) ho (by kernel_rfl) (fun wx hbx => ?_); rw [if_pos (by kernel_rfl)]; with_reducible exact grows_row 44 (.tmp 8) (by kernel_rfl) N8 (by kernel_rfl) 44 (sct X) (0, 0) _ (below_blk hbx hr8) Try.underlying44 (by kernel_rfl) (ty44 _ HXL.out).size (by kernel_rfl) (by kernel_rfl)
        · refine fun ho => obl_det hF (by kernel_rfl) (by kernel_rfl) ho (by kernel_rfl) (fun wx hbx => ?_); rw [if_pos (by kernel_rfl)]; with_reducible exact grows_row 44 (.tmp 3) (by kernel_rfl) N3 (by kernel_rfl) 44 (sct p) (0, 0) _ (below_blk hbx hr3) Try.underlying44 (by kernel_rfl) (ty44 _ HPL.out).size (by kernel_rfl) (by kernel_rfl)
        · refine fun ho => obl_det hF (by kernel_rfl) (by kernel_rfl) ho (by kernel_rfl) (fun wx hbx => ?_); rw [if_pos (by kernel_rfl)]; have hcc := xor_calls X p HXL.out HPL.out HXB.out HPB.out wx; rw [HXX.out] at hcc; with_reducible exact grows_call 73 #[.agg (sct X), .agg (sct p)] (.agg (sct f.sec)) (by kernel_rfl) hcc (by kernel_rfl) (by kernel_rfl)
        · refine fun ho => obl_det hF (by kernel_rfl) (by kernel_rfl) ho (by kernel_rfl) (fun wx hbx => ?_); rw [if_pos (by kernel_rfl)]; with_reducible exact grows_row 44 (.tmp 6) (by kernel_rfl) N6 (by kernel_rfl) 44 (sct f.sec) (0, 0) _ (below_blk hbx hr6) Try.underlying44 (by kernel_rfl) (ty44 _ HSL.out).size (by kernel_rfl) (by kernel_rfl)
        · refine fun ho => obl_det hF (by kernel_rfl) (by kernel_rfl) ho (by kernel_rfl) (fun wx hbx => ?_); rw [if_pos (by kernel_rfl)]; with_reducible exact grows_det (.bool true) (op_eql 44 44 (.tmp 51) (.tmp 52) (by kernel_rfl) (sct f.sec) (sct f.sec) (by kernel_rfl) (by kernel_rfl) grd44 _ HQS.out) (by kernel_rfl) (by kernel_rfl)
        · refine fun ho => obl_det hF (by kernel_rfl) (by kernel_rfl) ho (by kernel_rfl) (fun wx hbx => ?_); rw [if_pos (by kernel_rfl)]; with_reducible exact grows_det (.bool true) (by kernel_rfl) (by kernel_rfl) (by kernel_rfl)
        · refine fun ho => obl_det hF (by kernel_rfl) (by kernel_rfl) ho (by kernel_rfl) (fun wx hbx => ?_); rw [if_pos (by kernel_rfl)]; with_reducible exact grows_det (.int .i64 10) (by kernel_rfl) (by kernel_rfl) (by kernel_rfl)
        · refine fun ho => obl_det hF (by kernel_rfl) (by kernel_rfl) ho (by kernel_rfl) (fun wx hbx => ?_); rw [if_pos (by kernel_rfl)]; with_reducible exact grows_det (.bool false) (by kernel_rfl) (by kernel_rfl) (by kernel_rfl)
        · refine fun ho => obl_det hF (by kernel_rfl) (by kernel_rfl) ho (by kernel_rfl) (fun wx hbx => ?_); rw [if_pos (by kernel_rfl)]; with_reducible exact grows_det (.slice (some ⟨N3, 0, none⟩) 64 64) (by kernel_rfl) (by kernel_rfl) (by kernel_rfl)
        · refine fun ho => obl_det hF (by kernel_rfl) (by kernel_rfl) ho (by kernel_rfl) (fun wx hbx => ?_); rw [if_pos (by kernel_rfl)]; with_reducible exact grows_call 54 #[.slice (some ⟨N3, 0, none⟩) 64 64] (.bool true) (by kernel_rfl) (div_is 64 _ p HPL.out 64 _ HD.out wx ((hasB_sct HPB.out hr3).below hbx) (by omega)) (by kernel_rfl) (by kernel_rfl)
        · refine fun ho => obl_det hF (by kernel_rfl) (by kernel_rfl) ho (by kernel_rfl) (fun wx hbx => ?_); rw [if_pos (by kernel_rfl)]; with_reducible exact grows_det (.bool false) (by kernel_rfl) (by kernel_rfl) (by kernel_rfl)
        · refine fun ho => obl_det hF (by kernel_rfl) (by kernel_rfl) ho (by kernel_rfl) (fun wx hbx => ?_); rw [if_pos (by kernel_rfl)]; with_reducible exact grows_det (.bool true) (by kernel_rfl) (by kernel_rfl) (by kernel_rfl)
        · refine fun ho => obl_det hF (by kernel_rfl) (by kernel_rfl) ho (by kernel_rfl) (fun wx hbx => ?_); rw [if_pos (by kernel_rfl)]; with_reducible exact grows_det (.bool true) (by kernel_rfl) (by kernel_rfl) (by kernel_rfl)
        · refine fun ho => obl_det hF (by kernel_rfl) (by kernel_rfl) ho (by kernel_rfl) (fun wx hbx => ?_); rw [if_pos (by kernel_rfl)]; with_reducible exact grows_det (.bool true) (by kernel_rfl) (by kernel_rfl) (by kernel_rfl)
      case hQ =>
        intro wy hby
        simp only [each]
        generalize hF : putAll _ _ _ = F
        have hd : F.defers = [] := by rw [← hF]; kernel_rfl
        have h8 : F.tmps.getD 4 undef = .bool true := by rw [← hF]; kernel_rfl
        clear hF
        go_step
        go_step
        go_step
        exact ret_of 4 rfl hd _ h8 ⟨rfl, below_next hW hby⟩
set_option maxRecDepth 100000 in
set_option maxHeartbeats 1000000 in
theorem spoilt_wrong (w : World) (f : M.Fr) (hok : f.ok) (hr : f.right = false) (p : List Nat) :
    Calls Try.prog 27 #[.agg (frm f), .agg (sct p)] w fun e w' => e = .returned (.bool true) ∧ Below w.heap.size w w' := by
  have HOK := hid hok
  have HR := hid hr
  clear hok hr
  have hW := Below.refl w.heap.size w
  go_enter Try.func27, Try.ntmps27
  go_wp2_with (first | ((with_reducible show wpList _ _ _ (⟨some 2, _, _, _, _, _⟩ :: _) _ _); refine wpList_boxed 2 rfl rfl 41 _ rfl (frm f) rfl ?_; intro W2 N2 hNN2 hMN2 hr2 hb; have sW2 := hb.size; have hW := below_next hW hb) | ((with_reducible show wpList _ _ _ (⟨some 3, _, _, _, _, _⟩ :: _) _ _); refine wpList_boxed 3 rfl rfl 44 _ rfl (sct p) rfl ?_; intro W3 N3 hNN3 hMN3 hr3 hb; have sW3 := hb.size; have hW := below_next hW hb; have hr2 := below_blk hb hr2) | (go_at_call 36; refine (anchor3_calls _).mono ?_; rintro e w1 ⟨rfl, hb⟩; have sw1 := hb.size; have hW := below_next hW hb; have hr2 := below_blk hb hr2; have hr3 := below_blk hb hr3) | (go_at_call 29; refine (new_calls _).mono ?_; rintro e w2 ⟨rfl, hb⟩; have sw2 := hb.size; have hW := below_next hW hb; have hr2 := below_blk hb hr2; have hr3 := below_blk hb hr3) | ((with_reducible show wpList _ _ _ (⟨some 5, _, _, _, _, _⟩ :: _) _ _); refine wpList_local 5 rfl rfl rfl rfl 25 rfl _ rfl tbl rfl (of_decide_eq_true (by kernel_rfl)) ty25 tbl_all ?_; intro W5 N5 hNN5 hMN5 hr5 hb; have sW5 := hb.size; have hW := below_next hW hb; have hr2 := below_blk hb hr2; have hr3 := below_blk hb hr3) | ((with_reducible show wpList _ _ _ (⟨some 16, _, _, _, _, _⟩ :: _) _ _); refine wpList_load_rowg 16 rfl rfl 25 _ rfl N5 rfl _ tbl (0, 0) _ hr5 Try.underlying25 rfl (by kernel_rfl) ?_) | ((with_reducible show wpList _ _ _ (⟨some 17, _, _, _, _, _⟩ :: _) _ _); refine wpList_load_rowg 17 rfl rfl 41 _ rfl N2 rfl _ (frm f) (0, 0) _ hr2 Try.underlying41 rfl (ty41 _ HOK.out).size ?_) | (go_at_call 37; refine (encode_wrong f HOK.out HR.out _).mono ?_; rintro e w4 ⟨rfl, hb⟩; have sw4 := hb.size; have hW := below_next hW hb; have hr2 := below_blk hb hr2; have hr3 := below_blk hb hr3; have hr5 := below_blk hb hr5) | ((with_reducible show wpList _ _ _ (⟨some 6, _, _, _, _, _⟩ :: _) _ _); refine wpList_local 6 rfl rfl rfl rfl 44 rfl _ rfl (sct (List.replicate 64 0)) rfl (of_decide_eq_true (by kernel_rfl)) (ty44 _ (by simp)) (sct_all _) ?_; intro W6 N6 hNN6 hMN6 hr6 hb; have sW6 := hb.size; have hW := below_next hW hb; have hr2 := below_blk hb hr2; have hr3 := below_blk hb hr3; have hr5 := below_blk hb hr5))
  go_ret
  exact ⟨rfl, hW⟩
theorem spoilt_walk (w : World) (f : M.Fr) (hok : f.ok) (p : List Nat) (hp : p.length = 64 ∧ ∀ c ∈ p, c < 256) :
    Calls Try.prog 27 #[.agg (frm f), .agg (sct p)] w fun e w' => e = .returned (.bool true) ∧ Below w.heap.size w w' := by
  by_cases hr : f.right = true
  · have h := M.spoilt_iff f.sec p 60 (by rw [M.Fr.sec_length f hok]) (by rw [hp.1]) (M.Fr.sec_lt f hok) hp.2 ((M.sealed_iff60 _).1 (M.sealed_sec f hok))
    rw [← M.sealed_iff60] at h
    cases hD : decide (M.over 0 p = 0) with
    | false =>
      have h0 : M.sealed (M.xorL f.sec p) = false := by
        rw [decide_eq_false_iff_not] at hD
        cases hq : M.sealed (M.xorL f.sec p) with
        | false => rfl
        | true => exact absurd (h.1 hq) hD
      exact spoilt_11 w f hok hr p hp.1 hp.2 ((M.dec_err _).2 h0) hD
    | true =>
      have h1 : M.sealed (M.xorL f.sec p) = true := h.2 (of_decide_eq_true hD)
      have h2 : (M.dec (M.xorL f.sec p)).2 = 0 ∨ (M.dec (M.xorL f.sec p)).2 = 10 := by
        unfold M.dec
        rw [h1, if_neg (by simp)]
        split
        · exact .inl rfl
        · exact .inr rfl
      rcases h2 with h2 | h2
      · exact spoilt_0 w f hok hr p hp.1 hp.2 h2 hD
      · exact spoilt_10 w f hok hr p hp.1 hp.2 h2 hD
  · exact spoilt_wrong w f hok (by simpa using hr) p
end Go.Proofs.Ytncooadaeifekaa
