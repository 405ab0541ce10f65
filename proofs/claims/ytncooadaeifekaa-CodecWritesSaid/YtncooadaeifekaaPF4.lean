/- Lemmas, contracts and walks, merged (texts C28 C18 C29 C30 C17 M7 C22 C24 C31 K16). No condition but what each states. -/
import Derived.Test.YtncooadaeifekaaPF3
/- Walk of entry.Read. -/
namespace Go.Proofs.Ytncooadaeifekaa
open Go.RowKit
theorem hasB_frm {w : World} {N : Nat} {f : M.Fr} {t : TypeId} (h : f.ok) (hr : w.heap[N]? = some (.cells (frm f) t (0, 0))) : HasB w (some ⟨N, 5, none⟩) f.body :=
  ⟨h.2, .inr ⟨N, 5, rfl, fun i hi => by
    rw [cell_of_row _ _ _ _ _ _ hr, show 5 + i = i + 5 by omega]
    have := u8s_at f.body i hi
    simpa [frm] using this⟩⟩
set_option maxRecDepth 100000 in
set_option maxHeartbeats 1000000 in
theorem eread_a (f : M.Fr) (hok : f.ok) (hr : (M.unEn f.kind f.body).right = false) (w : World) :
    Calls Try.prog 70 #[.agg (frm f)] w fun r w' => r = .returned (.tuple #[.agg (ent (M.rdE f).1), .int .i64 (M.rdE f).2]) ∧ Below w.heap.size w w' := by
  have hUk := M.unEn_ok f.kind f.body hok.1 hok.2
  have hfr := M.fr_of f hok
  obtain ⟨U, hU⟩ : ∃ U, U = M.unEn f.kind f.body := ⟨_, rfl⟩
  obtain ⟨V, hV⟩ : ∃ V, M.rdE f = V := ⟨_, rfl⟩
  have hO : M.ofB f.kind f.body = M.ofB f.kind f.body := rfl
  rw [hV]
  rw [M.rdE] at hV
  have hO2 : M.ofB f.kind f.body = if (M.unEn f.kind f.body).right = true then (M.unEn f.kind f.body, 0) else (M.En.zero, 10) := rfl
  clear hO
  rw [← hU] at hUk hfr hV hO2 hr
  have HU : Hid (M.En.zero.ok) := M.zeroE_ok
  have HO : Hid (M.ofB f.kind f.body = (M.En.zero, 10)) := by show _ = _; rw [hO2, if_neg (by rw [hr]; simp)]
  have HV : Hid (V = (M.En.zero, 10)) := by show _ = _; rw [← hV, if_neg (fun h => by rw [hr] at h; exact absurd h.1 (by simp))]
  have HOK := hid hok
  clear hok hU hV hO2 hUk hfr hr
  have hW := Below.refl w.heap.size w
  go_enter Try.func70, Try.ntmps70
  go_wp2_with (first | ((with_reducible show wpList _ _ _ (⟨some 1, _, _, _, _, _⟩ :: _) _ _); refine wpList_boxed 1 rfl rfl 41 _ rfl (frm f) rfl ?_; intro W1 N1 hNN1 hMN1 hr1 hb; have sW1 := hb.size; have hW := below_next hW hb) | ((with_reducible show wpList _ _ _ (⟨some 2, _, _, _, _, _⟩ :: _) _ _); refine wpList_zeroed 2 rfl rfl 82 rfl _ zero82 ?_; intro W2 N2 hN2 hM2 hr2 hb; have sW2 := hb.size; have hW := below_next hW hb; have hr1 := below_blk hb hr1; have c0 := cell_of_row _ N1 0 _ _ _ hr1; rw [frm0] at c0; have c1 := cell_of_row _ N1 1 _ _ _ hr1; rw [frm1] at c1; have c2 := cell_of_row _ N1 2 _ _ _ hr1; rw [frm2] at c2; have c3 := cell_of_row _ N1 3 _ _ _ hr1; rw [frm3] at c3; have c4 := cell_of_row _ N1 4 _ _ _ hr1; rw [frm4] at c4) | ((with_reducible show wpList _ _ _ (⟨some 10, _, _, _, _, _⟩ :: _) _ _); refine wpList_load_bytesg 10 rfl rfl 39 _ rfl N1 5 rfl f.body _ (hasB_frm HOK.out hr1) Try.underlying39 rfl (by rw [HOK.out.1]; kernel_rfl) ?_) | (go_at_call 67; refine (of_calls f.kind f.body HOK.out.1 HOK.out.2 _).mono ?_; rintro e w4 ⟨rfl, hb⟩; rw [HO.out]; have hW := below_next hW hb; have hr1 := below_blk hb hr1; have hr2 := below_blk hb hr2) | ((with_reducible show wpList _ _ _ (⟨some 4, _, _, _, _, _⟩ :: _) _ _); refine wpList_local 4 rfl rfl rfl rfl 82 rfl _ rfl (ent M.En.zero) rfl (of_decide_eq_true (by kernel_rfl)) (ty82 _ HU.out) (ent_all _) ?_; intro W4 N4 hNN4 hMN4 hr4 hb; have sW4 := hb.size; have hW := below_next hW hb; have hr1 := below_blk hb hr1; have hr2 := below_blk hb hr2; have c0 := cell_of_row _ N1 0 _ _ _ hr1; rw [frm0] at c0; have c1 := cell_of_row _ N1 1 _ _ _ hr1; rw [frm1] at c1; have c2 := cell_of_row _ N1 2 _ _ _ hr1; rw [frm2] at c2; have c3 := cell_of_row _ N1 3 _ _ _ hr1; rw [frm3] at c3; have c4 := cell_of_row _ N1 4 _ _ _ hr1; rw [frm4] at c4) | ((with_reducible show wpList _ _ _ (⟨some 16, _, _, _, _, _⟩ :: _) _ _); refine wpList_build_as 16 rfl rfl 82 _ rfl (ent M.En.zero) build_zero82 ?_) | ((with_reducible show wpList _ _ _ (⟨none, _, _, _, _, _⟩ :: _) _ _); refine wpList_store_agg rfl rfl 82 _ _ rfl N2 (ent M.En.zero) rfl rfl 82 _ hr2 (ty82 _ M.zeroE_ok) (rfl) (ent_all _) ?_; intro Z2 hrZ htZ))
  refine ret_cell 2 3 82 rfl rfl N2 rfl 82 _ (0, 0) _ hrZ Try.underlying82 rfl (ty82 _ M.zeroE_ok).size _ rfl ⟨by rw [HV.out]; rfl, below_turned hW htZ (fun k hk => by subst hk; omega)⟩
set_option maxRecDepth 100000 in
set_option maxHeartbeats 1000000 in
theorem eread_b (f : M.Fr) (hok : f.ok) (hr : (M.unEn f.kind f.body).right = true) (hc : f.right = true ∧ (M.unEn f.kind f.body).first ≤ f.seq ∧ f.seq < (M.unEn f.kind f.body).first + (M.unEn f.kind f.body).count) (w : World) :
    Calls Try.prog 70 #[.agg (frm f)] w fun r w' => r = .returned (.tuple #[.agg (ent (M.rdE f).1), .int .i64 (M.rdE f).2]) ∧ Below w.heap.size w w' := by
  have hUk := M.unEn_ok f.kind f.body hok.1 hok.2
  have hfr := M.fr_of f hok
  obtain ⟨U, hU⟩ : ∃ U, U = M.unEn f.kind f.body := ⟨_, rfl⟩
  obtain ⟨V, hV⟩ : ∃ V, M.rdE f = V := ⟨_, rfl⟩
  have hO : M.ofB f.kind f.body = M.ofB f.kind f.body := rfl
  rw [hV]
  rw [M.rdE] at hV
  have hO2 : M.ofB f.kind f.body = if (M.unEn f.kind f.body).right = true then (M.unEn f.kind f.body, 0) else (M.En.zero, 10) := rfl
  clear hO
  rw [← hU] at hUk hfr hV hO2 hr hc
  have HU := hid hUk
  have HO : Hid (M.ofB f.kind f.body = (U, 0)) := by show _ = _; rw [hO2, if_pos hr]
  have HV : Hid (V = (U, 0)) := by show _ = _; rw [← hV, if_pos ⟨hr, hc⟩]
  have HF : Hid (U.frame f.zone f.off f.epoch f.seq = (f, 0)) := by show _ = _; rw [M.En.frame, hfr, if_pos ⟨hr, hc⟩]
  have HOK := hid hok
  clear hok hU hV hO2 hUk hfr hr hc
  have hW := Below.refl w.heap.size w
  go_enter Try.func70, Try.ntmps70
  go_wp2_with (first | ((with_reducible show wpList _ _ _ (⟨some 1, _, _, _, _, _⟩ :: _) _ _); refine wpList_boxed 1 rfl rfl 41 _ rfl (frm f) rfl ?_; intro W1 N1 hNN1 hMN1 hr1 hb; have sW1 := hb.size; have hW := below_next hW hb) | ((with_reducible show wpList _ _ _ (⟨some 2, _, _, _, _, _⟩ :: _) _ _); refine wpList_zeroed 2 rfl rfl 82 rfl _ zero82 ?_; intro W2 N2 hN2 hM2 hr2 hb; have sW2 := hb.size; have hW := below_next hW hb; have hr1 := below_blk hb hr1; have c0 := cell_of_row _ N1 0 _ _ _ hr1; rw [frm0] at c0; have c1 := cell_of_row _ N1 1 _ _ _ hr1; rw [frm1] at c1; have c2 := cell_of_row _ N1 2 _ _ _ hr1; rw [frm2] at c2; have c3 := cell_of_row _ N1 3 _ _ _ hr1; rw [frm3] at c3; have c4 := cell_of_row _ N1 4 _ _ _ hr1; rw [frm4] at c4) | ((with_reducible show wpList _ _ _ (⟨some 10, _, _, _, _, _⟩ :: _) _ _); refine wpList_load_bytesg 10 rfl rfl 39 _ rfl N1 5 rfl f.body _ (hasB_frm HOK.out hr1) Try.underlying39 rfl (by rw [HOK.out.1]; kernel_rfl) ?_) | (go_at_call 67; refine (of_calls f.kind f.body HOK.out.1 HOK.out.2 _).mono ?_; rintro e w4 ⟨rfl, hb⟩; rw [HO.out]; have hW := below_next hW hb; have hr1 := below_blk hb hr1; have hr2 := below_blk hb hr2) | ((with_reducible show wpList _ _ _ (⟨some 4, _, _, _, _, _⟩ :: _) _ _); refine wpList_local 4 rfl rfl rfl rfl 82 rfl _ rfl (ent U) rfl (of_decide_eq_true (by kernel_rfl)) (ty82 _ HU.out) (ent_all _) ?_; intro W4 N4 hNN4 hMN4 hr4 hb; have sW4 := hb.size; have hW := below_next hW hb; have hr1 := below_blk hb hr1; have hr2 := below_blk hb hr2; have c0 := cell_of_row _ N1 0 _ _ _ hr1; rw [frm0] at c0; have c1 := cell_of_row _ N1 1 _ _ _ hr1; rw [frm1] at c1; have c2 := cell_of_row _ N1 2 _ _ _ hr1; rw [frm2] at c2; have c3 := cell_of_row _ N1 3 _ _ _ hr1; rw [frm3] at c3; have c4 := cell_of_row _ N1 4 _ _ _ hr1; rw [frm4] at c4) | ((with_reducible show wpList _ _ _ (⟨some 19, _, _, _, _, _⟩ :: _) _ _); refine wpList_load_rowg 19 rfl rfl 82 _ rfl N4 rfl _ (ent U) (0, 0) _ hr4 Try.underlying82 rfl (ty82 _ HU.out).size ?_) | (go_at_call 63; refine (eframe_calls U HU.out f.zone f.off f.epoch f.seq _).mono ?_; rintro e w5 ⟨rfl, hb⟩; rw [HF.out]; have hW := below_next hW hb; have hr1 := below_blk hb hr1; have hr2 := below_blk hb hr2; have hr4 := below_blk hb hr4) | ((with_reducible show wpList _ _ _ (⟨some 35, _, _, _, _, _⟩ :: _) _ _); refine wpList_load_rowg 35 rfl rfl 82 _ rfl N4 rfl _ (ent U) (0, 0) _ hr4 Try.underlying82 rfl (ty82 _ HU.out).size ?_) | ((with_reducible show wpList _ _ _ (⟨none, _, _, _, _, _⟩ :: _) _ _); refine wpList_store_agg rfl rfl 82 _ _ rfl N2 (ent U) rfl rfl 82 _ hr2 (ty82 _ HU.out) (by rw [ent_size _ M.zeroE_ok, ent_size _ HU.out]) (ent_all _) ?_; intro Z2 hrZ htZ))
  refine ret_cell 2 3 82 rfl rfl N2 rfl 82 _ (0, 0) _ hrZ Try.underlying82 rfl (ty82 _ HU.out).size _ rfl ⟨by rw [HV.out]; rfl, below_turned hW htZ (fun k hk => by subst hk; omega)⟩
set_option maxRecDepth 100000 in
set_option maxHeartbeats 1000000 in
theorem eread_c (f : M.Fr) (hok : f.ok) (hr : (M.unEn f.kind f.body).right = true) (hc : ¬ (f.right = true ∧ (M.unEn f.kind f.body).first ≤ f.seq ∧ f.seq < (M.unEn f.kind f.body).first + (M.unEn f.kind f.body).count)) (w : World) :
    Calls Try.prog 70 #[.agg (frm f)] w fun r w' => r = .returned (.tuple #[.agg (ent (M.rdE f).1), .int .i64 (M.rdE f).2]) ∧ Below w.heap.size w w' := by
  have hUk := M.unEn_ok f.kind f.body hok.1 hok.2
  have hfr := M.fr_of f hok
  obtain ⟨U, hU⟩ : ∃ U, U = M.unEn f.kind f.body := ⟨_, rfl⟩
  obtain ⟨V, hV⟩ : ∃ V, M.rdE f = V := ⟨_, rfl⟩
  have hO : M.ofB f.kind f.body = M.ofB f.kind f.body := rfl
  rw [hV]
  rw [M.rdE] at hV
  have hO2 : M.ofB f.kind f.body = if (M.unEn f.kind f.body).right = true then (M.unEn f.kind f.body, 0) else (M.En.zero, 10) := rfl
  clear hO
  rw [← hU] at hUk hfr hV hO2 hr hc
  have HU := hid hUk
  have HO : Hid (M.ofB f.kind f.body = (U, 0)) := by show _ = _; rw [hO2, if_pos hr]
  have HV : Hid (V = (M.En.zero, 10)) := by show _ = _; rw [← hV, if_neg (fun h => hc h.2)]
  have HF : Hid (U.frame f.zone f.off f.epoch f.seq = (M.Fr.zero, 10)) := by show _ = _; rw [M.En.frame, hfr, if_neg (fun h => hc h.2)]
  have HOK := hid hok
  clear hok hU hV hO2 hUk hfr hr hc
  have hW := Below.refl w.heap.size w
  go_enter Try.func70, Try.ntmps70
  go_wp2_with (first | ((with_reducible show wpList _ _ _ (⟨some 1, _, _, _, _, _⟩ :: _) _ _); refine wpList_boxed 1 rfl rfl 41 _ rfl (frm f) rfl ?_; intro W1 N1 hNN1 hMN1 hr1 hb; have sW1 := hb.size; have hW := below_next hW hb) | ((with_reducible show wpList _ _ _ (⟨some 2, _, _, _, _, _⟩ :: _) _ _); refine wpList_zeroed 2 rfl rfl 82 rfl _ zero82 ?_; intro W2 N2 hN2 hM2 hr2 hb; have sW2 := hb.size; have hW := below_next hW hb; have hr1 := below_blk hb hr1; have c0 := cell_of_row _ N1 0 _ _ _ hr1; rw [frm0] at c0; have c1 := cell_of_row _ N1 1 _ _ _ hr1; rw [frm1] at c1; have c2 := cell_of_row _ N1 2 _ _ _ hr1; rw [frm2] at c2; have c3 := cell_of_row _ N1 3 _ _ _ hr1; rw [frm3] at c3; have c4 := cell_of_row _ N1 4 _ _ _ hr1; rw [frm4] at c4) | ((with_reducible show wpList _ _ _ (⟨some 10, _, _, _, _, _⟩ :: _) _ _); refine wpList_load_bytesg 10 rfl rfl 39 _ rfl N1 5 rfl f.body _ (hasB_frm HOK.out hr1) Try.underlying39 rfl (by rw [HOK.out.1]; kernel_rfl) ?_) | (go_at_call 67; refine (of_calls f.kind f.body HOK.out.1 HOK.out.2 _).mono ?_; rintro e w4 ⟨rfl, hb⟩; rw [HO.out]; have hW := below_next hW hb; have hr1 := below_blk hb hr1; have hr2 := below_blk hb hr2) | ((with_reducible show wpList _ _ _ (⟨some 4, _, _, _, _, _⟩ :: _) _ _); refine wpList_local 4 rfl rfl rfl rfl 82 rfl _ rfl (ent U) rfl (of_decide_eq_true (by kernel_rfl)) (ty82 _ HU.out) (ent_all _) ?_; intro W4 N4 hNN4 hMN4 hr4 hb; have sW4 := hb.size; have hW := below_next hW hb; have hr1 := below_blk hb hr1; have hr2 := below_blk hb hr2; have c0 := cell_of_row _ N1 0 _ _ _ hr1; rw [frm0] at c0; have c1 := cell_of_row _ N1 1 _ _ _ hr1; rw [frm1] at c1; have c2 := cell_of_row _ N1 2 _ _ _ hr1; rw [frm2] at c2; have c3 := cell_of_row _ N1 3 _ _ _ hr1; rw [frm3] at c3; have c4 := cell_of_row _ N1 4 _ _ _ hr1; rw [frm4] at c4) | ((with_reducible show wpList _ _ _ (⟨some 19, _, _, _, _, _⟩ :: _) _ _); refine wpList_load_rowg 19 rfl rfl 82 _ rfl N4 rfl _ (ent U) (0, 0) _ hr4 Try.underlying82 rfl (ty82 _ HU.out).size ?_) | (go_at_call 63; refine (eframe_calls U HU.out f.zone f.off f.epoch f.seq _).mono ?_; rintro e w5 ⟨rfl, hb⟩; rw [HF.out]; have hW := below_next hW hb; have hr1 := below_blk hb hr1; have hr2 := below_blk hb hr2; have hr4 := below_blk hb hr4) | ((with_reducible show wpList _ _ _ (⟨some 33, _, _, _, _, _⟩ :: _) _ _); refine wpList_build_as 33 rfl rfl 82 _ rfl (ent M.En.zero) build_zero82 ?_) | ((with_reducible show wpList _ _ _ (⟨none, _, _, _, _, _⟩ :: _) _ _); refine wpList_store_agg rfl rfl 82 _ _ rfl N2 (ent M.En.zero) rfl rfl 82 _ hr2 (ty82 _ M.zeroE_ok) (rfl) (ent_all _) ?_; intro Z2 hrZ htZ))
  refine ret_cell 2 3 82 rfl rfl N2 rfl 82 _ (0, 0) _ hrZ Try.underlying82 rfl (ty82 _ M.zeroE_ok).size _ rfl ⟨by rw [HV.out]; rfl, below_turned hW htZ (fun k hk => by subst hk; omega)⟩
theorem eread_calls (f : M.Fr) (hok : f.ok) (w : World) :
    Calls Try.prog 70 #[.agg (frm f)] w fun r w' => r = .returned (.tuple #[.agg (ent (M.rdE f).1), .int .i64 (M.rdE f).2]) ∧ Below w.heap.size w w' := by
  by_cases hr : (M.unEn f.kind f.body).right = true
  · by_cases hc : f.right = true ∧ (M.unEn f.kind f.body).first ≤ f.seq ∧ f.seq < (M.unEn f.kind f.body).first + (M.unEn f.kind f.body).count
    · exact eread_b f hok hr hc w
    · exact eread_c f hok hr hc w
  · exact eread_a f hok (by simpa using hr) w
end Go.Proofs.Ytncooadaeifekaa

/- Walk of the reference frame's Bytes. -/
namespace Go.Proofs.Ytncooadaeifekaa
open Go.RowKit
/-- a literal of bytes -/
theorem wpList_lit {ops : Array Oper} {rest : List Oper} {a : Act} {w : World} {Q : Exit → Act → World → Prop} {o : Oper} (d : Tmp) (hd : o.dst = some d) (hg : o.guard = none) (n : Nat) (parts : Array (Nat × Operand)) (ho : o.op = .buildSlice 28 n parts) (l : List Nat) (hn : l.length = n) (hl : ∀ c ∈ l, c < 256) (h7 : n ≤ 1000000)
    (hb : ∀ w, (Instr.buildSlice 28 n (parts.map fun (i, x) => (i, a.eval x))).run Try.prog w = .ok (.slice (some ⟨w.heap.size, 0, none⟩) n n) (w.alloc (.cells (u8s l).toArray 5)))
    (h : ∀ (W : World) (v : Value), OwnB W w.heap.size v l → Below w.heap.size w W → wpList Try.prog ops Q rest (a.put (some d) v) W) : wpList Try.prog ops Q (o :: rest) a w := by
  have hres := h (w.alloc (.cells (u8s l).toArray 5)) (.slice (some ⟨w.heap.size, 0, none⟩) n n) ⟨by subst hn; exact World.ownsRow_lit w (u8s l).toArray l.length (Nat.le_refl _) (by unfold maxLen; omega) (by simp [u8s_length]), hl⟩ ((Below.refl _ _).alloc (Nat.le_refl _) _)
  refine wpList_plain hg fun K hK => ?_
  unfold Oper.wp execOp
  simp only [ho, Sem.run_bind, hb, Result.andThen_ok]
  show K (a.put o.dst _) _
  rw [hd]
  exact hK _ _ hres
theorem ret_cell1 {P : Program} {fn : Func} {R : Ending → World → Prop} {F : Act} {w : World} (p : Tmp) (ty : TypeId) (h : fn.results = #[.cell p ty]) (hd : F.defers = []) (g : Nat) (hp : F.tmps.getD p undef = .pointer (some ⟨g, 0, none⟩))
    (T : TypeId) (cs : Array Value) (fr : Nat × Nat) (d : TypeDesc) (hg : w.heap[g]? = some (.cells cs T fr)) (hu : P.underlying ty = some d) (hdd : (match d with | .struct _ | .array _ _ => true | _ => false) = true) (hi : (P.info? ty).map (·.size) = some cs.size)
    (hR : R (.returned (.agg cs)) w) : bodyPost P fn R .ret F w :=
  bodyPost_ret (v := .agg cs) (results_cell_row h F.tmps w g T cs fr d hp hg hu hdd hi) hd hR
theorem zero43 : (Try.prog.info? 43).bind (fun i => i.zero.map (·.cells)) = some (sct (List.replicate 64 0)) := by kernel_rfl
theorem ty43 (s : List Nat) (h : s.length = 64) : TyRow Try.prog 43 (sct s).size := by rw [sct_size, h]; unfold TyRow; kernel_rfl
theorem lit2 (K : Nat) (w : World) : (Instr.buildSlice 28 2 #[(0, .int .u8 K), (1, .int .u8 1)]).run Try.prog w = .ok (.slice (some ⟨w.heap.size, 0, none⟩) 2 2) (w.alloc (.cells (u8s [K, 1]).toArray 5)) := by kernel_rfl
theorem sct_set (s : List Nat) (i v : Nat) : (sct s).setIfInBounds i (.int .u8 v) = sct (s.set i v) := by
  apply Array.ext'
  simp [sct, u8s, List.map_set]
theorem set_copy (t p : List Nat) (m : Nat) (hl : t.length = p.length) (hm : m < p.length) : (p.take m ++ t.drop m).set m (nth p m) = p.take (m + 1) ++ t.drop (m + 1) := by
  have h1 : (p.take m).length = m := by simp; omega
  rw [List.set_append_right _ _ (by omega), h1, Nat.sub_self, List.drop_eq_getElem_cons (by omega : m < t.length), List.set_cons_zero, take_nth p m hm, List.append_assoc]
  rfl
set_option maxRecDepth 100000 in
set_option maxHeartbeats 2000000 in
theorem rbytes_calls (f : M.Fr) (hok : f.ok) (hr : f.right = true) (w : World) :
    Calls Try.prog 42 #[.agg (frm f)] w fun e w' => e = .returned (.agg (sct f.sec)) ∧ Below w.heap.size w w' := by
  obtain ⟨kind, zone, off, epoch, seq, bd⟩ := f
  simp only [M.Fr.right, decide_eq_true_eq] at hr
  obtain ⟨⟨h1, h2⟩, ⟨h3, h4⟩, ⟨h5, h6⟩, ⟨h7, h8⟩, h9, h10⟩ := hr
  obtain ⟨K, rfl⟩ : ∃ n : Nat, kind = n := ⟨kind.toNat, by omega⟩
  obtain ⟨Z, rfl⟩ : ∃ n : Nat, zone = n := ⟨zone.toNat, by omega⟩
  obtain ⟨O, rfl⟩ : ∃ n : Nat, off = n := ⟨off.toNat, by omega⟩
  obtain ⟨E, rfl⟩ : ∃ n : Nat, epoch = n := ⟨epoch.toNat, by omega⟩
  obtain ⟨S, rfl⟩ : ∃ n : Nat, seq = n := ⟨seq.toNat, by omega⟩
  have hsl := M.Fr.sec_length _ hok
  have hpl := M.Fr.pre_length _ hok
  have hslt := M.Fr.sec_lt _ hok
  obtain ⟨SEC, hSEC⟩ : ∃ SEC, SEC = (M.Fr.mk K Z O E S bd).sec := ⟨_, rfl⟩
  obtain ⟨PRE, hPRE⟩ : ∃ PRE, PRE = (M.Fr.mk K Z O E S bd).pre := ⟨_, rfl⟩
  have hSP : PRE ++ M.leB 4 (M.crc PRE) = SEC := by rw [hSEC, hPRE]; rfl
  obtain ⟨L0, hL0⟩ : ∃ L, L = [K, 1] := ⟨_, rfl⟩
  obtain ⟨L1, hL1⟩ : ∃ L, L = L0 ++ M.leB 2 Z := ⟨_, rfl⟩
  obtain ⟨L2, hL2⟩ : ∃ L, L = L1 ++ M.leB 2 O := ⟨_, rfl⟩
  obtain ⟨L3, hL3⟩ : ∃ L, L = L2 ++ M.leB 4 E := ⟨_, rfl⟩
  obtain ⟨L4, hL4⟩ : ∃ L, L = L3 ++ M.leB 6 S := ⟨_, rfl⟩
  have hPL : L4 ++ bd = PRE := by
    rw [hPRE, M.Fr.pre, hL4, hL3, hL2, hL1, hL0]
    have e : ([K, 1] : List Nat) = M.leB 1 K ++ M.leB 1 1 := by simp [M.leB]; omega
    simp only [Int.toNat_natCast, e]
  have hkk : (K : Int) % 256 = K := by omega
  have l0 : L0.length = 2 := by rw [hL0]; rfl
  have l1 : L1.length = 4 := by rw [hL1, List.length_append, M.leB_length]; omega
  have l2 : L2.length = 6 := by rw [hL2, List.length_append, M.leB_length]; omega
  have l3 : L3.length = 10 := by rw [hL3, List.length_append, M.leB_length]; omega
  have l4 : L4.length = 16 := by rw [hL4, List.length_append, M.leB_length]; omega
  have k0 : ∀ c ∈ L0, c < 256 := by rw [hL0]; simp; omega
  have bZ : Z < 72057594037927936 := by omega
  have bO : O < 72057594037927936 := by omega
  have bE : E < 72057594037927936 := by omega
  have bS : S < 72057594037927936 := by omega
  rw [← hSEC] at hsl hslt
  rw [← hPRE] at hpl
  have HZ := hid bZ
  have HO' := hid bO
  have HEE := hid bE
  have HSS := hid bS
  have HSP := hid hSP
  have HPL := hid hPL
  have HE0 := hid hL0
  have HE1 := hid hL1.symm
  have HE2 := hid hL2.symm
  have HE3 := hid hL3.symm
  have HE4 := hid hL4.symm
  have HL0 := hid l0
  have HL1 := hid l1
  have HL2 := hid l2
  have HL3 := hid l3
  have HL4 := hid l4
  have HK1 : Hid (∀ c ∈ [K, 1], c < 256) := by rw [← HE0.out]; exact k0
  have HOK := hid hok
  have HSL := hid hsl
  have HSLT := hid hslt
  have HPLEN := hid hpl
  have hfin : Hid (M.Fr.sec ⟨K, Z, O, E, S, bd⟩ = SEC) := hSEC.symm
  rw [hfin.out]
  clear bZ bO bE bS hSP hPL hL0 hL1 hL2 hL3 hL4 l0 l1 l2 l3 l4 k0 hok hsl hslt hpl hSEC hPRE h1 h2 h3 h4 h5 h6 h7 h8 h9 h10
  have hW := Below.refl w.heap.size w
  go_enter Try.func42, Try.ntmps42
  go_upto_region 1 with (first | ((with_reducible show wpList _ _ _ (⟨some 1, _, _, _, _, _⟩ :: _) _ _); refine wpList_boxed 1 rfl rfl 42 _ rfl (frm ⟨K, Z, O, E, S, bd⟩) rfl ?_; intro W1 N1 hN1 hM1 hf hb1; have hW := below_next hW hb1) | ((with_reducible show wpList _ _ _ (⟨some 2, _, _, _, _, _⟩ :: _) _ _); refine wpList_zeroed 2 rfl rfl 43 rfl _ zero43 ?_; intro W2 N2 hN2 hM2 hr2 hb2; have hW := below_next hW hb2; have hf := below_blk hb2 hf))
  obtain ⟨B, hB⟩ : ∃ B, B = W2.heap.size := ⟨_, rfl⟩
  have hwB : w.heap.size ≤ B := by rw [hB]; exact hW.size
  have hNf : N1 < B := by rw [hB]; have := hb2.size; omega
  have hN2f : N2 < B := by rw [hB]; exact hM2
  have wN2 : w.heap.size ≤ N2 := by have := hb1.size; omega
  have sB : B ≤ W2.heap.size := by omega
  have hf0 := cell_of_row _ N1 0 _ _ _ hf
  rw [frm0] at hf0
  clear hb1 hb2
  go_upto_region 2 with (fail)
  have ho : OwnB (W2.alloc (.cells #[.int .u8 K, .int .u8 1] 5)) W2.heap.size (.slice (some ⟨W2.heap.size, 0, none⟩) 2 2) L0 := by
    rw [HE0.out]
    exact ⟨World.ownsRow_lit W2 (u8s [K, 1]).toArray 2 (Nat.le_refl _) (by unfold maxLen; omega) rfl, HK1.out⟩
  have hba : Below W2.heap.size W2 (W2.alloc (.cells #[.int .u8 K, .int .u8 1] 5)) := (Below.refl _ _).alloc (Nat.le_refl _) _
  have hf := below_blk hba hf
  have hr2 := below_blk hba hr2
  have hW := below_next hW hba
  have sB := Nat.le_trans sB hba.size
  clear hba hf0
  generalize W2.alloc (.cells #[.int .u8 K, .int .u8 1] 5) = W3 at *
  generalize Value.slice (some ⟨W2.heap.size, 0, none⟩) 2 2 = v3 at *
  rw [← hB] at ho
  clear hB
  have c2 := cell_of_row _ N1 1 _ _ _ hf
  rw [frm1] at c2
  have h7 : Z < 72057594037927936 := HZ.out
  clear h7
  go_upto_region 3 with (first | (go_at_call 59; refine (rnum_calls 2 Z (by decide) HZ.out _).mono ?_; rintro e y1 ⟨⟨ax, cx, rfl, hcx, hox, hhx⟩, hbx⟩; have ho := ho.mono hbx; have hf := below_blk hbx hf; have hr2 := below_blk hbx hr2; have hW := below_next hW hbx; have sB := Nat.le_trans sB hbx.size) | ((with_reducible show wpList _ _ _ (⟨some 15, _, _, _, _, _⟩ :: _) _ _); refine wpList_append_at 15 rfl rfl _ _ rfl B _ L0 (M.leB 2 Z) L1 HE1.out (by rfl) ho _ cx (by rw [M.leB_length]; rfl) hhx (by rw [HL1.out]; omega) sB ?_; intro av cv y2 ho hcv hh hba; have sB := Nat.le_trans sB hba.size; have hf := below_blkB hba hNf hf; have hr2 := below_blkB hba hN2f hr2; have hW := hW.trans (hba.mono hwB)))
  clear hhx hox hbx hcx hh hcv
  have c3 := cell_of_row _ N1 2 _ _ _ hf
  rw [frm2] at c3
  have h7 : O < 72057594037927936 := HO'.out
  clear h7
  go_upto_region 4 with (first | (go_at_call 59; refine (rnum_calls 2 O (by decide) HO'.out _).mono ?_; rintro e y1 ⟨⟨ax, cx, rfl, hcx, hox, hhx⟩, hbx⟩; have ho := ho.mono hbx; have hf := below_blk hbx hf; have hr2 := below_blk hbx hr2; have hW := below_next hW hbx; have sB := Nat.le_trans sB hbx.size) | ((with_reducible show wpList _ _ _ (⟨some 20, _, _, _, _, _⟩ :: _) _ _); refine wpList_append_at 20 rfl rfl _ _ rfl B _ L1 (M.leB 2 O) L2 HE2.out (by rfl) ho _ cx (by rw [M.leB_length]; rfl) hhx (by rw [HL2.out]; omega) sB ?_; intro av cv y2 ho hcv hh hba; have sB := Nat.le_trans sB hba.size; have hf := below_blkB hba hNf hf; have hr2 := below_blkB hba hN2f hr2; have hW := hW.trans (hba.mono hwB)))
  clear hhx hox hbx hcx hh hcv
  have c4 := cell_of_row _ N1 3 _ _ _ hf
  rw [frm3] at c4
  have h7 : E < 72057594037927936 := HEE.out
  clear h7
  go_upto_region 5 with (first | (go_at_call 59; refine (rnum_calls 4 E (by decide) HEE.out _).mono ?_; rintro e y1 ⟨⟨ax, cx, rfl, hcx, hox, hhx⟩, hbx⟩; have ho := ho.mono hbx; have hf := below_blk hbx hf; have hr2 := below_blk hbx hr2; have hW := below_next hW hbx; have sB := Nat.le_trans sB hbx.size) | ((with_reducible show wpList _ _ _ (⟨some 25, _, _, _, _, _⟩ :: _) _ _); refine wpList_append_at 25 rfl rfl _ _ rfl B _ L2 (M.leB 4 E) L3 HE3.out (by rfl) ho _ cx (by rw [M.leB_length]; rfl) hhx (by rw [HL3.out]; omega) sB ?_; intro av cv y2 ho hcv hh hba; have sB := Nat.le_trans sB hba.size; have hf := below_blkB hba hNf hf; have hr2 := below_blkB hba hN2f hr2; have hW := hW.trans (hba.mono hwB)))
  clear hhx hox hbx hcx hh hcv
  have c5 := cell_of_row _ N1 4 _ _ _ hf
  rw [frm4] at c5
  have h7 : S < 72057594037927936 := HSS.out
  clear h7
  go_upto_region 6 with (first | (go_at_call 59; refine (rnum_calls 6 S (by decide) HSS.out _).mono ?_; rintro e y1 ⟨⟨ax, cx, rfl, hcx, hox, hhx⟩, hbx⟩; have ho := ho.mono hbx; have hf := below_blk hbx hf; have hr2 := below_blk hbx hr2; have hW := below_next hW hbx; have sB := Nat.le_trans sB hbx.size) | ((with_reducible show wpList _ _ _ (⟨some 30, _, _, _, _, _⟩ :: _) _ _); refine wpList_append_at 30 rfl rfl _ _ rfl B _ L3 (M.leB 6 S) L4 HE4.out (by rfl) ho _ cx (by rw [M.leB_length]; rfl) hhx (by rw [HL4.out]; omega) sB ?_; intro av cv y2 ho hcv hh hba; have sB := Nat.le_trans sB hba.size; have hf := below_blkB hba hNf hf; have hr2 := below_blkB hba hN2f hr2; have hW := hW.trans (hba.mono hwB)))
  clear hhx hox hbx hcx hh hcv
  go_wp2
  go_loopw [3, 4] (fun v i wr => ∃ m : Nat, m ≤ 44 ∧ i = .int .i64 m ∧ OwnB wr B v (L4 ++ bd.take m) ∧ Hid (wr.heap[N1]? = some (.cells (frm ⟨K, Z, O, E, S, bd⟩) 42 (0, 0)) ∧ wr.heap[N2]? = some (.cells (sct (List.replicate 64 0)) 43 (0, 0)) ∧ Below w.heap.size w wr ∧ B ≤ wr.heap.size)) (fun _ i _ => 44 - (intOf i).toNat)
  case atStart => exact ⟨0, Nat.zero_le _, rfl, by simpa using ho, hf, hr2, hW, sB⟩
  case round =>
    clear ho hf hr2 hW sB
    obtain ⟨m, hm, rfl, ho, HH⟩ := hrel
    by_cases hlt : m < 44
    · have hbl : bd.length = 44 := HOK.out.1
      have hLn : (L4 ++ bd.take m) ++ [nth bd m] = L4 ++ bd.take (m + 1) := by rw [take_nth bd m (by omega), List.append_assoc]
      have hLl : (L4 ++ bd.take (m + 1)).length ≤ 1000000 := by rw [List.length_append, HL4.out]; simp; omega
      obtain ⟨A, hA⟩ : ∃ A, A = L4 ++ bd.take m := ⟨_, rfl⟩
      obtain ⟨A2, hA2⟩ : ∃ A, A = L4 ++ bd.take (m + 1) := ⟨_, rfl⟩
      rw [← hA] at ho
      rw [← hA, ← hA2] at hLn
      rw [← hA2] at hLl
      have HA2 := hid hA2
      have HLn := hid hLn
      have hcell : wr.cell? ⟨N1, 5 + m, none⟩ = some (.int .u8 (nth bd m)) := by rw [cell_of_row _ _ _ _ _ _ HH.out.1]; exact frm_body ⟨K, Z, O, E, S, bd⟩ m (by show m < bd.length; omega)
      have hcb := nth_lt bd HOK.out.2 m
      have hoo := ho
      obtain ⟨a1, c1, rfl, hc1, _⟩ := ho.slice
      have HOO := hid hoo
      clear hA hA2 hLn hoo ho
      go_wp2_with (first | ((with_reducible show wpList _ _ _ (⟨some 41, _, _, _, _, _⟩ :: _) _ _); refine wpList_append_at 41 rfl rfl _ _ rfl B _ A [nth bd m] A2 HLn.out (by rfl) (HOO.out.mono ((Below.refl _ _).alloc (Nat.le_refl _) _)) _ 1 (by rfl) (hasB_one _ _ hcb) hLl (by have := HH.out.2.2.2; simp; omega) ?_; intro av cv y2 ho hcv hh hba))
      go_roundw
      case rel =>
        have hal : Below wr.heap.size wr (wr.alloc (.cells #[.int .u8 (nth bd m : Nat)] 5)) := (Below.refl _ _).alloc (Nat.le_refl _) _
        refine ⟨m + 1, by omega, by go_num, by rw [← HA2.out]; exact ho, below_blkB hba hNf (below_blk hal HH.out.1), below_blkB hba hN2f (below_blk hal HH.out.2.1), (below_next HH.out.2.2.1 hal).trans (hba.mono hwB), ?_⟩
        have := hba.size
        have := HH.out.2.2.2
        simp at *; omega
      case measure => simp [intOf]; omega
    · obtain rfl : m = 44 := by omega
      have hPL : L4 ++ bd.take 44 = PRE := by rw [List.take_of_length_le (by have := HOK.out.1; show bd.length ≤ 44; exact Nat.le_of_eq this)]; exact HPL.out
      rw [hPL] at ho
      obtain ⟨hf, hr2, hW, sB⟩ := HH.out
      obtain ⟨C, hC⟩ : ∃ C, C = M.crc PRE := ⟨_, rfl⟩
      have hCl : C < 4294967296 := by rw [hC]; exact M.crc_lt _ ho.2
      have hSP := HSP.out
      rw [← hC] at hSP
      have HC := hid hC
      have HSP2 := hid hSP
      have hoo := ho
      obtain ⟨a1, c1, rfl, hc1, hh1⟩ := ho.slice
      have HOO := hid hoo
      have HH1 := hid hh1
      have HSB := hid sB
      have HWW := hid hW
      have HR2 := hid hr2
      clear hoo ho hC hSP hPL hf hh1 sB hW hr2 HH
      go_wp2_with (first | (go_at_call 34; refine (rsum_calls a1 PRE c1 _ HH1.out (by rw [HPLEN.out]; omega)).mono ?_; rintro e z1 ⟨rfl, hz1⟩; rw [← M.crc, ← HC.out]; have ho := HOO.out.mono hz1; have hr2 := below_blk hz1 HR2.out; have hW := below_next HWW.out hz1; have sB := Nat.le_trans HSB.out hz1.size) | (go_at_call 59; refine (rnum_calls 4 C (by decide) (by omega) _).mono ?_; rintro e z2 ⟨⟨ax, cx, rfl, hcx, hox, hhx⟩, hbx⟩; have ho := ho.mono hbx; have hr2 := below_blk hbx hr2; have hW := below_next hW hbx; have sB := Nat.le_trans sB hbx.size) | ((with_reducible show wpList _ _ _ (⟨some 47, _, _, _, _, _⟩ :: _) _ _); refine wpList_append_at 47 rfl rfl _ _ rfl B _ PRE (M.leB 4 C) SEC HSP2.out (by rfl) ho _ cx (by rw [M.leB_length]; rfl) hhx (by rw [HSL.out]; omega) sB ?_; intro av cv z3 ho hcv hh hba; have hr2 := below_blkB hba hN2f hr2; have sB := Nat.le_trans sB hba.size; have hW := hW.trans (hba.mono hwB)) | ((with_reducible show wpList _ _ _ (⟨some 5, _, _, _, _, _⟩ :: _) _ _); refine wpList_zeroed 5 rfl rfl 43 rfl _ zero43 ?_; intro W5 N5 hN5 hM5 hr5 hb5; have hW := below_next hW hb5; have hr2 := below_blk hb5 hr2; have hh := hh.below hb5))
      have n25 : N2 ≠ N5 := by omega
      have w5 : w.heap.size ≤ N5 := by omega
      obtain ⟨b, off, rfl, hcc⟩ := hh.cell (by rw [HSL.out]; omega)
      have hbN : b < N5 := by
        have h1 := ho.ownLt b rfl
        omega
      have HCC := hid hcc
      clear hcc hh ho hcv hox hhx hcx hbx hz1 hba hb5 sB
      go_loopw [6] (fun i wr => ∃ m : Nat, m ≤ 64 ∧ i = .int .i64 m ∧ wr.heap[N5]? = some (.cells (sct (SEC.take m ++ (List.replicate 64 0).drop m)) 43 (0, 0)) ∧ Hid (Turned (fun k => k = N5) W5 wr)) (fun i _ => 64 - (intOf i).toNat)
      case atStart => exact ⟨0, Nat.zero_le _, rfl, by simpa using hr5, Turned.refl _ _⟩
      case round =>
        obtain ⟨m, hm, rfl, hr5, HT⟩ := hrel
        by_cases hlt : m < 64
        · have hsl := HSL.out
          have hcell : wr.cell? ⟨b, off + m, none⟩ = some (.int .u8 (nth SEC m)) := by
            rw [← HCC.out m (by omega)]
            exact World.cell?_of_block (w := W5) (HT.out.block b (by omega) (by omega))
          have hset : (sct (SEC.take m ++ (List.replicate 64 0).drop m)).setIfInBounds m (.int .u8 (nth SEC m)) = sct (SEC.take (m + 1) ++ (List.replicate 64 0).drop (m + 1)) := by
            rw [sct_set, set_copy _ _ m (by rw [HSL.out]; simp) (by omega)]
          have HSET := hid hset
          have hsz : (sct (SEC.take m ++ (List.replicate 64 0).drop m)).size = 64 := by rw [sct_size]; simp; omega
          have HSZ := hid hsz
          have HR5 := hid hr5
          clear hset hsz hr5
          go_wp2_with (first | ((with_reducible show wpList _ _ _ (⟨none, _, _, _, _, _⟩ :: _) _ _); refine wpList_store_cell rfl rfl 5 _ _ rfl N5 m .u8 (nth SEC m) rfl rfl size5 43 _ _ HR5.out (by rw [HSZ.out]; omega) HSET.out ?_; intro Y hrY htY))
          go_roundw
          case rel => exact ⟨m + 1, by omega, by go_num, hrY, HT.out.trans htY fun i hi => .inl hi⟩
          case measure => simp [intOf]; omega
        · obtain rfl : m = 64 := by omega
          have e : SEC.take 64 ++ (List.replicate 64 0).drop 64 = SEC := by rw [List.take_of_length_le (Nat.le_of_eq HSL.out), List.drop_eq_nil_of_le (by simp), List.append_nil]
          rw [e] at hr5
          have hr2 := HT.out.blk hr2 (fun h => n25 h)
          have hW := below_turned hW HT.out (fun k hk => by subst hk; exact w5)
          go_wp2_with (first | ((with_reducible show wpList _ _ _ (⟨some 58, _, _, _, _, _⟩ :: _) _ _); refine wpList_load_row rfl _ _ rfl N5 rfl 43 (sct SEC) (0, 0) _ hr5 Try.underlying43 rfl (ty43 _ HSL.out).size ?_) | ((with_reducible show wpList _ _ _ (⟨none, _, _, _, _, _⟩ :: _) _ _); refine wpList_store_agg rfl rfl 43 _ _ rfl N2 (sct SEC) rfl rfl 43 _ hr2 (ty43 _ HSL.out) (by rw [sct_size, sct_size, HSL.out]; rfl) (sct_all _) ?_; intro Z2 hrZ htZ))
          refine ret_cell1 2 43 rfl rfl N2 rfl 43 _ (0, 0) _ hrZ Try.underlying43 rfl (ty43 _ HSL.out).size ⟨rfl, below_turned hW htZ (fun k hk => by subst hk; exact wN2)⟩
end Go.Proofs.Ytncooadaeifekaa

/- Walks of entry.Fill and of the law's own of. -/
namespace Go.Proofs.Ytncooadaeifekaa
open Go.RowKit
set_option maxRecDepth 100000 in
set_option maxHeartbeats 1000000 in
theorem fill_calls (b : Nat) (_ : b < 256) (w : World) :
    Calls Try.prog 64 #[.int .u8 b] w fun e w' => e = .returned (.agg (sct (List.replicate 32 b))) ∧ Below w.heap.size w w' := by
  obtain ⟨X, hX⟩ : ∃ X, X = List.replicate 32 b := ⟨_, rfl⟩
  have hl : X.length = 32 := by rw [hX]; simp
  have hn : ∀ k, k < 32 → nth X k = b := fun k hk => by rw [hX]; unfold nth; rw [List.getD_eq_getElem?_getD, List.getElem?_replicate, if_pos hk]; rfl
  rw [← hX]
  have HL := hid hl
  have HN := hid hn
  clear hX hl hn
  have hW := Below.refl w.heap.size w
  go_enter Try.func64, Try.ntmps64
  go_upto_region 2 with (first | ((with_reducible show wpList _ _ _ (⟨some 2, _, _, _, _, _⟩ :: _) _ _); refine wpList_zeroed 2 rfl rfl 80 rfl _ zero80 ?_; intro W2 N2 hN2 hM2 hr2 hb; have sW2 := hb.size; have hW := below_next hW hb) | ((with_reducible show wpList _ _ _ (⟨some 3, _, _, _, _, _⟩ :: _) _ _); refine wpList_zeroed 3 rfl rfl 80 rfl _ zero80 ?_; intro W3 N3 hN3 hM3 hr3 hb; have sW3 := hb.size; have hW := below_next hW hb; have hr2 := below_blk hb hr2))
  have w2 : w.heap.size ≤ N2 := by omega
  have w3 : w.heap.size ≤ N3 := by omega
  have n23 : N2 ≠ N3 := by omega
  clear hb
  go_wp2
  go_loopw [5] (fun i wr => ∃ k : Nat, k ≤ 32 ∧ i = .int .i64 k ∧ Hid (wr.heap[N3]? = some (.cells (sct (X.take k ++ (List.replicate 32 0).drop k)) 80 (0, 0))) ∧ Hid (wr.heap[N2]? = some (.cells (sct (List.replicate 32 0)) 80 (0, 0)) ∧ Below w.heap.size w wr)) (fun i _ => 32 - (intOf i).toNat)
  case atStart => exact ⟨0, Nat.zero_le _, rfl, (by show _ = _; simpa using hr3), hr2, hW⟩
  case round =>
    clear hr2 hr3 hW
    obtain ⟨k, hk, rfl, HR3, HR⟩ := hrel
    by_cases hlt : k < 32
    · have hset : (sct (X.take k ++ (List.replicate 32 0).drop k)).setIfInBounds k (.int .u8 b) = sct (X.take (k + 1) ++ (List.replicate 32 0).drop (k + 1)) := by
        rw [← HN.out k hlt, sct_put, set_copyE _ _ k (by rw [HL.out]; simp) (by rw [HL.out]; exact hlt)]
      have HSET := hid hset
      have hsz : (sct (X.take k ++ (List.replicate 32 0).drop k)).size = 32 := by rw [sct_size, List.length_append, List.length_take, List.length_drop, HL.out]; simp; omega
      have HSZ := hid hsz
      clear hset hsz
      go_wp2_with (first | ((with_reducible show wpList _ _ _ (⟨none, _, _, _, _, _⟩ :: _) _ _); refine wpList_store_cell rfl rfl 5 _ _ rfl N3 k .u8 b rfl rfl size5 80 _ _ HR3.out (by rw [HSZ.out]; omega) HSET.out ?_; intro Y hrY htY))
      go_roundw
      case rel => exact ⟨k + 1, by omega, by go_num, hrY, htY.blk HR.out.1 n23, below_turned HR.out.2 htY (fun k hk => by subst hk; exact w3)⟩
      case measure => simp [intOf]; omega
    · obtain rfl : k = 32 := by omega
      have e : X.take 32 ++ (List.replicate 32 0).drop 32 = X := by rw [List.take_of_length_le (Nat.le_of_eq HL.out), List.drop_eq_nil_of_le (by simp), List.append_nil]
      rw [e] at HR3
      obtain ⟨hr2, hW⟩ := HR.out
      have hr3 := HR3.out
      go_wp2_with (first | ((with_reducible show wpList _ _ _ (⟨some 12, _, _, _, _, _⟩ :: _) _ _); refine wpList_load_rowg 12 rfl rfl 80 _ rfl N3 rfl _ (sct X) (0, 0) _ hr3 Try.underlying80 rfl (ty80 _ HL.out).size ?_) | ((with_reducible show wpList _ _ _ (⟨none, _, _, _, _, _⟩ :: _) _ _); refine wpList_store_agg rfl rfl 80 _ _ rfl N2 (sct X) rfl rfl 80 _ hr2 (ty80 _ HL.out) (by rw [sct_size, sct_size, HL.out]; rfl) (sct_all _) ?_; intro Z2 hrZ htZ))
      refine ret_cell1 2 80 rfl rfl N2 rfl 80 _ (0, 0) _ hrZ Try.underlying80 rfl (ty80 _ HL.out).size ⟨rfl, below_turned hW htZ (fun k hk => by subst hk; exact w2)⟩
set_option maxRecDepth 100000 in
set_option maxHeartbeats 1000000 in
theorem lawof_calls (e : M.En) (hok : e.ok) (w : World) :
    Calls Try.prog 65 #[.agg (ent e)] w fun r w' => r = .returned (.agg (ent e)) ∧ Below w.heap.size w w' := by
  have HOK := hid hok
  clear hok
  have hW := Below.refl w.heap.size w
  go_enter Try.func65, Try.ntmps65
  go_wp2_with (first | ((with_reducible show wpList _ _ _ (⟨some 1, _, _, _, _, _⟩ :: _) _ _); refine wpList_boxed 1 rfl rfl 82 _ rfl (ent e) rfl ?_; intro W1 N1 hNN1 hMN1 hr1 hb; have sW1 := hb.size; have hW := below_next hW hb) | ((with_reducible show wpList _ _ _ (⟨some 2, _, _, _, _, _⟩ :: _) _ _); refine wpList_zeroed 2 rfl rfl 91 rfl _ zero91 ?_; intro W2 N2 hN2 hM2 hr2 hb; have sW2 := hb.size; have hW := below_next hW hb; have hr1 := below_blk hb hr1; have c0 := cell_of_row _ N1 0 _ _ _ hr1; rw [ent0] at c0; have c1 := cell_of_row _ N1 1 _ _ _ hr1; rw [ent1] at c1; have c2 := cell_of_row _ N1 2 _ _ _ hr1; rw [ent2] at c2; have c3 := cell_of_row _ N1 3 _ _ _ hr1; rw [ent3] at c3; have c4 := cell_of_row _ N1 4 _ _ _ hr1; rw [ent4] at c4; have c5 := cell_of_row _ N1 5 _ _ _ hr1; rw [ent5] at c5) | ((with_reducible show wpList _ _ _ (⟨some 16, _, _, _, _, _⟩ :: _) _ _); refine wpList_load_bytesg 16 rfl rfl 80 _ rfl N1 6 rfl e.bytes _ (hasB_ent HOK.out hr1) Try.underlying80 rfl (by rw [HOK.out.1]; kernel_rfl) ?_) | ((with_reducible show wpList _ _ _ (⟨some 17, _, _, _, _, _⟩ :: _) _ _); refine wpList_build_p 17 rfl rfl 91 _ rfl #[(0, .int .i64 e.kind), (1, .int .i64 e.first), (2, .int .i64 e.count), (3, .int .i64 e.block), (4, .int .i64 e.many), (5, .int .i64 e.mate), (6, .agg (sct e.bytes))] (by kernel_rfl) (ent e) (build_ent91 _ _ _ _ _ _ _ HOK.out.1) ?_) | ((with_reducible show wpList _ _ _ (⟨none, _, _, _, _, _⟩ :: _) _ _); refine wpList_store_agg rfl rfl 91 _ _ rfl N2 (ent e) rfl rfl 91 _ hr2 (ty91 _ HOK.out) (by rw [ent_size _ M.zeroE_ok, ent_size _ HOK.out]) (ent_all _) ?_; intro Z2 hrZ htZ))
  refine ret_cell1 2 91 rfl rfl N2 rfl 91 _ (0, 0) _ hrZ Try.underlying91 rfl (ty91 _ HOK.out).size ⟨rfl, below_turned hW htZ (fun k hk => by subst hk; omega)⟩
end Go.Proofs.Ytncooadaeifekaa

/- Walk of the reference entry's Body. -/
namespace Go.Proofs.Ytncooadaeifekaa
open Go.RowKit
set_option maxRecDepth 100000 in
set_option maxHeartbeats 2000000 in
theorem rbody_calls (e : M.En) (hok : e.ok) (hr : e.right = true) (w : World) :
    Calls Try.prog 68 #[.agg (ent e)] w fun r w' => r = .returned (.agg (sct e.body)) ∧ Below w.heap.size w w' := by
  obtain ⟨⟨h1, h2⟩, ⟨h3, h4⟩, ⟨h5, h6⟩, ⟨h7, h8⟩, h9, h10⟩ := e.right_bounds hr
  have hbl := e.body_length hok
  obtain ⟨e0, first, count, block, many, mate, bs⟩ := e
  simp only at h1 h2 h3 h4 h5 h6 h7 h8 h9 h10
  obtain ⟨F, rfl⟩ : ∃ n : Nat, first = n := ⟨first.toNat, by omega⟩
  obtain ⟨C, rfl⟩ : ∃ n : Nat, count = n := ⟨count.toNat, by omega⟩
  obtain ⟨BK, rfl⟩ : ∃ n : Nat, block = n := ⟨block.toNat, by omega⟩
  obtain ⟨MN, rfl⟩ : ∃ n : Nat, many = n := ⟨many.toNat, by omega⟩
  obtain ⟨MT, rfl⟩ : ∃ n : Nat, mate = n := ⟨mate.toNat, by omega⟩
  obtain ⟨BODY, hBODY⟩ : ∃ X, X = (M.En.mk e0 F C BK MN MT bs).body := ⟨_, rfl⟩
  obtain ⟨L0, hL0⟩ : ∃ L : List Nat, L = [] := ⟨_, rfl⟩
  obtain ⟨L1, hL1⟩ : ∃ L, L = L0 ++ M.leB 6 F := ⟨_, rfl⟩
  obtain ⟨L2, hL2⟩ : ∃ L, L = L1 ++ [C] := ⟨_, rfl⟩
  obtain ⟨L3, hL3⟩ : ∃ L, L = L2 ++ [BK] := ⟨_, rfl⟩
  obtain ⟨L4, hL4⟩ : ∃ L, L = L3 ++ M.leB 2 MN := ⟨_, rfl⟩
  obtain ⟨L5, hL5⟩ : ∃ L, L = L4 ++ M.leB 2 MT := ⟨_, rfl⟩
  have hPL : L5 ++ bs = BODY := by
    rw [hBODY, M.En.body, hL5, hL4, hL3, hL2, hL1, hL0]
    have e1 : ([C] : List Nat) = M.leB 1 C := by simp [M.leB]; omega
    have e2 : ([BK] : List Nat) = M.leB 1 BK := by simp [M.leB]; omega
    simp only [Int.toNat_natCast, e1, e2, List.nil_append]
  have l1 : L1.length = 6 := by rw [hL1, List.length_append, M.leB_length, hL0]; rfl
  have l2 : L2.length = 7 := by rw [hL2, List.length_append, l1]; rfl
  have l3 : L3.length = 8 := by rw [hL3, List.length_append, l2]; rfl
  have l4 : L4.length = 10 := by rw [hL4, List.length_append, M.leB_length]; omega
  have l5 : L5.length = 12 := by rw [hL5, List.length_append, M.leB_length]; omega
  have bF : F < 72057594037927936 := by omega
  have bMN : MN < 72057594037927936 := by omega
  have bMT : MT < 72057594037927936 := by omega
  have kC : (C : Int) % 256 = C := by omega
  have kBK : (BK : Int) % 256 = BK := by omega
  have lC : C < 256 := by omega
  have lBK : BK < 256 := by omega
  rw [← hBODY] at hbl ⊢
  have HF := hid bF
  have HMN := hid bMN
  have HMT := hid bMT
  have HKC := hid kC
  have HKBK := hid kBK
  have HBC := hid lC
  have HBBK := hid lBK
  have HE1 := hid hL1.symm
  have HE2 := hid hL2.symm
  have HE3 := hid hL3.symm
  have HE4 := hid hL4.symm
  have HE5 := hid hL5.symm
  have HL1 := hid l1
  have HL2 := hid l2
  have HL3 := hid l3
  have HL4 := hid l4
  have HL5 := hid l5
  have HPL := hid hPL
  have HOK := hid hok
  have HBL := hid hbl
  have HE0 := hid hL0
  clear bF bMN bMT kC kBK lC lBK hL0 hL1 hL2 hL3 hL4 hL5 l1 l2 l3 l4 l5 hPL hok hbl hBODY h1 h2 h3 h4 h5 h6 h7 h8 h9 h10 hr
  have hW := Below.refl w.heap.size w
  go_enter Try.func68, Try.ntmps68
  go_upto_region 1 with (first | ((with_reducible show wpList _ _ _ (⟨some 1, _, _, _, _, _⟩ :: _) _ _); refine wpList_boxed 1 rfl rfl 91 _ rfl (ent ⟨e0, F, C, BK, MN, MT, bs⟩) rfl ?_; intro W1 N1 hNN1 hMN1 hf hb; have sW1 := hb.size; have hW := below_next hW hb) | ((with_reducible show wpList _ _ _ (⟨some 2, _, _, _, _, _⟩ :: _) _ _); refine wpList_zeroed 2 rfl rfl 39 rfl _ zero39 ?_; intro W2 N2 hN2 hM2 hr2 hb2; have hW := below_next hW hb2; have hf := below_blk hb2 hf))
  obtain ⟨B, hB⟩ : ∃ B, B = W2.heap.size := ⟨_, rfl⟩
  have hwB : w.heap.size ≤ B := by rw [hB]; exact hW.size
  have hNf : N1 < B := by rw [hB]; have := hb2.size; omega
  have hN2f : N2 < B := by rw [hB]; exact hM2
  have wN2 : w.heap.size ≤ N2 := by have := hb.size; omega
  have sB : B ≤ W2.heap.size := by omega
  have ho : OwnB W2 B (.slice none 0 0) L0 := by rw [HE0.out]; exact ownB_nil _ _
  clear hb hb2 hB
  go_upto_region 2 with (fail)
  have c1 := cell_of_row _ N1 1 _ _ _ hf
  rw [ent1] at c1
  have h7 : F < 72057594037927936 := HF.out
  clear h7
  go_upto_region 3 with (first | (go_at_call 59; refine (rnum_calls 6 F (by decide) HF.out _).mono ?_; rintro e y1 ⟨⟨ax, cx, rfl, hcx, hox, hhx⟩, hbx⟩; have ho := ho.mono hbx; have hf := below_blk hbx hf; have hr2 := below_blk hbx hr2; have hW := below_next hW hbx; have sB := Nat.le_trans sB hbx.size) | ((with_reducible show wpList _ _ _ (⟨some 11, _, _, _, _, _⟩ :: _) _ _); refine wpList_append_at 11 rfl rfl _ _ rfl B _ L0 (M.leB 6 F) L1 HE1.out (by rfl) ho _ cx (by rw [M.leB_length]; rfl) hhx (by rw [HL1.out]; omega) sB ?_; intro av cv y2 ho hcv hh hba; have sB := Nat.le_trans sB hba.size; have hf := below_blkB hba hNf hf; have hr2 := below_blkB hba hN2f hr2; have hW := hW.trans (hba.mono hwB)))
  clear hhx hox hbx hcx hh hcv c1
  have c2 := cell_of_row _ N1 2 _ _ _ hf
  rw [ent2] at c2
  have hkk : (C : Int) % 256 = C := HKC.out
  have hal := fun (w : World) (cs : Array Value) => (Below.refl w.heap.size w).alloc (Nat.le_refl _) (.cells cs 5)
  have HO := hid ho
  go_upto_region 4 with (first | ((with_reducible show wpList _ _ _ (⟨some 17, _, _, _, _, _⟩ :: _) _ _); refine wpList_append_at 17 rfl rfl _ _ rfl B _ L1 [C] L2 HE2.out (by rfl) (HO.out.mono (hal _ _)) _ 1 (by rfl) (hasB_one _ _ HBC.out) (by rw [HL2.out]; omega) (Nat.le_trans sB (hal _ _).size) ?_; intro av cv y2 ho hcv hh hba; have hf := below_blkB hba hNf (below_blk (hal _ _) hf); have hr2 := below_blkB hba hN2f (below_blk (hal _ _) hr2); have hW := (below_next hW (hal _ _)).trans (hba.mono hwB); have sB := Nat.le_trans (Nat.le_trans sB (hal _ _).size) hba.size))
  clear hh hcv hkk hal HO c2
  have c3 := cell_of_row _ N1 3 _ _ _ hf
  rw [ent3] at c3
  have hkk : (BK : Int) % 256 = BK := HKBK.out
  have hal := fun (w : World) (cs : Array Value) => (Below.refl w.heap.size w).alloc (Nat.le_refl _) (.cells cs 5)
  have HO := hid ho
  go_upto_region 5 with (first | ((with_reducible show wpList _ _ _ (⟨some 23, _, _, _, _, _⟩ :: _) _ _); refine wpList_append_at 23 rfl rfl _ _ rfl B _ L2 [BK] L3 HE3.out (by rfl) (HO.out.mono (hal _ _)) _ 1 (by rfl) (hasB_one _ _ HBBK.out) (by rw [HL3.out]; omega) (Nat.le_trans sB (hal _ _).size) ?_; intro av cv y2 ho hcv hh hba; have hf := below_blkB hba hNf (below_blk (hal _ _) hf); have hr2 := below_blkB hba hN2f (below_blk (hal _ _) hr2); have hW := (below_next hW (hal _ _)).trans (hba.mono hwB); have sB := Nat.le_trans (Nat.le_trans sB (hal _ _).size) hba.size))
  clear hh hcv hkk hal HO c3
  have c4 := cell_of_row _ N1 4 _ _ _ hf
  rw [ent4] at c4
  have h7 : MN < 72057594037927936 := HMN.out
  clear h7
  go_upto_region 6 with (first | (go_at_call 59; refine (rnum_calls 2 MN (by decide) HMN.out _).mono ?_; rintro e y1 ⟨⟨ax, cx, rfl, hcx, hox, hhx⟩, hbx⟩; have ho := ho.mono hbx; have hf := below_blk hbx hf; have hr2 := below_blk hbx hr2; have hW := below_next hW hbx; have sB := Nat.le_trans sB hbx.size) | ((with_reducible show wpList _ _ _ (⟨some 28, _, _, _, _, _⟩ :: _) _ _); refine wpList_append_at 28 rfl rfl _ _ rfl B _ L3 (M.leB 2 MN) L4 HE4.out (by rfl) ho _ cx (by rw [M.leB_length]; rfl) hhx (by rw [HL4.out]; omega) sB ?_; intro av cv y2 ho hcv hh hba; have sB := Nat.le_trans sB hba.size; have hf := below_blkB hba hNf hf; have hr2 := below_blkB hba hN2f hr2; have hW := hW.trans (hba.mono hwB)))
  clear hhx hox hbx hcx hh hcv c4
  have c5 := cell_of_row _ N1 5 _ _ _ hf
  rw [ent5] at c5
  have h7 : MT < 72057594037927936 := HMT.out
  clear h7
  go_upto_region 7 with (first | (go_at_call 59; refine (rnum_calls 2 MT (by decide) HMT.out _).mono ?_; rintro e y1 ⟨⟨ax, cx, rfl, hcx, hox, hhx⟩, hbx⟩; have ho := ho.mono hbx; have hf := below_blk hbx hf; have hr2 := below_blk hbx hr2; have hW := below_next hW hbx; have sB := Nat.le_trans sB hbx.size) | ((with_reducible show wpList _ _ _ (⟨some 33, _, _, _, _, _⟩ :: _) _ _); refine wpList_append_at 33 rfl rfl _ _ rfl B _ L4 (M.leB 2 MT) L5 HE5.out (by rfl) ho _ cx (by rw [M.leB_length]; rfl) hhx (by rw [HL5.out]; omega) sB ?_; intro av cv y2 ho hcv hh hba; have sB := Nat.le_trans sB hba.size; have hf := below_blkB hba hNf hf; have hr2 := below_blkB hba hN2f hr2; have hW := hW.trans (hba.mono hwB)))
  clear hhx hox hbx hcx hh hcv c5
  go_wp2
  go_loopw [3, 4] (fun v i wr => ∃ m : Nat, m ≤ 32 ∧ i = .int .i64 m ∧ OwnB wr B v (L5 ++ bs.take m) ∧ Hid (wr.heap[N1]? = some (.cells (ent ⟨e0, F, C, BK, MN, MT, bs⟩) 91 (0, 0)) ∧ wr.heap[N2]? = some (.cells (sct (List.replicate 44 0)) 39 (0, 0)) ∧ Below w.heap.size w wr ∧ B ≤ wr.heap.size)) (fun _ i _ => 32 - (intOf i).toNat)
  case atStart => exact ⟨0, Nat.zero_le _, rfl, by simpa using ho, hf, hr2, hW, sB⟩
  case round =>
    clear ho hf hr2 hW sB
    obtain ⟨m, hm, rfl, ho, HH⟩ := hrel
    by_cases hlt : m < 32
    · have hbl : bs.length = 32 := HOK.out.1
      have hLn : (L5 ++ bs.take m) ++ [nth bs m] = L5 ++ bs.take (m + 1) := by rw [take_nth bs m (by omega), List.append_assoc]
      have hLl : (L5 ++ bs.take (m + 1)).length ≤ 1000000 := by rw [List.length_append, HL5.out]; simp; omega
      obtain ⟨A, hA⟩ : ∃ A, A = L5 ++ bs.take m := ⟨_, rfl⟩
      obtain ⟨A2, hA2⟩ : ∃ A, A = L5 ++ bs.take (m + 1) := ⟨_, rfl⟩
      rw [← hA] at ho
      rw [← hA, ← hA2] at hLn
      rw [← hA2] at hLl
      have HA2 := hid hA2
      have HLn := hid hLn
      have hcell : wr.cell? ⟨N1, 6 + m, none⟩ = some (.int .u8 (nth bs m)) := by rw [cell_of_row _ _ _ _ _ _ HH.out.1]; exact ent_bytes ⟨e0, F, C, BK, MN, MT, bs⟩ m (by show m < bs.length; omega)
      have hcb := nth_lt bs HOK.out.2 m
      have hoo := ho
      obtain ⟨a1, c1, rfl, hc1, _⟩ := ho.slice
      have HOO := hid hoo
      clear hA hA2 hLn hoo ho
      go_wp2_with (first | ((with_reducible show wpList _ _ _ (⟨some 44, _, _, _, _, _⟩ :: _) _ _); refine wpList_append_at 44 rfl rfl _ _ rfl B _ A [nth bs m] A2 HLn.out (by rfl) (HOO.out.mono ((Below.refl _ _).alloc (Nat.le_refl _) _)) _ 1 (by rfl) (hasB_one _ _ hcb) hLl (by have := HH.out.2.2.2; simp; omega) ?_; intro av cv y2 ho hcv hh hba))
      go_roundw
      case rel =>
        have hal : Below wr.heap.size wr (wr.alloc (.cells #[.int .u8 (nth bs m : Nat)] 5)) := (Below.refl _ _).alloc (Nat.le_refl _) _
        refine ⟨m + 1, by omega, by go_num, by rw [← HA2.out]; exact ho, below_blkB hba hNf (below_blk hal HH.out.1), below_blkB hba hN2f (below_blk hal HH.out.2.1), (below_next HH.out.2.2.1 hal).trans (hba.mono hwB), ?_⟩
        have := hba.size
        have := HH.out.2.2.2
        simp at *; omega
      case measure => simp [intOf]; omega
    · obtain rfl : m = 32 := by omega
      have hPL : L5 ++ bs.take 32 = BODY := by rw [List.take_of_length_le (Nat.le_of_eq HOK.out.1)]; exact HPL.out
      rw [hPL] at ho
      obtain ⟨hf, hr2, hW, sB⟩ := HH.out
      obtain ⟨a1, c1, rfl, hc1, hh1⟩ := ho.slice
      clear hPL hf HH
      go_upto_region 12 with (first | ((with_reducible show wpList _ _ _ (⟨some 5, _, _, _, _, _⟩ :: _) _ _); refine wpList_zeroed 5 rfl rfl 39 rfl _ zero39 ?_; intro W5 N5 hN5 hM5 hr5 hb5; have hW := below_next hW hb5; have hr2 := below_blk hb5 hr2; have hh1 := hh1.below hb5))
      have n25 : N2 ≠ N5 := by omega
      have w5 : w.heap.size ≤ N5 := by omega
      obtain ⟨b, off, rfl, hcc⟩ := hh1.cell (by rw [HBL.out]; omega)
      have hbN : b < N5 := by
        have h1 := ho.ownLt b rfl
        omega
      rw [HBL.out] at hcc ⊢
      have HCC := hid hcc
      clear hcc hh1 ho hb5 sB hc1
      go_wp2
      go_loopw [6] (fun i wr => ∃ m : Nat, m ≤ 44 ∧ i = .int .i64 m ∧ wr.heap[N5]? = some (.cells (sct (BODY.take m ++ (List.replicate 44 0).drop m)) 39 (0, 0)) ∧ Hid (Turned (fun k => k = N5) W5 wr)) (fun i _ => 44 - (intOf i).toNat)
      case atStart => exact ⟨0, Nat.zero_le _, rfl, by simpa using hr5, Turned.refl _ _⟩
      case round =>
        obtain ⟨m, hm, rfl, hr5, HT⟩ := hrel
        by_cases hlt : m < 44
        · have hsl := HBL.out
          have hcell : wr.cell? ⟨b, off + m, none⟩ = some (.int .u8 (nth BODY m)) := by
            rw [← HCC.out m hlt]
            exact World.cell?_of_block (w := W5) (HT.out.block b (by omega) (by omega))
          have hset : (sct (BODY.take m ++ (List.replicate 44 0).drop m)).setIfInBounds m (.int .u8 (nth BODY m)) = sct (BODY.take (m + 1) ++ (List.replicate 44 0).drop (m + 1)) := by
            rw [sct_put, set_copyE _ _ m (by rw [HBL.out]; simp) (by omega)]
          have HSET := hid hset
          have hsz : (sct (BODY.take m ++ (List.replicate 44 0).drop m)).size = 44 := by rw [sct_size]; simp; omega
          have HSZ := hid hsz
          have HR5 := hid hr5
          clear hset hsz hr5
          go_wp2_with (first | ((with_reducible show wpList _ _ _ (⟨none, _, _, _, _, _⟩ :: _) _ _); refine wpList_store_cell rfl rfl 5 _ _ rfl N5 m .u8 (nth BODY m) rfl rfl size5 39 _ _ HR5.out (by rw [HSZ.out]; omega) HSET.out ?_; intro Y hrY htY))
          go_roundw
          case rel => exact ⟨m + 1, by omega, by go_num, hrY, HT.out.trans htY fun i hi => .inl hi⟩
          case measure => simp [intOf]; omega
        · obtain rfl : m = 44 := by omega
          have e : BODY.take 44 ++ (List.replicate 44 0).drop 44 = BODY := by rw [List.take_of_length_le (Nat.le_of_eq HBL.out), List.drop_eq_nil_of_le (by simp), List.append_nil]
          rw [e] at hr5
          have hr2 := HT.out.blk hr2 (fun h => n25 h)
          have hW := below_turned hW HT.out (fun k hk => by subst hk; exact w5)
          go_wp2_with (first | ((with_reducible show wpList _ _ _ (⟨some 57, _, _, _, _, _⟩ :: _) _ _); refine wpList_load_row rfl _ _ rfl N5 rfl 39 (sct BODY) (0, 0) _ hr5 Try.underlying39 rfl (ty39 _ HBL.out).size ?_) | ((with_reducible show wpList _ _ _ (⟨none, _, _, _, _, _⟩ :: _) _ _); refine wpList_store_agg rfl rfl 39 _ _ rfl N2 (sct BODY) rfl rfl 39 _ hr2 (ty39 _ HBL.out) (by rw [sct_size, sct_size, HBL.out]; rfl) (sct_all _) ?_; intro Z2 hrZ htZ))
          refine ret_cell1 2 39 rfl rfl N2 rfl 39 _ (0, 0) _ hrZ Try.underlying39 rfl (ty39 _ HBL.out).size ⟨rfl, below_turned hW htZ (fun k hk => by subst hk; exact wN2)⟩
end Go.Proofs.Ytncooadaeifekaa

/- Walk of the reference frame's Right. -/
namespace Go.Proofs.Ytncooadaeifekaa
open Go.RowKit
set_option maxRecDepth 100000 in
set_option maxHeartbeats 4000000 in
theorem rright_calls (f : M.Fr) (w : World) :
    Calls Try.prog 39 #[.agg (frm f)] w fun e w' => e = .returned (.bool f.right) ∧ Below w.heap.size w w' := by
  by_cases p0 : 1 ≤ f.kind
  · skip
    by_cases p1 : f.kind ≤ 5
    · skip
      by_cases p2 : 0 ≤ f.zone
      · skip
        by_cases p3 : f.zone ≤ 65535
        · skip
          by_cases p4 : 0 ≤ f.off
          · skip
            by_cases p5 : f.off ≤ 65535
            · skip
              by_cases p6 : 1 ≤ f.epoch
              · skip
                by_cases p7 : f.epoch ≤ 4294967295
                · skip
                  by_cases p8 : 0 ≤ f.seq
                  · skip
                    by_cases p9 : f.seq ≤ 281474976710655
                    · skip
                      have hr : f.right = true := by
                        unfold M.Fr.right; rw [decide_eq_true_iff]; exact ⟨⟨p0, p1⟩, ⟨p2, p3⟩, ⟨p4, p5⟩, ⟨p6, p7⟩, p8, p9⟩
                      rw [hr]
                      have q0 := decide_eq_true p0
                      have q1 := decide_eq_true p1
                      have q2 := decide_eq_true p2
                      have q3 := decide_eq_true p3
                      have q4 := decide_eq_true p4
                      have q5 := decide_eq_true p5
                      have q6 := decide_eq_true p6
                      have q7 := decide_eq_true p7
                      have q8 := decide_eq_true p8
                      have q9 := decide_eq_true p9
                      clear hr p0 p1 p2 p3 p4 p5 p6 p7 p8 p9
                      go_enter Try.func39, Try.ntmps39
                      go_wp2_with (first | ((with_reducible show wpList _ _ _ (⟨some 1, _, _, _, _, _⟩ :: _) _ _); refine wpList_boxed 1 rfl rfl 42 _ rfl (frm f) rfl ?_; intro W1 N1 hN1 hM1 hr1 hb1; have c0 := cell_of_row _ N1 0 _ _ _ hr1; rw [frm0] at c0; have c1 := cell_of_row _ N1 1 _ _ _ hr1; rw [frm1] at c1; have c2 := cell_of_row _ N1 2 _ _ _ hr1; rw [frm2] at c2; have c3 := cell_of_row _ N1 3 _ _ _ hr1; rw [frm3] at c3; have c4 := cell_of_row _ N1 4 _ _ _ hr1; rw [frm4] at c4; clear hr1))
                      go_ret
                      exact ⟨rfl, hb1⟩
                    · skip
                      have hr : f.right = false := by
                        unfold M.Fr.right; rw [decide_eq_false_iff_not]; intro h; exact p9 h.2.2.2.2.2
                      rw [hr]
                      have q0 := decide_eq_true p0
                      have q1 := decide_eq_true p1
                      have q2 := decide_eq_true p2
                      have q3 := decide_eq_true p3
                      have q4 := decide_eq_true p4
                      have q5 := decide_eq_true p5
                      have q6 := decide_eq_true p6
                      have q7 := decide_eq_true p7
                      have q8 := decide_eq_true p8
                      have q9 := decide_eq_false p9
                      clear hr p0 p1 p2 p3 p4 p5 p6 p7 p8 p9
                      go_enter Try.func39, Try.ntmps39
                      go_wp2_with (first | ((with_reducible show wpList _ _ _ (⟨some 1, _, _, _, _, _⟩ :: _) _ _); refine wpList_boxed 1 rfl rfl 42 _ rfl (frm f) rfl ?_; intro W1 N1 hN1 hM1 hr1 hb1; have c0 := cell_of_row _ N1 0 _ _ _ hr1; rw [frm0] at c0; have c1 := cell_of_row _ N1 1 _ _ _ hr1; rw [frm1] at c1; have c2 := cell_of_row _ N1 2 _ _ _ hr1; rw [frm2] at c2; have c3 := cell_of_row _ N1 3 _ _ _ hr1; rw [frm3] at c3; have c4 := cell_of_row _ N1 4 _ _ _ hr1; rw [frm4] at c4; clear hr1))
                      go_ret
                      exact ⟨rfl, hb1⟩
                  · skip
                    have hr : f.right = false := by
                      unfold M.Fr.right; rw [decide_eq_false_iff_not]; intro h; exact p8 h.2.2.2.2.1
                    rw [hr]
                    have q0 := decide_eq_true p0
                    have q1 := decide_eq_true p1
                    have q2 := decide_eq_true p2
                    have q3 := decide_eq_true p3
                    have q4 := decide_eq_true p4
                    have q5 := decide_eq_true p5
                    have q6 := decide_eq_true p6
                    have q7 := decide_eq_true p7
                    have q8 := decide_eq_false p8
                    clear hr p0 p1 p2 p3 p4 p5 p6 p7 p8
                    go_enter Try.func39, Try.ntmps39
                    go_wp2_with (first | ((with_reducible show wpList _ _ _ (⟨some 1, _, _, _, _, _⟩ :: _) _ _); refine wpList_boxed 1 rfl rfl 42 _ rfl (frm f) rfl ?_; intro W1 N1 hN1 hM1 hr1 hb1; have c0 := cell_of_row _ N1 0 _ _ _ hr1; rw [frm0] at c0; have c1 := cell_of_row _ N1 1 _ _ _ hr1; rw [frm1] at c1; have c2 := cell_of_row _ N1 2 _ _ _ hr1; rw [frm2] at c2; have c3 := cell_of_row _ N1 3 _ _ _ hr1; rw [frm3] at c3; have c4 := cell_of_row _ N1 4 _ _ _ hr1; rw [frm4] at c4; clear hr1))
                    go_ret
                    exact ⟨rfl, hb1⟩
                · skip
                  have hr : f.right = false := by
                    unfold M.Fr.right; rw [decide_eq_false_iff_not]; intro h; exact p7 h.2.2.2.1.2
                  rw [hr]
                  have q0 := decide_eq_true p0
                  have q1 := decide_eq_true p1
                  have q2 := decide_eq_true p2
                  have q3 := decide_eq_true p3
                  have q4 := decide_eq_true p4
                  have q5 := decide_eq_true p5
                  have q6 := decide_eq_true p6
                  have q7 := decide_eq_false p7
                  clear hr p0 p1 p2 p3 p4 p5 p6 p7
                  go_enter Try.func39, Try.ntmps39
                  go_wp2_with (first | ((with_reducible show wpList _ _ _ (⟨some 1, _, _, _, _, _⟩ :: _) _ _); refine wpList_boxed 1 rfl rfl 42 _ rfl (frm f) rfl ?_; intro W1 N1 hN1 hM1 hr1 hb1; have c0 := cell_of_row _ N1 0 _ _ _ hr1; rw [frm0] at c0; have c1 := cell_of_row _ N1 1 _ _ _ hr1; rw [frm1] at c1; have c2 := cell_of_row _ N1 2 _ _ _ hr1; rw [frm2] at c2; have c3 := cell_of_row _ N1 3 _ _ _ hr1; rw [frm3] at c3; have c4 := cell_of_row _ N1 4 _ _ _ hr1; rw [frm4] at c4; clear hr1))
                  go_ret
                  exact ⟨rfl, hb1⟩
              · skip
                have hr : f.right = false := by
                  unfold M.Fr.right; rw [decide_eq_false_iff_not]; intro h; exact p6 h.2.2.2.1.1
                rw [hr]
                have q0 := decide_eq_true p0
                have q1 := decide_eq_true p1
                have q2 := decide_eq_true p2
                have q3 := decide_eq_true p3
                have q4 := decide_eq_true p4
                have q5 := decide_eq_true p5
                have q6 := decide_eq_false p6
                clear hr p0 p1 p2 p3 p4 p5 p6
                go_enter Try.func39, Try.ntmps39
                go_wp2_with (first | ((with_reducible show wpList _ _ _ (⟨some 1, _, _, _, _, _⟩ :: _) _ _); refine wpList_boxed 1 rfl rfl 42 _ rfl (frm f) rfl ?_; intro W1 N1 hN1 hM1 hr1 hb1; have c0 := cell_of_row _ N1 0 _ _ _ hr1; rw [frm0] at c0; have c1 := cell_of_row _ N1 1 _ _ _ hr1; rw [frm1] at c1; have c2 := cell_of_row _ N1 2 _ _ _ hr1; rw [frm2] at c2; have c3 := cell_of_row _ N1 3 _ _ _ hr1; rw [frm3] at c3; have c4 := cell_of_row _ N1 4 _ _ _ hr1; rw [frm4] at c4; clear hr1))
                go_ret
                exact ⟨rfl, hb1⟩
            · skip
              have hr : f.right = false := by
                unfold M.Fr.right; rw [decide_eq_false_iff_not]; intro h; exact p5 h.2.2.1.2
              rw [hr]
              have q0 := decide_eq_true p0
              have q1 := decide_eq_true p1
              have q2 := decide_eq_true p2
              have q3 := decide_eq_true p3
              have q4 := decide_eq_true p4
              have q5 := decide_eq_false p5
              clear hr p0 p1 p2 p3 p4 p5
              go_enter Try.func39, Try.ntmps39
              go_wp2_with (first | ((with_reducible show wpList _ _ _ (⟨some 1, _, _, _, _, _⟩ :: _) _ _); refine wpList_boxed 1 rfl rfl 42 _ rfl (frm f) rfl ?_; intro W1 N1 hN1 hM1 hr1 hb1; have c0 := cell_of_row _ N1 0 _ _ _ hr1; rw [frm0] at c0; have c1 := cell_of_row _ N1 1 _ _ _ hr1; rw [frm1] at c1; have c2 := cell_of_row _ N1 2 _ _ _ hr1; rw [frm2] at c2; have c3 := cell_of_row _ N1 3 _ _ _ hr1; rw [frm3] at c3; have c4 := cell_of_row _ N1 4 _ _ _ hr1; rw [frm4] at c4; clear hr1))
              go_ret
              exact ⟨rfl, hb1⟩
          · skip
            have hr : f.right = false := by
              unfold M.Fr.right; rw [decide_eq_false_iff_not]; intro h; exact p4 h.2.2.1.1
            rw [hr]
            have q0 := decide_eq_true p0
            have q1 := decide_eq_true p1
            have q2 := decide_eq_true p2
            have q3 := decide_eq_true p3
            have q4 := decide_eq_false p4
            clear hr p0 p1 p2 p3 p4
            go_enter Try.func39, Try.ntmps39
            go_wp2_with (first | ((with_reducible show wpList _ _ _ (⟨some 1, _, _, _, _, _⟩ :: _) _ _); refine wpList_boxed 1 rfl rfl 42 _ rfl (frm f) rfl ?_; intro W1 N1 hN1 hM1 hr1 hb1; have c0 := cell_of_row _ N1 0 _ _ _ hr1; rw [frm0] at c0; have c1 := cell_of_row _ N1 1 _ _ _ hr1; rw [frm1] at c1; have c2 := cell_of_row _ N1 2 _ _ _ hr1; rw [frm2] at c2; have c3 := cell_of_row _ N1 3 _ _ _ hr1; rw [frm3] at c3; have c4 := cell_of_row _ N1 4 _ _ _ hr1; rw [frm4] at c4; clear hr1))
            go_ret
            exact ⟨rfl, hb1⟩
        · skip
          have hr : f.right = false := by
            unfold M.Fr.right; rw [decide_eq_false_iff_not]; intro h; exact p3 h.2.1.2
          rw [hr]
          have q0 := decide_eq_true p0
          have q1 := decide_eq_true p1
          have q2 := decide_eq_true p2
          have q3 := decide_eq_false p3
          clear hr p0 p1 p2 p3
          go_enter Try.func39, Try.ntmps39
          go_wp2_with (first | ((with_reducible show wpList _ _ _ (⟨some 1, _, _, _, _, _⟩ :: _) _ _); refine wpList_boxed 1 rfl rfl 42 _ rfl (frm f) rfl ?_; intro W1 N1 hN1 hM1 hr1 hb1; have c0 := cell_of_row _ N1 0 _ _ _ hr1; rw [frm0] at c0; have c1 := cell_of_row _ N1 1 _ _ _ hr1; rw [frm1] at c1; have c2 := cell_of_row _ N1 2 _ _ _ hr1; rw [frm2] at c2; have c3 := cell_of_row _ N1 3 _ _ _ hr1; rw [frm3] at c3; have c4 := cell_of_row _ N1 4 _ _ _ hr1; rw [frm4] at c4; clear hr1))
          go_ret
          exact ⟨rfl, hb1⟩
      · skip
        have hr : f.right = false := by
          unfold M.Fr.right; rw [decide_eq_false_iff_not]; intro h; exact p2 h.2.1.1
        rw [hr]
        have q0 := decide_eq_true p0
        have q1 := decide_eq_true p1
        have q2 := decide_eq_false p2
        clear hr p0 p1 p2
        go_enter Try.func39, Try.ntmps39
        go_wp2_with (first | ((with_reducible show wpList _ _ _ (⟨some 1, _, _, _, _, _⟩ :: _) _ _); refine wpList_boxed 1 rfl rfl 42 _ rfl (frm f) rfl ?_; intro W1 N1 hN1 hM1 hr1 hb1; have c0 := cell_of_row _ N1 0 _ _ _ hr1; rw [frm0] at c0; have c1 := cell_of_row _ N1 1 _ _ _ hr1; rw [frm1] at c1; have c2 := cell_of_row _ N1 2 _ _ _ hr1; rw [frm2] at c2; have c3 := cell_of_row _ N1 3 _ _ _ hr1; rw [frm3] at c3; have c4 := cell_of_row _ N1 4 _ _ _ hr1; rw [frm4] at c4; clear hr1))
        go_ret
        exact ⟨rfl, hb1⟩
    · skip
      have hr : f.right = false := by
        unfold M.Fr.right; rw [decide_eq_false_iff_not]; intro h; exact p1 h.1.2
      rw [hr]
      have q0 := decide_eq_true p0
      have q1 := decide_eq_false p1
      clear hr p0 p1
      go_enter Try.func39, Try.ntmps39
      go_wp2_with (first | ((with_reducible show wpList _ _ _ (⟨some 1, _, _, _, _, _⟩ :: _) _ _); refine wpList_boxed 1 rfl rfl 42 _ rfl (frm f) rfl ?_; intro W1 N1 hN1 hM1 hr1 hb1; have c0 := cell_of_row _ N1 0 _ _ _ hr1; rw [frm0] at c0; have c1 := cell_of_row _ N1 1 _ _ _ hr1; rw [frm1] at c1; have c2 := cell_of_row _ N1 2 _ _ _ hr1; rw [frm2] at c2; have c3 := cell_of_row _ N1 3 _ _ _ hr1; rw [frm3] at c3; have c4 := cell_of_row _ N1 4 _ _ _ hr1; rw [frm4] at c4; clear hr1))
      go_ret
      exact ⟨rfl, hb1⟩
  · skip
    have hr : f.right = false := by
      unfold M.Fr.right; rw [decide_eq_false_iff_not]; intro h; exact p0 h.1.1
    rw [hr]
    have q0 := decide_eq_false p0
    clear hr p0
    go_enter Try.func39, Try.ntmps39
    go_wp2_with (first | ((with_reducible show wpList _ _ _ (⟨some 1, _, _, _, _, _⟩ :: _) _ _); refine wpList_boxed 1 rfl rfl 42 _ rfl (frm f) rfl ?_; intro W1 N1 hN1 hM1 hr1 hb1; have c0 := cell_of_row _ N1 0 _ _ _ hr1; rw [frm0] at c0; have c1 := cell_of_row _ N1 1 _ _ _ hr1; rw [frm1] at c1; have c2 := cell_of_row _ N1 2 _ _ _ hr1; rw [frm2] at c2; have c3 := cell_of_row _ N1 3 _ _ _ hr1; rw [frm3] at c3; have c4 := cell_of_row _ N1 4 _ _ _ hr1; rw [frm4] at c4; clear hr1))
    go_ret
    exact ⟨rfl, hb1⟩
end Go.Proofs.Ytncooadaeifekaa

/- Plain laws: a sealed sector of which bits in a row are turned is none. No program in sight. -/
namespace Go.Proofs.Ytncooadaeifekaa.M
theorem bitL_xorL (a b : List Nat) (h : a.length = b.length) (j : Nat) : bitL (xorL a b) j = (bitL a j ^^ bitL b j) := by
  unfold bitL
  rw [← Nat.testBit_xor]
  congr 1
  unfold xorL
  by_cases hj : j / 8 < a.length
  · rw [List.getD, List.getElem?_eq_getElem (show j / 8 < (List.zipWith (· ^^^ ·) a b).length by simp; omega), Option.getD_some, List.getElem_zipWith]
    simp [List.getD, hj, show j / 8 < b.length by omega]
  · rw [List.getD, List.getD, List.getD, List.getElem?_eq_none (by simp; omega), List.getElem?_eq_none (by omega), List.getElem?_eq_none (by omega)]; rfl
theorem xorL_comm_self (s l : List Nat) (h : s.length = l.length) : xorL s (xorL s l) = l := by
  apply List.ext_getElem (by simp [xorL]; omega)
  intro i h1 h2
  simp [xorL, ← Nat.xor_assoc]
theorem sealed_iff60 (s : List Nat) : sealed s = true ↔ s.drop 60 = leB 4 (crc (s.take 60)) := by simp [sealed]
theorem flips_unsealed (s l : List Nat) (hs : s.length = 64) (hl : l.length = 64) (bs : ∀ c ∈ s, c < 256) (bl : ∀ c ∈ l, c < 256) (h : sealed s = true) (word a : Nat) (hw : 0 < word) (hw2 : word < 4294967296) (ha : a + 32 ≤ 512)
    (hb : ∀ j, bitL l j = (bitL s j ^^ (decide (a ≤ j ∧ j < a + 32) && word.testBit (j - a)))) : sealed l = false := by
  have hp : (xorL s l).length = 64 := by rw [xorL_length _ _ (by omega)]; exact hs
  have hne : over 0 (xorL s l) ≠ 0 := burst_ne _ (xorL_lt _ _ bs bl) word a hw hw2 (by rw [hp]; exact ha) fun j _ => by
    rw [bitL_xorL _ _ (by omega), hb j]
    cases bitL s j <;> simp
  cases hq : sealed l with
  | false => rfl
  | true =>
    exfalso
    apply hne
    have := (spoilt_iff s (xorL s l) 60 (by omega) (by omega) bs (xorL_lt _ _ bs bl) ((sealed_iff60 s).1 h)).1
    rw [xorL_comm_self s l (by omega)] at this
    exact this ((sealed_iff60 l).1 hq)
end Go.Proofs.Ytncooadaeifekaa.M

/- Walks of a sector's Sum and of the reference's Read. -/
namespace Go.Proofs.Ytncooadaeifekaa
open Go.RowKit Go.BigFrame
set_option maxRecDepth 100000 in
set_option maxHeartbeats 400000 in
theorem fsum_calls (s : List Nat) (hs : s.length = 64) (hb : ∀ c ∈ s, c < 256) (w : World) :
    Calls Try.prog 72 #[.agg (sct s)] w fun e w' => e = .returned (.int .i64 (M.leV (s.drop 60))) ∧ Below w.heap.size w w' := by
  obtain ⟨V, hV⟩ : ∃ V, M.leV ((s.drop 60).take 4) = V := ⟨_, rfl⟩
  have h60 : (s.drop 60).length = 4 := by simp; omega
  have e60 : (s.drop 60).take 4 = s.drop 60 := List.take_of_length_le (by omega)
  have eV : M.leV (s.drop 60) = V := by rw [← hV, e60]
  rw [eV]
  have HS := hid hs
  have HB := hid hb
  have HV := hid hV
  have H60 := hid h60
  have E60 := hid e60
  clear hs hb hV h60 e60 eV
  have hW := Below.refl w.heap.size w
  go_enter Try.func72, Try.ntmps72
  go_wp2_with (first | ((with_reducible show wpList _ _ _ (⟨some 1, _, _, _, _, _⟩ :: _) _ _); refine wpList_boxed 1 rfl rfl 44 _ rfl (sct s) rfl ?_; intro W1 N1 hNN1 hMN1 hr1 hb; have sW1 := hb.size; have hW := below_next hW hb; have hd60 := hasB_part HB.out hr1 60 4; rw [E60.out] at hd60) | (go_at_call 49; refine (rnewR 4 _ (s.drop 60) H60.out 4 _ hd60 (by omega)).mono ?_; rintro e y1 ⟨⟨R, rfl, hrd, hR1, hR2⟩, hb1⟩; have wR : w.heap.size ≤ R := Nat.le_trans hW.size hR1; have hW := below_next hW hb1) | (go_at_call 56; refine (rdNumR R _ _ 4 (s.drop 60) [] V HV.out (List.drop_eq_nil_of_le (by rw [H60.out]; exact Nat.le_refl _)) _ hrd (by omega) (by omega) (by rw [H60.out]; omega) (by rw [H60.out]; omega)).mono ?_; rintro e y2 ⟨rfl, hrd2, ht⟩; have hW := below_turned hW ht (fun k hk => by subst hk; exact wR)))
  go_ret
  exact ⟨rfl, hW⟩
theorem take_one (l : List Nat) (h : 0 < l.length) : l.take 1 = [nth l 0] := by
  cases l with
  | nil => simp at h
  | cons c l => simp [nth]
theorem set_copyB (t p : List Nat) (m : Nat) (hl : t.length = p.length) (hm : m < p.length) : (p.take m ++ t.drop m).set m (nth p m) = p.take (m + 1) ++ t.drop (m + 1) := by
  have h1 : (p.take m).length = m := by simp; omega
  rw [List.set_append_right _ _ (by omega), h1, Nat.sub_self, List.drop_eq_getElem_cons (by omega : m < t.length), List.set_cons_zero, take_nth p m hm, List.append_assoc]
  rfl
theorem rright_b (f : M.Fr) (b : Bool) (h : f.right = b) (w : World) : Calls Try.prog 39 #[.agg (frm f)] w fun e w' => e = .returned (.bool b) ∧ Below w.heap.size w w' := by subst h; exact rright_calls f w
theorem sealed_val (s : List Nat) (hs : s.length = 64) (hb : ∀ c ∈ s, c < 256) : M.sealed s = true ↔ M.leV (s.drop 60) = M.crc (s.take 60) := by
  rw [M.sealed_iff60]
  have hl : (s.drop 60).length = 4 := by simp; omega
  have hd : ∀ c ∈ s.drop 60, c < 256 := fun c hc => hb c (List.mem_of_mem_drop hc)
  have hv : M.leB 4 (M.leV (s.drop 60)) = s.drop 60 := by have := M.leB_leV (s.drop 60) hd; rw [hl] at this; exact this
  constructor
  · intro h
    rw [h]
    exact M.leV_leB 4 _ (M.crc_lt _ fun c hc => hb c (List.mem_of_mem_take hc))
  · intro h
    rw [← h, hv]
set_option maxRecDepth 100000 in
set_option maxHeartbeats 1000000 in
theorem rread_un (s : List Nat) (hs : s.length = 64) (hb : ∀ c ∈ s, c < 256) (he : M.sealed s = false) (w : World) :
    Calls Try.prog 71 #[.agg (sct s)] w fun e w' => e = .returned (.tuple #[.agg (frm (M.dec s).1), .int .i64 (M.dec s).2]) ∧ Below w.heap.size w w' := by
  have hu := M.unFr_ok s (by omega) hb
  obtain ⟨D, hD⟩ : ∃ D, D = M.dec s := ⟨_, rfl⟩
  obtain ⟨V, hV⟩ : ∃ V, M.leV (s.drop 60) = V := ⟨_, rfl⟩
  obtain ⟨C, hC⟩ : ∃ C, M.crc (s.take 60) = C := ⟨_, rfl⟩
  have hCL : C < 4294967296 := by rw [← hC]; exact M.crc_lt _ fun c hc => hb c (List.mem_of_mem_take hc)
  have h60 : (s.drop 60).length = 4 := by simp; omega
  have ht6 : (s.take 60).length = 60 := by simp; omega
  have hse := sealed_val s hs hb
  rw [hV, hC] at hse
  rw [← hD]
  have HS := hid hs
  have HB := hid hb
  have HU := hid hu
  have HV := hid hV
  have HC := hid hC
  have HCL := hid hCL
  have HD60 := hid h60
  have HT60 := hid ht6
  have HNE : Hid (((V : Int) != (C : Int)) = true) := by
    show _ = _
    rw [bne_iff_ne]; intro h
    rw [hse.2 (by omega)] at he; cases he
  have HDV : Hid (D = (M.Fr.zero, 11)) := by show _ = _; rw [hD, M.dec_unsealed s he]
  clear hs hb hu hD hV hC hCL h60 ht6 hse he
  have hW := Below.refl w.heap.size w
  go_enter Try.func71, Try.ntmps71
  go_upto_region 2 with (first | ((with_reducible show wpList _ _ _ (⟨some 1, _, _, _, _, _⟩ :: _) _ _); refine wpList_boxed 1 rfl rfl 43 _ rfl (sct s) rfl ?_; intro W1 N1 hNN1 hMN1 hr1 hb; have sW1 := hb.size; have hW := below_next hW hb) | ((with_reducible show wpList _ _ _ (⟨some 2, _, _, _, _, _⟩ :: _) _ _); refine wpList_zeroed 2 rfl rfl 42 rfl _ zero42 ?_; intro W2 N2 hN2 hM2 hr2 hb; have sW2 := hb.size; have hW := below_next hW hb; have hr1 := below_blk hb hr1))
  have w2 : w.heap.size ≤ N2 := by omega
  have ht60 := (hasB_sct HB.out hr1).take 60
  have hd60 : HasB W2 (some ⟨N1, 60, none⟩) (s.drop 60) := by
    have h := hasB_part HB.out hr1 60 4
    rw [List.take_of_length_le (by rw [HD60.out]; exact Nat.le_refl _)] at h
    exact h
  refine wp_region_frame (spec := [none, none, none, none, none, none, none, none]) (vals := [.slice (some ⟨N1, 0, none⟩) 64 64, .slice (some ⟨N1, 60, none⟩) 4 4, .int .i64 V, .slice (some ⟨N1, 0, none⟩) 64 64, .slice (some ⟨N1, 0, none⟩) 60 64, .int .u32 C, .int .i64 C, .bool true]) (by kernel_rfl) (by kernel_rfl) (by kernel_rfl) (by kernel_rfl) ?hst (fun hF => ?hobl) ?hQ
  case hst => exact trivial
  case hobl =>
    refine ⟨?_, ?_, ?_, ?_, ?_, ?_, ?_, ?_, trivial⟩
    · refine fun ho => obl_det hF (by kernel_rfl) (by kernel_rfl) ho (by kernel_rfl) (fun wx hbx => ?_); rw [if_pos (by kernel_rfl)]; with_reducible exact grows_det (.slice (some ⟨N1, 0, none⟩) 64 64) (by kernel_rfl) (by kernel_rfl) (by kernel_rfl)
    · refine fun ho => obl_det hF (by kernel_rfl) (by kernel_rfl) ho (by kernel_rfl) (fun wx hbx => ?_); rw [if_pos (by kernel_rfl)]; with_reducible exact grows_det (.slice (some ⟨N1, 60, none⟩) 4 4) (by kernel_rfl) (by kernel_rfl) (by kernel_rfl)
    · refine fun ho => obl_det hF (by kernel_rfl) (by kernel_rfl) ho (by kernel_rfl) (fun wx hbx => ?_); rw [if_pos (by kernel_rfl)]; with_reducible exact grows_call 57 #[.slice (some ⟨N1, 60, none⟩) 4 4] (.int .i64 V) (by kernel_rfl) (readN 4 _ (s.drop 60) HD60.out 4 V HV.out wx (hd60.below hbx) (by omega)) (by kernel_rfl) (by kernel_rfl)
    · refine fun ho => obl_det hF (by kernel_rfl) (by kernel_rfl) ho (by kernel_rfl) (fun wx hbx => ?_); rw [if_pos (by kernel_rfl)]; with_reducible exact grows_det (.slice (some ⟨N1, 0, none⟩) 64 64) (by kernel_rfl) (by kernel_rfl) (by kernel_rfl)
    · refine fun ho => obl_det hF (by kernel_rfl) (by kernel_rfl) ho (by kernel_rfl) (fun wx hbx => ?_); rw [if_pos (by kernel_rfl)]; with_reducible exact grows_det (.slice (some ⟨N1, 0, none⟩) 60 64) (by kernel_rfl) (by kernel_rfl) (by kernel_rfl)
    · refine fun ho => obl_det hF (by kernel_rfl) (by kernel_rfl) ho (by kernel_rfl) (fun wx hbx => ?_); rw [if_pos (by kernel_rfl)]; with_reducible exact grows_call 34 #[.slice (some ⟨N1, 0, none⟩) 60 64] (.int .u32 C) (by kernel_rfl) (rsumC 60 _ (s.take 60) HT60.out 64 C HC.out wx (ht60.below hbx) (by omega)) (by kernel_rfl) (by kernel_rfl)
    · refine fun ho => obl_det hF (by kernel_rfl) (by kernel_rfl) ho (by kernel_rfl) (fun wx hbx => ?_); rw [if_pos (by kernel_rfl)]; with_reducible exact grows_det (.int .i64 C) (op_conv_u32 (.tmp 13) (by kernel_rfl) C (by kernel_rfl) HCL.out) (by kernel_rfl) (by kernel_rfl)
    · refine fun ho => obl_det hF (by kernel_rfl) (by kernel_rfl) ho (by kernel_rfl) (fun wx hbx => ?_); rw [if_pos (by kernel_rfl)]; with_reducible exact grows_det (.bool true) (op_neq_i (t := 3) (u := 3) (.tmp 10) (.tmp 14) (by kernel_rfl) .i64 V C (by kernel_rfl) (by kernel_rfl) true HNE.out) (by kernel_rfl) (by kernel_rfl)
  case hQ =>
    intro wy hby
    simp only [each, putAll, Act.put, List.setIfInBounds_toArray, List.set_cons_succ, List.set_cons_zero]
    have hW := below_next hW hby
    have hr1 := below_blk hby hr1
    have hr2 := below_blk hby hr2
    clear hby hd60 ht60 hb
    go_wp2_with (first | ((with_reducible show wpList _ _ _ (⟨some 16, _, _, _, _, _⟩ :: _) _ _); refine wpList_build_as 16 rfl rfl 42 _ rfl (frm M.Fr.zero) build_zero42 ?_) | ((with_reducible show wpList _ _ _ (⟨none, _, _, _, _, _⟩ :: _) _ _); refine wpList_store_agg rfl rfl 42 _ _ rfl N2 (frm M.Fr.zero) rfl rfl 42 _ hr2 (ty42' _ M.zero_ok) (rfl) (frm_all _) ?_; intro Z2 hrZ htZ))
    refine ret_cell 2 3 42 rfl rfl N2 rfl 42 _ (0, 0) _ hrZ Try.underlying42 rfl (ty42' _ M.zero_ok).size _ rfl ⟨by rw [HDV.out]; rfl, below_turned hW htZ (fun k hk => by subst hk; exact w2)⟩
set_option maxRecDepth 100000 in
set_option maxHeartbeats 2000000 in
theorem rread_se (s : List Nat) (hs : s.length = 64) (hb : ∀ c ∈ s, c < 256) (he : M.sealed s = true) (w : World) :
    Calls Try.prog 71 #[.agg (sct s)] w fun e w' => e = .returned (.tuple #[.agg (frm (M.dec s).1), .int .i64 (M.dec s).2]) ∧ Below w.heap.size w w' := by
  have hu := M.unFr_ok s (by omega) hb
  obtain ⟨D, hD⟩ : ∃ D, D = M.dec s := ⟨_, rfl⟩
  obtain ⟨V, hV⟩ : ∃ V, M.leV (s.drop 60) = V := ⟨_, rfl⟩
  obtain ⟨C, hC⟩ : ∃ C, M.crc (s.take 60) = C := ⟨_, rfl⟩
  have hCL : C < 4294967296 := by rw [← hC]; exact M.crc_lt _ fun c hc => hb c (List.mem_of_mem_take hc)
  have h60 : (s.drop 60).length = 4 := by simp; omega
  have ht6 : (s.take 60).length = 60 := by simp; omega
  have hse := sealed_val s hs hb
  rw [hV, hC] at hse
  rw [← hD]
  have HS := hid hs
  have HB := hid hb
  have HU := hid hu
  have HV := hid hV
  have HC := hid hC
  have HCL := hid hCL
  have HD60 := hid h60
  have HT60 := hid ht6
  have HNE : Hid (((V : Int) != (C : Int)) = false) := by
    show _ = _
    rw [bne_eq_false_iff_eq]; have := hse.1 he; omega
  obtain ⟨K0, hK0⟩ : ∃ K, K = nth s 0 := ⟨_, rfl⟩
  obtain ⟨VR, hVR⟩ : ∃ K, K = nth s 1 := ⟨_, rfl⟩
  obtain ⟨Z, hZ⟩ : ∃ K, M.leV ((s.drop 2).take 2) = K := ⟨_, rfl⟩
  obtain ⟨O, hO⟩ : ∃ K, M.leV ((s.drop 4).take 2) = K := ⟨_, rfl⟩
  obtain ⟨E, hE⟩ : ∃ K, M.leV ((s.drop 6).take 4) = K := ⟨_, rfl⟩
  obtain ⟨S, hS⟩ : ∃ K, M.leV ((s.drop 10).take 6) = K := ⟨_, rfl⟩
  obtain ⟨BD, hBD⟩ : ∃ K, (s.drop 16).take 44 = K := ⟨_, rfl⟩
  have hbl : BD.length = 44 := by rw [← hBD]; simp; omega
  have hbn : ∀ i, i < 44 → nth BD i = nth s (16 + i) := fun i hi => by rw [← hBD]; simp [nth, hi]
  have hk1 : M.leV (s.take 1) = K0 := by rw [hK0, take_one s (by omega)]; simp [M.leV]
  have hv1 : M.ver s = VR := by
    have e : (s.drop 1).take 1 = [nth s 1] := by rw [take_one _ (by simp; omega)]; simp [nth]
    rw [hVR, M.ver, e]; simp [M.leV]
  have hun : M.unFr s = ⟨K0, Z, O, E, S, BD⟩ := by rw [M.unFr, hk1, hZ, hO, hE, hS, hBD]
  have HDD : Hid (D = if VR = 1 ∧ (M.Fr.right ⟨K0, Z, O, E, S, BD⟩) = true then (⟨K0, Z, O, E, S, BD⟩, 0) else (M.Fr.zero, 10)) := by
    show _ = _
    rw [hD, M.dec, he, hv1, hun]; simp
  rw [hun] at hu
  have HOKU := hid hu
  have HBL := hid hbl
  have HBN := hid hbn
  have HZ := hid hZ
  have HO := hid hO
  have HE := hid hE
  have HSQ := hid hS
  have HK0 : Hid (K0 < 256) := by show _ < _; rw [hK0]; exact nth_lt s hb 0
  have HKE := hid hK0
  have HVE := hid hVR
  have HVL : Hid (VR < 256) := by show _ < _; rw [hVR]; exact nth_lt s hb 1
  have zl : (List.replicate 44 0 : List Nat).length = 44 := by simp
  clear hs hb hu hD hV hC hCL h60 ht6 hse he hK0 hVR hZ hO hE hS hBD hbl hbn hk1 hv1 hun
  have hW := Below.refl w.heap.size w
  go_enter Try.func71, Try.ntmps71
  go_upto_region 2 with (first | ((with_reducible show wpList _ _ _ (⟨some 1, _, _, _, _, _⟩ :: _) _ _); refine wpList_boxed 1 rfl rfl 43 _ rfl (sct s) rfl ?_; intro W1 N1 hNN1 hMN1 hr1 hb; have sW1 := hb.size; have hW := below_next hW hb) | ((with_reducible show wpList _ _ _ (⟨some 2, _, _, _, _, _⟩ :: _) _ _); refine wpList_zeroed 2 rfl rfl 42 rfl _ zero42 ?_; intro W2 N2 hN2 hM2 hr2 hb; have sW2 := hb.size; have hW := below_next hW hb; have hr1 := below_blk hb hr1))
  have w2 : w.heap.size ≤ N2 := by omega
  have ht60 := (hasB_sct HB.out hr1).take 60
  have hd60 : HasB W2 (some ⟨N1, 60, none⟩) (s.drop 60) := by
    have h := hasB_part HB.out hr1 60 4
    rw [List.take_of_length_le (by rw [HD60.out]; exact Nat.le_refl _)] at h
    exact h
  refine wp_region_frame (spec := [none, none, none, none, none, none, none, none]) (vals := [.slice (some ⟨N1, 0, none⟩) 64 64, .slice (some ⟨N1, 60, none⟩) 4 4, .int .i64 V, .slice (some ⟨N1, 0, none⟩) 64 64, .slice (some ⟨N1, 0, none⟩) 60 64, .int .u32 C, .int .i64 C, .bool false]) (by kernel_rfl) (by kernel_rfl) (by kernel_rfl) (by kernel_rfl) ?hst (fun hF => ?hobl) ?hQ
  case hst => exact trivial
  case hobl =>
    refine ⟨?_, ?_, ?_, ?_, ?_, ?_, ?_, ?_, trivial⟩
    · refine fun ho => obl_det hF (by kernel_rfl) (by kernel_rfl) ho (by kernel_rfl) (fun wx hbx => ?_); rw [if_pos (by kernel_rfl)]; with_reducible exact grows_det (.slice (some ⟨N1, 0, none⟩) 64 64) (by kernel_rfl) (by kernel_rfl) (by kernel_rfl)
    · refine fun ho => obl_det hF (by kernel_rfl) (by kernel_rfl) ho (by kernel_rfl) (fun wx hbx => ?_); rw [if_pos (by kernel_rfl)]; with_reducible exact grows_det (.slice (some ⟨N1, 60, none⟩) 4 4) (by kernel_rfl) (by kernel_rfl) (by kernel_rfl)
    · refine fun ho => obl_det hF (by kernel_rfl) (by kernel_rfl) ho (by kernel_rfl) (fun wx hbx => ?_); rw [if_pos (by kernel_rfl)]; with_reducible exact grows_call 57 #[.slice (some ⟨N1, 60, none⟩) 4 4] (.int .i64 V) (by kernel_rfl) (readN 4 _ (s.drop 60) HD60.out 4 V HV.out wx (hd60.below hbx) (by omega)) (by kernel_rfl) (by kernel_rfl)
    · refine fun ho => obl_det hF (by kernel_rfl) (by kernel_rfl) ho (by kernel_rfl) (fun wx hbx => ?_); rw [if_pos (by kernel_rfl)]; with_reducible exact grows_det (.slice (some ⟨N1, 0, none⟩) 64 64) (by kernel_rfl) (by kernel_rfl) (by kernel_rfl)
    · refine fun ho => obl_det hF (by kernel_rfl) (by kernel_rfl) ho (by kernel_rfl) (fun wx hbx => ?_); rw [if_pos (by kernel_rfl)]; with_reducible exact grows_det (.slice (some ⟨N1, 0, none⟩) 60 64) (by kernel_rfl) (by kernel_rfl) (by kernel_rfl)
    · refine fun ho => obl_det hF (by kernel_rfl) (by kernel_rfl) ho (by kernel_rfl) (fun wx hbx => ?_); rw [if_pos (by kernel_rfl)]; with_reducible exact grows_call 34 #[.slice (some ⟨N1, 0, none⟩) 60 64] (.int .u32 C) (by kernel_rfl) (rsumC 60 _ (s.take 60) HT60.out 64 C HC.out wx (ht60.below hbx) (by omega)) (by kernel_rfl) (by kernel_rfl)
    · refine fun ho => obl_det hF (by kernel_rfl) (by kernel_rfl) ho (by kernel_rfl) (fun wx hbx => ?_); rw [if_pos (by kernel_rfl)]; with_reducible exact grows_det (.int .i64 C) (op_conv_u32 (.tmp 13) (by kernel_rfl) C (by kernel_rfl) HCL.out) (by kernel_rfl) (by kernel_rfl)
    · refine fun ho => obl_det hF (by kernel_rfl) (by kernel_rfl) ho (by kernel_rfl) (fun wx hbx => ?_); rw [if_pos (by kernel_rfl)]; with_reducible exact grows_det (.bool false) (op_neq_i (t := 3) (u := 3) (.tmp 10) (.tmp 14) (by kernel_rfl) .i64 V C (by kernel_rfl) (by kernel_rfl) false HNE.out) (by kernel_rfl) (by kernel_rfl)
  case hQ =>
    intro wy hby
    simp only [each, putAll, Act.put, List.setIfInBounds_toArray, List.set_cons_succ, List.set_cons_zero]
    have hW := below_next hW hby
    have hr1 := below_blk hby hr1
    have hr2 := below_blk hby hr2
    clear hby hd60 ht60 hb
    go_upto_region 4 with (fail)
    have ck : wy.cell? ⟨N1, 0, none⟩ = some (.int .u8 K0) := by
      rw [cell_of_row _ _ _ _ _ _ hr1, HKE.out]
      have := u8s_at s 0 (by rw [HS.out]; omega)
      simpa [sct] using this
    obtain ⟨B, hB⟩ : ∃ B, B = wy.heap.size := ⟨_, rfl⟩
    have hBW : B ≤ wy.heap.size := Nat.le_of_eq hB
    have n2B : N2 < B := by rw [hB]; exact lt_of_block hr2
    have n1B : N1 < B := by rw [hB]; exact lt_of_block hr1
    have wB : w.heap.size ≤ B := by rw [hB]; exact hW.size
    refine wp_region_tail 17 [] (spec := [none, none, none, none, none, none, none, none, none, none, none, none, none, none, none, none, some (Img ptF (rowF B (frm M.Fr.zero) 42)), none]) (vals := [.pointer (some ⟨N1, 0, none⟩), .int .u8 K0, .int .i64 K0, .slice (some ⟨N1, 0, none⟩) 64 64, .slice (some ⟨N1, 2, none⟩) 2 62, .int .i64 Z, .slice (some ⟨N1, 0, none⟩) 64 64, .slice (some ⟨N1, 4, none⟩) 2 60, .int .i64 O, .slice (some ⟨N1, 0, none⟩) 64 64, .slice (some ⟨N1, 6, none⟩) 4 58, .int .i64 E, .slice (some ⟨N1, 0, none⟩) 64 64, .slice (some ⟨N1, 10, none⟩) 6 54, .int .i64 S, .agg (frm ⟨K0, Z, O, E, S, List.replicate 44 0⟩), undef, undef]) (by kernel_rfl) (by kernel_rfl) (by kernel_rfl) (by kernel_rfl) (by kernel_rfl) (by kernel_rfl) (by kernel_rfl) ?hst (fun hF => ?hobl) ?hQ
    case hst => exact ⟨img_stable _ _ (rowF_stable _ _ _), trivial⟩
    case hobl =>
      refine ⟨?_, ?_, ?_, ?_, ?_, ?_, ?_, ?_, ?_, ?_, ?_, ?_, ?_, ?_, ?_, ?_, ?_, trivial⟩
      · refine fun ho => ?_; rw [if_neg (by decide)]; refine obl_det hF (by kernel_rfl) (by kernel_rfl) ho (by kernel_rfl) (fun wx hbx => ?_); rw [if_pos (by kernel_rfl)]; with_reducible exact grows_det (.pointer (some ⟨N1, 0, none⟩)) (by kernel_rfl) (by kernel_rfl) (by kernel_rfl)
      · refine fun ho => ?_; rw [if_neg (by decide)]; refine obl_det hF (by kernel_rfl) (by kernel_rfl) ho (by kernel_rfl) (fun wx hbx => ?_); rw [if_pos (by kernel_rfl)]; with_reducible exact grows_det (.int .u8 K0) (op_load_u8 (.tmp 17) (by kernel_rfl) ⟨N1, 0, none⟩ (by kernel_rfl) _ ((hbx.cell (p := ⟨N1, 0, none⟩) (block_lt_of_cell (a := ⟨N1, 0, none⟩) ck)).trans ck)) (by kernel_rfl) (by kernel_rfl)
      · refine fun ho => ?_; rw [if_neg (by decide)]; refine obl_det hF (by kernel_rfl) (by kernel_rfl) ho (by kernel_rfl) (fun wx hbx => ?_); rw [if_pos (by kernel_rfl)]; with_reducible exact grows_det (.int .i64 K0) (op_conv_u8 (.tmp 18) (by kernel_rfl) K0 (by kernel_rfl) HK0.out) (by kernel_rfl) (by kernel_rfl)
      · refine fun ho => ?_; rw [if_neg (by decide)]; refine obl_det hF (by kernel_rfl) (by kernel_rfl) ho (by kernel_rfl) (fun wx hbx => ?_); rw [if_pos (by kernel_rfl)]; with_reducible exact grows_det (.slice (some ⟨N1, 0, none⟩) 64 64) (by kernel_rfl) (by kernel_rfl) (by kernel_rfl)
      · refine fun ho => ?_; rw [if_neg (by decide)]; refine obl_det hF (by kernel_rfl) (by kernel_rfl) ho (by kernel_rfl) (fun wx hbx => ?_); rw [if_pos (by kernel_rfl)]; with_reducible exact grows_det (.slice (some ⟨N1, 2, none⟩) 2 62) (by kernel_rfl) (by kernel_rfl) (by kernel_rfl)
      · refine fun ho => ?_; rw [if_neg (by decide)]; refine obl_det hF (by kernel_rfl) (by kernel_rfl) ho (by kernel_rfl) (fun wx hbx => ?_); rw [if_pos (by kernel_rfl)]; with_reducible exact grows_call 57 #[.slice (some ⟨N1, 2, none⟩) 2 62] (.int .i64 Z) (by kernel_rfl) (readN 2 _ ((s.drop 2).take 2) (by rw [List.length_take, List.length_drop, HS.out]; omega) 62 Z HZ.out wx ((hasB_part HB.out hr1 2 2).below hbx) (by omega)) (by kernel_rfl) (by kernel_rfl)
      · refine fun ho => ?_; rw [if_neg (by decide)]; refine obl_det hF (by kernel_rfl) (by kernel_rfl) ho (by kernel_rfl) (fun wx hbx => ?_); rw [if_pos (by kernel_rfl)]; with_reducible exact grows_det (.slice (some ⟨N1, 0, none⟩) 64 64) (by kernel_rfl) (by kernel_rfl) (by kernel_rfl)
      · refine fun ho => ?_; rw [if_neg (by decide)]; refine obl_det hF (by kernel_rfl) (by kernel_rfl) ho (by kernel_rfl) (fun wx hbx => ?_); rw [if_pos (by kernel_rfl)]; with_reducible exact grows_det (.slice (some ⟨N1, 4, none⟩) 2 60) (by kernel_rfl) (by kernel_rfl) (by kernel_rfl)
      · refine fun ho => ?_; rw [if_neg (by decide)]; refine obl_det hF (by kernel_rfl) (by kernel_rfl) ho (by kernel_rfl) (fun wx hbx => ?_); rw [if_pos (by kernel_rfl)]; with_reducible exact grows_call 57 #[.slice (some ⟨N1, 4, none⟩) 2 60] (.int .i64 O) (by kernel_rfl) (readN 2 _ ((s.drop 4).take 2) (by rw [List.length_take, List.length_drop, HS.out]; omega) 60 O HO.out wx ((hasB_part HB.out hr1 4 2).below hbx) (by omega)) (by kernel_rfl) (by kernel_rfl)
      · refine fun ho => ?_; rw [if_neg (by decide)]; refine obl_det hF (by kernel_rfl) (by kernel_rfl) ho (by kernel_rfl) (fun wx hbx => ?_); rw [if_pos (by kernel_rfl)]; with_reducible exact grows_det (.slice (some ⟨N1, 0, none⟩) 64 64) (by kernel_rfl) (by kernel_rfl) (by kernel_rfl)
      · refine fun ho => ?_; rw [if_neg (by decide)]; refine obl_det hF (by kernel_rfl) (by kernel_rfl) ho (by kernel_rfl) (fun wx hbx => ?_); rw [if_pos (by kernel_rfl)]; with_reducible exact grows_det (.slice (some ⟨N1, 6, none⟩) 4 58) (by kernel_rfl) (by kernel_rfl) (by kernel_rfl)
      · refine fun ho => ?_; rw [if_neg (by decide)]; refine obl_det hF (by kernel_rfl) (by kernel_rfl) ho (by kernel_rfl) (fun wx hbx => ?_); rw [if_pos (by kernel_rfl)]; with_reducible exact grows_call 57 #[.slice (some ⟨N1, 6, none⟩) 4 58] (.int .i64 E) (by kernel_rfl) (readN 4 _ ((s.drop 6).take 4) (by rw [List.length_take, List.length_drop, HS.out]; omega) 58 E HE.out wx ((hasB_part HB.out hr1 6 4).below hbx) (by omega)) (by kernel_rfl) (by kernel_rfl)
      · refine fun ho => ?_; rw [if_neg (by decide)]; refine obl_det hF (by kernel_rfl) (by kernel_rfl) ho (by kernel_rfl) (fun wx hbx => ?_); rw [if_pos (by kernel_rfl)]; with_reducible exact grows_det (.slice (some ⟨N1, 0, none⟩) 64 64) (by kernel_rfl) (by kernel_rfl) (by kernel_rfl)
      · refine fun ho => ?_; rw [if_neg (by decide)]; refine obl_det hF (by kernel_rfl) (by kernel_rfl) ho (by kernel_rfl) (fun wx hbx => ?_); rw [if_pos (by kernel_rfl)]; with_reducible exact grows_det (.slice (some ⟨N1, 10, none⟩) 6 54) (by kernel_rfl) (by kernel_rfl) (by kernel_rfl)
      · refine fun ho => ?_; rw [if_neg (by decide)]; refine obl_det hF (by kernel_rfl) (by kernel_rfl) ho (by kernel_rfl) (fun wx hbx => ?_); rw [if_pos (by kernel_rfl)]; with_reducible exact grows_call 57 #[.slice (some ⟨N1, 10, none⟩) 6 54] (.int .i64 S) (by kernel_rfl) (readN 6 _ ((s.drop 10).take 6) (by rw [List.length_take, List.length_drop, HS.out]; omega) 54 S HSQ.out wx ((hasB_part HB.out hr1 10 6).below hbx) (by omega)) (by kernel_rfl) (by kernel_rfl)
      · refine fun ho => ?_; rw [if_neg (by decide)]; refine obl_det hF (by kernel_rfl) (by kernel_rfl) ho (by kernel_rfl) (fun wx hbx => ?_); rw [if_pos (by kernel_rfl)]; with_reducible exact grows_det (.agg (frm ⟨K0, Z, O, E, S, List.replicate 44 0⟩)) (by kernel_rfl) (by kernel_rfl) (by kernel_rfl)
      · refine fun ho => ?_; rw [if_neg (by decide)]; refine obl_det hF (by kernel_rfl) (by kernel_rfl) ho (by kernel_rfl) (fun wx hbx => ?_); rw [if_pos (by kernel_rfl)]; with_reducible exact grows_alloc 42 (by kernel_rfl) (frm M.Fr.zero) zero42 B (Nat.le_trans hBW hbx.size) (by kernel_rfl)
    case hQ =>
      intro wz hbz
      have hW := below_next hW hbz
      have hr1 := below_blk hbz hr1
      have hr2 := below_blk hbz hr2
      simp only [each, putAll, List.take_succ_cons, List.take_zero, List.drop_succ_cons, List.drop_zero]
      rintro x ⟨N5, rfl, hr5⟩
      simp only [ptF, Act.put, List.setIfInBounds_toArray, List.set_cons_succ, List.set_cons_zero] at hr5 ⊢
      obtain ⟨hN5, hM5, hr5⟩ := hr5
      clear hbz ck hB hBW
      have n15 : N1 ≠ N5 := by omega
      have n25 : N2 ≠ N5 := by omega
      have w5 : w.heap.size ≤ N5 := by omega
      go_wp2_with (first | ((with_reducible show wpList _ _ _ (⟨none, _, _, _, _, _⟩ :: _) _ _); refine wpList_store_agg rfl rfl 42 _ _ rfl N5 (frm ⟨K0, Z, O, E, S, List.replicate 44 0⟩) rfl rfl 42 _ hr5 (ty42' _ ⟨zl, by simp⟩) rfl (frm_all _) ?_; intro Y5 hr5 ht))
      simp only [NormQ]
      have hr1 := ht.blk hr1 n15
      have hr2 := ht.blk hr2 n25
      have hW := below_turned hW ht (fun k hk => by subst hk; exact w5)
      clear ht
      go_wp2
      go_loopw [6] (fun i wr => ∃ k : Nat, k ≤ 44 ∧ i = .int .i64 k ∧ Hid (wr.heap[N5]? = some (.cells (frm ⟨K0, Z, O, E, S, BD.take k ++ (List.replicate 44 0).drop k⟩) 42 (0, 0))) ∧ Hid (wr.heap[N1]? = some (.cells (sct s) 43 (0, 0)) ∧ wr.heap[N2]? = some (.cells (frm M.Fr.zero) 42 (0, 0)) ∧ Below w.heap.size w wr)) (fun i _ => 44 - (intOf i).toNat)
      case atStart => exact ⟨0, Nat.zero_le _, rfl, (by show _ = _; simpa using hr5), hr1, hr2, hW⟩
      case round =>
        clear hr1 hr2 hr5 hW
        obtain ⟨k, hk, rfl, HR5, HR⟩ := hrel
        by_cases hlt : k < 44
        · have c1 : wr.cell? ⟨N1, 16 + k, none⟩ = some (.int .u8 (nth BD k)) := by
            rw [cell_of_row _ _ _ _ _ _ HR.out.1, HBN.out k hlt]
            have := u8s_at s (16 + k) (by rw [HS.out]; omega)
            simpa [sct] using this
          have c2 : ∃ v, wr.cell? ⟨N5, 5 + k, none⟩ = some v := by
            rw [cell_of_row _ _ _ _ _ _ HR5.out]
            exact ⟨_, frm_body _ k (by show k < (BD.take k ++ (List.replicate 44 0).drop k).length; rw [List.length_append, List.length_take, List.length_drop, HBL.out, zl]; omega)⟩
          obtain ⟨v0, c2⟩ := c2
          have c3 := frozen_of_row wr N5 (5 + k) _ 42 HR5.out
          have bx := nth_lt BD HOKU.out.2 k
          have hset : (BD.take k ++ (List.replicate 44 0).drop k).set k (nth BD k) = BD.take (k + 1) ++ (List.replicate 44 0).drop (k + 1) := set_copyB _ BD k (by rw [HBL.out]; simp) (by rw [HBL.out]; exact hlt)
          have HSET := hid hset
          clear hset
          generalize nth BD k = xk at *
          go_wp2
          go_roundw
          case rel =>
            refine ⟨k + 1, by omega, by go_num, ?_, ?_, ?_, HR.out.2.2.setCell w5 _⟩
            · show _ = _
              rw [heap_setCell_same _ _ _ _ 42 _ HR5.out, frm_setb, HSET.out]
            · rw [heap_setCell_other _ _ _ _ (by exact n15)]; exact HR.out.1
            · rw [heap_setCell_other _ _ _ _ (by exact n25)]; exact HR.out.2.1
          case measure => simp [intOf]; omega
        · obtain rfl : k = 44 := by omega
          have e : BD.take 44 ++ (List.replicate 44 0).drop 44 = BD := by rw [List.take_of_length_le (Nat.le_of_eq HBL.out), List.drop_eq_nil_of_le (by simp), List.append_nil]
          rw [e] at HR5
          obtain ⟨hr1, hr2, hW⟩ := HR.out
          have hr5 := HR5.out
          have c1 : wr.cell? ⟨N1, 1, none⟩ = some (.int .u8 VR) := by
            rw [cell_of_row _ _ _ _ _ _ hr1, HVE.out]
            have := u8s_at s 1 (by rw [HS.out]; omega)
            simpa [sct] using this
          have bv := HVL.out
          by_cases hv : VR = 1
          · by_cases hr : (M.Fr.right ⟨K0, Z, O, E, S, BD⟩) = true
            · have tv : ((VR : Int) != 1) = false := by rw [bne_eq_false_iff_eq]; omega
              have HR' := hid hr
              have HDV : Hid (D = (⟨K0, Z, O, E, S, BD⟩, 0)) := by show _ = _; rw [HDD.out, if_pos ⟨hv, hr⟩]
              clear hr
              go_wp2_with (first | ((with_reducible show wpList _ _ _ (⟨some 48, _, _, _, _, _⟩ :: _) _ _); refine wpList_load_rowg 48 rfl rfl 42 _ rfl N5 rfl _ (frm ⟨K0, Z, O, E, S, BD⟩) (0, 0) _ hr5 Try.underlying42 rfl (ty42' _ HOKU.out).size ?_) | (go_at_call 39; refine (rright_b ⟨K0, Z, O, E, S, BD⟩ _ HR'.out _).mono ?_; rintro e w6 ⟨rfl, hb⟩; have sw6 := hb.size; have hW := below_next hW hb; have hr2 := below_blk hb hr2; have hr5 := below_blk hb hr5) | ((with_reducible show wpList _ _ _ (⟨some 53, _, _, _, _, _⟩ :: _) _ _); refine wpList_load_rowg 53 rfl rfl 42 _ rfl N5 rfl _ (frm ⟨K0, Z, O, E, S, BD⟩) (0, 0) _ hr5 Try.underlying42 rfl (ty42' _ HOKU.out).size ?_) | ((with_reducible show wpList _ _ _ (⟨none, _, _, _, _, _⟩ :: _) _ _); refine wpList_store_agg rfl rfl 42 _ _ rfl N2 (frm ⟨K0, Z, O, E, S, BD⟩) rfl rfl 42 _ hr2 (ty42' _ HOKU.out) (by rw [frm_size _ M.zero_ok, frm_size _ HOKU.out]) (frm_all _) ?_; intro Z2 hrZ htZ))
              refine ret_cell 2 3 42 rfl rfl N2 rfl 42 _ (0, 0) _ hrZ Try.underlying42 rfl (ty42' _ HOKU.out).size _ rfl ⟨by rw [HDV.out]; rfl, below_turned hW htZ (fun k hk => by subst hk; exact w2)⟩
            · have tv : ((VR : Int) != 1) = false := by rw [bne_eq_false_iff_eq]; omega
              have HR' : Hid ((M.Fr.right ⟨K0, Z, O, E, S, BD⟩) = false) := by show _ = _; simpa using hr
              have HDV : Hid (D = (M.Fr.zero, 10)) := by show _ = _; rw [HDD.out, if_neg (fun h => hr h.2)]
              clear hr
              go_wp2_with (first | ((with_reducible show wpList _ _ _ (⟨some 48, _, _, _, _, _⟩ :: _) _ _); refine wpList_load_rowg 48 rfl rfl 42 _ rfl N5 rfl _ (frm ⟨K0, Z, O, E, S, BD⟩) (0, 0) _ hr5 Try.underlying42 rfl (ty42' _ HOKU.out).size ?_) | (go_at_call 39; refine (rright_b ⟨K0, Z, O, E, S, BD⟩ _ HR'.out _).mono ?_; rintro e w6 ⟨rfl, hb⟩; have sw6 := hb.size; have hW := below_next hW hb; have hr2 := below_blk hb hr2; have hr5 := below_blk hb hr5) | ((with_reducible show wpList _ _ _ (⟨some 52, _, _, _, _, _⟩ :: _) _ _); refine wpList_build_as 52 rfl rfl 42 _ rfl (frm M.Fr.zero) build_zero42 ?_) | ((with_reducible show wpList _ _ _ (⟨none, _, _, _, _, _⟩ :: _) _ _); refine wpList_store_agg rfl rfl 42 _ _ rfl N2 (frm M.Fr.zero) rfl rfl 42 _ hr2 (ty42' _ M.zero_ok) (rfl) (frm_all _) ?_; intro Z2 hrZ htZ))
              refine ret_cell 2 3 42 rfl rfl N2 rfl 42 _ (0, 0) _ hrZ Try.underlying42 rfl (ty42' _ M.zero_ok).size _ rfl ⟨by rw [HDV.out]; rfl, below_turned hW htZ (fun k hk => by subst hk; exact w2)⟩
          · have tv : ((VR : Int) != 1) = true := by rw [bne_iff_ne]; omega
            have HDV : Hid (D = (M.Fr.zero, 10)) := by show _ = _; rw [HDD.out, if_neg (fun h => hv h.1)]
            clear hv
            go_wp2_with (first | ((with_reducible show wpList _ _ _ (⟨some 52, _, _, _, _, _⟩ :: _) _ _); refine wpList_build_as 52 rfl rfl 42 _ rfl (frm M.Fr.zero) build_zero42 ?_) | ((with_reducible show wpList _ _ _ (⟨none, _, _, _, _, _⟩ :: _) _ _); refine wpList_store_agg rfl rfl 42 _ _ rfl N2 (frm M.Fr.zero) rfl rfl 42 _ hr2 (ty42' _ M.zero_ok) (rfl) (frm_all _) ?_; intro Z2 hrZ htZ))
            refine ret_cell 2 3 42 rfl rfl N2 rfl 42 _ (0, 0) _ hrZ Try.underlying42 rfl (ty42' _ M.zero_ok).size _ rfl ⟨by rw [HDV.out]; rfl, below_turned hW htZ (fun k hk => by subst hk; exact w2)⟩
theorem rread_calls (s : List Nat) (hs : s.length = 64) (hb : ∀ c ∈ s, c < 256) (w : World) :
    Calls Try.prog 71 #[.agg (sct s)] w fun e w' => e = .returned (.tuple #[.agg (frm (M.dec s).1), .int .i64 (M.dec s).2]) ∧ Below w.heap.size w w' := by
  by_cases he : M.sealed s = true
  · exact rread_se s hs hb he w
  · exact rread_un s hs hb (by simpa using he) w
end Go.Proofs.Ytncooadaeifekaa

/- Walk of the reference entry's Right. -/
namespace Go.Proofs.Ytncooadaeifekaa
open Go.RowKit
theorem counts_low (e : M.En) (h : e.count < 1) : e.counts = false := by
  unfold M.En.counts
  split
  · rw [decide_eq_false_iff_not]; omega
  · split
    · rw [decide_eq_false_iff_not]; intro h2; omega
    · split
      · rw [decide_eq_false_iff_not]; omega
      · rfl
set_option maxRecDepth 100000 in
set_option maxHeartbeats 1000000 in
theorem rr_0 (e : M.En) (hok : e.ok) (p0 : e.first < 0) (w : World) :
    Calls Try.prog 66 #[.agg (ent e)] w fun r w' => r = .returned (.bool e.right) ∧ Below w.heap.size w w' := by
  have hr : e.right = false := by
    unfold M.En.right; rw [decide_eq_false (fun h => by have := h.1.1; omega)]; rfl
  rw [hr]
  have q0 : decide (e.first < 0) = true := by simpa using p0
  have HOK := hid hok
  have hW := Below.refl w.heap.size w
  clear hr hok p0
  go_enter Try.func66, Try.ntmps66
  go_wp2_with (first | ((with_reducible show wpList _ _ _ (⟨some 1, _, _, _, _, _⟩ :: _) _ _); refine wpList_boxed 1 rfl rfl 91 _ rfl (ent e) rfl ?_; intro W1 N1 hN1 hM1 hr1 hb; have hW := below_next hW hb; have c0 := cell_of_row _ N1 0 _ _ _ hr1; rw [ent0] at c0; have c1 := cell_of_row _ N1 1 _ _ _ hr1; rw [ent1] at c1; have c2 := cell_of_row _ N1 2 _ _ _ hr1; rw [ent2] at c2; have c3 := cell_of_row _ N1 3 _ _ _ hr1; rw [ent3] at c3; have c4 := cell_of_row _ N1 4 _ _ _ hr1; rw [ent4] at c4; have c5 := cell_of_row _ N1 5 _ _ _ hr1; rw [ent5] at c5))
  go_ret
  exact ⟨rfl, hW⟩
set_option maxRecDepth 100000 in
set_option maxHeartbeats 1000000 in
theorem rr_1 (e : M.En) (hok : e.ok) (p0 : ¬ (e.first < 0)) (p1 : 281474976710655 < e.first) (w : World) :
    Calls Try.prog 66 #[.agg (ent e)] w fun r w' => r = .returned (.bool e.right) ∧ Below w.heap.size w w' := by
  have hr : e.right = false := by
    unfold M.En.right; rw [decide_eq_false (fun h => by have := h.1.2; omega)]; rfl
  rw [hr]
  have q0 : decide (e.first < 0) = false := by simpa using p0
  have q1 : decide (281474976710655 < e.first) = true := by simpa using p1
  have HOK := hid hok
  have hW := Below.refl w.heap.size w
  clear hr hok p0 p1
  go_enter Try.func66, Try.ntmps66
  go_wp2_with (first | ((with_reducible show wpList _ _ _ (⟨some 1, _, _, _, _, _⟩ :: _) _ _); refine wpList_boxed 1 rfl rfl 91 _ rfl (ent e) rfl ?_; intro W1 N1 hN1 hM1 hr1 hb; have hW := below_next hW hb; have c0 := cell_of_row _ N1 0 _ _ _ hr1; rw [ent0] at c0; have c1 := cell_of_row _ N1 1 _ _ _ hr1; rw [ent1] at c1; have c2 := cell_of_row _ N1 2 _ _ _ hr1; rw [ent2] at c2; have c3 := cell_of_row _ N1 3 _ _ _ hr1; rw [ent3] at c3; have c4 := cell_of_row _ N1 4 _ _ _ hr1; rw [ent4] at c4; have c5 := cell_of_row _ N1 5 _ _ _ hr1; rw [ent5] at c5))
  go_ret
  exact ⟨rfl, hW⟩
set_option maxRecDepth 100000 in
set_option maxHeartbeats 1000000 in
theorem rr_2 (e : M.En) (hok : e.ok) (p0 : ¬ (e.first < 0)) (p1 : ¬ (281474976710655 < e.first)) (p2 : e.block < 0) (w : World) :
    Calls Try.prog 66 #[.agg (ent e)] w fun r w' => r = .returned (.bool e.right) ∧ Below w.heap.size w w' := by
  have hr : e.right = false := by
    unfold M.En.right; rw [decide_eq_false (fun h => by have := h.2.1.1; omega)]; rfl
  rw [hr]
  have q0 : decide (e.first < 0) = false := by simpa using p0
  have q1 : decide (281474976710655 < e.first) = false := by simpa using p1
  have q2 : decide (e.block < 0) = true := by simpa using p2
  have HOK := hid hok
  have hW := Below.refl w.heap.size w
  clear hr hok p0 p1 p2
  go_enter Try.func66, Try.ntmps66
  go_wp2_with (first | ((with_reducible show wpList _ _ _ (⟨some 1, _, _, _, _, _⟩ :: _) _ _); refine wpList_boxed 1 rfl rfl 91 _ rfl (ent e) rfl ?_; intro W1 N1 hN1 hM1 hr1 hb; have hW := below_next hW hb; have c0 := cell_of_row _ N1 0 _ _ _ hr1; rw [ent0] at c0; have c1 := cell_of_row _ N1 1 _ _ _ hr1; rw [ent1] at c1; have c2 := cell_of_row _ N1 2 _ _ _ hr1; rw [ent2] at c2; have c3 := cell_of_row _ N1 3 _ _ _ hr1; rw [ent3] at c3; have c4 := cell_of_row _ N1 4 _ _ _ hr1; rw [ent4] at c4; have c5 := cell_of_row _ N1 5 _ _ _ hr1; rw [ent5] at c5))
  go_ret
  exact ⟨rfl, hW⟩
set_option maxRecDepth 100000 in
set_option maxHeartbeats 1000000 in
theorem rr_3 (e : M.En) (hok : e.ok) (p0 : ¬ (e.first < 0)) (p1 : ¬ (281474976710655 < e.first)) (p2 : ¬ (e.block < 0)) (p3 : 255 < e.block) (w : World) :
    Calls Try.prog 66 #[.agg (ent e)] w fun r w' => r = .returned (.bool e.right) ∧ Below w.heap.size w w' := by
  have hr : e.right = false := by
    unfold M.En.right; rw [decide_eq_false (fun h => by have := h.2.1.2; omega)]; rfl
  rw [hr]
  have q0 : decide (e.first < 0) = false := by simpa using p0
  have q1 : decide (281474976710655 < e.first) = false := by simpa using p1
  have q2 : decide (e.block < 0) = false := by simpa using p2
  have q3 : decide (255 < e.block) = true := by simpa using p3
  have HOK := hid hok
  have hW := Below.refl w.heap.size w
  clear hr hok p0 p1 p2 p3
  go_enter Try.func66, Try.ntmps66
  go_wp2_with (first | ((with_reducible show wpList _ _ _ (⟨some 1, _, _, _, _, _⟩ :: _) _ _); refine wpList_boxed 1 rfl rfl 91 _ rfl (ent e) rfl ?_; intro W1 N1 hN1 hM1 hr1 hb; have hW := below_next hW hb; have c0 := cell_of_row _ N1 0 _ _ _ hr1; rw [ent0] at c0; have c1 := cell_of_row _ N1 1 _ _ _ hr1; rw [ent1] at c1; have c2 := cell_of_row _ N1 2 _ _ _ hr1; rw [ent2] at c2; have c3 := cell_of_row _ N1 3 _ _ _ hr1; rw [ent3] at c3; have c4 := cell_of_row _ N1 4 _ _ _ hr1; rw [ent4] at c4; have c5 := cell_of_row _ N1 5 _ _ _ hr1; rw [ent5] at c5))
  go_ret
  exact ⟨rfl, hW⟩
set_option maxRecDepth 100000 in
set_option maxHeartbeats 1000000 in
theorem rr_4 (e : M.En) (hok : e.ok) (p0 : ¬ (e.first < 0)) (p1 : ¬ (281474976710655 < e.first)) (p2 : ¬ (e.block < 0)) (p3 : ¬ (255 < e.block)) (p4 : e.mate < 0) (w : World) :
    Calls Try.prog 66 #[.agg (ent e)] w fun r w' => r = .returned (.bool e.right) ∧ Below w.heap.size w w' := by
  have hr : e.right = false := by
    unfold M.En.right; rw [decide_eq_false (fun h => by have := h.2.2.1; omega)]; rfl
  rw [hr]
  have q0 : decide (e.first < 0) = false := by simpa using p0
  have q1 : decide (281474976710655 < e.first) = false := by simpa using p1
  have q2 : decide (e.block < 0) = false := by simpa using p2
  have q3 : decide (255 < e.block) = false := by simpa using p3
  have q4 : decide (e.mate < 0) = true := by simpa using p4
  have HOK := hid hok
  have hW := Below.refl w.heap.size w
  clear hr hok p0 p1 p2 p3 p4
  go_enter Try.func66, Try.ntmps66
  go_wp2_with (first | ((with_reducible show wpList _ _ _ (⟨some 1, _, _, _, _, _⟩ :: _) _ _); refine wpList_boxed 1 rfl rfl 91 _ rfl (ent e) rfl ?_; intro W1 N1 hN1 hM1 hr1 hb; have hW := below_next hW hb; have c0 := cell_of_row _ N1 0 _ _ _ hr1; rw [ent0] at c0; have c1 := cell_of_row _ N1 1 _ _ _ hr1; rw [ent1] at c1; have c2 := cell_of_row _ N1 2 _ _ _ hr1; rw [ent2] at c2; have c3 := cell_of_row _ N1 3 _ _ _ hr1; rw [ent3] at c3; have c4 := cell_of_row _ N1 4 _ _ _ hr1; rw [ent4] at c4; have c5 := cell_of_row _ N1 5 _ _ _ hr1; rw [ent5] at c5))
  go_ret
  exact ⟨rfl, hW⟩
set_option maxRecDepth 100000 in
set_option maxHeartbeats 1000000 in
theorem rr_5 (e : M.En) (hok : e.ok) (p0 : ¬ (e.first < 0)) (p1 : ¬ (281474976710655 < e.first)) (p2 : ¬ (e.block < 0)) (p3 : ¬ (255 < e.block)) (p4 : ¬ (e.mate < 0)) (p5 : 65535 < e.mate) (w : World) :
    Calls Try.prog 66 #[.agg (ent e)] w fun r w' => r = .returned (.bool e.right) ∧ Below w.heap.size w w' := by
  have hr : e.right = false := by
    unfold M.En.right; rw [decide_eq_false (fun h => by have := h.2.2.2; omega)]; rfl
  rw [hr]
  have q0 : decide (e.first < 0) = false := by simpa using p0
  have q1 : decide (281474976710655 < e.first) = false := by simpa using p1
  have q2 : decide (e.block < 0) = false := by simpa using p2
  have q3 : decide (255 < e.block) = false := by simpa using p3
  have q4 : decide (e.mate < 0) = false := by simpa using p4
  have q5 : decide (65535 < e.mate) = true := by simpa using p5
  have HOK := hid hok
  have hW := Below.refl w.heap.size w
  clear hr hok p0 p1 p2 p3 p4 p5
  go_enter Try.func66, Try.ntmps66
  go_wp2_with (first | ((with_reducible show wpList _ _ _ (⟨some 1, _, _, _, _, _⟩ :: _) _ _); refine wpList_boxed 1 rfl rfl 91 _ rfl (ent e) rfl ?_; intro W1 N1 hN1 hM1 hr1 hb; have hW := below_next hW hb; have c0 := cell_of_row _ N1 0 _ _ _ hr1; rw [ent0] at c0; have c1 := cell_of_row _ N1 1 _ _ _ hr1; rw [ent1] at c1; have c2 := cell_of_row _ N1 2 _ _ _ hr1; rw [ent2] at c2; have c3 := cell_of_row _ N1 3 _ _ _ hr1; rw [ent3] at c3; have c4 := cell_of_row _ N1 4 _ _ _ hr1; rw [ent4] at c4; have c5 := cell_of_row _ N1 5 _ _ _ hr1; rw [ent5] at c5))
  go_ret
  exact ⟨rfl, hW⟩
set_option maxRecDepth 100000 in
set_option maxHeartbeats 1000000 in
theorem rr_6 (e : M.En) (hok : e.ok) (p0 : ¬ (e.first < 0)) (p1 : ¬ (281474976710655 < e.first)) (p2 : ¬ (e.block < 0)) (p3 : ¬ (255 < e.block)) (p4 : ¬ (e.mate < 0)) (p5 : ¬ (65535 < e.mate)) (p6 : e.count < 1) (w : World) :
    Calls Try.prog 66 #[.agg (ent e)] w fun r w' => r = .returned (.bool e.right) ∧ Below w.heap.size w w' := by
  have hr : e.right = false := by
    unfold M.En.right; rw [counts_low e p6, Bool.and_false]
  rw [hr]
  have q0 : decide (e.first < 0) = false := by simpa using p0
  have q1 : decide (281474976710655 < e.first) = false := by simpa using p1
  have q2 : decide (e.block < 0) = false := by simpa using p2
  have q3 : decide (255 < e.block) = false := by simpa using p3
  have q4 : decide (e.mate < 0) = false := by simpa using p4
  have q5 : decide (65535 < e.mate) = false := by simpa using p5
  have q6 : decide (e.count < 1) = true := by simpa using p6
  have HOK := hid hok
  have hW := Below.refl w.heap.size w
  clear hr hok p0 p1 p2 p3 p4 p5 p6
  go_enter Try.func66, Try.ntmps66
  go_wp2_with (first | ((with_reducible show wpList _ _ _ (⟨some 1, _, _, _, _, _⟩ :: _) _ _); refine wpList_boxed 1 rfl rfl 91 _ rfl (ent e) rfl ?_; intro W1 N1 hN1 hM1 hr1 hb; have hW := below_next hW hb; have c0 := cell_of_row _ N1 0 _ _ _ hr1; rw [ent0] at c0; have c1 := cell_of_row _ N1 1 _ _ _ hr1; rw [ent1] at c1; have c2 := cell_of_row _ N1 2 _ _ _ hr1; rw [ent2] at c2; have c3 := cell_of_row _ N1 3 _ _ _ hr1; rw [ent3] at c3; have c4 := cell_of_row _ N1 4 _ _ _ hr1; rw [ent4] at c4; have c5 := cell_of_row _ N1 5 _ _ _ hr1; rw [ent5] at c5))
  go_ret
  exact ⟨rfl, hW⟩
set_option maxRecDepth 100000 in
set_option maxHeartbeats 1000000 in
theorem rr_a1 (e : M.En) (hok : e.ok) (p0 : ¬ (e.first < 0)) (p1 : ¬ (281474976710655 < e.first)) (p2 : ¬ (e.block < 0)) (p3 : ¬ (255 < e.block)) (p4 : ¬ (e.mate < 0)) (p5 : ¬ (65535 < e.mate)) (p6 : ¬ (e.count < 1)) (hk : e.kind = 1) (hc : e.count ≤ 4) (hm : e.many = 0) (w : World) :
    Calls Try.prog 66 #[.agg (ent e)] w fun r w' => r = .returned (.bool e.right) ∧ Below w.heap.size w w' := by
  have hr : e.right = true := by
    unfold M.En.right; rw [decide_eq_true (by omega), Bool.true_and]; unfold M.En.counts; rw [if_pos hk, decide_eq_true (by omega)]
  rw [hr]
  have q0 : decide (e.first < 0) = false := by simpa using p0
  have q1 : decide (281474976710655 < e.first) = false := by simpa using p1
  have q2 : decide (e.block < 0) = false := by simpa using p2
  have q3 : decide (255 < e.block) = false := by simpa using p3
  have q4 : decide (e.mate < 0) = false := by simpa using p4
  have q5 : decide (65535 < e.mate) = false := by simpa using p5
  have q6 : decide (e.count < 1) = false := by simpa using p6
  have q7 : (e.kind == 1) = true := by rw [hk]; rfl
  have q8 : decide (e.count ≤ 4) = true := by simpa using hc
  have q9 : (e.many == 0) = true := by rw [hm]; rfl
  have HOK := hid hok
  have hW := Below.refl w.heap.size w
  clear hr hok p0 p1 p2 p3 p4 p5 p6 hk hc hm
  go_enter Try.func66, Try.ntmps66
  go_wp2_with (first | ((with_reducible show wpList _ _ _ (⟨some 1, _, _, _, _, _⟩ :: _) _ _); refine wpList_boxed 1 rfl rfl 91 _ rfl (ent e) rfl ?_; intro W1 N1 hN1 hM1 hr1 hb; have hW := below_next hW hb; have c0 := cell_of_row _ N1 0 _ _ _ hr1; rw [ent0] at c0; have c1 := cell_of_row _ N1 1 _ _ _ hr1; rw [ent1] at c1; have c2 := cell_of_row _ N1 2 _ _ _ hr1; rw [ent2] at c2; have c3 := cell_of_row _ N1 3 _ _ _ hr1; rw [ent3] at c3; have c4 := cell_of_row _ N1 4 _ _ _ hr1; rw [ent4] at c4; have c5 := cell_of_row _ N1 5 _ _ _ hr1; rw [ent5] at c5))
  go_ret
  exact ⟨rfl, hW⟩
set_option maxRecDepth 100000 in
set_option maxHeartbeats 1000000 in
theorem rr_a2 (e : M.En) (hok : e.ok) (p0 : ¬ (e.first < 0)) (p1 : ¬ (281474976710655 < e.first)) (p2 : ¬ (e.block < 0)) (p3 : ¬ (255 < e.block)) (p4 : ¬ (e.mate < 0)) (p5 : ¬ (65535 < e.mate)) (p6 : ¬ (e.count < 1)) (hk : e.kind = 1) (hc : e.count ≤ 4) (hm : e.many ≠ 0) (w : World) :
    Calls Try.prog 66 #[.agg (ent e)] w fun r w' => r = .returned (.bool e.right) ∧ Below w.heap.size w w' := by
  have hr : e.right = false := by
    unfold M.En.right; rw [decide_eq_true (by omega), Bool.true_and]; unfold M.En.counts; rw [if_pos hk, decide_eq_false (by omega)]
  rw [hr]
  have q0 : decide (e.first < 0) = false := by simpa using p0
  have q1 : decide (281474976710655 < e.first) = false := by simpa using p1
  have q2 : decide (e.block < 0) = false := by simpa using p2
  have q3 : decide (255 < e.block) = false := by simpa using p3
  have q4 : decide (e.mate < 0) = false := by simpa using p4
  have q5 : decide (65535 < e.mate) = false := by simpa using p5
  have q6 : decide (e.count < 1) = false := by simpa using p6
  have q7 : (e.kind == 1) = true := by rw [hk]; rfl
  have q8 : decide (e.count ≤ 4) = true := by simpa using hc
  have q9 : (e.many == 0) = false := by rw [beq_eq_false_iff_ne]; exact hm
  have HOK := hid hok
  have hW := Below.refl w.heap.size w
  clear hr hok p0 p1 p2 p3 p4 p5 p6 hk hc hm
  go_enter Try.func66, Try.ntmps66
  go_wp2_with (first | ((with_reducible show wpList _ _ _ (⟨some 1, _, _, _, _, _⟩ :: _) _ _); refine wpList_boxed 1 rfl rfl 91 _ rfl (ent e) rfl ?_; intro W1 N1 hN1 hM1 hr1 hb; have hW := below_next hW hb; have c0 := cell_of_row _ N1 0 _ _ _ hr1; rw [ent0] at c0; have c1 := cell_of_row _ N1 1 _ _ _ hr1; rw [ent1] at c1; have c2 := cell_of_row _ N1 2 _ _ _ hr1; rw [ent2] at c2; have c3 := cell_of_row _ N1 3 _ _ _ hr1; rw [ent3] at c3; have c4 := cell_of_row _ N1 4 _ _ _ hr1; rw [ent4] at c4; have c5 := cell_of_row _ N1 5 _ _ _ hr1; rw [ent5] at c5))
  go_ret
  exact ⟨rfl, hW⟩
set_option maxRecDepth 100000 in
set_option maxHeartbeats 1000000 in
theorem rr_a3 (e : M.En) (hok : e.ok) (p0 : ¬ (e.first < 0)) (p1 : ¬ (281474976710655 < e.first)) (p2 : ¬ (e.block < 0)) (p3 : ¬ (255 < e.block)) (p4 : ¬ (e.mate < 0)) (p5 : ¬ (65535 < e.mate)) (p6 : ¬ (e.count < 1)) (hk : e.kind = 1) (hc : ¬ e.count ≤ 4) (w : World) :
    Calls Try.prog 66 #[.agg (ent e)] w fun r w' => r = .returned (.bool e.right) ∧ Below w.heap.size w w' := by
  have hr : e.right = false := by
    unfold M.En.right; rw [decide_eq_true (by omega), Bool.true_and]; unfold M.En.counts; rw [if_pos hk, decide_eq_false (by omega)]
  rw [hr]
  have q0 : decide (e.first < 0) = false := by simpa using p0
  have q1 : decide (281474976710655 < e.first) = false := by simpa using p1
  have q2 : decide (e.block < 0) = false := by simpa using p2
  have q3 : decide (255 < e.block) = false := by simpa using p3
  have q4 : decide (e.mate < 0) = false := by simpa using p4
  have q5 : decide (65535 < e.mate) = false := by simpa using p5
  have q6 : decide (e.count < 1) = false := by simpa using p6
  have q7 : (e.kind == 1) = true := by rw [hk]; rfl
  have q8 : decide (e.count ≤ 4) = false := by simpa using hc
  have HOK := hid hok
  have hW := Below.refl w.heap.size w
  clear hr hok p0 p1 p2 p3 p4 p5 p6 hk hc
  go_enter Try.func66, Try.ntmps66
  go_wp2_with (first | ((with_reducible show wpList _ _ _ (⟨some 1, _, _, _, _, _⟩ :: _) _ _); refine wpList_boxed 1 rfl rfl 91 _ rfl (ent e) rfl ?_; intro W1 N1 hN1 hM1 hr1 hb; have hW := below_next hW hb; have c0 := cell_of_row _ N1 0 _ _ _ hr1; rw [ent0] at c0; have c1 := cell_of_row _ N1 1 _ _ _ hr1; rw [ent1] at c1; have c2 := cell_of_row _ N1 2 _ _ _ hr1; rw [ent2] at c2; have c3 := cell_of_row _ N1 3 _ _ _ hr1; rw [ent3] at c3; have c4 := cell_of_row _ N1 4 _ _ _ hr1; rw [ent4] at c4; have c5 := cell_of_row _ N1 5 _ _ _ hr1; rw [ent5] at c5))
  go_ret
  exact ⟨rfl, hW⟩
set_option maxRecDepth 100000 in
set_option maxHeartbeats 1000000 in
theorem rr_b1 (e : M.En) (hok : e.ok) (p0 : ¬ (e.first < 0)) (p1 : ¬ (281474976710655 < e.first)) (p2 : ¬ (e.block < 0)) (p3 : ¬ (255 < e.block)) (p4 : ¬ (e.mate < 0)) (p5 : ¬ (65535 < e.mate)) (p6 : ¬ (e.count < 1)) (hk : e.kind = 2) (hc : e.count = 1) (hm : 1 ≤ e.many) (hx : e.many ≤ 256 - e.block) (hz : e.bytes = List.replicate 32 0) (w : World) :
    Calls Try.prog 66 #[.agg (ent e)] w fun r w' => r = .returned (.bool e.right) ∧ Below w.heap.size w w' := by
  have hr : e.right = true := by
    unfold M.En.right; rw [decide_eq_true (by omega), Bool.true_and]; unfold M.En.counts; rw [if_neg (by rw [hk]; decide), if_pos hk, decide_eq_true ⟨hc, ⟨hm, hx⟩, hz⟩]
  rw [hr]
  have q0 : decide (e.first < 0) = false := by simpa using p0
  have q1 : decide (281474976710655 < e.first) = false := by simpa using p1
  have q2 : decide (e.block < 0) = false := by simpa using p2
  have q3 : decide (255 < e.block) = false := by simpa using p3
  have q4 : decide (e.mate < 0) = false := by simpa using p4
  have q5 : decide (65535 < e.mate) = false := by simpa using p5
  have q6 : decide (e.count < 1) = false := by simpa using p6
  have q7 : (e.kind == 1) = false := by rw [hk]; rfl
  have q8 : (e.kind == 2) = true := by rw [hk]; rfl
  have q9 : (e.count == 1) = true := by rw [hc]; rfl
  have q10 : decide (1 ≤ e.many) = true := by simpa using hm
  have q11 : decide (e.many ≤ 256 - e.block) = true := by simpa using hx
  have HOK := hid hok
  have b1 : 0 ≤ e.block := by omega
  have b2 : e.block ≤ 255 := by omega
  have HQB : Hid (∀ w, (Op.equalIn 10000 79 (.agg (sct e.bytes)) (.agg (sct (List.replicate 32 0)))).run Try.prog w = .ok true w) := fun w => by rw [eq_sct 79 32 Try.underlying79 _ _ hok.1 (by simp) hok.2 (by simp), decide_eq_true hz]
  have hW := Below.refl w.heap.size w
  clear hr hok p0 p1 p2 p3 p4 p5 p6 hk hc hm hx hz
  go_enter Try.func66, Try.ntmps66
  go_wp2_with (first | ((with_reducible show wpList _ _ _ (⟨some 1, _, _, _, _, _⟩ :: _) _ _); refine wpList_boxed 1 rfl rfl 91 _ rfl (ent e) rfl ?_; intro W1 N1 hN1 hM1 hr1 hb; have hW := below_next hW hb; have c0 := cell_of_row _ N1 0 _ _ _ hr1; rw [ent0] at c0; have c1 := cell_of_row _ N1 1 _ _ _ hr1; rw [ent1] at c1; have c2 := cell_of_row _ N1 2 _ _ _ hr1; rw [ent2] at c2; have c3 := cell_of_row _ N1 3 _ _ _ hr1; rw [ent3] at c3; have c4 := cell_of_row _ N1 4 _ _ _ hr1; rw [ent4] at c4; have c5 := cell_of_row _ N1 5 _ _ _ hr1; rw [ent5] at c5) | ((with_reducible show wpList _ _ _ (⟨some 68, _, _, _, _, _⟩ :: _) _ _); refine wpList_load_bytesg 68 rfl rfl 79 _ rfl N1 6 rfl e.bytes _ (hasB_ent HOK.out hr1) Try.underlying79 rfl (by rw [HOK.out.1]; kernel_rfl) ?_) | ((with_reducible show wpList _ _ _ (⟨some 69, _, _, _, _, _⟩ :: _) _ _); refine wpList_build_g 69 rfl rfl 79 _ rfl (sct (List.replicate 32 0)) build_zero79 ?_) | ((with_reducible show wpList _ _ _ (⟨some 70, _, _, _, _, _⟩ :: _) _ _); refine wpList_eql 70 rfl rfl 79 _ _ _ rfl (sct e.bytes) (sct (List.replicate 32 0)) rfl rfl grd79 true HQB.out ?_))
  go_ret
  exact ⟨rfl, hW⟩
set_option maxRecDepth 100000 in
set_option maxHeartbeats 1000000 in
theorem rr_b2 (e : M.En) (hok : e.ok) (p0 : ¬ (e.first < 0)) (p1 : ¬ (281474976710655 < e.first)) (p2 : ¬ (e.block < 0)) (p3 : ¬ (255 < e.block)) (p4 : ¬ (e.mate < 0)) (p5 : ¬ (65535 < e.mate)) (p6 : ¬ (e.count < 1)) (hk : e.kind = 2) (hc : e.count = 1) (hm : 1 ≤ e.many) (hx : e.many ≤ 256 - e.block) (hz : ¬ e.bytes = List.replicate 32 0) (w : World) :
    Calls Try.prog 66 #[.agg (ent e)] w fun r w' => r = .returned (.bool e.right) ∧ Below w.heap.size w w' := by
  have hr : e.right = false := by
    unfold M.En.right; rw [decide_eq_true (by omega), Bool.true_and]; unfold M.En.counts; rw [if_neg (by rw [hk]; decide), if_pos hk, decide_eq_false (fun h => hz h.2.2)]
  rw [hr]
  have q0 : decide (e.first < 0) = false := by simpa using p0
  have q1 : decide (281474976710655 < e.first) = false := by simpa using p1
  have q2 : decide (e.block < 0) = false := by simpa using p2
  have q3 : decide (255 < e.block) = false := by simpa using p3
  have q4 : decide (e.mate < 0) = false := by simpa using p4
  have q5 : decide (65535 < e.mate) = false := by simpa using p5
  have q6 : decide (e.count < 1) = false := by simpa using p6
  have q7 : (e.kind == 1) = false := by rw [hk]; rfl
  have q8 : (e.kind == 2) = true := by rw [hk]; rfl
  have q9 : (e.count == 1) = true := by rw [hc]; rfl
  have q10 : decide (1 ≤ e.many) = true := by simpa using hm
  have q11 : decide (e.many ≤ 256 - e.block) = true := by simpa using hx
  have HOK := hid hok
  have b1 : 0 ≤ e.block := by omega
  have b2 : e.block ≤ 255 := by omega
  have HQB : Hid (∀ w, (Op.equalIn 10000 79 (.agg (sct e.bytes)) (.agg (sct (List.replicate 32 0)))).run Try.prog w = .ok false w) := fun w => by rw [eq_sct 79 32 Try.underlying79 _ _ hok.1 (by simp) hok.2 (by simp), decide_eq_false hz]
  have hW := Below.refl w.heap.size w
  clear hr hok p0 p1 p2 p3 p4 p5 p6 hk hc hm hx hz
  go_enter Try.func66, Try.ntmps66
  go_wp2_with (first | ((with_reducible show wpList _ _ _ (⟨some 1, _, _, _, _, _⟩ :: _) _ _); refine wpList_boxed 1 rfl rfl 91 _ rfl (ent e) rfl ?_; intro W1 N1 hN1 hM1 hr1 hb; have hW := below_next hW hb; have c0 := cell_of_row _ N1 0 _ _ _ hr1; rw [ent0] at c0; have c1 := cell_of_row _ N1 1 _ _ _ hr1; rw [ent1] at c1; have c2 := cell_of_row _ N1 2 _ _ _ hr1; rw [ent2] at c2; have c3 := cell_of_row _ N1 3 _ _ _ hr1; rw [ent3] at c3; have c4 := cell_of_row _ N1 4 _ _ _ hr1; rw [ent4] at c4; have c5 := cell_of_row _ N1 5 _ _ _ hr1; rw [ent5] at c5) | ((with_reducible show wpList _ _ _ (⟨some 68, _, _, _, _, _⟩ :: _) _ _); refine wpList_load_bytesg 68 rfl rfl 79 _ rfl N1 6 rfl e.bytes _ (hasB_ent HOK.out hr1) Try.underlying79 rfl (by rw [HOK.out.1]; kernel_rfl) ?_) | ((with_reducible show wpList _ _ _ (⟨some 69, _, _, _, _, _⟩ :: _) _ _); refine wpList_build_g 69 rfl rfl 79 _ rfl (sct (List.replicate 32 0)) build_zero79 ?_) | ((with_reducible show wpList _ _ _ (⟨some 70, _, _, _, _, _⟩ :: _) _ _); refine wpList_eql 70 rfl rfl 79 _ _ _ rfl (sct e.bytes) (sct (List.replicate 32 0)) rfl rfl grd79 false HQB.out ?_))
  go_ret
  exact ⟨rfl, hW⟩
set_option maxRecDepth 100000 in
set_option maxHeartbeats 1000000 in
theorem rr_b3 (e : M.En) (hok : e.ok) (p0 : ¬ (e.first < 0)) (p1 : ¬ (281474976710655 < e.first)) (p2 : ¬ (e.block < 0)) (p3 : ¬ (255 < e.block)) (p4 : ¬ (e.mate < 0)) (p5 : ¬ (65535 < e.mate)) (p6 : ¬ (e.count < 1)) (hk : e.kind = 2) (hc : e.count = 1) (hm : 1 ≤ e.many) (hx : ¬ e.many ≤ 256 - e.block) (w : World) :
    Calls Try.prog 66 #[.agg (ent e)] w fun r w' => r = .returned (.bool e.right) ∧ Below w.heap.size w w' := by
  have hr : e.right = false := by
    unfold M.En.right; rw [decide_eq_true (by omega), Bool.true_and]; unfold M.En.counts; rw [if_neg (by rw [hk]; decide), if_pos hk, decide_eq_false (fun h => hx h.2.1.2)]
  rw [hr]
  have q0 : decide (e.first < 0) = false := by simpa using p0
  have q1 : decide (281474976710655 < e.first) = false := by simpa using p1
  have q2 : decide (e.block < 0) = false := by simpa using p2
  have q3 : decide (255 < e.block) = false := by simpa using p3
  have q4 : decide (e.mate < 0) = false := by simpa using p4
  have q5 : decide (65535 < e.mate) = false := by simpa using p5
  have q6 : decide (e.count < 1) = false := by simpa using p6
  have q7 : (e.kind == 1) = false := by rw [hk]; rfl
  have q8 : (e.kind == 2) = true := by rw [hk]; rfl
  have q9 : (e.count == 1) = true := by rw [hc]; rfl
  have q10 : decide (1 ≤ e.many) = true := by simpa using hm
  have q11 : decide (e.many ≤ 256 - e.block) = false := by simp only [decide_eq_false_iff_not]; exact hx
  have HOK := hid hok
  have b1 : 0 ≤ e.block := by omega
  have b2 : e.block ≤ 255 := by omega
  have hW := Below.refl w.heap.size w
  clear hr hok p0 p1 p2 p3 p4 p5 p6 hk hc hm hx
  go_enter Try.func66, Try.ntmps66
  go_wp2_with (first | ((with_reducible show wpList _ _ _ (⟨some 1, _, _, _, _, _⟩ :: _) _ _); refine wpList_boxed 1 rfl rfl 91 _ rfl (ent e) rfl ?_; intro W1 N1 hN1 hM1 hr1 hb; have hW := below_next hW hb; have c0 := cell_of_row _ N1 0 _ _ _ hr1; rw [ent0] at c0; have c1 := cell_of_row _ N1 1 _ _ _ hr1; rw [ent1] at c1; have c2 := cell_of_row _ N1 2 _ _ _ hr1; rw [ent2] at c2; have c3 := cell_of_row _ N1 3 _ _ _ hr1; rw [ent3] at c3; have c4 := cell_of_row _ N1 4 _ _ _ hr1; rw [ent4] at c4; have c5 := cell_of_row _ N1 5 _ _ _ hr1; rw [ent5] at c5))
  go_ret
  exact ⟨rfl, hW⟩
set_option maxRecDepth 100000 in
set_option maxHeartbeats 1000000 in
theorem rr_b4 (e : M.En) (hok : e.ok) (p0 : ¬ (e.first < 0)) (p1 : ¬ (281474976710655 < e.first)) (p2 : ¬ (e.block < 0)) (p3 : ¬ (255 < e.block)) (p4 : ¬ (e.mate < 0)) (p5 : ¬ (65535 < e.mate)) (p6 : ¬ (e.count < 1)) (hk : e.kind = 2) (hc : e.count = 1) (hm : ¬ 1 ≤ e.many) (w : World) :
    Calls Try.prog 66 #[.agg (ent e)] w fun r w' => r = .returned (.bool e.right) ∧ Below w.heap.size w w' := by
  have hr : e.right = false := by
    unfold M.En.right; rw [decide_eq_true (by omega), Bool.true_and]; unfold M.En.counts; rw [if_neg (by rw [hk]; decide), if_pos hk, decide_eq_false (fun h => hm h.2.1.1)]
  rw [hr]
  have q0 : decide (e.first < 0) = false := by simpa using p0
  have q1 : decide (281474976710655 < e.first) = false := by simpa using p1
  have q2 : decide (e.block < 0) = false := by simpa using p2
  have q3 : decide (255 < e.block) = false := by simpa using p3
  have q4 : decide (e.mate < 0) = false := by simpa using p4
  have q5 : decide (65535 < e.mate) = false := by simpa using p5
  have q6 : decide (e.count < 1) = false := by simpa using p6
  have q7 : (e.kind == 1) = false := by rw [hk]; rfl
  have q8 : (e.kind == 2) = true := by rw [hk]; rfl
  have q9 : (e.count == 1) = true := by rw [hc]; rfl
  have q10 : decide (1 ≤ e.many) = false := by simpa using hm
  have HOK := hid hok
  have hW := Below.refl w.heap.size w
  clear hr hok p0 p1 p2 p3 p4 p5 p6 hk hc hm
  go_enter Try.func66, Try.ntmps66
  go_wp2_with (first | ((with_reducible show wpList _ _ _ (⟨some 1, _, _, _, _, _⟩ :: _) _ _); refine wpList_boxed 1 rfl rfl 91 _ rfl (ent e) rfl ?_; intro W1 N1 hN1 hM1 hr1 hb; have hW := below_next hW hb; have c0 := cell_of_row _ N1 0 _ _ _ hr1; rw [ent0] at c0; have c1 := cell_of_row _ N1 1 _ _ _ hr1; rw [ent1] at c1; have c2 := cell_of_row _ N1 2 _ _ _ hr1; rw [ent2] at c2; have c3 := cell_of_row _ N1 3 _ _ _ hr1; rw [ent3] at c3; have c4 := cell_of_row _ N1 4 _ _ _ hr1; rw [ent4] at c4; have c5 := cell_of_row _ N1 5 _ _ _ hr1; rw [ent5] at c5))
  go_ret
  exact ⟨rfl, hW⟩
set_option maxRecDepth 100000 in
set_option maxHeartbeats 1000000 in
theorem rr_b5 (e : M.En) (hok : e.ok) (p0 : ¬ (e.first < 0)) (p1 : ¬ (281474976710655 < e.first)) (p2 : ¬ (e.block < 0)) (p3 : ¬ (255 < e.block)) (p4 : ¬ (e.mate < 0)) (p5 : ¬ (65535 < e.mate)) (p6 : ¬ (e.count < 1)) (hk : e.kind = 2) (hc : e.count ≠ 1) (w : World) :
    Calls Try.prog 66 #[.agg (ent e)] w fun r w' => r = .returned (.bool e.right) ∧ Below w.heap.size w w' := by
  have hr : e.right = false := by
    unfold M.En.right; rw [decide_eq_true (by omega), Bool.true_and]; unfold M.En.counts; rw [if_neg (by rw [hk]; decide), if_pos hk, decide_eq_false (fun h => hc h.1)]
  rw [hr]
  have q0 : decide (e.first < 0) = false := by simpa using p0
  have q1 : decide (281474976710655 < e.first) = false := by simpa using p1
  have q2 : decide (e.block < 0) = false := by simpa using p2
  have q3 : decide (255 < e.block) = false := by simpa using p3
  have q4 : decide (e.mate < 0) = false := by simpa using p4
  have q5 : decide (65535 < e.mate) = false := by simpa using p5
  have q6 : decide (e.count < 1) = false := by simpa using p6
  have q7 : (e.kind == 1) = false := by rw [hk]; rfl
  have q8 : (e.kind == 2) = true := by rw [hk]; rfl
  have q9 : (e.count == 1) = false := by rw [beq_eq_false_iff_ne]; exact hc
  have HOK := hid hok
  have hW := Below.refl w.heap.size w
  clear hr hok p0 p1 p2 p3 p4 p5 p6 hk hc
  go_enter Try.func66, Try.ntmps66
  go_wp2_with (first | ((with_reducible show wpList _ _ _ (⟨some 1, _, _, _, _, _⟩ :: _) _ _); refine wpList_boxed 1 rfl rfl 91 _ rfl (ent e) rfl ?_; intro W1 N1 hN1 hM1 hr1 hb; have hW := below_next hW hb; have c0 := cell_of_row _ N1 0 _ _ _ hr1; rw [ent0] at c0; have c1 := cell_of_row _ N1 1 _ _ _ hr1; rw [ent1] at c1; have c2 := cell_of_row _ N1 2 _ _ _ hr1; rw [ent2] at c2; have c3 := cell_of_row _ N1 3 _ _ _ hr1; rw [ent3] at c3; have c4 := cell_of_row _ N1 4 _ _ _ hr1; rw [ent4] at c4; have c5 := cell_of_row _ N1 5 _ _ _ hr1; rw [ent5] at c5))
  go_ret
  exact ⟨rfl, hW⟩
set_option maxRecDepth 100000 in
set_option maxHeartbeats 1000000 in
theorem rr_c1 (e : M.En) (hok : e.ok) (p0 : ¬ (e.first < 0)) (p1 : ¬ (281474976710655 < e.first)) (p2 : ¬ (e.block < 0)) (p3 : ¬ (255 < e.block)) (p4 : ¬ (e.mate < 0)) (p5 : ¬ (65535 < e.mate)) (p6 : ¬ (e.count < 1)) (hk : e.kind = 3) (hc : e.count = 1) (hm : e.many = 0) (w : World) :
    Calls Try.prog 66 #[.agg (ent e)] w fun r w' => r = .returned (.bool e.right) ∧ Below w.heap.size w w' := by
  have hr : e.right = true := by
    unfold M.En.right; rw [decide_eq_true (by omega), Bool.true_and]; unfold M.En.counts; rw [if_neg (by rw [hk]; decide), if_neg (by rw [hk]; decide), if_pos hk, decide_eq_true ⟨hc, hm⟩]
  rw [hr]
  have q0 : decide (e.first < 0) = false := by simpa using p0
  have q1 : decide (281474976710655 < e.first) = false := by simpa using p1
  have q2 : decide (e.block < 0) = false := by simpa using p2
  have q3 : decide (255 < e.block) = false := by simpa using p3
  have q4 : decide (e.mate < 0) = false := by simpa using p4
  have q5 : decide (65535 < e.mate) = false := by simpa using p5
  have q6 : decide (e.count < 1) = false := by simpa using p6
  have q7 : (e.kind == 1) = false := by rw [hk]; rfl
  have q8 : (e.kind == 2) = false := by rw [hk]; rfl
  have q9 : (e.kind == 3) = true := by rw [hk]; rfl
  have q10 : (e.count == 1) = true := by rw [hc]; rfl
  have q11 : (e.many == 0) = true := by rw [hm]; rfl
  have HOK := hid hok
  have hW := Below.refl w.heap.size w
  clear hr hok p0 p1 p2 p3 p4 p5 p6 hk hc hm
  go_enter Try.func66, Try.ntmps66
  go_wp2_with (first | ((with_reducible show wpList _ _ _ (⟨some 1, _, _, _, _, _⟩ :: _) _ _); refine wpList_boxed 1 rfl rfl 91 _ rfl (ent e) rfl ?_; intro W1 N1 hN1 hM1 hr1 hb; have hW := below_next hW hb; have c0 := cell_of_row _ N1 0 _ _ _ hr1; rw [ent0] at c0; have c1 := cell_of_row _ N1 1 _ _ _ hr1; rw [ent1] at c1; have c2 := cell_of_row _ N1 2 _ _ _ hr1; rw [ent2] at c2; have c3 := cell_of_row _ N1 3 _ _ _ hr1; rw [ent3] at c3; have c4 := cell_of_row _ N1 4 _ _ _ hr1; rw [ent4] at c4; have c5 := cell_of_row _ N1 5 _ _ _ hr1; rw [ent5] at c5))
  go_ret
  exact ⟨rfl, hW⟩
set_option maxRecDepth 100000 in
set_option maxHeartbeats 1000000 in
theorem rr_c2 (e : M.En) (hok : e.ok) (p0 : ¬ (e.first < 0)) (p1 : ¬ (281474976710655 < e.first)) (p2 : ¬ (e.block < 0)) (p3 : ¬ (255 < e.block)) (p4 : ¬ (e.mate < 0)) (p5 : ¬ (65535 < e.mate)) (p6 : ¬ (e.count < 1)) (hk : e.kind = 3) (hc : e.count = 1) (hm : e.many ≠ 0) (w : World) :
    Calls Try.prog 66 #[.agg (ent e)] w fun r w' => r = .returned (.bool e.right) ∧ Below w.heap.size w w' := by
  have hr : e.right = false := by
    unfold M.En.right; rw [decide_eq_true (by omega), Bool.true_and]; unfold M.En.counts; rw [if_neg (by rw [hk]; decide), if_neg (by rw [hk]; decide), if_pos hk, decide_eq_false (fun h => hm h.2)]
  rw [hr]
  have q0 : decide (e.first < 0) = false := by simpa using p0
  have q1 : decide (281474976710655 < e.first) = false := by simpa using p1
  have q2 : decide (e.block < 0) = false := by simpa using p2
  have q3 : decide (255 < e.block) = false := by simpa using p3
  have q4 : decide (e.mate < 0) = false := by simpa using p4
  have q5 : decide (65535 < e.mate) = false := by simpa using p5
  have q6 : decide (e.count < 1) = false := by simpa using p6
  have q7 : (e.kind == 1) = false := by rw [hk]; rfl
  have q8 : (e.kind == 2) = false := by rw [hk]; rfl
  have q9 : (e.kind == 3) = true := by rw [hk]; rfl
  have q10 : (e.count == 1) = true := by rw [hc]; rfl
  have q11 : (e.many == 0) = false := by rw [beq_eq_false_iff_ne]; exact hm
  have HOK := hid hok
  have hW := Below.refl w.heap.size w
  clear hr hok p0 p1 p2 p3 p4 p5 p6 hk hc hm
  go_enter Try.func66, Try.ntmps66
  go_wp2_with (first | ((with_reducible show wpList _ _ _ (⟨some 1, _, _, _, _, _⟩ :: _) _ _); refine wpList_boxed 1 rfl rfl 91 _ rfl (ent e) rfl ?_; intro W1 N1 hN1 hM1 hr1 hb; have hW := below_next hW hb; have c0 := cell_of_row _ N1 0 _ _ _ hr1; rw [ent0] at c0; have c1 := cell_of_row _ N1 1 _ _ _ hr1; rw [ent1] at c1; have c2 := cell_of_row _ N1 2 _ _ _ hr1; rw [ent2] at c2; have c3 := cell_of_row _ N1 3 _ _ _ hr1; rw [ent3] at c3; have c4 := cell_of_row _ N1 4 _ _ _ hr1; rw [ent4] at c4; have c5 := cell_of_row _ N1 5 _ _ _ hr1; rw [ent5] at c5))
  go_ret
  exact ⟨rfl, hW⟩
set_option maxRecDepth 100000 in
set_option maxHeartbeats 1000000 in
theorem rr_c3 (e : M.En) (hok : e.ok) (p0 : ¬ (e.first < 0)) (p1 : ¬ (281474976710655 < e.first)) (p2 : ¬ (e.block < 0)) (p3 : ¬ (255 < e.block)) (p4 : ¬ (e.mate < 0)) (p5 : ¬ (65535 < e.mate)) (p6 : ¬ (e.count < 1)) (hk : e.kind = 3) (hc : e.count ≠ 1) (w : World) :
    Calls Try.prog 66 #[.agg (ent e)] w fun r w' => r = .returned (.bool e.right) ∧ Below w.heap.size w w' := by
  have hr : e.right = false := by
    unfold M.En.right; rw [decide_eq_true (by omega), Bool.true_and]; unfold M.En.counts; rw [if_neg (by rw [hk]; decide), if_neg (by rw [hk]; decide), if_pos hk, decide_eq_false (fun h => hc h.1)]
  rw [hr]
  have q0 : decide (e.first < 0) = false := by simpa using p0
  have q1 : decide (281474976710655 < e.first) = false := by simpa using p1
  have q2 : decide (e.block < 0) = false := by simpa using p2
  have q3 : decide (255 < e.block) = false := by simpa using p3
  have q4 : decide (e.mate < 0) = false := by simpa using p4
  have q5 : decide (65535 < e.mate) = false := by simpa using p5
  have q6 : decide (e.count < 1) = false := by simpa using p6
  have q7 : (e.kind == 1) = false := by rw [hk]; rfl
  have q8 : (e.kind == 2) = false := by rw [hk]; rfl
  have q9 : (e.kind == 3) = true := by rw [hk]; rfl
  have q10 : (e.count == 1) = false := by rw [beq_eq_false_iff_ne]; exact hc
  have HOK := hid hok
  have hW := Below.refl w.heap.size w
  clear hr hok p0 p1 p2 p3 p4 p5 p6 hk hc
  go_enter Try.func66, Try.ntmps66
  go_wp2_with (first | ((with_reducible show wpList _ _ _ (⟨some 1, _, _, _, _, _⟩ :: _) _ _); refine wpList_boxed 1 rfl rfl 91 _ rfl (ent e) rfl ?_; intro W1 N1 hN1 hM1 hr1 hb; have hW := below_next hW hb; have c0 := cell_of_row _ N1 0 _ _ _ hr1; rw [ent0] at c0; have c1 := cell_of_row _ N1 1 _ _ _ hr1; rw [ent1] at c1; have c2 := cell_of_row _ N1 2 _ _ _ hr1; rw [ent2] at c2; have c3 := cell_of_row _ N1 3 _ _ _ hr1; rw [ent3] at c3; have c4 := cell_of_row _ N1 4 _ _ _ hr1; rw [ent4] at c4; have c5 := cell_of_row _ N1 5 _ _ _ hr1; rw [ent5] at c5))
  go_ret
  exact ⟨rfl, hW⟩
set_option maxRecDepth 100000 in
set_option maxHeartbeats 1000000 in
theorem rr_d (e : M.En) (hok : e.ok) (p0 : ¬ (e.first < 0)) (p1 : ¬ (281474976710655 < e.first)) (p2 : ¬ (e.block < 0)) (p3 : ¬ (255 < e.block)) (p4 : ¬ (e.mate < 0)) (p5 : ¬ (65535 < e.mate)) (p6 : ¬ (e.count < 1)) (h1 : e.kind ≠ 1) (h2 : e.kind ≠ 2) (h3 : e.kind ≠ 3) (w : World) :
    Calls Try.prog 66 #[.agg (ent e)] w fun r w' => r = .returned (.bool e.right) ∧ Below w.heap.size w w' := by
  have hr : e.right = false := by
    unfold M.En.right; rw [decide_eq_true (by omega), Bool.true_and]; unfold M.En.counts; rw [if_neg h1, if_neg h2, if_neg h3]
  rw [hr]
  have q0 : decide (e.first < 0) = false := by simpa using p0
  have q1 : decide (281474976710655 < e.first) = false := by simpa using p1
  have q2 : decide (e.block < 0) = false := by simpa using p2
  have q3 : decide (255 < e.block) = false := by simpa using p3
  have q4 : decide (e.mate < 0) = false := by simpa using p4
  have q5 : decide (65535 < e.mate) = false := by simpa using p5
  have q6 : decide (e.count < 1) = false := by simpa using p6
  have q7 : (e.kind == 1) = false := by rw [beq_eq_false_iff_ne]; exact h1
  have q8 : (e.kind == 2) = false := by rw [beq_eq_false_iff_ne]; exact h2
  have q9 : (e.kind == 3) = false := by rw [beq_eq_false_iff_ne]; exact h3
  have HOK := hid hok
  have hW := Below.refl w.heap.size w
  clear hr hok p0 p1 p2 p3 p4 p5 p6 h1 h2 h3
  go_enter Try.func66, Try.ntmps66
  go_wp2_with (first | ((with_reducible show wpList _ _ _ (⟨some 1, _, _, _, _, _⟩ :: _) _ _); refine wpList_boxed 1 rfl rfl 91 _ rfl (ent e) rfl ?_; intro W1 N1 hN1 hM1 hr1 hb; have hW := below_next hW hb; have c0 := cell_of_row _ N1 0 _ _ _ hr1; rw [ent0] at c0; have c1 := cell_of_row _ N1 1 _ _ _ hr1; rw [ent1] at c1; have c2 := cell_of_row _ N1 2 _ _ _ hr1; rw [ent2] at c2; have c3 := cell_of_row _ N1 3 _ _ _ hr1; rw [ent3] at c3; have c4 := cell_of_row _ N1 4 _ _ _ hr1; rw [ent4] at c4; have c5 := cell_of_row _ N1 5 _ _ _ hr1; rw [ent5] at c5))
  go_ret
  exact ⟨rfl, hW⟩
theorem rright4_calls (e : M.En) (hok : e.ok) (w : World) :
    Calls Try.prog 66 #[.agg (ent e)] w fun r w' => r = .returned (.bool e.right) ∧ Below w.heap.size w w' := by
  by_cases p0 : e.first < 0
  · exact rr_0 e hok p0 w
  by_cases p1 : 281474976710655 < e.first
  · exact rr_1 e hok p0 p1 w
  by_cases p2 : e.block < 0
  · exact rr_2 e hok p0 p1 p2 w
  by_cases p3 : 255 < e.block
  · exact rr_3 e hok p0 p1 p2 p3 w
  by_cases p4 : e.mate < 0
  · exact rr_4 e hok p0 p1 p2 p3 p4 w
  by_cases p5 : 65535 < e.mate
  · exact rr_5 e hok p0 p1 p2 p3 p4 p5 w
  by_cases p6 : e.count < 1
  · exact rr_6 e hok p0 p1 p2 p3 p4 p5 p6 w
  by_cases h1 : e.kind = 1
  · by_cases hc : e.count ≤ 4
    · by_cases hm : e.many = 0
      · exact rr_a1 e hok p0 p1 p2 p3 p4 p5 p6 h1 hc hm w
      · exact rr_a2 e hok p0 p1 p2 p3 p4 p5 p6 h1 hc hm w
    · exact rr_a3 e hok p0 p1 p2 p3 p4 p5 p6 h1 hc w
  · by_cases h2 : e.kind = 2
    · by_cases hc : e.count = 1
      · by_cases hm : 1 ≤ e.many
        · by_cases hx : e.many ≤ 256 - e.block
          · by_cases hz : e.bytes = List.replicate 32 0
            · exact rr_b1 e hok p0 p1 p2 p3 p4 p5 p6 h2 hc hm hx hz w
            · exact rr_b2 e hok p0 p1 p2 p3 p4 p5 p6 h2 hc hm hx hz w
          · exact rr_b3 e hok p0 p1 p2 p3 p4 p5 p6 h2 hc hm hx w
        · exact rr_b4 e hok p0 p1 p2 p3 p4 p5 p6 h2 hc hm w
      · exact rr_b5 e hok p0 p1 p2 p3 p4 p5 p6 h2 hc w
    · by_cases h3 : e.kind = 3
      · by_cases hc : e.count = 1
        · by_cases hm : e.many = 0
          · exact rr_c1 e hok p0 p1 p2 p3 p4 p5 p6 h3 hc hm w
          · exact rr_c2 e hok p0 p1 p2 p3 p4 p5 p6 h3 hc hm w
        · exact rr_c3 e hok p0 p1 p2 p3 p4 p5 p6 h3 hc w
      · exact rr_d e hok p0 p1 p2 p3 p4 p5 p6 h1 h2 h3 w
end Go.Proofs.Ytncooadaeifekaa

/- Walk of the reference entry's Of. -/
namespace Go.Proofs.Ytncooadaeifekaa
open Go.RowKit Go.BigFrame
theorem rright4_b (e : M.En) (b : Bool) (hok : e.ok) (h : e.right = b) (w : World) : Calls Try.prog 66 #[.agg (ent e)] w fun r w' => r = .returned (.bool b) ∧ Below w.heap.size w w' := by subst h; exact rright4_calls e hok w
def M.ofR (K : Int) (s : List Nat) : M.En × Bool := if (M.unEn K s).right = true then (M.unEn K s, true) else (M.En.zero, false)
set_option maxRecDepth 100000 in
set_option maxHeartbeats 2000000 in
theorem rof_calls (K : Int) (s : List Nat) (hs : s.length = 44) (hb : ∀ c ∈ s, c < 256) (w : World) :
    Calls Try.prog 69 #[.int .i64 K, .agg (sct s)] w fun r w' => r = .returned (.tuple #[.agg (ent (M.ofR K s).1), .bool (M.ofR K s).2]) ∧ Below w.heap.size w w' := by
  have hu := M.unEn_ok K s hs hb
  obtain ⟨D, hD⟩ : ∃ D, D = M.ofR K s := ⟨_, rfl⟩
  rw [← hD]
  obtain ⟨V0, hV0⟩ : ∃ V, M.leV ((s.drop 0).take 6) = V := ⟨_, rfl⟩
  obtain ⟨V1, hV1⟩ : ∃ V, V = nth s 6 := ⟨_, rfl⟩
  obtain ⟨V2, hV2⟩ : ∃ V, V = nth s 7 := ⟨_, rfl⟩
  obtain ⟨V3, hV3⟩ : ∃ V, M.leV ((s.drop 8).take 2) = V := ⟨_, rfl⟩
  obtain ⟨V4, hV4⟩ : ∃ V, M.leV ((s.drop 10).take 2) = V := ⟨_, rfl⟩
  obtain ⟨BD, hBD⟩ : ∃ V, (s.drop 12).take 32 = V := ⟨_, rfl⟩
  have hbl : BD.length = 32 := by rw [← hBD]; simp; omega
  have hbn : ∀ i, i < 32 → nth BD i = nth s (12 + i) := fun i hi => by rw [← hBD]; simp [nth, hi]
  have hbb : ∀ c ∈ BD, c < 256 := by rw [← hBD]; exact fun c hc => hb c (List.mem_of_mem_drop (List.mem_of_mem_take hc))
  have hun : M.unEn K s = ⟨K, V0, V1, V2, V3, V4, BD⟩ := by
    have e1 : (s.drop 6).take 1 = [nth s 6] := by rw [take_one _ (by simp; omega)]; simp [nth]
    have e2 : (s.drop 7).take 1 = [nth s 7] := by rw [take_one _ (by simp; omega)]; simp [nth]
    rw [List.drop_zero] at hV0
    rw [M.unEn, hV0, e1, e2, hV3, hV4, hBD, hV1, hV2]; simp [M.leV]
  rw [M.ofR, hun] at hD
  rw [hun] at hu
  have HLV1 : Hid (V1 < 256) := by show _ < _; rw [hV1]; exact nth_lt s hb 6
  have HLV2 : Hid (V2 < 256) := by show _ < _; rw [hV2]; exact nth_lt s hb 7
  have HD := hid hD
  have HOKB := hid hu
  have HV0 := hid hV0
  have HV1 := hid hV1
  have HV2 := hid hV2
  have HV3 := hid hV3
  have HV4 := hid hV4
  have HBL := hid hbl
  have HBN := hid hbn
  have HBB := hid hbb
  have HS := hid hs
  have HB := hid hb
  have zl : Hid ((⟨K, V0, V1, V2, V3, V4, List.replicate 32 0⟩ : M.En).ok) := ⟨by simp, by simp⟩
  clear hs hb hu hD hV0 hV1 hV2 hV3 hV4 hBD hbl hbn hbb hun
  have hW := Below.refl w.heap.size w
  go_enter Try.func69, Try.ntmps69
  go_upto_region 2 with (first | ((with_reducible show wpList _ _ _ (⟨some 3, _, _, _, _, _⟩ :: _) _ _); refine wpList_boxed 3 rfl rfl 39 _ rfl (sct s) rfl ?_; intro W3 N3 hNN3 hMN3 hr3 hb; have sW3 := hb.size; have hW := below_next hW hb) | ((with_reducible show wpList _ _ _ (⟨some 4, _, _, _, _, _⟩ :: _) _ _); refine wpList_zeroed 4 rfl rfl 91 rfl _ zero91 ?_; intro W4 N4 hN4 hM4 hr4 hb; have sW4 := hb.size; have hW := below_next hW hb; have hr3 := below_blk hb hr3))
  have w4 : w.heap.size ≤ N4 := by omega
  have ck6 : W4.cell? ⟨N3, 6, none⟩ = some (.int .u8 V1) := by
    rw [cell_of_row _ _ _ _ _ _ hr3, HV1.out]
    have := u8s_at s 6 (by rw [HS.out]; omega)
    simpa [sct] using this
  have ck7 : W4.cell? ⟨N3, 7, none⟩ = some (.int .u8 V2) := by
    rw [cell_of_row _ _ _ _ _ _ hr3, HV2.out]
    have := u8s_at s 7 (by rw [HS.out]; omega)
    simpa [sct] using this
  obtain ⟨B, hB⟩ : ∃ B, B = W4.heap.size := ⟨_, rfl⟩
  have hBW : B ≤ W4.heap.size := Nat.le_of_eq hB
  have n3B : N3 < B := by rw [hB]; exact lt_of_block hr3
  have n4B : N4 < B := by rw [hB]; exact lt_of_block hr4
  have wB : w.heap.size ≤ B := by rw [hB]; exact hW.size
  clear hb
  refine wp_region_tail 20 [] (spec := [none, none, none, none, none, none, none, none, none, none, none, none, none, none, none, none, none, none, none, some (Img ptF (rowF B (ent M.En.zero) 91)), none]) (vals := [.int .i64 K, .slice (some ⟨N3, 0, none⟩) 44 44, .slice (some ⟨N3, 0, none⟩) 6 44, .int .i64 V0, .slice (some ⟨N3, 0, none⟩) 44 44, .pointer (some ⟨N3, 6, none⟩), .int .u8 V1, .int .i64 V1, .slice (some ⟨N3, 0, none⟩) 44 44, .pointer (some ⟨N3, 7, none⟩), .int .u8 V2, .int .i64 V2, .slice (some ⟨N3, 0, none⟩) 44 44, .slice (some ⟨N3, 8, none⟩) 2 36, .int .i64 V3, .slice (some ⟨N3, 0, none⟩) 44 44, .slice (some ⟨N3, 10, none⟩) 2 34, .int .i64 V4, .agg (ent ⟨K, V0, V1, V2, V3, V4, List.replicate 32 0⟩), undef, undef]) (by kernel_rfl) (by kernel_rfl) (by kernel_rfl) (by kernel_rfl) (by kernel_rfl) (by kernel_rfl) (by kernel_rfl) ?hst (fun hF => ?hobl) ?hQ
  case hst => exact ⟨img_stable _ _ (rowF_stable _ _ _), trivial⟩
  case hobl =>
    refine ⟨?_, ?_, ?_, ?_, ?_, ?_, ?_, ?_, ?_, ?_, ?_, ?_, ?_, ?_, ?_, ?_, ?_, ?_, ?_, ?_, trivial⟩
    · refine fun ho => ?_; rw [if_neg (by decide)]; refine obl_det hF (by kernel_rfl) (by kernel_rfl) ho (by kernel_rfl) (fun wx hbx => ?_); rw [if_pos (by kernel_rfl)]; with_reducible exact grows_det (.int .i64 K) (by kernel_rfl) (by kernel_rfl) (by kernel_rfl)
    · refine fun ho => ?_; rw [if_neg (by decide)]; refine obl_det hF (by kernel_rfl) (by kernel_rfl) ho (by kernel_rfl) (fun wx hbx => ?_); rw [if_pos (by kernel_rfl)]; with_reducible exact grows_det (.slice (some ⟨N3, 0, none⟩) 44 44) (by kernel_rfl) (by kernel_rfl) (by kernel_rfl)
    · refine fun ho => ?_; rw [if_neg (by decide)]; refine obl_det hF (by kernel_rfl) (by kernel_rfl) ho (by kernel_rfl) (fun wx hbx => ?_); rw [if_pos (by kernel_rfl)]; with_reducible exact grows_det (.slice (some ⟨N3, 0, none⟩) 6 44) (by kernel_rfl) (by kernel_rfl) (by kernel_rfl)
    · refine fun ho => ?_; rw [if_neg (by decide)]; refine obl_det hF (by kernel_rfl) (by kernel_rfl) ho (by kernel_rfl) (fun wx hbx => ?_); rw [if_pos (by kernel_rfl)]; with_reducible exact grows_call 57 #[.slice (some ⟨N3, 0, none⟩) 6 44] (.int .i64 V0) (by kernel_rfl) (readN 6 _ ((s.drop 0).take 6) (by rw [List.length_take, List.length_drop, HS.out]; omega) 44 V0 HV0.out wx ((hasB_part HB.out hr3 0 6).below hbx) (by omega)) (by kernel_rfl) (by kernel_rfl)
    · refine fun ho => ?_; rw [if_neg (by decide)]; refine obl_det hF (by kernel_rfl) (by kernel_rfl) ho (by kernel_rfl) (fun wx hbx => ?_); rw [if_pos (by kernel_rfl)]; with_reducible exact grows_det (.slice (some ⟨N3, 0, none⟩) 44 44) (by kernel_rfl) (by kernel_rfl) (by kernel_rfl)
    · refine fun ho => ?_; rw [if_neg (by decide)]; refine obl_det hF (by kernel_rfl) (by kernel_rfl) ho (by kernel_rfl) (fun wx hbx => ?_); rw [if_pos (by kernel_rfl)]; with_reducible exact grows_det (.pointer (some ⟨N3, 6, none⟩)) (by kernel_rfl) (by kernel_rfl) (by kernel_rfl)
    · refine fun ho => ?_; rw [if_neg (by decide)]; refine obl_det hF (by kernel_rfl) (by kernel_rfl) ho (by kernel_rfl) (fun wx hbx => ?_); rw [if_pos (by kernel_rfl)]; with_reducible exact grows_det (.int .u8 V1) (op_load_u8 (.tmp 15) (by kernel_rfl) ⟨N3, 6, none⟩ (by kernel_rfl) _ ((hbx.cell (p := ⟨N3, 6, none⟩) (block_lt_of_cell (a := ⟨N3, 6, none⟩) ck6)).trans ck6)) (by kernel_rfl) (by kernel_rfl)
    · refine fun ho => ?_; rw [if_neg (by decide)]; refine obl_det hF (by kernel_rfl) (by kernel_rfl) ho (by kernel_rfl) (fun wx hbx => ?_); rw [if_pos (by kernel_rfl)]; with_reducible exact grows_det (.int .i64 V1) (op_conv_u8 (.tmp 16) (by kernel_rfl) V1 (by kernel_rfl) HLV1.out) (by kernel_rfl) (by kernel_rfl)
    · refine fun ho => ?_; rw [if_neg (by decide)]; refine obl_det hF (by kernel_rfl) (by kernel_rfl) ho (by kernel_rfl) (fun wx hbx => ?_); rw [if_pos (by kernel_rfl)]; with_reducible exact grows_det (.slice (some ⟨N3, 0, none⟩) 44 44) (by kernel_rfl) (by kernel_rfl) (by kernel_rfl)
    · refine fun ho => ?_; rw [if_neg (by decide)]; refine obl_det hF (by kernel_rfl) (by kernel_rfl) ho (by kernel_rfl) (fun wx hbx => ?_); rw [if_pos (by kernel_rfl)]; with_reducible exact grows_det (.pointer (some ⟨N3, 7, none⟩)) (by kernel_rfl) (by kernel_rfl) (by kernel_rfl)
    · refine fun ho => ?_; rw [if_neg (by decide)]; refine obl_det hF (by kernel_rfl) (by kernel_rfl) ho (by kernel_rfl) (fun wx hbx => ?_); rw [if_pos (by kernel_rfl)]; with_reducible exact grows_det (.int .u8 V2) (op_load_u8 (.tmp 19) (by kernel_rfl) ⟨N3, 7, none⟩ (by kernel_rfl) _ ((hbx.cell (p := ⟨N3, 7, none⟩) (block_lt_of_cell (a := ⟨N3, 7, none⟩) ck7)).trans ck7)) (by kernel_rfl) (by kernel_rfl)
    · refine fun ho => ?_; rw [if_neg (by decide)]; refine obl_det hF (by kernel_rfl) (by kernel_rfl) ho (by kernel_rfl) (fun wx hbx => ?_); rw [if_pos (by kernel_rfl)]; with_reducible exact grows_det (.int .i64 V2) (op_conv_u8 (.tmp 20) (by kernel_rfl) V2 (by kernel_rfl) HLV2.out) (by kernel_rfl) (by kernel_rfl)
    · refine fun ho => ?_; rw [if_neg (by decide)]; refine obl_det hF (by kernel_rfl) (by kernel_rfl) ho (by kernel_rfl) (fun wx hbx => ?_); rw [if_pos (by kernel_rfl)]; with_reducible exact grows_det (.slice (some ⟨N3, 0, none⟩) 44 44) (by kernel_rfl) (by kernel_rfl) (by kernel_rfl)
    · refine fun ho => ?_; rw [if_neg (by decide)]; refine obl_det hF (by kernel_rfl) (by kernel_rfl) ho (by kernel_rfl) (fun wx hbx => ?_); rw [if_pos (by kernel_rfl)]; with_reducible exact grows_det (.slice (some ⟨N3, 8, none⟩) 2 36) (by kernel_rfl) (by kernel_rfl) (by kernel_rfl)
    · refine fun ho => ?_; rw [if_neg (by decide)]; refine obl_det hF (by kernel_rfl) (by kernel_rfl) ho (by kernel_rfl) (fun wx hbx => ?_); rw [if_pos (by kernel_rfl)]; with_reducible exact grows_call 57 #[.slice (some ⟨N3, 8, none⟩) 2 36] (.int .i64 V3) (by kernel_rfl) (readN 2 _ ((s.drop 8).take 2) (by rw [List.length_take, List.length_drop, HS.out]; omega) 36 V3 HV3.out wx ((hasB_part HB.out hr3 8 2).below hbx) (by omega)) (by kernel_rfl) (by kernel_rfl)
    · refine fun ho => ?_; rw [if_neg (by decide)]; refine obl_det hF (by kernel_rfl) (by kernel_rfl) ho (by kernel_rfl) (fun wx hbx => ?_); rw [if_pos (by kernel_rfl)]; with_reducible exact grows_det (.slice (some ⟨N3, 0, none⟩) 44 44) (by kernel_rfl) (by kernel_rfl) (by kernel_rfl)
    · refine fun ho => ?_; rw [if_neg (by decide)]; refine obl_det hF (by kernel_rfl) (by kernel_rfl) ho (by kernel_rfl) (fun wx hbx => ?_); rw [if_pos (by kernel_rfl)]; with_reducible exact grows_det (.slice (some ⟨N3, 10, none⟩) 2 34) (by kernel_rfl) (by kernel_rfl) (by kernel_rfl)
    · refine fun ho => ?_; rw [if_neg (by decide)]; refine obl_det hF (by kernel_rfl) (by kernel_rfl) ho (by kernel_rfl) (fun wx hbx => ?_); rw [if_pos (by kernel_rfl)]; with_reducible exact grows_call 57 #[.slice (some ⟨N3, 10, none⟩) 2 34] (.int .i64 V4) (by kernel_rfl) (readN 2 _ ((s.drop 10).take 2) (by rw [List.length_take, List.length_drop, HS.out]; omega) 34 V4 HV4.out wx ((hasB_part HB.out hr3 10 2).below hbx) (by omega)) (by kernel_rfl) (by kernel_rfl)
    · refine fun ho => ?_; rw [if_neg (by decide)]; refine obl_det hF (by kernel_rfl) (by kernel_rfl) ho (by kernel_rfl) (fun wx hbx => ?_); rw [if_pos (by kernel_rfl)]; with_reducible exact grows_det (.agg (ent ⟨K, V0, V1, V2, V3, V4, List.replicate 32 0⟩)) (by kernel_rfl) (by kernel_rfl) (by kernel_rfl)
    · refine fun ho => ?_; rw [if_neg (by decide)]; refine obl_det hF (by kernel_rfl) (by kernel_rfl) ho (by kernel_rfl) (fun wx hbx => ?_); rw [if_pos (by kernel_rfl)]; with_reducible exact grows_alloc 91 (by kernel_rfl) (ent M.En.zero) zero91 B (Nat.le_trans hBW hbx.size) (by kernel_rfl)
  case hQ =>
    intro wz hbz
    have hW := below_next hW hbz
    have hr3 := below_blk hbz hr3
    have hr4 := below_blk hbz hr4
    simp only [each, putAll, List.take_succ_cons, List.take_zero, List.drop_succ_cons, List.drop_zero]
    rintro x ⟨N7, rfl, hr7⟩
    simp only [ptF, Act.put, List.setIfInBounds_toArray, List.set_cons_succ, List.set_cons_zero] at hr7 ⊢
    obtain ⟨hN7, hM7, hr7⟩ := hr7
    clear hbz ck6 ck7 hB hBW
    have n37 : N3 ≠ N7 := by omega
    have n47 : N4 ≠ N7 := by omega
    have w7 : w.heap.size ≤ N7 := by omega
    go_wp2_with (first | ((with_reducible show wpList _ _ _ (⟨none, _, _, _, _, _⟩ :: _) _ _); refine wpList_store_agg rfl rfl 91 _ _ rfl N7 (ent ⟨K, V0, V1, V2, V3, V4, List.replicate 32 0⟩) rfl rfl 91 _ hr7 (ty91 _ zl.out) rfl (ent_all _) ?_; intro Y5 hr7 ht))
    simp only [NormQ]
    have hr3 := ht.blk hr3 n37
    have hr4 := ht.blk hr4 n47
    have hW := below_turned hW ht (fun k hk => by subst hk; exact w7)
    clear ht
    go_wp2
    go_loopw [8] (fun i wr => ∃ k : Nat, k ≤ 32 ∧ i = .int .i64 k ∧ Hid (wr.heap[N7]? = some (.cells (ent ⟨K, V0, V1, V2, V3, V4, BD.take k ++ (List.replicate 32 0).drop k⟩) 91 (0, 0))) ∧ Hid (wr.heap[N3]? = some (.cells (sct s) 39 (0, 0)) ∧ wr.heap[N4]? = some (.cells (ent M.En.zero) 91 (0, 0)) ∧ Below w.heap.size w wr)) (fun i _ => 32 - (intOf i).toNat)
    case atStart => exact ⟨0, Nat.zero_le _, rfl, (by show _ = _; simpa using hr7), hr3, hr4, hW⟩
    case round =>
      clear hr3 hr4 hr7 hW
      obtain ⟨k, hk, rfl, HR7, HR⟩ := hrel
      by_cases hlt : k < 32
      · have c1 : wr.cell? ⟨N3, 12 + k, none⟩ = some (.int .u8 (nth BD k)) := by
          rw [cell_of_row _ _ _ _ _ _ HR.out.1, HBN.out k hlt]
          have := u8s_at s (12 + k) (by rw [HS.out]; omega)
          simpa [sct] using this
        have c2 : ∃ v, wr.cell? ⟨N7, 6 + k, none⟩ = some v := by
          rw [cell_of_row _ _ _ _ _ _ HR7.out]
          exact ⟨_, ent_bytes _ k (by show k < (BD.take k ++ (List.replicate 32 0).drop k).length; rw [List.length_append, List.length_take, List.length_drop, HBL.out]; simp; omega)⟩
        obtain ⟨v0, c2⟩ := c2
        have c3 := frozen_of_row wr N7 (6 + k) _ 91 HR7.out
        have bx := nth_lt BD HBB.out k
        have hset : (BD.take k ++ (List.replicate 32 0).drop k).set k (nth BD k) = BD.take (k + 1) ++ (List.replicate 32 0).drop (k + 1) := set_copyE _ BD k (by rw [HBL.out]; simp) (by rw [HBL.out]; exact hlt)
        have HSET := hid hset
        clear hset
        generalize nth BD k = xk at *
        go_wp2
        go_roundw
        case rel =>
          refine ⟨k + 1, by omega, by go_num, ?_, ?_, ?_, HR.out.2.2.setCell w7 _⟩
          · show _ = _
            rw [heap_setCell_same _ _ _ _ 91 _ HR7.out, ent_setb, HSET.out]
          · rw [heap_setCell_other _ _ _ _ (by exact n37)]; exact HR.out.1
          · rw [heap_setCell_other _ _ _ _ (by exact n47)]; exact HR.out.2.1
        case measure => simp [intOf]; omega
      · obtain rfl : k = 32 := by omega
        have e : BD.take 32 ++ (List.replicate 32 0).drop 32 = BD := by rw [List.take_of_length_le (Nat.le_of_eq HBL.out), List.drop_eq_nil_of_le (by simp), List.append_nil]
        rw [e] at HR7
        obtain ⟨hr3, hr4, hW⟩ := HR.out
        have hr7 := HR7.out
        by_cases hr : M.En.right ⟨K, V0, V1, V2, V3, V4, BD⟩ = true
        · have HR := hid hr
          have HDV : Hid (D = (⟨K, V0, V1, V2, V3, V4, BD⟩, true)) := by show _ = _; rw [HD.out, if_pos hr]
          clear hr
          go_wp2_with (first | ((with_reducible show wpList _ _ _ (⟨some 41, _, _, _, _, _⟩ :: _) _ _); refine wpList_load_rowg 41 rfl rfl 91 _ rfl N7 rfl _ (ent ⟨K, V0, V1, V2, V3, V4, BD⟩) (0, 0) _ hr7 Try.underlying91 rfl (ty91 _ HOKB.out).size ?_) | (go_at_call 66; refine (rright4_b ⟨K, V0, V1, V2, V3, V4, BD⟩ _ HOKB.out HR.out _).mono ?_; rintro e w6 ⟨rfl, hb⟩; have sw6 := hb.size; have hW := below_next hW hb; have hr4 := below_blk hb hr4; have hr7 := below_blk hb hr7) | ((with_reducible show wpList _ _ _ (⟨some 45, _, _, _, _, _⟩ :: _) _ _); refine wpList_load_rowg 45 rfl rfl 91 _ rfl N7 rfl _ (ent ⟨K, V0, V1, V2, V3, V4, BD⟩) (0, 0) _ hr7 Try.underlying91 rfl (ty91 _ HOKB.out).size ?_) | ((with_reducible show wpList _ _ _ (⟨none, _, _, _, _, _⟩ :: _) _ _); refine wpList_store_agg rfl rfl 91 _ _ rfl N4 (ent ⟨K, V0, V1, V2, V3, V4, BD⟩) rfl rfl 91 _ hr4 (ty91 _ HOKB.out) (by rw [ent_size _ M.zeroE_ok, ent_size _ HOKB.out]) (ent_all _) ?_; intro Z2 hrZ htZ))
          refine ret_cell 4 5 91 rfl rfl N4 rfl 91 _ (0, 0) _ hrZ Try.underlying91 rfl (ty91 _ HOKB.out).size _ rfl ⟨by rw [HDV.out]; rfl, below_turned hW htZ (fun k hk => by subst hk; exact w4)⟩
        · have HR : Hid (M.En.right ⟨K, V0, V1, V2, V3, V4, BD⟩ = false) := by show _ = _; simpa using hr
          have HDV : Hid (D = (M.En.zero, false)) := by show _ = _; rw [HD.out, if_neg hr]
          clear hr
          go_wp2_with (first | ((with_reducible show wpList _ _ _ (⟨some 41, _, _, _, _, _⟩ :: _) _ _); refine wpList_load_rowg 41 rfl rfl 91 _ rfl N7 rfl _ (ent ⟨K, V0, V1, V2, V3, V4, BD⟩) (0, 0) _ hr7 Try.underlying91 rfl (ty91 _ HOKB.out).size ?_) | (go_at_call 66; refine (rright4_b ⟨K, V0, V1, V2, V3, V4, BD⟩ _ HOKB.out HR.out _).mono ?_; rintro e w6 ⟨rfl, hb⟩; have sw6 := hb.size; have hW := below_next hW hb; have hr4 := below_blk hb hr4; have hr7 := below_blk hb hr7) | ((with_reducible show wpList _ _ _ (⟨some 44, _, _, _, _, _⟩ :: _) _ _); refine wpList_build_as 44 rfl rfl 91 _ rfl (ent M.En.zero) build_zero91 ?_) | ((with_reducible show wpList _ _ _ (⟨none, _, _, _, _, _⟩ :: _) _ _); refine wpList_store_agg rfl rfl 91 _ _ rfl N4 (ent M.En.zero) rfl rfl 91 _ hr4 (ty91 _ M.zeroE_ok) (rfl) (ent_all _) ?_; intro Z2 hrZ htZ))
          refine ret_cell 4 5 91 rfl rfl N4 rfl 91 _ (0, 0) _ hrZ Try.underlying91 rfl (ty91 _ M.zeroE_ok).size _ rfl ⟨by rw [HDV.out]; rfl, below_turned hW htZ (fun k hk => by subst hk; exact w4)⟩
end Go.Proofs.Ytncooadaeifekaa

/- Helpers for the walks: an element of an array of bytes. -/
namespace Go.Proofs.Ytncooadaeifekaa
open Go.RowKit
theorem run_index80 (w : World) (s : List Nat) (i : Nat) (hs : s.length = 32) (hi : i < 32) : (Instr.index 80 (.agg (sct s)) (.int .i64 i)).run Try.prog w = .ok (.int .u8 (nth s i)) w := by
  have h : (sct s)[i]? = some (.int .u8 (nth s i)) := by
    have := u8s_at s i (by omega)
    simpa [sct] using this
  unfold Instr.index
  simp [go_sem, run_underlying Try.underlying80, h, hi]
/-- 'index' of an array of 32 bytes, under a guard that says yes -/
theorem wpList_index80 {ops : Array Oper} {rest : List Oper} {o : Oper} {a : Act} {w : World} {Q : Exit → Act → World → Prop} (d : Tmp) (hd : o.dst = some d) (hw : Region.wanted o (yielded ops a.tmps) = true) (x ix : Operand) (ho : o.op = .index 80 x ix)
    (s : List Nat) (i : Nat) (hx : a.eval x = .agg (sct s)) (hix : a.eval ix = .int .i64 i) (hs : s.length = 32) (hi : i < 32)
    (h : wpList Try.prog ops Q rest (a.put (some d) (.int .u8 (nth s i))) w) : wpList Try.prog ops Q (o :: rest) a w := by
  refine wpList_wanted hw fun K hK => ?_
  unfold Oper.wp execOp
  simp only [ho, hx, hix, Sem.run_bind, run_index80 _ s i hs hi, Result.andThen_ok, Sem.run_pure]
  show K (a.put o.dst _) _
  rw [hd]
  exact hK _ _ h
end Go.Proofs.Ytncooadaeifekaa
