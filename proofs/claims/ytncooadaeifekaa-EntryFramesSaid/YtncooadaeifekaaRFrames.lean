/- EntryFrames is proved: for any entry and numbers the law returns true. No condition. -/
import Derived.Deep.MidRow
import Derived.Test.YtncooadaeifekaaPF5
/- Helpers for the walks: an array stored into the middle of a variable. -/
namespace Go.Proofs.Ytncooadaeifekaa
open Go.RowKit
theorem setCells_rowT (N : Nat) (t : TypeId) : ∀ (vs : List Value) (o : Nat) (w : World) (cur : Array Value), w.heap[N]? = some (.cells cur t (0, 0)) → o + vs.length ≤ cur.size →
    (w.setCells N o vs).heap[N]? = some (.cells (cur.toList.take o ++ (vs ++ cur.toList.drop (o + vs.length))).toArray t (0, 0))
  | [], o, w, cur, hg, _ => by
    simp only [World.setCells, List.length_nil, Nat.add_zero, List.nil_append, List.take_append_drop]
    exact hg
  | v :: r, o, w, cur, hg, hf => by
    simp only [List.length_cons] at hf
    have h1 := heap_setCell_same w N o cur t v hg
    have h2 := setCells_rowT N t r (o + 1) _ _ h1 (by simp; omega)
    rw [World.setCells, h2]
    have hl : o < cur.toList.length := by simp; omega
    have e1 : (cur.setIfInBounds o v).toList.take (o + 1) = cur.toList.take o ++ [v] := by
      rw [Array.toList_setIfInBounds, List.take_add_one, List.take_set_of_le (Nat.le_refl o), List.getElem?_set_self hl]; rfl
    have e2 : (cur.setIfInBounds o v).toList.drop (o + 1 + r.length) = cur.toList.drop (o + (v :: r).length) := by
      rw [Array.toList_setIfInBounds, List.drop_set_of_lt (by omega), List.length_cons]
      congr 1; omega
    rw [e1, e2]
    simp
theorem turned_setCells {S : Nat → Prop} {w : World} (N : Nat) (hS : S N) : ∀ (vs : List Value) (o : Nat) (w' : World), Turned S w w' → Turned S w (w'.setCells N o vs)
  | [], _, _, h => h
  | v :: r, o, w', h => by
    rw [World.setCells]
    exact turned_setCells N hS r (o + 1) _ (h.setCell (p := ⟨N, o, none⟩) (.inl hS) v)
/-- an array's value is stored into the middle of a variable -/
theorem wpList_store_part {ops : Array Oper} {rest : List Oper} {o : Oper} {a : Act} {w : World} {Q : Exit → Act → World → Prop} (hgd : o.guard = none) (hd : o.dst = none) (ty : TypeId) (x y : Operand) (ho : o.op = .store ty x y)
    (N off : Nat) (s : List Nat) (hx : a.eval x = .pointer (some ⟨N, off, none⟩)) (hy : a.eval y = .agg (sct s)) (t : TypeId) (cur cur' : Array Value) (hg : w.heap[N]? = some (.cells cur t (0, 0))) (ht : TyRow Try.prog ty (sct s).size)
    (hfit : off + s.length ≤ cur.size) (hc : (cur.toList.take off ++ (u8s s ++ cur.toList.drop (off + s.length))).toArray = cur')
    (h : ∀ W : World, W.heap[N]? = some (.cells cur' t (0, 0)) → Turned (fun k => k = N) w W → wpList Try.prog ops Q rest a W) : wpList Try.prog ops Q (o :: rest) a w := by
  have hl : (u8s s).length = s.length := u8s_length s
  have hth : w.there N off (sct s).size := fun j hj => by
    rw [sct_size] at hj
    refine ⟨?_, frozen_of_row w N (off + j) _ t hg⟩
    rw [cell_of_row _ _ _ _ _ _ hg, Array.getElem?_eq_getElem (by omega)]; rfl
  refine wpList_store_mid hgd ty x y ho N off (sct s) hx hy hth ht.size (sct_all s) ?_
  rw [hd]
  refine h _ ?_ (turned_setCells (S := fun k => k = N) N rfl _ _ _ (Turned.refl _ _))
  have := setCells_rowT N t (u8s s) off w cur hg (by rw [hl]; exact hfit)
  rw [hl, hc] at this
  simpa [sct] using this
end Go.Proofs.Ytncooadaeifekaa

/- Walk of the law EntryFrames: it answers true for any entry and numbers. -/
namespace Go.Proofs.Ytncooadaeifekaa
open Go.RowKit
theorem build_frm5 (k z o e q : Int) (w : World) : (Instr.build 42 #[(0, .int .i64 k), (1, .int .i64 z), (2, .int .i64 o), (3, .int .i64 e), (4, .int .i64 q)]).run Try.prog w = .ok (.agg (frm ⟨k, z, o, e, q, List.replicate 44 0⟩)) w := by kernel_rfl
set_option maxRecDepth 100000 in
set_option maxHeartbeats 2000000 in
theorem frames_a (w : World) (e : M.En) (hok : e.ok) (z o ep q : Int) (hr : e.right = false) :
    Calls Try.prog 22 #[.agg (ent e), .int .i64 z, .int .i64 o, .int .i64 ep, .int .i64 q] w fun r w' => r = .returned (.bool true) ∧ Below w.heap.size w w' := by
  have HG0 : Hid ((⟨e.kind, z, o, ep, q, List.replicate 44 0⟩ : M.Fr).ok) := ⟨by simp, by simp⟩
  have HGK : Hid ((⟨e.kind, z, o, ep, q, e.body⟩ : M.Fr).ok) := M.fr_ok e hok z o ep q
  have HBL := hid (e.body_length hok)
  have HOK := hid hok
  have HQ0 : Hid (∀ w, (Op.equalIn 10000 41 (.agg (frm M.Fr.zero)) (.agg (frm M.Fr.zero))).run Try.prog w = .ok true w) := fun w => by rw [eq_frm41 _ _ M.zero_ok M.zero_ok]; simp
  have HV : Hid (e.frame z o ep q = (M.Fr.zero, 10)) := by show _ = _; rw [M.En.frame, if_neg (fun h => by rw [hr] at h; exact absurd h.1 (by simp))]
  have HR := hid hr
  clear hok hr
  have hW := Below.refl w.heap.size w
  go_enter Try.func22, Try.ntmps22
  go_wp2_with (first | ((with_reducible show wpList _ _ _ (⟨some 5, _, _, _, _, _⟩ :: _) _ _); refine wpList_boxed 5 rfl rfl 82 _ rfl (ent e) rfl ?_; intro W5 N5 hNN5 hMN5 hr5 hb; have sW5 := hb.size; have hW := below_next hW hb) | (go_at_call 60; refine (anchor4_calls _).mono ?_; rintro e w1 ⟨rfl, hb⟩; have sw1 := hb.size; have hW := below_next hW hb; have hr5 := below_blk hb hr5) | ((with_reducible show wpList _ _ _ (⟨some 20, _, _, _, _, _⟩ :: _) _ _); refine wpList_load_rowg 20 rfl rfl 82 _ rfl N5 rfl _ (ent e) (0, 0) _ hr5 Try.underlying82 rfl (ty82 _ HOK.out).size ?_) | (go_at_call 63; refine (eframe_calls e HOK.out z o ep q _).mono ?_; rintro e w2 ⟨rfl, hb⟩; rw [HV.out]; have sw2 := hb.size; have hW := below_next hW hb; have hr5 := below_blk hb hr5) | ((with_reducible show wpList _ _ _ (⟨some 11, _, _, _, _, _⟩ :: _) _ _); refine wpList_local 11 rfl rfl rfl rfl 41 rfl _ rfl (frm M.Fr.zero) rfl (of_decide_eq_true (by kernel_rfl)) (ty41 _ M.zero_ok) (frm_all _) ?_; intro W11 N11 hNN11 hMN11 hr11 hb; have sW11 := hb.size; have hW := below_next hW hb; have hr5 := below_blk hb hr5; have c0 := cell_of_row _ N5 0 _ _ _ hr5; rw [ent0] at c0) | ((with_reducible show wpList _ _ _ (⟨some 34, _, _, _, _, _⟩ :: _) _ _); refine wpList_build_p 34 rfl rfl 42 _ rfl #[(0, .int .i64 e.kind), (1, .int .i64 z), (2, .int .i64 o), (3, .int .i64 ep), (4, .int .i64 q)] (by kernel_rfl) (frm ⟨e.kind, z, o, ep, q, List.replicate 44 0⟩) (build_frm5 _ _ _ _ _) ?_) | ((with_reducible show wpList _ _ _ (⟨some 13, _, _, _, _, _⟩ :: _) _ _); refine wpList_local 13 rfl rfl rfl rfl 42 rfl _ rfl (frm ⟨e.kind, z, o, ep, q, List.replicate 44 0⟩) rfl (of_decide_eq_true (by kernel_rfl)) (ty42' _ HG0.out) (frm_all _) ?_; intro W13 N13 hNN13 hMN13 hr13 hb; have sW13 := hb.size; have hW := below_next hW hb; have hr5 := below_blk hb hr5; have hr11 := below_blk hb hr11) | ((with_reducible show wpList _ _ _ (⟨some 35, _, _, _, _, _⟩ :: _) _ _); refine wpList_load_rowg 35 rfl rfl 82 _ rfl N5 rfl _ (ent e) (0, 0) _ hr5 Try.underlying82 rfl (ty82 _ HOK.out).size ?_) | (go_at_call 65; refine (lawof_calls e HOK.out _).mono ?_; rintro e w3 ⟨rfl, hb⟩; have sw3 := hb.size; have hW := below_next hW hb; have hr5 := below_blk hb hr5; have hr11 := below_blk hb hr11; have hr13 := below_blk hb hr13) | (go_at_call 66; refine (rright4_b e _ HOK.out HR.out _).mono ?_; rintro e w4 ⟨rfl, hb⟩; have sw4 := hb.size; have hW := below_next hW hb; have hr5 := below_blk hb hr5; have hr11 := below_blk hb hr11; have hr13 := below_blk hb hr13) | ((with_reducible show wpList _ _ _ (⟨some 62, _, _, _, _, _⟩ :: _) _ _); refine wpList_load_rowg 62 rfl rfl 41 _ rfl N11 rfl _ (frm M.Fr.zero) (0, 0) _ hr11 Try.underlying41 rfl (ty41 _ M.zero_ok).size ?_) | ((with_reducible show wpList _ _ _ (⟨some 63, _, _, _, _, _⟩ :: _) _ _); refine wpList_build_g 63 rfl rfl 41 _ rfl (frm M.Fr.zero) build_zero41 ?_) | ((with_reducible show wpList _ _ _ (⟨some 64, _, _, _, _, _⟩ :: _) _ _); refine wpList_eql 64 rfl rfl 41 _ _ _ rfl (frm M.Fr.zero) (frm M.Fr.zero) rfl rfl grd41 true HQ0.out ?_))
  go_ret
  exact ⟨rfl, hW⟩
set_option maxRecDepth 100000 in
set_option maxHeartbeats 2000000 in
theorem frames_b (w : World) (e : M.En) (hok : e.ok) (z o ep q : Int) (hr : e.right = true) (hf : (M.Fr.right ⟨e.kind, z, o, ep, q, List.replicate 44 0⟩) = false) :
    Calls Try.prog 22 #[.agg (ent e), .int .i64 z, .int .i64 o, .int .i64 ep, .int .i64 q] w fun r w' => r = .returned (.bool true) ∧ Below w.heap.size w w' := by
  have HG0 : Hid ((⟨e.kind, z, o, ep, q, List.replicate 44 0⟩ : M.Fr).ok) := ⟨by simp, by simp⟩
  have HGK : Hid ((⟨e.kind, z, o, ep, q, e.body⟩ : M.Fr).ok) := M.fr_ok e hok z o ep q
  have HBL := hid (e.body_length hok)
  have HOK := hid hok
  have HQ0 : Hid (∀ w, (Op.equalIn 10000 41 (.agg (frm M.Fr.zero)) (.agg (frm M.Fr.zero))).run Try.prog w = .ok true w) := fun w => by rw [eq_frm41 _ _ M.zero_ok M.zero_ok]; simp
  have HV : Hid (e.frame z o ep q = (M.Fr.zero, 10)) := by show _ = _; rw [M.En.frame, if_neg (fun h => by have h2 : (M.Fr.right ⟨e.kind, z, o, ep, q, List.replicate 44 0⟩) = true := h.2.1; rw [hf] at h2; exact absurd h2 (by simp))]
  have HR := hid hr
  have HFR := hid hf
  clear hok hr hf
  have hW := Below.refl w.heap.size w
  go_enter Try.func22, Try.ntmps22
  go_wp2_with (first | ((with_reducible show wpList _ _ _ (⟨some 5, _, _, _, _, _⟩ :: _) _ _); refine wpList_boxed 5 rfl rfl 82 _ rfl (ent e) rfl ?_; intro W5 N5 hNN5 hMN5 hr5 hb; have sW5 := hb.size; have hW := below_next hW hb) | (go_at_call 60; refine (anchor4_calls _).mono ?_; rintro e w1 ⟨rfl, hb⟩; have sw1 := hb.size; have hW := below_next hW hb; have hr5 := below_blk hb hr5) | ((with_reducible show wpList _ _ _ (⟨some 20, _, _, _, _, _⟩ :: _) _ _); refine wpList_load_rowg 20 rfl rfl 82 _ rfl N5 rfl _ (ent e) (0, 0) _ hr5 Try.underlying82 rfl (ty82 _ HOK.out).size ?_) | (go_at_call 63; refine (eframe_calls e HOK.out z o ep q _).mono ?_; rintro e w2 ⟨rfl, hb⟩; rw [HV.out]; have sw2 := hb.size; have hW := below_next hW hb; have hr5 := below_blk hb hr5) | ((with_reducible show wpList _ _ _ (⟨some 11, _, _, _, _, _⟩ :: _) _ _); refine wpList_local 11 rfl rfl rfl rfl 41 rfl _ rfl (frm M.Fr.zero) rfl (of_decide_eq_true (by kernel_rfl)) (ty41 _ M.zero_ok) (frm_all _) ?_; intro W11 N11 hNN11 hMN11 hr11 hb; have sW11 := hb.size; have hW := below_next hW hb; have hr5 := below_blk hb hr5; have c0 := cell_of_row _ N5 0 _ _ _ hr5; rw [ent0] at c0) | ((with_reducible show wpList _ _ _ (⟨some 34, _, _, _, _, _⟩ :: _) _ _); refine wpList_build_p 34 rfl rfl 42 _ rfl #[(0, .int .i64 e.kind), (1, .int .i64 z), (2, .int .i64 o), (3, .int .i64 ep), (4, .int .i64 q)] (by kernel_rfl) (frm ⟨e.kind, z, o, ep, q, List.replicate 44 0⟩) (build_frm5 _ _ _ _ _) ?_) | ((with_reducible show wpList _ _ _ (⟨some 13, _, _, _, _, _⟩ :: _) _ _); refine wpList_local 13 rfl rfl rfl rfl 42 rfl _ rfl (frm ⟨e.kind, z, o, ep, q, List.replicate 44 0⟩) rfl (of_decide_eq_true (by kernel_rfl)) (ty42' _ HG0.out) (frm_all _) ?_; intro W13 N13 hNN13 hMN13 hr13 hb; have sW13 := hb.size; have hW := below_next hW hb; have hr5 := below_blk hb hr5; have hr11 := below_blk hb hr11) | ((with_reducible show wpList _ _ _ (⟨some 35, _, _, _, _, _⟩ :: _) _ _); refine wpList_load_rowg 35 rfl rfl 82 _ rfl N5 rfl _ (ent e) (0, 0) _ hr5 Try.underlying82 rfl (ty82 _ HOK.out).size ?_) | (go_at_call 65; refine (lawof_calls e HOK.out _).mono ?_; rintro e w3 ⟨rfl, hb⟩; have sw3 := hb.size; have hW := below_next hW hb; have hr5 := below_blk hb hr5; have hr11 := below_blk hb hr11; have hr13 := below_blk hb hr13) | (go_at_call 66; refine (rright4_b e _ HOK.out HR.out _).mono ?_; rintro e w4 ⟨rfl, hb⟩; have sw4 := hb.size; have hW := below_next hW hb; have hr5 := below_blk hb hr5; have hr11 := below_blk hb hr11; have hr13 := below_blk hb hr13) | ((with_reducible show wpList _ _ _ (⟨some 39, _, _, _, _, _⟩ :: _) _ _); refine wpList_load_rowg 39 rfl rfl 42 _ rfl N13 rfl _ (frm ⟨e.kind, z, o, ep, q, List.replicate 44 0⟩) (0, 0) _ hr13 Try.underlying42 rfl (ty42' _ HG0.out).size ?_) | (go_at_call 39; refine (rright_b ⟨e.kind, z, o, ep, q, List.replicate 44 0⟩ _ HFR.out _).mono ?_; rintro e w6 ⟨rfl, hb⟩; have sw6 := hb.size; have hW := below_next hW hb; have hr5 := below_blk hb hr5; have hr11 := below_blk hb hr11; have hr13 := below_blk hb hr13; have c1 := cell_of_row _ N5 1 _ _ _ hr5; rw [ent1] at c1; have c2 := cell_of_row _ N5 2 _ _ _ hr5; rw [ent2] at c2) | ((with_reducible show wpList _ _ _ (⟨some 62, _, _, _, _, _⟩ :: _) _ _); refine wpList_load_rowg 62 rfl rfl 41 _ rfl N11 rfl _ (frm M.Fr.zero) (0, 0) _ hr11 Try.underlying41 rfl (ty41 _ M.zero_ok).size ?_) | ((with_reducible show wpList _ _ _ (⟨some 63, _, _, _, _, _⟩ :: _) _ _); refine wpList_build_g 63 rfl rfl 41 _ rfl (frm M.Fr.zero) build_zero41 ?_) | ((with_reducible show wpList _ _ _ (⟨some 64, _, _, _, _, _⟩ :: _) _ _); refine wpList_eql 64 rfl rfl 41 _ _ _ rfl (frm M.Fr.zero) (frm M.Fr.zero) rfl rfl grd41 true HQ0.out ?_))
  go_ret
  exact ⟨rfl, hW⟩
set_option maxRecDepth 100000 in
set_option maxHeartbeats 2000000 in
theorem frames_c (w : World) (e : M.En) (hok : e.ok) (z o ep q : Int) (hr : e.right = true) (hf : (M.Fr.right ⟨e.kind, z, o, ep, q, List.replicate 44 0⟩) = true) (h1 : ¬ e.first ≤ q) :
    Calls Try.prog 22 #[.agg (ent e), .int .i64 z, .int .i64 o, .int .i64 ep, .int .i64 q] w fun r w' => r = .returned (.bool true) ∧ Below w.heap.size w w' := by
  have HG0 : Hid ((⟨e.kind, z, o, ep, q, List.replicate 44 0⟩ : M.Fr).ok) := ⟨by simp, by simp⟩
  have HGK : Hid ((⟨e.kind, z, o, ep, q, e.body⟩ : M.Fr).ok) := M.fr_ok e hok z o ep q
  have HBL := hid (e.body_length hok)
  have HOK := hid hok
  have HQ0 : Hid (∀ w, (Op.equalIn 10000 41 (.agg (frm M.Fr.zero)) (.agg (frm M.Fr.zero))).run Try.prog w = .ok true w) := fun w => by rw [eq_frm41 _ _ M.zero_ok M.zero_ok]; simp
  have HV : Hid (e.frame z o ep q = (M.Fr.zero, 10)) := by show _ = _; rw [M.En.frame, if_neg (fun h => h1 h.2.2.1)]
  have HR := hid hr
  have HFR := hid hf
  have t1 : decide (e.first ≤ q) = false := by simpa using h1
  clear hok hr hf h1
  have hW := Below.refl w.heap.size w
  go_enter Try.func22, Try.ntmps22
  go_wp2_with (first | ((with_reducible show wpList _ _ _ (⟨some 5, _, _, _, _, _⟩ :: _) _ _); refine wpList_boxed 5 rfl rfl 82 _ rfl (ent e) rfl ?_; intro W5 N5 hNN5 hMN5 hr5 hb; have sW5 := hb.size; have hW := below_next hW hb) | (go_at_call 60; refine (anchor4_calls _).mono ?_; rintro e w1 ⟨rfl, hb⟩; have sw1 := hb.size; have hW := below_next hW hb; have hr5 := below_blk hb hr5) | ((with_reducible show wpList _ _ _ (⟨some 20, _, _, _, _, _⟩ :: _) _ _); refine wpList_load_rowg 20 rfl rfl 82 _ rfl N5 rfl _ (ent e) (0, 0) _ hr5 Try.underlying82 rfl (ty82 _ HOK.out).size ?_) | (go_at_call 63; refine (eframe_calls e HOK.out z o ep q _).mono ?_; rintro e w2 ⟨rfl, hb⟩; rw [HV.out]; have sw2 := hb.size; have hW := below_next hW hb; have hr5 := below_blk hb hr5) | ((with_reducible show wpList _ _ _ (⟨some 11, _, _, _, _, _⟩ :: _) _ _); refine wpList_local 11 rfl rfl rfl rfl 41 rfl _ rfl (frm M.Fr.zero) rfl (of_decide_eq_true (by kernel_rfl)) (ty41 _ M.zero_ok) (frm_all _) ?_; intro W11 N11 hNN11 hMN11 hr11 hb; have sW11 := hb.size; have hW := below_next hW hb; have hr5 := below_blk hb hr5; have c0 := cell_of_row _ N5 0 _ _ _ hr5; rw [ent0] at c0) | ((with_reducible show wpList _ _ _ (⟨some 34, _, _, _, _, _⟩ :: _) _ _); refine wpList_build_p 34 rfl rfl 42 _ rfl #[(0, .int .i64 e.kind), (1, .int .i64 z), (2, .int .i64 o), (3, .int .i64 ep), (4, .int .i64 q)] (by kernel_rfl) (frm ⟨e.kind, z, o, ep, q, List.replicate 44 0⟩) (build_frm5 _ _ _ _ _) ?_) | ((with_reducible show wpList _ _ _ (⟨some 13, _, _, _, _, _⟩ :: _) _ _); refine wpList_local 13 rfl rfl rfl rfl 42 rfl _ rfl (frm ⟨e.kind, z, o, ep, q, List.replicate 44 0⟩) rfl (of_decide_eq_true (by kernel_rfl)) (ty42' _ HG0.out) (frm_all _) ?_; intro W13 N13 hNN13 hMN13 hr13 hb; have sW13 := hb.size; have hW := below_next hW hb; have hr5 := below_blk hb hr5; have hr11 := below_blk hb hr11) | ((with_reducible show wpList _ _ _ (⟨some 35, _, _, _, _, _⟩ :: _) _ _); refine wpList_load_rowg 35 rfl rfl 82 _ rfl N5 rfl _ (ent e) (0, 0) _ hr5 Try.underlying82 rfl (ty82 _ HOK.out).size ?_) | (go_at_call 65; refine (lawof_calls e HOK.out _).mono ?_; rintro e w3 ⟨rfl, hb⟩; have sw3 := hb.size; have hW := below_next hW hb; have hr5 := below_blk hb hr5; have hr11 := below_blk hb hr11; have hr13 := below_blk hb hr13) | (go_at_call 66; refine (rright4_b e _ HOK.out HR.out _).mono ?_; rintro e w4 ⟨rfl, hb⟩; have sw4 := hb.size; have hW := below_next hW hb; have hr5 := below_blk hb hr5; have hr11 := below_blk hb hr11; have hr13 := below_blk hb hr13) | ((with_reducible show wpList _ _ _ (⟨some 39, _, _, _, _, _⟩ :: _) _ _); refine wpList_load_rowg 39 rfl rfl 42 _ rfl N13 rfl _ (frm ⟨e.kind, z, o, ep, q, List.replicate 44 0⟩) (0, 0) _ hr13 Try.underlying42 rfl (ty42' _ HG0.out).size ?_) | (go_at_call 39; refine (rright_b ⟨e.kind, z, o, ep, q, List.replicate 44 0⟩ _ HFR.out _).mono ?_; rintro e w6 ⟨rfl, hb⟩; have sw6 := hb.size; have hW := below_next hW hb; have hr5 := below_blk hb hr5; have hr11 := below_blk hb hr11; have hr13 := below_blk hb hr13; have c1 := cell_of_row _ N5 1 _ _ _ hr5; rw [ent1] at c1; have c2 := cell_of_row _ N5 2 _ _ _ hr5; rw [ent2] at c2) | ((with_reducible show wpList _ _ _ (⟨some 62, _, _, _, _, _⟩ :: _) _ _); refine wpList_load_rowg 62 rfl rfl 41 _ rfl N11 rfl _ (frm M.Fr.zero) (0, 0) _ hr11 Try.underlying41 rfl (ty41 _ M.zero_ok).size ?_) | ((with_reducible show wpList _ _ _ (⟨some 63, _, _, _, _, _⟩ :: _) _ _); refine wpList_build_g 63 rfl rfl 41 _ rfl (frm M.Fr.zero) build_zero41 ?_) | ((with_reducible show wpList _ _ _ (⟨some 64, _, _, _, _, _⟩ :: _) _ _); refine wpList_eql 64 rfl rfl 41 _ _ _ rfl (frm M.Fr.zero) (frm M.Fr.zero) rfl rfl grd41 true HQ0.out ?_))
  go_ret
  exact ⟨rfl, hW⟩
set_option maxRecDepth 100000 in
set_option maxHeartbeats 2000000 in
theorem frames_d (w : World) (e : M.En) (hok : e.ok) (z o ep q : Int) (hr : e.right = true) (hf : (M.Fr.right ⟨e.kind, z, o, ep, q, List.replicate 44 0⟩) = true) (h1 : e.first ≤ q) (h2 : ¬ q < e.first + e.count) :
    Calls Try.prog 22 #[.agg (ent e), .int .i64 z, .int .i64 o, .int .i64 ep, .int .i64 q] w fun r w' => r = .returned (.bool true) ∧ Below w.heap.size w w' := by
  have HG0 : Hid ((⟨e.kind, z, o, ep, q, List.replicate 44 0⟩ : M.Fr).ok) := ⟨by simp, by simp⟩
  have HGK : Hid ((⟨e.kind, z, o, ep, q, e.body⟩ : M.Fr).ok) := M.fr_ok e hok z o ep q
  have HBL := hid (e.body_length hok)
  have HOK := hid hok
  have HQ0 : Hid (∀ w, (Op.equalIn 10000 41 (.agg (frm M.Fr.zero)) (.agg (frm M.Fr.zero))).run Try.prog w = .ok true w) := fun w => by rw [eq_frm41 _ _ M.zero_ok M.zero_ok]; simp
  have HV : Hid (e.frame z o ep q = (M.Fr.zero, 10)) := by show _ = _; rw [M.En.frame, if_neg (fun h => h2 h.2.2.2)]
  have HR := hid hr
  have HFR := hid hf
  have hb := e.right_bounds hr
  obtain ⟨⟨b1, b2⟩, -, -, ⟨b3, b4⟩, -⟩ := hb
  have hsum : wrap64 (e.first + e.count) = e.first + e.count := by unfold wrap64; omega
  have t1 : decide (e.first ≤ q) = true := by simpa using h1
  have t2 : decide (q < e.first + e.count) = false := by simpa using h2
  clear hok hr hf h1 h2
  have hW := Below.refl w.heap.size w
  go_enter Try.func22, Try.ntmps22
  go_wp2_with (first | ((with_reducible show wpList _ _ _ (⟨some 5, _, _, _, _, _⟩ :: _) _ _); refine wpList_boxed 5 rfl rfl 82 _ rfl (ent e) rfl ?_; intro W5 N5 hNN5 hMN5 hr5 hb; have sW5 := hb.size; have hW := below_next hW hb) | (go_at_call 60; refine (anchor4_calls _).mono ?_; rintro e w1 ⟨rfl, hb⟩; have sw1 := hb.size; have hW := below_next hW hb; have hr5 := below_blk hb hr5) | ((with_reducible show wpList _ _ _ (⟨some 20, _, _, _, _, _⟩ :: _) _ _); refine wpList_load_rowg 20 rfl rfl 82 _ rfl N5 rfl _ (ent e) (0, 0) _ hr5 Try.underlying82 rfl (ty82 _ HOK.out).size ?_) | (go_at_call 63; refine (eframe_calls e HOK.out z o ep q _).mono ?_; rintro e w2 ⟨rfl, hb⟩; rw [HV.out]; have sw2 := hb.size; have hW := below_next hW hb; have hr5 := below_blk hb hr5) | ((with_reducible show wpList _ _ _ (⟨some 11, _, _, _, _, _⟩ :: _) _ _); refine wpList_local 11 rfl rfl rfl rfl 41 rfl _ rfl (frm M.Fr.zero) rfl (of_decide_eq_true (by kernel_rfl)) (ty41 _ M.zero_ok) (frm_all _) ?_; intro W11 N11 hNN11 hMN11 hr11 hb; have sW11 := hb.size; have hW := below_next hW hb; have hr5 := below_blk hb hr5; have c0 := cell_of_row _ N5 0 _ _ _ hr5; rw [ent0] at c0) | ((with_reducible show wpList _ _ _ (⟨some 34, _, _, _, _, _⟩ :: _) _ _); refine wpList_build_p 34 rfl rfl 42 _ rfl #[(0, .int .i64 e.kind), (1, .int .i64 z), (2, .int .i64 o), (3, .int .i64 ep), (4, .int .i64 q)] (by kernel_rfl) (frm ⟨e.kind, z, o, ep, q, List.replicate 44 0⟩) (build_frm5 _ _ _ _ _) ?_) | ((with_reducible show wpList _ _ _ (⟨some 13, _, _, _, _, _⟩ :: _) _ _); refine wpList_local 13 rfl rfl rfl rfl 42 rfl _ rfl (frm ⟨e.kind, z, o, ep, q, List.replicate 44 0⟩) rfl (of_decide_eq_true (by kernel_rfl)) (ty42' _ HG0.out) (frm_all _) ?_; intro W13 N13 hNN13 hMN13 hr13 hb; have sW13 := hb.size; have hW := below_next hW hb; have hr5 := below_blk hb hr5; have hr11 := below_blk hb hr11) | ((with_reducible show wpList _ _ _ (⟨some 35, _, _, _, _, _⟩ :: _) _ _); refine wpList_load_rowg 35 rfl rfl 82 _ rfl N5 rfl _ (ent e) (0, 0) _ hr5 Try.underlying82 rfl (ty82 _ HOK.out).size ?_) | (go_at_call 65; refine (lawof_calls e HOK.out _).mono ?_; rintro e w3 ⟨rfl, hb⟩; have sw3 := hb.size; have hW := below_next hW hb; have hr5 := below_blk hb hr5; have hr11 := below_blk hb hr11; have hr13 := below_blk hb hr13) | (go_at_call 66; refine (rright4_b e _ HOK.out HR.out _).mono ?_; rintro e w4 ⟨rfl, hb⟩; have sw4 := hb.size; have hW := below_next hW hb; have hr5 := below_blk hb hr5; have hr11 := below_blk hb hr11; have hr13 := below_blk hb hr13) | ((with_reducible show wpList _ _ _ (⟨some 39, _, _, _, _, _⟩ :: _) _ _); refine wpList_load_rowg 39 rfl rfl 42 _ rfl N13 rfl _ (frm ⟨e.kind, z, o, ep, q, List.replicate 44 0⟩) (0, 0) _ hr13 Try.underlying42 rfl (ty42' _ HG0.out).size ?_) | (go_at_call 39; refine (rright_b ⟨e.kind, z, o, ep, q, List.replicate 44 0⟩ _ HFR.out _).mono ?_; rintro e w6 ⟨rfl, hb⟩; have sw6 := hb.size; have hW := below_next hW hb; have hr5 := below_blk hb hr5; have hr11 := below_blk hb hr11; have hr13 := below_blk hb hr13; have c1 := cell_of_row _ N5 1 _ _ _ hr5; rw [ent1] at c1; have c2 := cell_of_row _ N5 2 _ _ _ hr5; rw [ent2] at c2) | ((with_reducible show wpList _ _ _ (⟨some 62, _, _, _, _, _⟩ :: _) _ _); refine wpList_load_rowg 62 rfl rfl 41 _ rfl N11 rfl _ (frm M.Fr.zero) (0, 0) _ hr11 Try.underlying41 rfl (ty41 _ M.zero_ok).size ?_) | ((with_reducible show wpList _ _ _ (⟨some 63, _, _, _, _, _⟩ :: _) _ _); refine wpList_build_g 63 rfl rfl 41 _ rfl (frm M.Fr.zero) build_zero41 ?_) | ((with_reducible show wpList _ _ _ (⟨some 64, _, _, _, _, _⟩ :: _) _ _); refine wpList_eql 64 rfl rfl 41 _ _ _ rfl (frm M.Fr.zero) (frm M.Fr.zero) rfl rfl grd41 true HQ0.out ?_))
  go_ret
  exact ⟨rfl, hW⟩
set_option maxRecDepth 100000 in
set_option maxHeartbeats 2000000 in
theorem frames_e (w : World) (e : M.En) (hok : e.ok) (z o ep q : Int) (hr : e.right = true) (hf : (M.Fr.right ⟨e.kind, z, o, ep, q, List.replicate 44 0⟩) = true) (h1 : e.first ≤ q) (h2 : q < e.first + e.count) :
    Calls Try.prog 22 #[.agg (ent e), .int .i64 z, .int .i64 o, .int .i64 ep, .int .i64 q] w fun r w' => r = .returned (.bool true) ∧ Below w.heap.size w w' := by
  have HG0 : Hid ((⟨e.kind, z, o, ep, q, List.replicate 44 0⟩ : M.Fr).ok) := ⟨by simp, by simp⟩
  have HGK : Hid ((⟨e.kind, z, o, ep, q, e.body⟩ : M.Fr).ok) := M.fr_ok e hok z o ep q
  have HBL := hid (e.body_length hok)
  have HOK := hid hok
  have HQ0 : Hid (∀ w, (Op.equalIn 10000 41 (.agg (frm M.Fr.zero)) (.agg (frm M.Fr.zero))).run Try.prog w = .ok true w) := fun w => by rw [eq_frm41 _ _ M.zero_ok M.zero_ok]; simp
  have HV : Hid (e.frame z o ep q = (⟨e.kind, z, o, ep, q, e.body⟩, 0)) := by show _ = _; rw [M.En.frame, if_pos ⟨hr, hf, h1, h2⟩]; rfl
  have HRD : Hid (M.rdE ⟨e.kind, z, o, ep, q, e.body⟩ = (e, 0)) := by
    have hu := M.unEn_body e hok hr
    show _ = _
    unfold M.rdE
    simp only [hu]
    rw [if_pos ⟨hr, hf, h1, h2⟩]
  have HQ42 : Hid (∀ w, (Op.equalIn 10000 42 (.agg (frm ⟨e.kind, z, o, ep, q, e.body⟩)) (.agg (frm ⟨e.kind, z, o, ep, q, e.body⟩))).run Try.prog w = .ok true w) := fun w => by rw [eq_frm42 _ _ HGK.out HGK.out]; simp
  have HQ82 : Hid (∀ w, (Op.equalIn 10000 82 (.agg (ent e)) (.agg (ent e))).run Try.prog w = .ok true w) := fun w => by rw [eq_ent82 _ _ hok hok]; simp
  have HR := hid hr
  have HFR := hid hf
  have hb := e.right_bounds hr
  obtain ⟨⟨b1, b2⟩, -, -, ⟨b3, b4⟩, -⟩ := hb
  have hsum : wrap64 (e.first + e.count) = e.first + e.count := by unfold wrap64; omega
  have t1 : decide (e.first ≤ q) = true := by simpa using h1
  have t2 : decide (q < e.first + e.count) = true := by simpa using h2
  clear hok hr hf h1 h2
  have hW := Below.refl w.heap.size w
  go_enter Try.func22, Try.ntmps22
  go_wp2_with (first | ((with_reducible show wpList _ _ _ (⟨some 5, _, _, _, _, _⟩ :: _) _ _); refine wpList_boxed 5 rfl rfl 82 _ rfl (ent e) rfl ?_; intro W5 N5 hNN5 hMN5 hr5 hb; have sW5 := hb.size; have hW := below_next hW hb) | (go_at_call 60; refine (anchor4_calls _).mono ?_; rintro e w1 ⟨rfl, hb⟩; have sw1 := hb.size; have hW := below_next hW hb; have hr5 := below_blk hb hr5) | ((with_reducible show wpList _ _ _ (⟨some 20, _, _, _, _, _⟩ :: _) _ _); refine wpList_load_rowg 20 rfl rfl 82 _ rfl N5 rfl _ (ent e) (0, 0) _ hr5 Try.underlying82 rfl (ty82 _ HOK.out).size ?_) | (go_at_call 63; refine (eframe_calls e HOK.out z o ep q _).mono ?_; rintro e w2 ⟨rfl, hb⟩; rw [HV.out]; have sw2 := hb.size; have hW := below_next hW hb; have hr5 := below_blk hb hr5) | ((with_reducible show wpList _ _ _ (⟨some 11, _, _, _, _, _⟩ :: _) _ _); refine wpList_local 11 rfl rfl rfl rfl 41 rfl _ rfl (frm ⟨e.kind, z, o, ep, q, e.body⟩) rfl (of_decide_eq_true (by kernel_rfl)) (ty41 _ HGK.out) (frm_all _) ?_; intro W11 N11 hNN11 hMN11 hr11 hb; have sW11 := hb.size; have hW := below_next hW hb; have hr5 := below_blk hb hr5; have c0 := cell_of_row _ N5 0 _ _ _ hr5; rw [ent0] at c0) | ((with_reducible show wpList _ _ _ (⟨some 34, _, _, _, _, _⟩ :: _) _ _); refine wpList_build_p 34 rfl rfl 42 _ rfl #[(0, .int .i64 e.kind), (1, .int .i64 z), (2, .int .i64 o), (3, .int .i64 ep), (4, .int .i64 q)] (by kernel_rfl) (frm ⟨e.kind, z, o, ep, q, List.replicate 44 0⟩) (build_frm5 _ _ _ _ _) ?_) | ((with_reducible show wpList _ _ _ (⟨some 13, _, _, _, _, _⟩ :: _) _ _); refine wpList_local 13 rfl rfl rfl rfl 42 rfl _ rfl (frm ⟨e.kind, z, o, ep, q, List.replicate 44 0⟩) rfl (of_decide_eq_true (by kernel_rfl)) (ty42' _ HG0.out) (frm_all _) ?_; intro W13 N13 hNN13 hMN13 hr13 hb; have sW13 := hb.size; have hW := below_next hW hb; have hr5 := below_blk hb hr5; have hr11 := below_blk hb hr11) | ((with_reducible show wpList _ _ _ (⟨some 35, _, _, _, _, _⟩ :: _) _ _); refine wpList_load_rowg 35 rfl rfl 82 _ rfl N5 rfl _ (ent e) (0, 0) _ hr5 Try.underlying82 rfl (ty82 _ HOK.out).size ?_) | (go_at_call 65; refine (lawof_calls e HOK.out _).mono ?_; rintro e w3 ⟨rfl, hb⟩; have sw3 := hb.size; have hW := below_next hW hb; have hr5 := below_blk hb hr5; have hr11 := below_blk hb hr11; have hr13 := below_blk hb hr13) | (go_at_call 66; refine (rright4_b e _ HOK.out HR.out _).mono ?_; rintro e w4 ⟨rfl, hb⟩; have sw4 := hb.size; have hW := below_next hW hb; have hr5 := below_blk hb hr5; have hr11 := below_blk hb hr11; have hr13 := below_blk hb hr13) | ((with_reducible show wpList _ _ _ (⟨some 39, _, _, _, _, _⟩ :: _) _ _); refine wpList_load_rowg 39 rfl rfl 42 _ rfl N13 rfl _ (frm ⟨e.kind, z, o, ep, q, List.replicate 44 0⟩) (0, 0) _ hr13 Try.underlying42 rfl (ty42' _ HG0.out).size ?_) | (go_at_call 39; refine (rright_b ⟨e.kind, z, o, ep, q, List.replicate 44 0⟩ _ HFR.out _).mono ?_; rintro e w6 ⟨rfl, hb⟩; have sw6 := hb.size; have hW := below_next hW hb; have hr5 := below_blk hb hr5; have hr11 := below_blk hb hr11; have hr13 := below_blk hb hr13; have c1 := cell_of_row _ N5 1 _ _ _ hr5; rw [ent1] at c1; have c2 := cell_of_row _ N5 2 _ _ _ hr5; rw [ent2] at c2) | ((with_reducible show wpList _ _ _ (⟨some 66, _, _, _, _, _⟩ :: _) _ _); refine wpList_load_rowg 66 rfl rfl 82 _ rfl N5 rfl _ (ent e) (0, 0) _ hr5 Try.underlying82 rfl (ty82 _ HOK.out).size ?_) | (go_at_call 68; refine (rbody_calls e HOK.out HR.out _).mono ?_; rintro e w7 ⟨rfl, hb⟩; have sw7 := hb.size; have hW := below_next hW hb; have hr5 := below_blk hb hr5; have hr11 := below_blk hb hr11; have hr13 := below_blk hb hr13) | ((with_reducible show wpList _ _ _ (⟨none, _, _, _, _, _⟩ :: _) _ _); refine wpList_store_part rfl rfl 39 _ _ rfl N13 5 e.body rfl rfl 42 (frm ⟨e.kind, z, o, ep, q, List.replicate 44 0⟩) (frm ⟨e.kind, z, o, ep, q, e.body⟩) hr13 (ty39 _ HBL.out) (by rw [frm_size _ HG0.out, HBL.out]; omega) (by rw [HBL.out]; exact frm_body_put _ _ _ _ _ _ _ (by simp) HBL.out) ?_; intro Y hr13 ht; have hr5 := ht.blk hr5 (by omega); have hr11 := ht.blk hr11 (by omega); have sY := ht.size; have hW := below_turned hW ht (fun k hk => by subst hk; omega)) | ((with_reducible show wpList _ _ _ (⟨some 71, _, _, _, _, _⟩ :: _) _ _); refine wpList_load_rowg 71 rfl rfl 41 _ rfl N11 rfl _ (frm ⟨e.kind, z, o, ep, q, e.body⟩) (0, 0) _ hr11 Try.underlying41 rfl (ty41 _ HGK.out).size ?_) | (go_at_call 70; refine (eread_calls ⟨e.kind, z, o, ep, q, e.body⟩ HGK.out _).mono ?_; rintro e w8 ⟨rfl, hb⟩; rw [HRD.out]; have sw8 := hb.size; have hW := below_next hW hb; have hr5 := below_blk hb hr5; have hr11 := below_blk hb hr11; have hr13 := below_blk hb hr13) | ((with_reducible show wpList _ _ _ (⟨some 15, _, _, _, _, _⟩ :: _) _ _); refine wpList_local 15 rfl rfl rfl rfl 82 rfl _ rfl (ent e) rfl (of_decide_eq_true (by kernel_rfl)) (ty82 _ HOK.out) (ent_all _) ?_; intro W15 N15 hNN15 hMN15 hr15 hb; have sW15 := hb.size; have hW := below_next hW hb; have hr5 := below_blk hb hr5; have hr11 := below_blk hb hr11; have hr13 := below_blk hb hr13) | ((with_reducible show wpList _ _ _ (⟨some 78, _, _, _, _, _⟩ :: _) _ _); refine wpList_load_rowg 78 rfl rfl 41 _ rfl N11 rfl _ (frm ⟨e.kind, z, o, ep, q, e.body⟩) (0, 0) _ hr11 Try.underlying41 rfl (ty41 _ HGK.out).size ?_) | ((with_reducible show wpList _ _ _ (⟨some 79, _, _, _, _, _⟩ :: _) _ _); refine wpList_load_rowg 79 rfl rfl 42 _ rfl N13 rfl _ (frm ⟨e.kind, z, o, ep, q, e.body⟩) (0, 0) _ hr13 Try.underlying42 rfl (ty42' _ HGK.out).size ?_) | ((with_reducible show wpList _ _ _ (⟨some 80, _, _, _, _, _⟩ :: _) _ _); refine wpList_eql 80 rfl rfl 42 _ _ _ rfl (frm ⟨e.kind, z, o, ep, q, e.body⟩) (frm ⟨e.kind, z, o, ep, q, e.body⟩) rfl rfl grd42 true HQ42.out ?_) | ((with_reducible show wpList _ _ _ (⟨some 83, _, _, _, _, _⟩ :: _) _ _); refine wpList_load_rowg 83 rfl rfl 82 _ rfl N15 rfl _ (ent e) (0, 0) _ hr15 Try.underlying82 rfl (ty82 _ HOK.out).size ?_) | ((with_reducible show wpList _ _ _ (⟨some 84, _, _, _, _, _⟩ :: _) _ _); refine wpList_load_rowg 84 rfl rfl 82 _ rfl N5 rfl _ (ent e) (0, 0) _ hr5 Try.underlying82 rfl (ty82 _ HOK.out).size ?_) | ((with_reducible show wpList _ _ _ (⟨some 85, _, _, _, _, _⟩ :: _) _ _); refine wpList_eql 85 rfl rfl 82 _ _ _ rfl (ent e) (ent e) rfl rfl grd82 true HQ82.out ?_))
  go_ret
  exact ⟨rfl, hW⟩
theorem frames_walk (w : World) (e : M.En) (hok : e.ok) (z o ep q : Int) :
    Calls Try.prog 22 #[.agg (ent e), .int .i64 z, .int .i64 o, .int .i64 ep, .int .i64 q] w fun r w' => r = .returned (.bool true) ∧ Below w.heap.size w w' := by
  by_cases hr : e.right = true
  · by_cases hf : (M.Fr.right ⟨e.kind, z, o, ep, q, List.replicate 44 0⟩) = true
    · by_cases h1 : e.first ≤ q
      · by_cases h2 : q < e.first + e.count
        · exact frames_e w e hok z o ep q hr hf h1 h2
        · exact frames_d w e hok z o ep q hr hf h1 h2
      · exact frames_c w e hok z o ep q hr hf h1
    · exact frames_b w e hok z o ep q hr (by simpa using hf)
  · exact frames_a w e hok z o ep q (by simpa using hr)
end Go.Proofs.Ytncooadaeifekaa

/- EntryFrames is proved: for any entry and numbers the law returns true. No condition. -/
namespace Go.Proofs.Ytncooadaeifekaa.entryFrames
open Go.ChangeShapes Go.WideShapes Go.ChangeAt Go.RowKit
set_option maxRecDepth 100000 in
theorem lifted (os : Os) (started : os.Started) (H : Type) (enc : TypeId × Value → H) :
    ReturnsInHanded {} Try.checked os 22 .any (Rows.entryFramesSpec.pre6 enc Try.prog Try.f22 Rows.entryFramesRow.domain false) (Rows.entryFramesSpec.post enc Try.prog Try.f22 false true false false) := by
  refine returnsInHanded_of_change (C := Try.checked) own started (by kernel_rfl) Try.func22
    (ChangeSpec.witness6 (enc := enc) (C := Try.checked) false ⟨#[], #[.agg (Array.replicate 6 (.int .i64 0) ++ Array.replicate 32 (.int .u8 0)), .int .i64 0, .int .i64 0, .int .i64 0, .int .i64 0], []⟩ 8 (by kernel_rfl) (by kernel_rfl) (by kernel_rfl) (by kernel_rfl)) ?_
  intro W base args ds gs before hval0 hW hcnd _
  have hval : ∀ (j : Nat) t v, Try.f22.params[j]? = some t → args[j]? = some v → Value.okWide Try.prog W .any base t v := hval0
  have hW' := hW
  obtain ⟨p, q, hA0, hV, rfl, hfz, hnd⟩ := hW
  have hA : DataW.TrodAll enc Try.prog W 0 (fun _ => true) true Try.f22.params.toList args.toList ds p := hA0
  rw [Try.params22] at hA hval
  obtain ⟨v0, vs0, d0, ds0, p0, q0, hargs, rfl, rfl, h0, r0⟩ := trodAll_cons hA
  obtain ⟨v1, vs1, d1, ds1, p1, q1, rfl, rfl, rfl, h1, r1⟩ := trodAll_cons r0
  obtain ⟨v2, vs2, d2, ds2, p2, q2, rfl, rfl, rfl, h2, r2⟩ := trodAll_cons r1
  obtain ⟨v3, vs3, d3, ds3, p3, q3, rfl, rfl, rfl, h3, r3⟩ := trodAll_cons r2
  obtain ⟨v4, vs4, d4, ds4, p4, q4, rfl, rfl, rfl, h4, r4⟩ := trodAll_cons r3
  obtain ⟨rfl, rfl, rfl⟩ := trodAll_nil r4
  obtain rfl : args = #[v0, v1, v2, v3, v4] := by cases args; simp_all
  obtain ⟨rfl, rfl⟩ := trodVars_none hV
  have k0 := h0
  have lt0 := trod_fin k0
  obtain ⟨x0, rfl, n0⟩ := open_entry (hval 0 82 v0 rfl rfl) h0
  have k1 := h1
  have lt1 := trod_fin k1
  obtain ⟨a1, rfl, _, _, w1⟩ := open_int Try.underlying3 (hval 1 3 v1 rfl rfl) h1
  have n1 := bounds_i64 w1
  have k2 := h2
  have lt2 := trod_fin k2
  obtain ⟨a2, rfl, _, _, w2⟩ := open_int Try.underlying3 (hval 2 3 v2 rfl rfl) h2
  have n2 := bounds_i64 w2
  have k3 := h3
  have lt3 := trod_fin k3
  obtain ⟨a3, rfl, _, _, w3⟩ := open_int Try.underlying3 (hval 3 3 v3 rfl rfl) h3
  have n3 := bounds_i64 w3
  have k4 := h4
  have lt4 := trod_fin k4
  obtain ⟨a4, rfl, _, _, w4⟩ := open_int Try.underlying3 (hval 4 3 v4 rfl rfl) h4
  have n4 := bounds_i64 w4
  clear hA0 hval0
  refine (frames_walk W x0 n0 a1 a2 a3 a4).mono fun e W' ⟨he, bel⟩ => ?_
  subst he
  exact ⟨_, rfl, _, _, _, [], _, [], hW', trodAll_mk1 (shut_bool Try.underlying4 _), (trodAll_cons_mk (Below.trod laidOut (by kernel_rfl) (of_decide_eq_true (by kernel_rfl)) k0 bel lt0) (trodAll_cons_mk (Below.trod laidOut (by kernel_rfl) (of_decide_eq_true (by kernel_rfl)) k1 bel lt1) (trodAll_cons_mk (Below.trod laidOut (by kernel_rfl) (of_decide_eq_true (by kernel_rfl)) k2 bel lt2) (trodAll_cons_mk (Below.trod laidOut (by kernel_rfl) (of_decide_eq_true (by kernel_rfl)) k3 bel lt3) (trodAll_cons_mk (Below.trod laidOut (by kernel_rfl) (of_decide_eq_true (by kernel_rfl)) k4 bel lt4) trodAll_mk0))))), rfl, bel.frame _, fun h => by cases h⟩
theorem facts : joinedFacts Try.prog 22 Try.f22 Rows.entryFramesSpec Rows.entryFramesRow = true := by
  unfold joinedFacts
  rw [may_enter, lifts_final, make_is]
  kernel_rfl
theorem over : Rows.entryFramesRow.holds Try.pinned (OpenSpec.ofChange Rows.entryFramesSpec) :=
  OpenClaim.holds_of_wide 22 Try.f22 rfl rfl rfl rfl rfl rfl rfl ⟨rfl, rfl, rfl, rfl, rfl⟩ rfl rfl rfl rfl rfl (by kernel_rfl) Try.func22 facts
    (of_decide_eq_true (by kernel_rfl)) (by unfold Func.isWrapper; first | (rw [if_pos (by decide +kernel)]; kernel_rfl) | (rw [if_neg (by decide +kernel)]; exact ⟨rfl, rfl⟩))
    (fun os started H enc _ => lifted os started H enc)
theorem proved : Rows.EntryFramesSaid := over
#print axioms proved
end Go.Proofs.Ytncooadaeifekaa.entryFrames
