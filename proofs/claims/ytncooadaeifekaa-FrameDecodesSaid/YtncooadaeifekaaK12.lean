/- Helpers for the walks: arrays of bytes and frames compared, under a guard or not; a whole value as a new variable. No condition but what each states. -/
import Derived.Test.YtncooadaeifekaaK11
namespace Go.Proofs.Ytncooadaeifekaa
open Go.RowKit
theorem fields41 : (Try.prog.fieldsOf 41).toList.map (fun f => (f.name, f.type, f.offset)) = [("Kind", 3, 0), ("Zone", 3, 1), ("Off", 3, 2), ("Epoch", 3, 3), ("Seq", 3, 4), ("Body", 39, 5)] := by kernel_rfl
theorem fields42 : (Try.prog.fieldsOf 42).toList.map (fun f => (f.name, f.type, f.offset)) = [("Kind", 3, 0), ("Zone", 3, 1), ("Off", 3, 2), ("Epoch", 3, 3), ("Seq", 3, 4), ("Body", 39, 5)] := by kernel_rfl
theorem size39 (w : World) : (sizeOf 39).run Try.prog w = .ok 44 w := by kernel_rfl
theorem part_int (w : World) (cs : Array Value) (i : Nat) (v : Value) (h : cs[i]? = some v) : (part 3 cs i).run Try.prog w = .ok v w := by
  simp [part, isAgg, run_underlying Try.underlying3, h]
theorem part_body (w : World) (f : M.Fr) (h : f.ok) : (part 39 (frm f) 5).run Try.prog w = .ok (.agg (sct f.body)) w := by
  simp only [part, isAgg, Sem.run_bind, run_underlying Try.underlying39, Result.andThen_ok, Sem.run_pure, if_true, size39]
  have e : (frm f).extract 5 (5 + 44) = sct f.body := by
    apply Array.ext'
    simp [frm, sct, List.take_of_length_le, u8s_length, h.1]
  rw [e]
theorem eqFields_step (w : World) (d : Nat) (xs ys : Array Value) (f : Field) (fs : List Field) (a b : Value) (r : Bool) (hn : f.name ≠ "_") (h1 : (part f.type xs f.offset).run Try.prog w = .ok a w) (h2 : (part f.type ys f.offset).run Try.prog w = .ok b w)
    (h3 : (Op.equalIn d f.type a b).run Try.prog w = .ok r w) : (Op.eqFields d xs ys (f :: fs)).run Try.prog w = if r then (Op.eqFields d xs ys fs).run Try.prog w else .ok false w := by
  simp only [Op.eqFields, hn, ne_eq, not_false_eq_true, if_true, Sem.run_bind, h1, h2, h3, Result.andThen_ok]
  cases r <;> simp
theorem eq_int (w : World) (d : Nat) (a b : Int) : (Op.equalIn (d + 1) 3 (.int .i64 a) (.int .i64 b)).run Try.prog w = .ok (decide (a = b)) w := by
  rw [run_equalIn_int w d 3 .i64 .i64 a b Try.underlying3]
  congr 1
theorem eqFields_frm (w : World) (d : Nat) (f g : M.Fr) (hf : f.ok) (hg : g.ok) (fs : List Field) (hfs : fs.map (fun f => (f.name, f.type, f.offset)) = [("Kind", 3, 0), ("Zone", 3, 1), ("Off", 3, 2), ("Epoch", 3, 3), ("Seq", 3, 4), ("Body", 39, 5)]) :
    (Op.eqFields (d + 2) (frm f) (frm g) fs).run Try.prog w = .ok (decide (f = g)) w := by
  obtain ⟨f0, f1, f2, f3, f4, f5, rfl⟩ : ∃ f0 f1 f2 f3 f4 f5, fs = [f0, f1, f2, f3, f4, f5] := by
    rcases fs with _ | ⟨f0, _ | ⟨f1, _ | ⟨f2, _ | ⟨f3, _ | ⟨f4, _ | ⟨f5, _ | ⟨f6, fs⟩⟩⟩⟩⟩⟩⟩
    all_goals first | exact ⟨_, _, _, _, _, _, rfl⟩ | (simp at hfs; done)
  simp only [List.map_cons, List.map_nil, List.cons.injEq, Prod.mk.injEq, and_true] at hfs
  obtain ⟨⟨n0, t0, o0⟩, ⟨n1, t1, o1⟩, ⟨n2, t2, o2⟩, ⟨n3, t3, o3⟩, ⟨n4, t4, o4⟩, n5, t5, o5⟩ := hfs
  rw [eqFields_step w _ _ _ f0 _ (.int .i64 f.kind) (.int .i64 g.kind) (decide (f.kind = g.kind)) (by rw [n0]; decide) (by rw [t0, o0]; exact part_int w _ _ _ (frm0 f)) (by rw [t0, o0]; exact part_int w _ _ _ (frm0 g)) (by rw [t0]; exact eq_int w _ _ _)]
  rw [eqFields_step w _ _ _ f1 _ (.int .i64 f.zone) (.int .i64 g.zone) (decide (f.zone = g.zone)) (by rw [n1]; decide) (by rw [t1, o1]; exact part_int w _ _ _ (frm1 f)) (by rw [t1, o1]; exact part_int w _ _ _ (frm1 g)) (by rw [t1]; exact eq_int w _ _ _)]
  rw [eqFields_step w _ _ _ f2 _ (.int .i64 f.off) (.int .i64 g.off) (decide (f.off = g.off)) (by rw [n2]; decide) (by rw [t2, o2]; exact part_int w _ _ _ (frm2 f)) (by rw [t2, o2]; exact part_int w _ _ _ (frm2 g)) (by rw [t2]; exact eq_int w _ _ _)]
  rw [eqFields_step w _ _ _ f3 _ (.int .i64 f.epoch) (.int .i64 g.epoch) (decide (f.epoch = g.epoch)) (by rw [n3]; decide) (by rw [t3, o3]; exact part_int w _ _ _ (frm3 f)) (by rw [t3, o3]; exact part_int w _ _ _ (frm3 g)) (by rw [t3]; exact eq_int w _ _ _)]
  rw [eqFields_step w _ _ _ f4 _ (.int .i64 f.seq) (.int .i64 g.seq) (decide (f.seq = g.seq)) (by rw [n4]; decide) (by rw [t4, o4]; exact part_int w _ _ _ (frm4 f)) (by rw [t4, o4]; exact part_int w _ _ _ (frm4 g)) (by rw [t4]; exact eq_int w _ _ _)]
  rw [eqFields_step w _ _ _ f5 _ (.agg (sct f.body)) (.agg (sct g.body)) (decide (f.body = g.body)) (by rw [n5]; decide) (by rw [t5, o5]; exact part_body w f hf) (by rw [t5, o5]; exact part_body w g hg) (by rw [t5]; exact run_equalIn_u8s w d 39 44 Try.underlying39 _ _ hf.1 hg.1 hf.2 hg.2)]
  simp only [Op.eqFields, Sem.run_pure]
  obtain ⟨k, z, o, e, s, b⟩ := f
  obtain ⟨k', z', o', e', s', b'⟩ := g
  simp only [M.Fr.mk.injEq]
  by_cases h1 : k = k' <;> by_cases h2 : z = z' <;> by_cases h3 : o = o' <;> by_cases h4 : e = e' <;> by_cases h5 : s = s' <;> by_cases h6 : b = b' <;> simp [h1, h2, h3, h4, h5, h6]
theorem eq_frm41 (f g : M.Fr) (hf : f.ok) (hg : g.ok) (w : World) : (Op.equalIn 10000 41 (.agg (frm f)) (.agg (frm g))).run Try.prog w = .ok (decide (f = g)) w := by
  rw [run_equalIn_agg w 9999 41 _ _ (by kernel_rfl) (by kernel_rfl)]
  exact eqFields_frm w 9997 f g hf hg _ fields41
theorem eq_frm42 (f g : M.Fr) (hf : f.ok) (hg : g.ok) (w : World) : (Op.equalIn 10000 42 (.agg (frm f)) (.agg (frm g))).run Try.prog w = .ok (decide (f = g)) w := by
  rw [run_equalIn_agg w 9999 42 _ _ (by kernel_rfl) (by kernel_rfl)]
  exact eqFields_frm w 9997 f g hf hg _ fields42
theorem eq_sct (t n : Nat) (ht : Try.prog.underlying t = some (.array n 5)) (s s' : List Nat) (h1 : s.length = n) (h2 : s'.length = n) (b1 : ∀ c ∈ s, c < 256) (b2 : ∀ c ∈ s', c < 256) (w : World) :
    (Op.equalIn 10000 t (.agg (sct s)) (.agg (sct s'))).run Try.prog w = .ok (decide (s = s')) w := run_equalIn_u8s w 9998 t n ht s s' h1 h2 b1 b2
/-- '==' of arrays or structs -/
theorem op_eql {o : Oper} {F : Act} {w : World} (t u : TypeId) (x y : Operand) (ho : o.op = .binOp .eql t x y u) (cs ds : Array Value) (hx : F.eval x = .agg cs) (hy : F.eval y = .agg ds) (hm : Try.prog.eqGuardType Try.prog.depth t = false) (r : Bool)
    (h : ∀ w, (Op.equalIn 10000 t (.agg cs) (.agg ds)).run Try.prog w = .ok r w) : (execOp F.eval o).run Try.prog w = .ok (.value (.bool r)) w := by
  unfold execOp
  simp only [ho, hx, hy, Sem.run_bind, run_eqGuard_agg w .eql t x y cs ds hm, run_eql_struct, h, Result.andThen_ok, Sem.run_pure]
theorem op_neq {o : Oper} {F : Act} {w : World} (t u : TypeId) (x y : Operand) (ho : o.op = .binOp .neq t x y u) (cs ds : Array Value) (hx : F.eval x = .agg cs) (hy : F.eval y = .agg ds) (hm : Try.prog.eqGuardType Try.prog.depth t = false) (r : Bool)
    (h : ∀ w, (Op.equalIn 10000 t (.agg cs) (.agg ds)).run Try.prog w = .ok r w) : (execOp F.eval o).run Try.prog w = .ok (.value (.bool (!r))) w := by
  unfold execOp
  simp only [ho, hx, hy, Sem.run_bind, run_eqGuard_agg w .neq t x y cs ds hm, run_neq_struct, h, Result.andThen_ok, Sem.run_pure]
section
variable {ops : Array Oper} {rest : List Oper} {o : Oper} {a : Act} {w : World} {Q : Exit → Act → World → Prop}
theorem wpList_eql (d : Tmp) (hd : o.dst = some d) (hw : Region.wanted o (yielded ops a.tmps) = true) (t u : TypeId) (x y : Operand) (ho : o.op = .binOp .eql t x y u) (cs ds : Array Value) (hx : a.eval x = .agg cs) (hy : a.eval y = .agg ds) (hm : Try.prog.eqGuardType Try.prog.depth t = false) (r : Bool)
    (he : ∀ w, (Op.equalIn 10000 t (.agg cs) (.agg ds)).run Try.prog w = .ok r w) (h : wpList Try.prog ops Q rest (a.put (some d) (.bool r)) w) : wpList Try.prog ops Q (o :: rest) a w :=
  wpList_wanted hw fun K hK => by
    unfold Oper.wp
    rw [op_eql t u x y ho cs ds hx hy hm r he]
    show K (a.put o.dst _) _
    rw [hd]
    exact hK _ _ h
theorem wpList_neq (d : Tmp) (hd : o.dst = some d) (hw : Region.wanted o (yielded ops a.tmps) = true) (t u : TypeId) (x y : Operand) (ho : o.op = .binOp .neq t x y u) (cs ds : Array Value) (hx : a.eval x = .agg cs) (hy : a.eval y = .agg ds) (hm : Try.prog.eqGuardType Try.prog.depth t = false) (r : Bool)
    (he : ∀ w, (Op.equalIn 10000 t (.agg cs) (.agg ds)).run Try.prog w = .ok r w) (h : wpList Try.prog ops Q rest (a.put (some d) (.bool (!r))) w) : wpList Try.prog ops Q (o :: rest) a w :=
  wpList_wanted hw fun K hK => by
    unfold Oper.wp
    rw [op_neq t u x y ho cs ds hx hy hm r he]
    show K (a.put o.dst _) _
    rw [hd]
    exact hK _ _ h
/-- a literal under a guard that says yes -/
theorem wpList_build_g {P : Program} {ops : Array Oper} {rest : List Oper} {o : Oper} {a : Act} {w : World} {Q : Exit → Act → World → Prop} (d : Tmp) (hd : o.dst = some d) (hw : Region.wanted o (yielded ops a.tmps) = true) (t : TypeId) (parts : Array (Nat × Operand)) (ho : o.op = .build t parts)
    (cs : Array Value) (hb : ∀ w, (Instr.build t (parts.map fun (i, x) => (i, a.eval x))).run P w = .ok (.agg cs) w)
    (h : wpList P ops Q rest (a.put (some d) (.agg cs)) w) : wpList P ops Q (o :: rest) a w := by
  refine wpList_wanted hw fun K hK => ?_
  unfold Oper.wp execOp
  simp only [ho, Sem.run_bind, hb, Result.andThen_ok]
  show K (a.put o.dst _) _
  rw [hd]
  exact hK _ _ h
end
theorem grd41 : Try.prog.eqGuardType Try.prog.depth 41 = false := by kernel_rfl
theorem grd42 : Try.prog.eqGuardType Try.prog.depth 42 = false := by kernel_rfl
theorem grd43 : Try.prog.eqGuardType Try.prog.depth 43 = false := by kernel_rfl
theorem grd44 : Try.prog.eqGuardType Try.prog.depth 44 = false := by kernel_rfl
end Go.Proofs.Ytncooadaeifekaa
