/- Helpers for the walks: one cell of a known row stored into; calls that make memory, inside a drawn statement; the reader's contracts with lengths of their own. No condition but what each states. -/
import Derived.Test.YtncooadaeifekaaK9
import Derived.Test.YtncooadaeifekaaG6
import Derived.Test.YtncooadaeifekaaC12
namespace Go.Proofs.Ytncooadaeifekaa
open Go.RowKit
theorem wpList_wanted {P : Program} {ops : Array Oper} {rest : List Oper} {o : Oper} {a : Act} {w : World} {Q : Exit → Act → World → Prop} (hw : Region.wanted o (yielded ops a.tmps) = true)
    (h : ∀ K : Act → World → Prop, (∀ a w, wpList P ops Q rest a w → K a w) → o.wp P a w K Q) : wpList P ops Q (o :: rest) a w :=
  wpList_step fun K hK => by rw [if_pos hw]; exact h K hK
/-- 'load' of a whole array or struct, under a guard that says yes -/
theorem wpList_load_rowg {P : Program} {ops : Array Oper} {rest : List Oper} {o : Oper} {a : Act} {w : World} {Q : Exit → Act → World → Prop} (dd : Tmp) (hdst : o.dst = some dd) (hw : Region.wanted o (yielded ops a.tmps) = true) (ty : TypeId) (x : Operand) (ho : o.op = .load ty x)
    (g : Nat) (hx : a.eval x = .pointer (some ⟨g, 0, none⟩)) (t : TypeId) (cs : Array Value) (fr : Nat × Nat) (d : TypeDesc) (hg : w.heap[g]? = some (.cells cs t fr))
    (hu : P.underlying ty = some d) (hd : (match d with | .struct _ | .array _ _ => true | _ => false) = true) (hi : (P.info? ty).map (·.size) = some cs.size)
    (h : wpList P ops Q rest (a.put (some dd) (.agg cs)) w) : wpList P ops Q (o :: rest) a w :=
  wpList_wanted hw fun _ hK => wp_load_row ty x ho g hx t cs fr d hg hu hd hi (by rw [hdst]; exact hK _ _ h)
theorem size3 (w : World) : (sizeOf 3).run Try.prog w = .ok 1 w := by kernel_rfl
theorem run_store_int (w : World) (N i : Nat) (ty : TypeId) (k : IntKind) (n : Int) (old : Value) (hu : ∀ w, (sizeOf ty).run Try.prog w = .ok 1 w) (hc : w.cell? ⟨N, i, none⟩ = some old) (hf : w.frozen? ⟨N, i, none⟩ = false) :
    (Instr.storeAt ty (.pointer (some ⟨N, i, none⟩)) (.int k n)).run Try.prog w = .ok () (w.setCell ⟨N, i, none⟩ (.int k n)) := by
  simp [go_sem, hu, hc, hf]
/-- a number stored into one cell of a row that is known -/
theorem wpList_store_cell {ops : Array Oper} {rest : List Oper} {o : Oper} {a : Act} {w : World} {Q : Exit → Act → World → Prop} (hgd : o.guard = none) (hd : o.dst = none) (ty : TypeId) (x y : Operand) (ho : o.op = .store ty x y)
    (N i : Nat) (k : IntKind) (n : Int) (hx : a.eval x = .pointer (some ⟨N, i, none⟩)) (hy : a.eval y = .int k n) (hu : ∀ w, (sizeOf ty).run Try.prog w = .ok 1 w) (t : TypeId) (cs cs' : Array Value) (hg : w.heap[N]? = some (.cells cs t (0, 0))) (hi : i < cs.size) (hcs : cs.setIfInBounds i (.int k n) = cs')
    (h : ∀ W : World, W.heap[N]? = some (.cells cs' t (0, 0)) → Turned (fun k => k = N) w W → wpList Try.prog ops Q rest a W) : wpList Try.prog ops Q (o :: rest) a w := by
  subst hcs
  refine wpList_plain hgd fun K hK => ?_
  have hrun := run_store_int w N i ty k n cs[i] hu (by rw [cell_of_row w N i _ _ _ hg]; simp [hi]) (frozen_of_row w N i _ t hg)
  unfold Oper.wp execOp
  simp only [ho, hx, hy, Sem.run_bind, hrun, Result.andThen_ok, Sem.run_pure]
  show K (a.put o.dst _) _
  rw [hd]
  exact hK _ _ (h _ (heap_setCell_same w N i _ t _ hg) ((Turned.refl (fun k => k = N) w).setCell (p := ⟨N, i, none⟩) (.inl rfl) _))
theorem grows_callE {P : Program} {o : Oper} {a : Act} {w : World} {spec : Spec} {vals : List Value} {i : Nat} (f : FuncId) (args : Array Value) (S : Value → World → Prop) (h : (execOp a.eval o).run P w = .ok (.enter f args) w) (hc : Calls P f args w fun e w' => (∃ v, e = .returned v ∧ S v w') ∧ Below w.heap.size w w') (hs : spec.getD i none = some S) :
    Grows P o a w (known spec vals i) := by
  unfold Grows; rw [h]; exact ⟨Below.refl _ _, hc.mono fun e w' ⟨⟨v, he, hv⟩, hb⟩ => ⟨v, he, hb, known_new S hs hv⟩⟩
theorem zero41 : (Try.prog.info? 41).bind (fun i => i.zero.map (·.cells)) = some (frm M.Fr.zero) := by kernel_rfl
theorem open_noN (N : Nat) (a : Option Addr) (l : List Nat) (hl0 : l.length = N) (cap n : Nat) (w : World) (hl : HasB w a l) (hn : N = n + 4) (hn2 : N ≤ 900000) (hcap : N ≤ cap) (h : ¬ l.drop n = M.leB 4 (M.crc (l.take n))) :
    Calls Try.prog 47 #[.agg tbl, .slice a N cap] w fun e w' => e = .returned (.tuple #[.slice none 0 0, .int .i64 11]) ∧ Below w.heap.size w w' := by
  subst hl0; exact open_no a l cap n w hl hn hn2 hcap h
/-- a value of this form, its parts told in memory -/
def Img {α : Type} (f : α → Value) (R : α → World → Prop) (v : Value) (w : World) : Prop := ∃ p, v = f p ∧ R p w
theorem img_mk {α : Type} {f : α → Value} {R : α → World → Prop} (p : α) {w : World} (h : R p w) : Img f R (f p) w := ⟨p, rfl, h⟩
theorem img_stable {α : Type} (f : α → Value) (R : α → World → Prop) (hR : ∀ p w w', R p w → Below w.heap.size w w' → R p w') (v : Value) (w w' : World) (h : Img f R v w) (hb : Below w.heap.size w w') : Img f R v w' := by
  obtain ⟨p, hv, hh⟩ := h
  exact ⟨p, hv, hR p w w' hh hb⟩
theorem obl_img {P : Program} {ops : Array Oper} {spec : Spec} {vals : List Value} {a0 : Act} {w0 : World} (hF : Flows ops a0.tmps.size) (hlen : ops.size = vals.length) (hns : Region.noSelect ops = true) {i : Nat} {o : Oper} (ho : ops[i]? = some o)
    (k : Nat) (hn : newsOf ops spec o = [k]) (t : Tmp) {α : Type} (f : α → Value) (R : α → World → Prop) (hS : spec.getD k none = some (Img f R)) (hk : (ops[k]?).bind (·.dst) = some t)
    (h : ∀ w p, Below w0.heap.size w0 w → R p w → if Region.wanted o (yielded ops ((putAll ops.toList vals a0).put (some t) (f p)).tmps) then Grows P o ((putAll ops.toList vals a0).put (some t) (f p)) w (known spec vals i) else known spec vals i undef w) :
    Obl P ops (known spec vals) a0 w0 i o :=
  obl_one hF hlen hns ho k hn t (Img f R) hS hk fun w x hb ⟨p, hx, hR⟩ => by subst hx; exact h w p hb hR
def okF (n : Nat) (p : Option Addr × Nat) : Value := .tuple #[.slice p.1 n p.2, .int .i64 0]
def slF (n : Nat) (p : Option Addr × Nat) : Value := .slice p.1 n p.2
def atF (l : List Nat) (p : Option Addr × Nat) (w : World) : Prop := HasB w p.1 l
theorem atF_stable (l : List Nat) (p : Option Addr × Nat) (w w' : World) (h : atF l p w) (hb : Below w.heap.size w w') : atF l p w' := HasB.below h hb
theorem open_yesN (N : Nat) (a : Option Addr) (l : List Nat) (hl0 : l.length = N) (cap n : Nat) (w : World) (hl : HasB w a l) (hn : N = n + 4) (hn2 : N ≤ 900000) (hcap : N ≤ cap) (h : l.drop n = M.leB 4 (M.crc (l.take n))) :
    Calls Try.prog 47 #[.agg tbl, .slice a N cap] w fun e w' => (∃ v, e = .returned v ∧ Img (okF n) (atF (l.take n)) v w') ∧ Below w.heap.size w w' := by
  subst hl0
  refine (open_yes a l cap n w hl hn hn2 hcap h).mono ?_
  rintro e w' ⟨⟨a', cap', he, hh, _⟩, hb⟩
  exact ⟨⟨_, he, (a', cap'), rfl, hh⟩, hb⟩
theorem rnewN (n : Nat) (a : Option Addr) (l : List Nat) (hn0 : l.length = n) (c : Nat) (w : World) (hl : HasB w a l) (hn : n ≤ 1000000) :
    Calls Try.prog 49 #[.slice a n c] w fun e w' => (∃ R a' cap, e = .returned (.pointer (some ⟨R, 0, none⟩)) ∧ RdB w' R a' l cap false ∧ w.heap.size ≤ R ∧ R < w'.heap.size ∧ ∀ p, a' = some p → w.heap.size ≤ p.block ∧ p.block < w'.heap.size) ∧ Below w.heap.size w w' := by
  subst hn0; exact rnew_calls a l c w hl hn
/-- the reader's Num, by what is left and what is told -/
theorem rdNumV (R : Nat) (k : Nat) (l l2 : List Nat) (V : Nat) (hV : M.leV (l.take k) = V) (h2 : l.drop k = l2) (w : World) (a : Option Addr) (cap : Nat) (hr : RdB w R a l cap false) (hk1 : 1 ≤ k) (hk7 : k ≤ 7) (hk : k ≤ l.length) (hl : l.length ≤ 1000000) :
    Calls Try.prog 56 #[.pointer (some ⟨R, 0, none⟩), .int .i64 k] w fun e w' => e = .returned (.int .i64 V) ∧ RdB w' R (cutAt a cap k) l2 (cap - k) false ∧ Turned (fun j => j = R) w w' := by
  subst hV h2; exact rdNum_good R k w a l cap hr hk1 hk7 hk hl
/-- the reader's state, its place in memory put aside: the bytes lie in blocks from B on, below C -/
def Rd (w : World) (R : Nat) (l : List Nat) (B C : Nat) : Prop := ∃ a cap, RdB w R a l cap false ∧ ∀ p, a = some p → B ≤ p.block ∧ p.block < C
theorem Rd.turned {w w' : World} {S : Nat → Prop} {R B C : Nat} {l : List Nat} (h : Rd w R l B C) (ht : Turned S w w') (hR : ¬ S R) (hS : ∀ k, S k → k < B ∨ C ≤ k) : Rd w' R l B C := by
  obtain ⟨a, cap, hr, hp⟩ := h
  refine ⟨a, cap, hr.turned ht hR (fun p e hs => ?_), hp⟩
  have := hp p e
  rcases hS _ hs with h | h <;> omega
theorem Rd.grow {w w' : World} {R B C : Nat} {l : List Nat} (h : Rd w R l B C) (hb : Below w.heap.size w w') : Rd w' R l B C :=
  h.turned (S := fun _ => False) (Turned.ofBelow hb) (fun h => h) fun _ h => h.elim
theorem rdNumR (R B C : Nat) (k : Nat) (l l2 : List Nat) (V : Nat) (hV : M.leV (l.take k) = V) (h2 : l.drop k = l2) (w : World) (hr : Rd w R l B C) (hk1 : 1 ≤ k) (hk7 : k ≤ 7) (hk : k ≤ l.length) (hl : l.length ≤ 1000000) :
    Calls Try.prog 56 #[.pointer (some ⟨R, 0, none⟩), .int .i64 k] w fun e w' => e = .returned (.int .i64 V) ∧ Rd w' R l2 B C ∧ Turned (fun j => j = R) w w' := by
  obtain ⟨a, cap, hr, hp⟩ := hr
  refine (rdNumV R k l l2 V hV h2 w a cap hr hk1 hk7 hk hl).mono ?_
  rintro e w' ⟨he, hr', ht⟩
  refine ⟨he, ⟨_, _, hr', fun p e => ?_⟩, ht⟩
  obtain ⟨q, hq, e2⟩ := cutAt_block e
  rw [← e2]
  exact hp q hq
theorem rdBytesR (R B C : Nat) (n : Nat) (l l2 t : List Nat) (ht0 : l.take n = t) (h2 : l.drop n = l2) (w : World) (hr : Rd w R l B C) (hn : n ≤ l.length) (hl : l.length ≤ 1000000) :
    Calls Try.prog 52 #[.pointer (some ⟨R, 0, none⟩), .int .i64 n] w fun e w' => (∃ a, e = .returned (.slice a n n) ∧ HasB w' a t) ∧ Rd w' R l2 B C ∧ Turned (fun j => j = R) w w' := by
  subst ht0 h2
  obtain ⟨a, cap, hr, hp⟩ := hr
  refine (rdBytes_good R n w a l cap hr hn hl).mono ?_
  rintro e w' ⟨he, hr', ht⟩
  refine ⟨⟨a, he, (ht.has hr.has (fun p e => hr.2.2.2 p e)).take n⟩, ⟨_, _, hr', fun p e => ?_⟩, ht⟩
  obtain ⟨q, hq, e2⟩ := cutAt_block e
  rw [← e2]
  exact hp q hq
theorem doneR (R B C : Nat) (l : List Nat) (w : World) (hr : Rd w R l B C) : Calls Try.prog 58 #[.pointer (some ⟨R, 0, none⟩)] w fun e w' => e = .returned (.int .i64 (if l ≠ [] then 14 else 0)) ∧ Below w.heap.size w w' := by
  obtain ⟨a, cap, hr, hp⟩ := hr
  have := done_calls R w a l cap false hr
  simpa using this
theorem rnewR (n : Nat) (a : Option Addr) (l : List Nat) (hn0 : l.length = n) (c : Nat) (w : World) (hl : HasB w a l) (hn : n ≤ 1000000) :
    Calls Try.prog 49 #[.slice a n c] w fun e w' => (∃ R, e = .returned (.pointer (some ⟨R, 0, none⟩)) ∧ Rd w' R l w.heap.size w'.heap.size ∧ w.heap.size ≤ R ∧ R < w'.heap.size) ∧ Below w.heap.size w w' := by
  refine (rnewN n a l hn0 c w hl hn).mono ?_
  rintro e w' ⟨⟨R, a', cap, he, hr, h1, h2, h3⟩, hb⟩
  exact ⟨⟨R, he, ⟨a', cap, hr, h3⟩, h1, h2⟩, hb⟩
/-- 'copy' of just so many bytes into a row that is known -/
theorem wpList_copy_bytes {ops : Array Oper} {rest : List Oper} {o : Oper} {a : Act} {w : World} {Q : Exit → Act → World → Prop} (hgd : o.guard = none) (d : Option Tmp) (hdst : o.dst = d) (x y : Operand)
    (ho : o.op = .call { callee := .builtin .copy, args := #[x, y], argTypes := #[28, 28] }) (g off n : Nat) (cd cs : Nat) (ad : Option Addr) (hx : a.eval x = .slice (some ⟨g, off, none⟩) n cd) (hy : a.eval y = .slice ad n cs)
    (t : List Nat) (ht : t.length = n) (hn : 0 < n) (hs : HasB w ad t) (T : TypeId) (cur cur' : Array Value) (hg : w.heap[g]? = some (.cells cur T (0, 0))) (hfit : off + n ≤ cur.size)
    (hc : (cur.toList.take off ++ (u8s t ++ cur.toList.drop (off + n))).toArray = cur')
    (h : ∀ W : World, W.heap[g]? = some (.cells cur' T (0, 0)) → Turned (fun k => k = g) w W → wpList Try.prog ops Q rest (a.put d (goInt n)) W) : wpList Try.prog ops Q (o :: rest) a w := by
  subst hdst
  obtain ⟨b, o2, rfl, hcell⟩ := hs.cell (by omega)
  have hl : (u8s t).length = n := by rw [u8s_length, ht]
  subst hc
  refine wpList_copy_own hgd x y 28 28 ho 5 Try.underlying28 (by kernel_rfl) g off n cd ⟨b, o2, none⟩ n cs hx hy cur T hg (u8s t) (by rw [hl]; simp) (fun j v hj => ?_) (by rw [hl]; exact hfit) (u8s_one t) ?_
  · have hjl : j < t.length := by have := (List.getElem?_eq_some_iff.1 hj).1; simpa [u8s] using this
    have hadd : (⟨b, o2, none⟩ : Addr).add j = ⟨b, o2 + j, none⟩ := by unfold Addr.add; split <;> simp_all
    rw [hadd, hcell j hjl, ← u8s_at t j hjl, hj]
  · rw [hl]
    refine h _ (setRow_heap w g _ _ T _ hg) ⟨rfl, rfl, rfl, by simp [World.setRow], fun k hk hne => setRow_other w g k _ (fun e => hne e)⟩
theorem frm_set1 (k z o e s z' : Int) (b : List Nat) : (frm ⟨k, z, o, e, s, b⟩).setIfInBounds 1 (.int .i64 z') = frm ⟨k, z', o, e, s, b⟩ := by simp [frm]
theorem frm_set2 (k z o e s z' : Int) (b : List Nat) : (frm ⟨k, z, o, e, s, b⟩).setIfInBounds 2 (.int .i64 z') = frm ⟨k, z, z', e, s, b⟩ := by simp [frm]
theorem frm_set3 (k z o e s z' : Int) (b : List Nat) : (frm ⟨k, z, o, e, s, b⟩).setIfInBounds 3 (.int .i64 z') = frm ⟨k, z, o, z', s, b⟩ := by simp [frm]
theorem frm_set4 (k z o e s z' : Int) (b : List Nat) : (frm ⟨k, z, o, e, s, b⟩).setIfInBounds 4 (.int .i64 z') = frm ⟨k, z, o, e, z', b⟩ := by simp [frm]
theorem frm_body_put (k z o e s : Int) (b t : List Nat) (hb : b.length = 44) (ht : t.length = 44) : ((frm ⟨k, z, o, e, s, b⟩).toList.take 5 ++ (u8s t ++ (frm ⟨k, z, o, e, s, b⟩).toList.drop (5 + 44))).toArray = frm ⟨k, z, o, e, s, t⟩ := by
  have : (u8s b).length = 44 := by rw [u8s_length, hb]
  simp [frm, List.drop_eq_nil_of_le, this]
theorem frm_sizeN (k z o e s : Int) (b : List Nat) (hb : b.length = 44) : (frm ⟨k, z, o, e, s, b⟩).size = 49 := by simp [frm, u8s_length, hb]
end Go.Proofs.Ytncooadaeifekaa
