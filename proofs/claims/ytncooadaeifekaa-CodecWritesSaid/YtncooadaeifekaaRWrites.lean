/- CodecWrites is proved: for any items the law returns true. No condition. -/
import Derived.Deep.Slices
import Derived.Deep.MidRow
import Derived.Test.YtncooadaeifekaaPF5
/- Helpers for the rows: a slice of items that comes in. No condition but what each states. -/
namespace Go.Proofs.Ytncooadaeifekaa
open Go.ChangeShapes Go.WideShapes Go.ChangeAt Go.RowKit
/-- an item, with where its bytes lie -/
structure It where
  w : Int
  v : Int
  a : Option Addr
  cap : Nat
  l : List Nat
deriving Inhabited
/-- what is known of an item in a world -/
def It.okIn (W : World) (x : It) : Prop := (-9223372036854775808 ≤ x.w ∧ x.w ≤ 9223372036854775807) ∧ (-9223372036854775808 ≤ x.v ∧ x.v ≤ 9223372036854775807) ∧ x.l.length ≤ 9223372036854775807 ∧ HasB W x.a x.l
/-- an item lies in three cells -/
def It.at (W : World) (b o : Nat) (x : It) : Prop := W.cell? ⟨b, o, none⟩ = some (.int .i64 x.w) ∧ W.cell? ⟨b, o + 1, none⟩ = some (.int .i64 x.v) ∧ W.cell? ⟨b, o + 2, none⟩ = some (.slice x.a x.l.length x.cap)
/-- items that lie behind an address -/
def HasT (W : World) (a : Option Addr) (its : List It) : Prop :=
  (∀ x ∈ its, x.okIn W) ∧ (its = [] ∨ ∃ b off, a = some ⟨b, off, none⟩ ∧ ∀ i (x : It), its[i]? = some x → It.at W b (off + i * 3) x)
theorem cells28 : Try.prog.cellsOf 28 = 1 := by kernel_rfl
theorem cells76 : Try.prog.cellsOf 76 = 3 := by kernel_rfl
section
variable {H : Type} {enc : TypeId × Value → H} {W : World} {base : Nat} {d : DataW H} {p : List MemPlace} {v : Value}
theorem trod_bytes {fuel : Nat} {cs : List Value} {x : DataW H × List MemPlace} (h : DataW.trod enc Try.prog W 0 (fun _ => true) true fuel 28 cs = some x) :
    ∃ (a : Option Addr) (l : List Nat) (cap : Nat), cs = [.slice a l.length cap] ∧ l.length ≤ 9223372036854775807 ∧ HasB W a l := by
  have hc : Try.prog.cellsOf 5 = 1 := cells5
  rcases open_ints Try.underlying28 Try.underlying5 hc h with ⟨rfl, _⟩ | ⟨x, len, cap, zs, rfl, _, hl, hm, hz, _, hcell, hwz⟩
  · exact ⟨none, [], 0, rfl, by simp, by simp, .inl rfl⟩
  · have hz' : zs.length = cap := by simpa using hz
    have hlen : ((zs.take len).map Int.toNat).length = len := by simp; omega
    refine ⟨some x, (zs.take len).map Int.toNat, cap, by rw [hlen], by rw [hlen]; unfold maxLen at hm; omega, ?_, ?_⟩
    · intro c hc
      obtain ⟨n, hn, rfl⟩ := List.mem_map.1 hc
      have := bounds_u8 (hwz n (List.mem_of_mem_take hn))
      omega
    · by_cases h0 : len = 0
      · left; subst h0; rfl
      · right
        obtain ⟨b, off, spot⟩ := x
        have hc0 := hcell 0 (by omega)
        have hspot : spot = none := by simpa [Addr.add] using World.cell?_spot hc0
        subst hspot
        refine ⟨b, off, rfl, fun i hi => ?_⟩
        rw [hlen] at hi
        have hci := hcell i (by omega)
        have hadd : (⟨b, off, none⟩ : Addr).add i = ⟨b, off + i, none⟩ := by unfold Addr.add; split <;> simp_all
        rw [hadd] at hci
        rw [hci]
        have hlt : i < zs.length := by omega
        have hb := bounds_u8 (hwz zs[i] (List.getElem_mem hlt))
        simp [nth, List.getD, hlt, hi]
        omega
set_option maxRecDepth 100000 in
theorem trod_item {fuel : Nat} {cs : List Value} {x : DataW H × List MemPlace} (h : DataW.trod enc Try.prog W 0 (fun _ => true) true fuel 76 cs = some x) :
    ∃ y : It, cs = [.int .i64 y.w, .int .i64 y.v, .slice y.a y.l.length y.cap] ∧ y.okIn W := by
  obtain ⟨xs, m, rfl, hx, hl, hxs, hi⟩ := DataW.trod_struct Try.underlying76 h
  have hxs3 : xs.length = 3 := hxs
  rw [cells76] at hl
  have g : ∀ i (h : i < 3), xs[i]? = some (xs[i]'(by omega)) := fun i h => List.getElem?_eq_getElem (by omega)
  obtain ⟨k, hk, hk2⟩ := field_int ((hi 0 _ rfl).trans (g 0 (by omega)))
  obtain ⟨z, hz, hz2⟩ := field_int ((hi 1 _ rfl).trans (g 1 (by omega)))
  obtain ⟨a, l, cap, hs, hll, hb⟩ := trod_bytes ((hi 2 _ rfl).trans (g 2 (by omega)))
  have hs' : (cs.drop 2).take (Try.prog.cellsOf 28) = [.slice a l.length cap] := hs
  rw [cells28] at hs'
  have h2 := take1 hs'
  refine ⟨⟨k, z, a, cap, l⟩, ?_, hk2, hz2, hll, hb⟩
  have hk : cs[0]? = some (.int .i64 k) := hk
  have hz : cs[1]? = some (.int .i64 z) := hz
  clear hi hs hs' hx hxs hxs3 g h
  match cs, hl with
  | [c0, c1, c2], _ =>
    have e0 : some c0 = some _ := hk
    have e1 : some c1 = some _ := hz
    have e2 : some c2 = some _ := h2
    simp only [Option.some.injEq] at e0 e1 e2
    rw [e0, e1, e2]
set_option maxRecDepth 100000 in
/-- a slice of items that came in -/
theorem open_items (hv : Value.okWide Try.prog W .any base 73 v) (h : DataW.Trod enc Try.prog W 0 (fun _ => true) true 73 v d p) :
    ∃ (a : Option Addr) (its : List It) (cap : Nat), v = .slice a its.length cap ∧ its.length ≤ 9223372036854775807 ∧ HasT W a its := by
  obtain ⟨a, len, cap, rfl⟩ := okWide_slice Try.underlying73 hv
  obtain ⟨fuel, hf⟩ := h
  rcases Go.Deep.open_slice Try.underlying73 hf with ⟨hcs, _⟩ | ⟨x, l, c, m, n, D, Pl, hcs, _, hl, hm, hmm, _, hx⟩
  · simp [Value.cells] at hcs
    obtain ⟨rfl, rfl, rfl⟩ := hcs
    exact ⟨none, [], 0, rfl, by simp, by simp, .inl rfl⟩
  · simp [Value.cells] at hcs
    obtain ⟨rfl, rfl, rfl⟩ := hcs
    rw [if_pos rfl] at hmm
    subst hmm
    have each : ∀ i, i < len → ∃ y : It, y.okIn W ∧ ∀ j u, [Value.int .i64 y.w, .int .i64 y.v, .slice y.a y.l.length y.cap][j]? = some u → W.cell? ((x.add (i * 3)).add j) = some u := by
      intro i hi
      obtain ⟨cs', h1, h2⟩ := hx i (by omega)
      obtain ⟨y, rfl, hy⟩ := trod_item h2
      rw [cells76] at h1
      obtain ⟨_, _, hcell⟩ := World.cells?_some h1
      refine ⟨y, hy, fun j u hu => ?_⟩
      have hj : j < 3 := (List.getElem?_eq_some_iff.1 hu).1
      rw [hcell j hj, hu]
    obtain ⟨f, hf'⟩ := Go.Deep.choose_lt each
    have hlen : ((List.range len).map f).length = len := by simp
    refine ⟨some x, (List.range len).map f, m, by rw [hlen], by rw [hlen]; unfold maxLen at hm; omega, ?_, ?_⟩
    · intro y hy
      obtain ⟨i, hi, rfl⟩ := List.mem_map.1 hy
      exact (hf' i (List.mem_range.1 hi)).1
    · by_cases h0 : len = 0
      · left; subst h0; rfl
      · right
        obtain ⟨b, off, spot⟩ := x
        have hc0 := (hf' 0 (by omega)).2 0 _ rfl
        have hspot : spot = none := by simpa [Addr.add] using World.cell?_spot hc0
        subst hspot
        refine ⟨b, off, rfl, fun i y hy => ?_⟩
        have hi : i < len := by have := (List.getElem?_eq_some_iff.1 hy).1; simpa using this
        have hy' : y = f i := by
          rw [List.getElem?_map, List.getElem?_range hi] at hy
          simpa using hy.symm
        subst hy'
        have hadd : ∀ o j, (⟨b, o, none⟩ : Addr).add j = ⟨b, o + j, none⟩ := fun o j => by unfold Addr.add; split <;> simp_all
        have hq := (hf' i hi).2
        simp only [hadd] at hq
        exact ⟨hq 0 _ rfl, hq 1 _ rfl, hq 2 _ rfl⟩
end
end Go.Proofs.Ytncooadaeifekaa

/- Helpers for the walks: an array stored into the middle of a variable. -/
namespace Go.Proofs.Ytncooadaeifekaa
open Go.RowKit
theorem setCells_rowT (N : Nat) (t : TypeId) : ∀ (vs : List Value) (o : Nat) (w : World) (cur : Array Value), w.heap[N]? = some (.cells cur t (0, 0)) → o + vs.length ≤ cur.size →
    (w.setCells N o vs).heap[N]? = some (.cells (cur.toList.take o ++ (vs ++ cur.toList.drop (o + vs.length))).toArray t (0, 0))
  | [], o, w, cur, hg, _ => by
    simp only [World.setCells, List.length_nil, Nat.add_zero, List.nil_append, List.take_append_drop]
    exact hg
  | v :: r, o, w, cur, hg, hf => by
    simp only [List.length_cons] at hf
    have h1 := heap_setCell_same w N o cur t v hg
    have h2 := setCells_rowT N t r (o + 1) _ _ h1 (by simp; omega)
    rw [World.setCells, h2]
    have hl : o < cur.toList.length := by simp; omega
    have e1 : (cur.setIfInBounds o v).toList.take (o + 1) = cur.toList.take o ++ [v] := by
      rw [Array.toList_setIfInBounds, List.take_add_one, List.take_set_of_le (Nat.le_refl o), List.getElem?_set_self hl]; rfl
    have e2 : (cur.setIfInBounds o v).toList.drop (o + 1 + r.length) = cur.toList.drop (o + (v :: r).length) := by
      rw [Array.toList_setIfInBounds, List.drop_set_of_lt (by omega), List.length_cons]
      congr 1; omega
    rw [e1, e2]
    simp
theorem turned_setCells {S : Nat → Prop} {w : World} (N : Nat) (hS : S N) : ∀ (vs : List Value) (o : Nat) (w' : World), Turned S w w' → Turned S w (w'.setCells N o vs)
  | [], _, _, h => h
  | v :: r, o, w', h => by
    rw [World.setCells]
    exact turned_setCells N hS r (o + 1) _ (h.setCell (p := ⟨N, o, none⟩) (.inl hS) v)
/-- an array's value is stored into the middle of a variable -/
theorem wpList_store_part {ops : Array Oper} {rest : List Oper} {o : Oper} {a : Act} {w : World} {Q : Exit → Act → World → Prop} (hgd : o.guard = none) (hd : o.dst = none) (ty : TypeId) (x y : Operand) (ho : o.op = .store ty x y)
    (N off : Nat) (s : List Nat) (hx : a.eval x = .pointer (some ⟨N, off, none⟩)) (hy : a.eval y = .agg (sct s)) (t : TypeId) (cur cur' : Array Value) (hg : w.heap[N]? = some (.cells cur t (0, 0))) (ht : TyRow Try.prog ty (sct s).size)
    (hfit : off + s.length ≤ cur.size) (hc : (cur.toList.take off ++ (u8s s ++ cur.toList.drop (off + s.length))).toArray = cur')
    (h : ∀ W : World, W.heap[N]? = some (.cells cur' t (0, 0)) → Turned (fun k => k = N) w W → wpList Try.prog ops Q rest a W) : wpList Try.prog ops Q (o :: rest) a w := by
  have hl : (u8s s).length = s.length := u8s_length s
  have hth : w.there N off (sct s).size := fun j hj => by
    rw [sct_size] at hj
    refine ⟨?_, frozen_of_row w N (off + j) _ t hg⟩
    rw [cell_of_row _ _ _ _ _ _ hg, Array.getElem?_eq_getElem (by omega)]; rfl
  refine wpList_store_mid hgd ty x y ho N off (sct s) hx hy hth ht.size (sct_all s) ?_
  rw [hd]
  refine h _ ?_ (turned_setCells (S := fun k => k = N) N rfl _ _ _ (Turned.refl _ _))
  have := setCells_rowT N t (u8s s) off w cur hg (by rw [hl]; exact hfit)
  rw [hl, hc] at this
  simpa [sct] using this
end Go.Proofs.Ytncooadaeifekaa

/- Walk of the law CodecOwn: it answers true for any bytes and number. -/
namespace Go.Proofs.Ytncooadaeifekaa
open Go.RowKit Go.BigFrame
/-- this value, and block R holds this -/
def OwnS (R : Nat) (ob : Option Obj) (u v : Value) (w : World) : Prop := v = u ∧ w.heap[R]? = ob
theorem ownS_stable (R : Nat) (o : Obj) (u v : Value) (w w' : World) (h : OwnS R (some o) u v w) (hb : Below w.heap.size w w') : OwnS R (some o) u v w' := ⟨h.1, below_blk hb h.2⟩
theorem ownS_mk {R : Nat} {ob : Option Obj} {u : Value} {w : World} (h : w.heap[R]? = ob) : OwnS R ob u u w := ⟨rfl, h⟩
theorem obg_own {ops : Array Oper} {spec : Spec} {vals : List Value} {a0 : Act} {T : World → Prop} {G : Oper → Act → World → Prop} {N : World → Prop} (hG : Runs G) (hF : Flows ops a0.tmps.size) (hlen : ops.size = vals.length) (hns : Region.noSelect ops = true) {i : Nat} {o : Oper} (ho : ops[i]? = some o)
    (k : Nat) (hn : newsOf ops spec o = [k]) (t : Tmp) (R : Nat) (ob : Option Obj) (u : Value) (hS : spec.getD k none = some (OwnS R ob u)) (hk : (ops[k]?).bind (·.dst) = some t)
    (h : ∀ w, T w → w.heap[R]? = ob → if Region.wanted o (yielded ops ((putAll ops.toList vals a0).put (some t) u).tmps) then G o ((putAll ops.toList vals a0).put (some t) u) w else N w) :
    ObG ops (known spec vals) a0 T G N o :=
  obg_one hG hF hlen hns ho k hn t (OwnS R ob u) hS hk fun w x hw hx => by
    have e : x = u := hx.1
    rw [e]
    exact h w hw hx.2
section
variable {P : Program} {o : Oper} {a : Act} {w : World} {spec : Spec} {vals : List Value} {i : Nat}
theorem grows_callS (f : FuncId) (args : Array Value) (v : Value) (h : (execOp a.eval o).run P w = .ok (.enter f args) w) (hc : Calls P f args w fun e w' => e = .returned v ∧ Below w.heap.size w w') (S : Value → World → Prop) (hs : spec.getD i none = some S) (hv : ∀ w', Below w.heap.size w w' → S v w') :
    Grows P o a w (known spec vals i) := by
  unfold Grows; rw [h]; exact ⟨Below.refl _ _, hc.mono fun e w' ⟨he, hb⟩ => ⟨v, he, hb, known_new S hs (hv w' hb)⟩⟩
theorem growsM_call {ρ : World → World → Prop} (f : FuncId) (args : Array Value) (v : Value) (h : (execOp a.eval o).run P w = .ok (.enter f args) w) (hc : Calls P f args w fun e w' => e = .returned v ∧ ρ w w') (S : Value → World → Prop) (hs : spec.getD i none = some S) (hv : ∀ w', ρ w w' → S v w') :
    GrowsM P ρ o a w (known spec vals i) := by
  unfold GrowsM; rw [h]; exact ⟨rfl, hc.mono fun e w' ⟨he, hb⟩ => ⟨v, he, hb, known_new S hs (hv w' hb)⟩⟩
end
theorem reach_turned {R : Nat} {ob : Option Obj} {w0 w : World} (h : Below w0.heap.size w0 w ∨ Mid (fun w1 w2 => Turned (fun k => k = R) w1 w2 ∧ w2.heap[R]? = ob) w0 w) : Turned (fun k => k = R) w0 w := by
  rcases h with h | ⟨w1, w2, h1, h2, h3⟩
  · exact Turned.ofBelow h
  · exact ((Turned.ofBelow h1).trans h2.1 fun i hi => .inl hi).trans (Turned.ofBelow (S := fun k => k = R) h3) fun i hi => .inl hi
theorem reach_has {R : Nat} {ob : Option Obj} {w0 w : World} {a : Option Addr} {l : List Nat} (h : Below w0.heap.size w0 w ∨ Mid (fun w1 w2 => Turned (fun k => k = R) w1 w2 ∧ w2.heap[R]? = ob) w0 w) (hl : HasB w0 a l) (ha : ∀ p, a = some p → p.block ≠ R) : HasB w a l :=
  (reach_turned h).has hl ha
theorem rd_obj {w : World} {R : Nat} {a : Option Addr} {l : List Nat} {cap : Nat} {bad : Bool} (h : RdB w R a l cap bad) {k : Nat} (hk : l.length = k) : w.heap[R]? = some (.cells #[.slice a k cap, .bool bad] 111 (0, 0)) := by
  subst hk; exact h.1
theorem rd_of {w w0 : World} {R n : Nat} {a : Option Addr} {l : List Nat} {cap : Nat} {k : Nat} (ho : w.heap[R]? = some (.cells #[.slice (cutAt a cap n) k (cap - n), .bool false] 111 (0, 0))) (hk : (l.drop n).length = k) (hh : HasB w a l) (h0 : RdB w0 R a l cap false) : RdB w R (cutAt a cap n) (l.drop n) (cap - n) false := by
  subst hk
  refine ⟨ho, hh.drop n cap h0.2.2.1, by have := h0.2.2.1; simp; omega, fun p hp => ?_⟩
  obtain ⟨q, hq, e⟩ := cutAt_block hp
  rw [← e]
  exact h0.2.2.2 q hq
theorem op_sub {o : Oper} {F : Act} {w : World} {x y : Operand} (a b : Nat) (ho : o.op = .binOp .sub 3 x y 3) (hx : F.eval x = .int .i64 a) (hy : F.eval y = .int .i64 b) (h : b ≤ a) (ha : a ≤ 1000000) :
    (execOp F.eval o).run Try.prog w = .ok (.value (.int .i64 (a - b : Nat))) w := by
  unfold execOp
  simp only [ho, hx, hy]
  have e : wrap64 ((a : Int) - (b : Int)) = ((a - b : Nat) : Int) := by unfold wrap64; omega
  simp [go_sem]
  rw [IntKind.wrap_i64]
  omega
theorem rdBytes_rho (R n : Nat) (w : World) (a : Option Addr) (l : List Nat) (cap : Nat) (OB : Obj) (hOB : OB = .cells #[.slice (cutAt a cap n) (l.length - n) (cap - n), .bool false] 111 (0, 0)) (hr : RdB w R a l cap false) (hn : n ≤ l.length) (hl : l.length ≤ 1000000) :
    Calls Try.prog 52 #[.pointer (some ⟨R, 0, none⟩), .int .i64 n] w fun e w' => e = .returned (.slice a n n) ∧ (Turned (fun k => k = R) w w' ∧ w'.heap[R]? = some OB) :=
  (rdBytes_good R n w a l cap hr hn hl).mono fun e w' h => ⟨h.1, h.2.2, by rw [hOB]; exact rd_obj h.2.1 (by simp)⟩
theorem storeN {w : World} {B : Nat} {av : Option Addr} {cv n : Nat} {l : List Nat} (h : OwnB w B (.slice av n cv) l) (hl : l.length = n) (hne : 0 < n) :
    ∃ g, av = some ⟨g, 0, none⟩ ∧ B ≤ g ∧ g < w.heap.size ∧ (∀ i, i < n → w.cell? ⟨g, i, none⟩ = some (.int .u8 (nth l i))) ∧ (∀ i, w.frozen? ⟨g, i, none⟩ = false) ∧
      ∀ i x, x < 256 → OwnB (w.setCell ⟨g, i, none⟩ (.int .u8 (x : Nat))) B (.slice av n cv) (l.set i x) := by
  subst hl; exact OwnB.store h hne
set_option maxRecDepth 100000 in
set_option maxHeartbeats 800000 in
theorem own_walk (ab : Option Addr) (l : List Nat) (cb n : Nat) (h0 : 0 < l.length) (hl : l.length ≤ 200) (hnl : n ≤ l.length) (hcb : l.length ≤ cb) (w : World) (hB0 : HasB w ab l) :
    Calls Try.prog 13 #[.slice ab l.length cb, .int .i64 n] w fun e w' => e = .returned (.bool true) ∧ Below w.heap.size w w' := by
  have t0 : ((l.length : Int) == 0) = false := by rw [beq_eq_false_iff_ne]; omega
  have t1 : decide ((200 : Int) < (l.length : Int)) = false := by simp; omega
  have t2 : decide ((n : Int) < 0) = false := by simp
  have t3 : decide (l.length < n) = false := by simp; omega
  have HB0 := hid hB0
  have hW := Below.refl w.heap.size w
  have habl : ∀ p, ab = some p → p.block < w.heap.size := fun p hp => by
    obtain ⟨bb, off, hab, hcc⟩ := hB0.cell h0
    rw [hab] at hp
    obtain rfl := Option.some.inj hp
    exact block_lt_of_cell (w := w) (a := ⟨bb, off + 0, none⟩) (hcc 0 h0)
  have HAB := hid habl
  clear hB0 habl
  go_enter Try.func13, Try.ntmps13
  go_upto_region 9 with (first | (go_at_call 43; refine (anchor2_calls _).mono ?_; rintro e w1 ⟨rfl, hb1⟩; have hW := below_next hW hb1) | ((with_reducible show wpList _ _ _ (⟨some 36, _, _, _, _, _⟩ :: _) _ _); refine wpList_empty 36 rfl rfl rfl ?_; intro W36 v36 ho36 hb36; have ho36' := ho36.weak hW.size; have hW := below_next hW hb36) | ((with_reducible show wpList _ _ _ (⟨some 38, _, _, _, _, _⟩ :: _) _ _); refine wpList_append_at 38 rfl rfl _ _ rfl w.heap.size _ [] l l rfl (by rfl) ho36' ab cb (by rfl) (HB0.out.below hW) (by omega) hW.size ?_; intro ai ci W5 ho5 hci hh5 hb5; have hW := hW.trans hb5) | (go_at_call 49; refine (rnew_calls ai l ci _ hh5 (by omega)).mono ?_; rintro e W6 ⟨⟨R, ar, cr, rfl, hrd, hR1, hR2, hR3⟩, hb6⟩; have hW := below_next hW hb6; have ho6 := ho5.mono hb6; have hh6 := hh5.below hb6) | ((with_reducible show wpList _ _ _ (⟨some 7, _, _, _, _, _⟩ :: _) _ _); refine wpList_zeroed 7 rfl rfl 63 rfl _ zero63 ?_; intro W7 N7 hN7 hM7 hr7 hb7; have hW := below_next hW hb7; have ho7 := ho6.mono hb7; have hh7 := hh6.below hb7; have hrd7 := hrd.grow hb7; have hp7 := penB_zero hr7) | (go_at_call 50; refine (penBytes_calls N7 ai l ci _ _ [] l rfl false hp7 hh7 (by omega)).mono ?_; rintro e W8 ⟨rfl, hs8⟩))
  obtain ⟨g, rfl, hg1, hg2, _⟩ := storeN ho5 rfl h0
  obtain ⟨v8, hp8, ht8, hl8⟩ := hs8
  have sz6 := hb6.size
  have sz7 := hb7.size
  have sz8 := ht8.size
  have ho8 := ht8.own ho7 (fun k hk hS => by simp only [Value.ownBlock, Option.some.injEq] at hk; subst hk; rcases hS with h | h; omega; simp [Value.ownBlock] at h)
  have hrd8 := hrd7.turned ht8 (fun hS => by rcases hS with h | h; omega; simp [Value.ownBlock] at h) (fun p hp hS => by have := (hR3 p hp).2; rcases hS with h | h; omega; simp [Value.ownBlock] at h)
  have hW8 := below_turned hW ht8 (nil_low N7 _ (by omega))
  have hv8 : ∀ k, v8.ownBlock = some k → W7.heap.size ≤ k ∧ k < W8.heap.size := fun k hk => ⟨by rcases hl8 k hk with h | h; simp [Value.ownBlock] at h; exact h, hp8.lt k (.inr hk)⟩
  have HV8 := hid hv8
  have HR3 := hid hR3
  have HW8 := hid hW8
  clear hv8 hR3 hW8 hl8 ht8 hrd7 hp7 hh7 ho7 hb7 hr7 hh6 ho6 hb6 hh5 ho5 hb5 ho36 ho36' hb36 hb1 t0 t1 t2 t3 hW
  go_wp2
  go_loopw [8, 45] (fun _ i wr => ∃ (k : Nat) (l' : List Nat), k ≤ l.length ∧ i = .int .i64 k ∧ Hid (l'.length = l.length) ∧ Hid (OwnB wr w.heap.size (.slice (some ⟨g, 0, none⟩) l.length ci) l') ∧ Hid (Turned (fun j => j = g) W8 wr)) (fun _ i _ => l.length - (intOf i).toNat)
  case atStart => exact ⟨0, l, Nat.zero_le _, rfl, rfl, ho8, Turned.refl _ _⟩
  case round =>
    obtain ⟨k, l', hk, rfl, HL', HO', HT'⟩ := hrel
    by_cases hlt : k < l.length
    · obtain ⟨g', hgg, _, _, hcells, hfree, hset⟩ := storeN HO'.out HL'.out h0
      obtain rfl : g = g' := by simpa using hgg
      have hcell := hcells k hlt
      have hfr := hfree k
      have hcb := nth_lt l' HO'.out.2 k
      obtain ⟨X, hX⟩ : ∃ X : Nat, ((nth l' k : Int) + 1) % 256 = X := ⟨(nth l' k + 1) % 256, by omega⟩
      have hXl : X < 256 := by omega
      have HO2 := hid (hset k X hXl)
      clear hset hcells hfree hgg
      go_wp2
      go_roundw
      case rel => exact ⟨k + 1, l'.set k X, by omega, by go_num, (by show _ = _; rw [List.length_set]; exact HL'.out), HO2, HT'.out.setCell (p := ⟨g, k, none⟩) (.inl rfl) _⟩
      case measure => simp [intOf]; omega
    · have sz9 := HT'.out.size
      have hp9 := hp8.turned HT'.out (fun k hk e => by subst e; rcases hk with h | h; omega; have := (HV8.out _ h).1; omega)
      have hrd9 := hrd8.turned HT'.out (fun e => by omega) (fun p hp e => by have := (HR3.out p hp).1; omega)
      have hW9 := below_turned HW8.out HT'.out (fun k hk => by subst hk; exact hg1)
      clear HO' HL' ho8 hrd8 hp8
      go_upto_region 15 with (first | (go_at_call 51; refine (penOut_good N7 _ v8 l hp9 (by omega)).mono ?_; rintro e W11 ⟨⟨a1, c1, rfl, ho1, _, hh1⟩, hb1⟩))
      go_upto_region 16 with (first | (go_at_call 51; refine (penOut_good N7 _ v8 l (hp9.grow hb1) (by omega)).mono ?_; rintro e W12 ⟨⟨a2, c2, rfl, ho2, _, hh2⟩, hb2⟩))
      obtain ⟨g2, rfl, hg21, hg22, _⟩ := storeN ho2 rfl h0
      have sz11 := hb1.size
      have sz12 := hb2.size
      have hp12 := (hp9.grow hb1).grow hb2
      have hrd12 := (hrd9.grow hb1).grow hb2
      have h1 := hh1.below hb2
      have hW12 := below_next (below_next hW9 hb1) hb2
      have hn1 : ∀ p, a1 = some p → p.block < W11.heap.size ∧ wr.heap.size ≤ p.block := fun p hp => by have := ho1.ownLt p.block (by subst hp; rfl); exact ⟨this.2, this.1⟩
      have HN1 := hid hn1
      have HW12 := hid hW12
      clear hn1 hW12 hh1 hh2 hp9 hrd9 hW9 hb1 hb2 ho1
      go_wp2
      go_loopw [13, 65] (fun _ i wq => ∃ (k : Nat) (l' : List Nat), k ≤ l.length ∧ i = .int .i64 k ∧ Hid (l'.length = l.length) ∧ Hid (OwnB wq W11.heap.size (.slice (some ⟨g2, 0, none⟩) l.length c2) l') ∧ Hid (Turned (fun j => j = g2) W12 wq)) (fun _ i _ => l.length - (intOf i).toNat)
      case atStart => exact ⟨0, l, Nat.zero_le _, rfl, rfl, ho2, Turned.refl _ _⟩
      case round =>
        obtain ⟨k, l', hk, rfl, HL', HO', HT'⟩ := hrel
        by_cases hlt : k < l.length
        · obtain ⟨g', hgg, _, _, hcells, hfree, hset⟩ := storeN HO'.out HL'.out h0
          obtain rfl : g2 = g' := by simpa using hgg
          have hcell := hcells k hlt
          have hfr := hfree k
          have hcb := nth_lt l' HO'.out.2 k
          obtain ⟨X, hX⟩ : ∃ X : Nat, ((nth l' k : Int) + 1) % 256 = X := ⟨(nth l' k + 1) % 256, by omega⟩
          have hXl : X < 256 := by omega
          have HO2 := hid (hset k X hXl)
          clear hset hcells hfree hgg
          go_wp2
          go_roundw
          case rel => exact ⟨k + 1, l'.set k X, by omega, by go_num, (by show _ = _; rw [List.length_set]; exact HL'.out), HO2, HT'.out.setCell (p := ⟨g2, k, none⟩) (.inl rfl) _⟩
          case measure => simp [intOf]; omega
        · have hp13 := hp12.turned HT'.out (fun k hk e => by subst e; rcases hk with h | h; omega; have := (HV8.out _ h).2; omega)
          have hrd13 := hrd12.turned HT'.out (fun e => by omega) (fun p hp e => by have := (HR3.out p hp).2; omega)
          have hW13 := below_turned HW12.out HT'.out (fun k hk => by subst hk; have := HW12.out.size; omega)
          have hh13 := HT'.out.has h1 (fun p hp e => by have := (HN1.out p hp).1; omega)
          have sz13 := HT'.out.size
          clear HO' HL' hp12 hrd12 h1 ho2
          go_upto_region 22 with (first | (go_at_call 51; refine (penOut_good N7 _ v8 l hp13 (by omega)).mono ?_; rintro e W14 ⟨⟨a3, c3, rfl, ho3, _, h3⟩, hb3⟩))
          have h1 := hh13.below hb3
          have hrd := hrd13.grow hb3
          have hWX := below_next hW13 hb3
          have hB := HB0.out.below hWX
          have hn1 : ∀ p, a1 = some p → p.block ≠ R := fun p hp e => by have := (HN1.out p hp).2; omega
          have hn3 : ∀ p, a3 = some p → p.block ≠ R := fun p hp e => by have := (ho3.ownLt p.block (by subst hp; rfl)).1; omega
          have hnb : ∀ p, ab = some p → p.block ≠ R := fun p hp e => by have := HAB.out p hp; omega
          have htk : (l.take n).length = n := by simp; omega
          have hdl : (l.drop n).length = l.length - n := by simp
          have hRw : w.heap.size ≤ R := by omega
          have HD := hid h0
          obtain ⟨OB, hOB⟩ : ∃ OB : Obj, OB = .cells #[.slice (cutAt ar cr n) (l.length - n) (cr - n), .bool false] 111 (0, 0) := ⟨_, rfl⟩
          clear ho3 hb3 hW13 hrd13 hp13 hh13 HT' HW12 HN1 HR3 HV8 HW8 sz6 sz7 sz8 sz9 sz11 sz12 sz13 hg21 hg22 hg1 hg2 hN7 hM7 hR1 hR2 h0
          refine wp_region_mut (fun w1 w2 => Turned (fun k => k = R) w1 w2 ∧ w2.heap[R]? = some OB) 23 (by decide) (spec := [none, none, none, none, none, none, none, none, none, none, none, none, none, none, none, none, none, none, none, none, none, none, none, some (OwnS R (some OB) (.slice ar n n)), none, none, none, some (OwnS R (some OB) (.bool true)), some (OwnS R (some OB) (.bool true)), some (OwnS R (some OB) (.bool true)), none, none, none, none, none, none, none, none, none]) (vals := [.int .i64 0, .bool true, .bool true, .int .i64 0, .bool true, .bool true, .bool true, .int .i64 0, .bool true, .bool true, .bool true, .slice a1 l.length c1, .slice ab l.length cb, .bool true, .bool true, .bool true, .slice a3 l.length c3, .slice ab l.length cb, .bool true, .bool true, .bool true, .pointer (some ⟨R, 0, none⟩), .int .i64 n, undef, .slice ab l.length cb, .int .i64 n, .slice ab n cb, undef, undef, undef, .pointer (some ⟨R, 0, none⟩), .int .i64 (l.length - n : Nat), .slice ab l.length cb, .int .i64 l.length, .int .i64 n, .int .i64 (l.length - n : Nat), .bool true, .bool true, .bool true]) (by kernel_rfl) (by kernel_rfl) (by kernel_rfl) (by kernel_rfl) ?hst ?hstM (fun hF => ?hobl) ?hQ
          case hst => exact ⟨ownS_stable R OB _, ownS_stable R OB _, ownS_stable R OB _, ownS_stable R OB _, trivial⟩
          case hstM => exact ⟨fun v w w' h hr => ⟨h.1, hr.2⟩, fun v w w' h hr => ⟨h.1, hr.2⟩, fun v w w' h hr => ⟨h.1, hr.2⟩, fun v w w' h hr => ⟨h.1, hr.2⟩, trivial⟩
          case hobl =>
            refine ⟨?_, ?_, ?_, ?_, ?_, ?_, ?_, ?_, ?_, ?_, ?_, ?_, ?_, ?_, ?_, ?_, ?_, ?_, ?_, ?_, ?_, ?_, ?_, ?_, ?_, ?_, ?_, ?_, ?_, ?_, ?_, ?_, ?_, ?_, ?_, ?_, ?_, ?_, ?_, trivial⟩
            · refine fun ho => ?_; rw [if_neg (by decide)]; refine obg_det (runs_grows _ _) hF (by kernel_rfl) (by kernel_rfl) ho (by kernel_rfl) (fun wx hbx => ?_); rw [if_pos (by kernel_rfl)]; show Grows _ _ _ _ _; with_reducible exact grows_det (.int .i64 0) (by kernel_rfl) (by kernel_rfl) (by kernel_rfl)
            · refine fun ho => ?_; rw [if_neg (by decide)]; refine obg_det (runs_grows _ _) hF (by kernel_rfl) (by kernel_rfl) ho (by kernel_rfl) (fun wx hbx => ?_); rw [if_pos (by kernel_rfl)]; show Grows _ _ _ _ _; with_reducible exact grows_det (.bool true) (by kernel_rfl) (by kernel_rfl) (by kernel_rfl)
            · refine fun ho => ?_; rw [if_neg (by decide)]; refine obg_det (runs_grows _ _) hF (by kernel_rfl) (by kernel_rfl) ho (by kernel_rfl) (fun wx hbx => ?_); rw [if_pos (by kernel_rfl)]; show Grows _ _ _ _ _; with_reducible exact grows_det (.bool true) (by kernel_rfl) (by kernel_rfl) (by kernel_rfl)
            · refine fun ho => ?_; rw [if_neg (by decide)]; refine obg_det (runs_grows _ _) hF (by kernel_rfl) (by kernel_rfl) ho (by kernel_rfl) (fun wx hbx => ?_); rw [if_pos (by kernel_rfl)]; show Grows _ _ _ _ _; with_reducible exact grows_det (.int .i64 0) (by kernel_rfl) (by kernel_rfl) (by kernel_rfl)
            · refine fun ho => ?_; rw [if_neg (by decide)]; refine obg_det (runs_grows _ _) hF (by kernel_rfl) (by kernel_rfl) ho (by kernel_rfl) (fun wx hbx => ?_); rw [if_pos (by kernel_rfl)]; show Grows _ _ _ _ _; with_reducible exact grows_det (.bool true) (by kernel_rfl) (by kernel_rfl) (by kernel_rfl)
            · refine fun ho => ?_; rw [if_neg (by decide)]; refine obg_det (runs_grows _ _) hF (by kernel_rfl) (by kernel_rfl) ho (by kernel_rfl) (fun wx hbx => ?_); rw [if_pos (by kernel_rfl)]; show Grows _ _ _ _ _; with_reducible exact grows_det (.bool true) (by kernel_rfl) (by kernel_rfl) (by kernel_rfl)
            · refine fun ho => ?_; rw [if_neg (by decide)]; refine obg_det (runs_grows _ _) hF (by kernel_rfl) (by kernel_rfl) ho (by kernel_rfl) (fun wx hbx => ?_); rw [if_pos (by kernel_rfl)]; show Grows _ _ _ _ _; with_reducible exact grows_det (.bool true) (by kernel_rfl) (by kernel_rfl) (by kernel_rfl)
            · refine fun ho => ?_; rw [if_neg (by decide)]; refine obg_det (runs_grows _ _) hF (by kernel_rfl) (by kernel_rfl) ho (by kernel_rfl) (fun wx hbx => ?_); rw [if_pos (by kernel_rfl)]; show Grows _ _ _ _ _; with_reducible exact grows_det (.int .i64 0) (by kernel_rfl) (by kernel_rfl) (by kernel_rfl)
            · refine fun ho => ?_; rw [if_neg (by decide)]; refine obg_det (runs_grows _ _) hF (by kernel_rfl) (by kernel_rfl) ho (by kernel_rfl) (fun wx hbx => ?_); rw [if_pos (by kernel_rfl)]; show Grows _ _ _ _ _; with_reducible exact grows_det (.bool true) (by kernel_rfl) (by kernel_rfl) (by kernel_rfl)
            · refine fun ho => ?_; rw [if_neg (by decide)]; refine obg_det (runs_grows _ _) hF (by kernel_rfl) (by kernel_rfl) ho (by kernel_rfl) (fun wx hbx => ?_); rw [if_pos (by kernel_rfl)]; show Grows _ _ _ _ _; with_reducible exact grows_det (.bool true) (by kernel_rfl) (by kernel_rfl) (by kernel_rfl)
            · refine fun ho => ?_; rw [if_neg (by decide)]; refine obg_det (runs_grows _ _) hF (by kernel_rfl) (by kernel_rfl) ho (by kernel_rfl) (fun wx hbx => ?_); rw [if_pos (by kernel_rfl)]; show Grows _ _ _ _ _; with_reducible exact grows_det (.bool true) (by kernel_rfl) (by kernel_rfl) (by kernel_rfl)
            · refine fun ho => ?_; rw [if_neg (by decide)]; refine obg_det (runs_grows _ _) hF (by kernel_rfl) (by kernel_rfl) ho (by kernel_rfl) (fun wx hbx => ?_); rw [if_pos (by kernel_rfl)]; show Grows _ _ _ _ _; with_reducible exact grows_det (.slice a1 l.length c1) (by kernel_rfl) (by kernel_rfl) (by kernel_rfl)
            · refine fun ho => ?_; rw [if_neg (by decide)]; refine obg_det (runs_grows _ _) hF (by kernel_rfl) (by kernel_rfl) ho (by kernel_rfl) (fun wx hbx => ?_); rw [if_pos (by kernel_rfl)]; show Grows _ _ _ _ _; with_reducible exact grows_det (.slice ab l.length cb) (by kernel_rfl) (by kernel_rfl) (by kernel_rfl)
            · refine fun ho => ?_; rw [if_neg (by decide)]; refine obg_det (runs_grows _ _) hF (by kernel_rfl) (by kernel_rfl) ho (by kernel_rfl) (fun wx hbx => ?_); rw [if_pos (by kernel_rfl)]; show Grows _ _ _ _ _; have hcc := same_self a1 l c1 ab cb wx (reach_has hbx h1 hn1) (reach_has hbx hB hnb) (by omega); with_reducible exact grows_call 48 #[.slice a1 l.length c1, .slice ab l.length cb] (.bool true) (by kernel_rfl) hcc (by kernel_rfl) (by kernel_rfl)
            · refine fun ho => ?_; rw [if_neg (by decide)]; refine obg_det (runs_grows _ _) hF (by kernel_rfl) (by kernel_rfl) ho (by kernel_rfl) (fun wx hbx => ?_); rw [if_pos (by kernel_rfl)]; show Grows _ _ _ _ _; with_reducible exact grows_det (.bool true) (by kernel_rfl) (by kernel_rfl) (by kernel_rfl)
            · refine fun ho => ?_; rw [if_neg (by decide)]; refine obg_det (runs_grows _ _) hF (by kernel_rfl) (by kernel_rfl) ho (by kernel_rfl) (fun wx hbx => ?_); rw [if_pos (by kernel_rfl)]; show Grows _ _ _ _ _; with_reducible exact grows_det (.bool true) (by kernel_rfl) (by kernel_rfl) (by kernel_rfl)
            · refine fun ho => ?_; rw [if_neg (by decide)]; refine obg_det (runs_grows _ _) hF (by kernel_rfl) (by kernel_rfl) ho (by kernel_rfl) (fun wx hbx => ?_); rw [if_pos (by kernel_rfl)]; show Grows _ _ _ _ _; with_reducible exact grows_det (.slice a3 l.length c3) (by kernel_rfl) (by kernel_rfl) (by kernel_rfl)
            · refine fun ho => ?_; rw [if_neg (by decide)]; refine obg_det (runs_grows _ _) hF (by kernel_rfl) (by kernel_rfl) ho (by kernel_rfl) (fun wx hbx => ?_); rw [if_pos (by kernel_rfl)]; show Grows _ _ _ _ _; with_reducible exact grows_det (.slice ab l.length cb) (by kernel_rfl) (by kernel_rfl) (by kernel_rfl)
            · refine fun ho => ?_; rw [if_neg (by decide)]; refine obg_det (runs_grows _ _) hF (by kernel_rfl) (by kernel_rfl) ho (by kernel_rfl) (fun wx hbx => ?_); rw [if_pos (by kernel_rfl)]; show Grows _ _ _ _ _; have hcc := same_self a3 l c3 ab cb wx (reach_has hbx h3 hn3) (reach_has hbx hB hnb) (by omega); with_reducible exact grows_call 48 #[.slice a3 l.length c3, .slice ab l.length cb] (.bool true) (by kernel_rfl) hcc (by kernel_rfl) (by kernel_rfl)
            · refine fun ho => ?_; rw [if_neg (by decide)]; refine obg_det (runs_grows _ _) hF (by kernel_rfl) (by kernel_rfl) ho (by kernel_rfl) (fun wx hbx => ?_); rw [if_pos (by kernel_rfl)]; show Grows _ _ _ _ _; with_reducible exact grows_det (.bool true) (by kernel_rfl) (by kernel_rfl) (by kernel_rfl)
            · refine fun ho => ?_; rw [if_neg (by decide)]; refine obg_det (runs_grows _ _) hF (by kernel_rfl) (by kernel_rfl) ho (by kernel_rfl) (fun wx hbx => ?_); rw [if_pos (by kernel_rfl)]; show Grows _ _ _ _ _; with_reducible exact grows_det (.bool true) (by kernel_rfl) (by kernel_rfl) (by kernel_rfl)
            · refine fun ho => ?_; rw [if_neg (by decide)]; refine obg_det (runs_grows _ _) hF (by kernel_rfl) (by kernel_rfl) ho (by kernel_rfl) (fun wx hbx => ?_); rw [if_pos (by kernel_rfl)]; show Grows _ _ _ _ _; with_reducible exact grows_det (.pointer (some ⟨R, 0, none⟩)) (by kernel_rfl) (by kernel_rfl) (by kernel_rfl)
            · refine fun ho => ?_; rw [if_neg (by decide)]; refine obg_det (runs_grows _ _) hF (by kernel_rfl) (by kernel_rfl) ho (by kernel_rfl) (fun wx hbx => ?_); rw [if_pos (by kernel_rfl)]; show Grows _ _ _ _ _; with_reducible exact grows_det (.int .i64 n) (by kernel_rfl) (by kernel_rfl) (by kernel_rfl)
            · refine fun ho => ?_; rw [if_pos (by decide)]; refine obg_det (runs_growsM _ _ _) hF (by kernel_rfl) (by kernel_rfl) ho (by kernel_rfl) (fun wx hbx => ?_); rw [if_pos (by kernel_rfl)]; show GrowsM _ _ _ _ _ _; have hcc := rdBytes_rho R n wx ar l cr OB hOB (hrd.grow hbx) hnl (by omega); with_reducible exact growsM_call 52 #[.pointer (some ⟨R, 0, none⟩), .int .i64 n] (.slice ar n n) (by kernel_rfl) hcc (OwnS R (some OB) (.slice ar n n)) (by kernel_rfl) (fun w' hw' => ownS_mk hw'.2)
            · refine fun ho => ?_; rw [if_neg (by decide)]; refine obg_det (runs_grows _ _) hF (by kernel_rfl) (by kernel_rfl) ho (by kernel_rfl) (fun wx hbx => ?_); rw [if_pos (by kernel_rfl)]; show Grows _ _ _ _ _; with_reducible exact grows_det (.slice ab l.length cb) (by kernel_rfl) (by kernel_rfl) (by kernel_rfl)
            · refine fun ho => ?_; rw [if_neg (by decide)]; refine obg_det (runs_grows _ _) hF (by kernel_rfl) (by kernel_rfl) ho (by kernel_rfl) (fun wx hbx => ?_); rw [if_pos (by kernel_rfl)]; show Grows _ _ _ _ _; with_reducible exact grows_det (.int .i64 n) (by kernel_rfl) (by kernel_rfl) (by kernel_rfl)
            · refine fun ho => ?_; rw [if_neg (by decide)]; refine obg_det (runs_grows _ _) hF (by kernel_rfl) (by kernel_rfl) ho (by kernel_rfl) (fun wx hbx => ?_); rw [if_pos (by kernel_rfl)]; show Grows _ _ _ _ _; with_reducible exact grows_det (.slice ab n cb) (op_slice_to (x := .tmp 103) (y := .tmp 104) ab l.length cb n (by kernel_rfl) (by kernel_rfl) (by kernel_rfl) (Nat.le_trans hnl hcb)) (by kernel_rfl) (by kernel_rfl)
            · refine fun ho => ?_; rw [if_neg (by decide)]; refine obg_own (runs_grows _ _) hF (by kernel_rfl) (by kernel_rfl) ho 23 (by kernel_rfl) 102 R (some OB) (.slice ar n n) (by kernel_rfl) (by kernel_rfl) (fun wx hbx hob => ?_); rw [if_pos (by kernel_rfl)]; show Grows _ _ _ _ _; have hcc := same_selfN n ar (l.take n) htk n ab cb wx ((reach_has hbx hrd.2.1 hrd.2.2.2).take n) ((reach_has hbx hB hnb).take n) (by omega); with_reducible exact grows_callS 48 #[.slice ar n n, .slice ab n cb] (.bool true) (by kernel_rfl) hcc (OwnS R (some OB) (.bool true)) (by kernel_rfl) (fun w' hb' => ownS_mk (below_blk hb' hob))
            · refine fun ho => ?_; rw [if_neg (by decide)]; refine obg_own (runs_grows _ _) hF (by kernel_rfl) (by kernel_rfl) ho 27 (by kernel_rfl) 106 R (some OB) (.bool true) (by kernel_rfl) (by kernel_rfl) (fun wx hbx hob => ?_); rw [if_pos (by kernel_rfl)]; show Grows _ _ _ _ _; with_reducible exact grows_new (.bool true) wx (by kernel_rfl) (Below.refl _ _) (OwnS R (some OB) (.bool true)) (by kernel_rfl) (ownS_mk hob)
            · refine fun ho => ?_; rw [if_neg (by decide)]; refine obg_own (runs_grows _ _) hF (by kernel_rfl) (by kernel_rfl) ho 28 (by kernel_rfl) 107 R (some OB) (.bool true) (by kernel_rfl) (by kernel_rfl) (fun wx hbx hob => ?_); rw [if_pos (by kernel_rfl)]; show Grows _ _ _ _ _; with_reducible exact grows_new (.bool true) wx (by kernel_rfl) (Below.refl _ _) (OwnS R (some OB) (.bool true)) (by kernel_rfl) (ownS_mk hob)
            · refine fun ho => ?_; rw [if_neg (by decide)]; refine obg_own (runs_grows _ _) hF (by kernel_rfl) (by kernel_rfl) ho 29 (by kernel_rfl) 108 R (some OB) (.bool true) (by kernel_rfl) (by kernel_rfl) (fun wx hbx hob => ?_); rw [if_pos (by kernel_rfl)]; show Grows _ _ _ _ _; with_reducible exact grows_det (.pointer (some ⟨R, 0, none⟩)) (by kernel_rfl) (by kernel_rfl) (by kernel_rfl)
            · refine fun ho => ?_; rw [if_neg (by decide)]; refine obg_own (runs_grows _ _) hF (by kernel_rfl) (by kernel_rfl) ho 29 (by kernel_rfl) 108 R (some OB) (.bool true) (by kernel_rfl) (by kernel_rfl) (fun wx hbx hob => ?_); rw [if_pos (by kernel_rfl)]; show Grows _ _ _ _ _; have hcc := rest_calls R wx (cutAt ar cr n) (l.drop n) (cr - n) false (rd_of (by rw [← hOB]; exact hob) hdl (reach_has hbx hrd.2.1 hrd.2.2.2) hrd); rw [hdl] at hcc; with_reducible exact grows_call 53 #[.pointer (some ⟨R, 0, none⟩)] (.int .i64 (l.length - n : Nat)) (by kernel_rfl) hcc (by kernel_rfl) (by kernel_rfl)
            · refine fun ho => ?_; rw [if_neg (by decide)]; refine obg_own (runs_grows _ _) hF (by kernel_rfl) (by kernel_rfl) ho 29 (by kernel_rfl) 108 R (some OB) (.bool true) (by kernel_rfl) (by kernel_rfl) (fun wx hbx hob => ?_); rw [if_pos (by kernel_rfl)]; show Grows _ _ _ _ _; with_reducible exact grows_det (.slice ab l.length cb) (by kernel_rfl) (by kernel_rfl) (by kernel_rfl)
            · refine fun ho => ?_; rw [if_neg (by decide)]; refine obg_own (runs_grows _ _) hF (by kernel_rfl) (by kernel_rfl) ho 29 (by kernel_rfl) 108 R (some OB) (.bool true) (by kernel_rfl) (by kernel_rfl) (fun wx hbx hob => ?_); rw [if_pos (by kernel_rfl)]; show Grows _ _ _ _ _; with_reducible exact grows_det (.int .i64 l.length) (by kernel_rfl) (by kernel_rfl) (by kernel_rfl)
            · refine fun ho => ?_; rw [if_neg (by decide)]; refine obg_own (runs_grows _ _) hF (by kernel_rfl) (by kernel_rfl) ho 29 (by kernel_rfl) 108 R (some OB) (.bool true) (by kernel_rfl) (by kernel_rfl) (fun wx hbx hob => ?_); rw [if_pos (by kernel_rfl)]; show Grows _ _ _ _ _; with_reducible exact grows_det (.int .i64 n) (by kernel_rfl) (by kernel_rfl) (by kernel_rfl)
            · refine fun ho => ?_; rw [if_neg (by decide)]; refine obg_own (runs_grows _ _) hF (by kernel_rfl) (by kernel_rfl) ho 29 (by kernel_rfl) 108 R (some OB) (.bool true) (by kernel_rfl) (by kernel_rfl) (fun wx hbx hob => ?_); rw [if_pos (by kernel_rfl)]; show Grows _ _ _ _ _; with_reducible exact grows_det (.int .i64 (l.length - n : Nat)) (op_sub (x := .tmp 112) (y := .tmp 113) l.length n (by kernel_rfl) (by kernel_rfl) (by kernel_rfl) hnl (by omega)) (by kernel_rfl) (by kernel_rfl)
            · refine fun ho => ?_; rw [if_neg (by decide)]; refine obg_own (runs_grows _ _) hF (by kernel_rfl) (by kernel_rfl) ho 29 (by kernel_rfl) 108 R (some OB) (.bool true) (by kernel_rfl) (by kernel_rfl) (fun wx hbx hob => ?_); rw [if_pos (by kernel_rfl)]; show Grows _ _ _ _ _; have hq : Value.bool (((l.length - n : Nat) : Int) == ((l.length - n : Nat) : Int)) = Value.bool true := (by simp); with_reducible exact grows_det (.bool (((l.length - n : Nat) : Int) == ((l.length - n : Nat) : Int))) (by kernel_rfl) (by kernel_rfl) (hq.trans (by kernel_rfl))
            · refine fun ho => ?_; rw [if_neg (by decide)]; refine obg_own (runs_grows _ _) hF (by kernel_rfl) (by kernel_rfl) ho 29 (by kernel_rfl) 108 R (some OB) (.bool true) (by kernel_rfl) (by kernel_rfl) (fun wx hbx hob => ?_); rw [if_pos (by kernel_rfl)]; show Grows _ _ _ _ _; with_reducible exact grows_det (.bool true) (by kernel_rfl) (by kernel_rfl) (by kernel_rfl)
            · refine fun ho => ?_; rw [if_neg (by decide)]; refine obg_det (runs_grows _ _) hF (by kernel_rfl) (by kernel_rfl) ho (by kernel_rfl) (fun wx hbx => ?_); rw [if_pos (by kernel_rfl)]; show Grows _ _ _ _ _; with_reducible exact grows_det (.bool true) (by kernel_rfl) (by kernel_rfl) (by kernel_rfl)
          case hQ =>
            intro wy hby
            have ht := reach_turned (.inr hby)
            simp only [each]
            intro x1 _ x2 _ x3 _ x4 _
            generalize hF : putAll _ _ _ = F
            have hd : F.defers = [] := by rw [← hF]; kernel_rfl
            have h8 : F.tmps.getD 4 undef = .bool true := by rw [← hF]; kernel_rfl
            clear hF
            go_step
            go_step
            go_step
            exact ret_of 4 rfl hd _ h8 ⟨rfl, below_turned hWX ht (fun k hk => by subst hk; exact hRw)⟩
end Go.Proofs.Ytncooadaeifekaa

/- Helpers for the walk of CodecWrites: items, what is written for them, a pen beside a slice. -/
namespace Go.Proofs.Ytncooadaeifekaa
open Go.RowKit
def It.enc (x : It) : List Nat := if x.w = 0 then x.l else M.leB x.w.toNat x.v.toNat
def encs (l : List It) : List Nat := l.flatMap It.enc
def It.good (x : It) : Bool := decide (x.w = 0) || M.fits x.w x.v
def goods (l : List It) : Bool := l.all It.good
/-- an item's cells -/
def itm (x : It) : Array Value := #[.int .i64 x.w, .int .i64 x.v, .slice x.a x.l.length x.cap]
theorem take_item {l : List It} {k : Nat} {x : It} (h : l[k]? = some x) : l.take (k + 1) = l.take k ++ [x] := by rw [List.take_add_one, h]; rfl
theorem drop_item {l : List It} {k : Nat} {x : It} (h : l[k]? = some x) : l.drop k = x :: l.drop (k + 1) := by
  obtain ⟨hk, rfl⟩ := List.getElem?_eq_some_iff.1 h
  exact List.drop_eq_getElem_cons hk
theorem encs_take {l : List It} {k : Nat} {x : It} (h : l[k]? = some x) : encs (l.take (k + 1)) = encs (l.take k) ++ x.enc := by
  rw [take_item h]; simp [encs]
theorem encs_drop {l : List It} {k : Nat} {x : It} (h : l[k]? = some x) : encs (l.drop k) = x.enc ++ encs (l.drop (k + 1)) := by
  rw [drop_item h]; simp [encs]
theorem goods_take {l : List It} {k : Nat} {x : It} (h : l[k]? = some x) : goods (l.take (k + 1)) = (goods (l.take k) && x.good) := by
  rw [take_item h]; simp [goods]
theorem itm_size (x : It) : (itm x).size = 3 := rfl
theorem itm_all (x : It) : (itm x).all (·.oneCell') = true := by
  refine Array.all_eq_true_iff_forall_mem.2 fun v hv => ?_
  simp only [itm, List.mem_toArray, List.mem_cons, List.not_mem_nil, or_false] at hv
  rcases hv with rfl | rfl | rfl <;> rfl
theorem ty76 (x : It) : TyRow Try.prog 76 (itm x).size := by rw [itm_size]; unfold TyRow; kernel_rfl
theorem It.range {W W' : World} {b o : Nat} {x : It} (h : It.at W b o x) (hb : Below W.heap.size W W') : W'.rangeAt b o [.int .i64 x.w, .int .i64 x.v, .slice x.a x.l.length x.cap] := by
  obtain ⟨h0, h1, h2⟩ := h
  have key : ∀ i u, W.cell? ⟨b, i, none⟩ = some u → W'.cell? ⟨b, i, none⟩ = some u := fun i u hc =>
    (hb.cell (p := ⟨b, i, none⟩) (block_lt_of_cell (w := W) (a := ⟨b, i, none⟩) hc)).trans hc
  intro j u hu
  match j, hu with
  | 0, hu => simp at hu; subst hu; exact key _ _ h0
  | 1, hu => simp at hu; subst hu; exact key _ _ h1
  | 2, hu => simp at hu; subst hu; exact key _ _ h2
  | j + 3, hu => simp at hu
section
variable {ops : Array Oper} {rest : List Oper} {o : Oper} {a : Act} {w : World} {Q : Exit → Act → World → Prop}
/-- an item is read out of a slice -/
theorem wpList_load_item (d : Tmp) (hd : o.dst = some d) (hgd : o.guard = none) (y : Operand) (ho : o.op = .load 76 y) (b o' : Nat) (hx : a.eval y = .pointer (some ⟨b, o', none⟩)) (x : It)
    (hc : w.rangeAt b o' [.int .i64 x.w, .int .i64 x.v, .slice x.a x.l.length x.cap]) (h : wpList Try.prog ops Q rest (a.put (some d) (.agg (itm x))) w) : wpList Try.prog ops Q (o :: rest) a w := by
  refine wpList_load_mid hgd 76 y ho b o' hx _ _ hc Try.underlying76 rfl (by kernel_rfl) ?_
  rw [hd]
  exact h
end
/-- a pen's step beside a slice that is built -/
theorem pen_step {w0 wr w1 : World} {N : Nat} {v vw : Value} {L LW L' : List Nat} {bad bad' : Bool} (hN : w0.heap.size ≤ N) (hp : PenB wr N v L bad) (ho : OwnB wr w0.heap.size vw LW) (hd : ∀ j, v.ownBlock = some j → w0.heap.size ≤ j ∧ vw.ownBlock ≠ some j) (hn : vw.ownBlock ≠ some N)
    (hW : Below w0.heap.size w0 wr) (hs : Pens N v wr w1 L' bad') :
    ∃ v1, PenB w1 N v1 L' bad' ∧ OwnB w1 w0.heap.size vw LW ∧ (∀ j, v1.ownBlock = some j → w0.heap.size ≤ j ∧ vw.ownBlock ≠ some j) ∧ Below w0.heap.size w0 w1 := by
  obtain ⟨v1, hp1, ht, hl⟩ := hs
  refine ⟨v1, hp1, ht.own ho (fun k hk hS => ?_), fun j hj => ?_, below_turned hW ht (fun k hk => ?_)⟩
  · rcases hS with rfl | hS
    · exact hn hk
    · exact (hd k hS).2 hk
  · rcases hl j hj with h | h
    · exact hd j h
    · refine ⟨Nat.le_trans hW.size h, fun e => ?_⟩
      have := (ho.ownLt j e).2
      omega
  · rcases hk with rfl | hk
    · exact hN
    · exact (hd k hk).1
/-- the slice's step beside the pen -/
theorem want_step {w0 w1 w2 : World} {N : Nat} {v vw vw2 : Value} {L LW : List Nat} {bad : Bool} (hp : PenB w1 N v L bad) (ho : OwnB w1 w0.heap.size vw LW) (hd : ∀ j, v.ownBlock = some j → w0.heap.size ≤ j ∧ vw.ownBlock ≠ some j) (hn : vw.ownBlock ≠ some N)
    (hW : Below w0.heap.size w0 w1) (ht : Turned (fun k => vw.ownBlock = some k) w1 w2) (hk : ∀ k, vw2.ownBlock = some k → vw.ownBlock = some k ∨ w1.heap.size ≤ k) :
    PenB w2 N v L bad ∧ (∀ j, v.ownBlock = some j → w0.heap.size ≤ j ∧ vw2.ownBlock ≠ some j) ∧ vw2.ownBlock ≠ some N ∧ Below w0.heap.size w0 w2 := by
  refine ⟨hp.turned ht (fun k hk hS => ?_), fun j hj => ⟨(hd j hj).1, fun e => ?_⟩, fun e => ?_, below_turned hW ht (fun k hk => (ho.ownLt k hk).1)⟩
  · rcases hk with rfl | hk
    · exact hn hS
    · exact (hd k hk).2 hS
  · rcases hk j e with h | h
    · exact (hd j hj).2 h
    · have := hp.lt j (.inr hj)
      omega
  · rcases hk N e with h | h
    · exact hn h
    · have := hp.lt N (.inl rfl)
      omega
theorem pen_row {N M : Nat} {v : Value} {w w1 : World} {L : List Nat} {bad : Bool} {ob : Obj} (hs : Pens N v w w1 L bad) (hr : w.heap[M]? = some ob) (h : ¬ penSet N v M) : w1.heap[M]? = some ob := by
  obtain ⟨_, _, ht, _⟩ := hs
  exact ht.blk hr h
/-- what a pen holds behind an item's number -/
def numL (x : It) (L : List Nat) : List Nat := if M.fits x.w x.v = true then L ++ M.leB x.w.toNat x.v.toNat else L
theorem fits_nat {x : It} (h : M.fits x.w x.v = true) : ∃ K X : Nat, x.w = K ∧ x.v = X ∧ x.w.toNat = K ∧ x.v.toNat = X ∧ 1 ≤ K ∧ K ≤ 7 ∧ X < 256 ^ K := by
  obtain ⟨h1, h2, h3, h4⟩ := (M.fits_iff _ _).1 h
  exact ⟨x.w.toNat, x.v.toNat, by omega, by omega, rfl, rfl, by omega, by omega, h4⟩
theorem numL_len (x : It) (L : List Nat) : (numL x L).length ≤ L.length + 7 := by
  unfold numL
  split
  · rename_i h
    obtain ⟨K, X, h1, h2, h3, h4, h5, h6, _⟩ := fits_nat h
    rw [List.length_append, M.leB_length, h3]; omega
  · omega
theorem penNum_any (N : Nat) (x : It) {W : World} (hxo : x.okIn W) (w : World) (v : Value) (L : List Nat) (bad : Bool) (hp : PenB w N v L bad) (hl : L.length ≤ 900000) :
    Calls Try.prog 55 #[.pointer (some ⟨N, 0, none⟩), .int .i64 x.w, .int .i64 x.v] w fun e w' => e = .returned (.tuple #[]) ∧ Pens N v w w' (numL x L) (bad || !(M.fits x.w x.v)) := by
  unfold numL
  by_cases h : M.fits x.w x.v = true
  · obtain ⟨K, X, h1, h2, h3, h4, h5, h6, h7⟩ := fits_nat h
    have h' := h
    rw [h1, h2] at h'
    have := penNum_fits N K X h' w v L bad hp hl
    rw [if_pos h, h, h3, h4, h1, h2]
    simpa using this
  · have h' : M.fits x.w x.v = false := by simpa using h
    have := penNum_not N x.w x.v h' hxo.2.1.1 (by have := hxo.2.1.2; omega) w v L bad hp
    rw [if_neg h, h']
    simpa using this
theorem rnum_any (x : It) (h : M.fits x.w x.v = true) (w : World) :
    Calls Try.prog 59 #[.int .i64 x.w, .int .i64 x.v] w fun e w' => (∃ a cap, e = .returned (.slice a (M.leB x.w.toNat x.v.toNat).length cap) ∧ HasB w' a (M.leB x.w.toNat x.v.toNat)) ∧ Below w.heap.size w w' := by
  have hlt := M.fits_lt h
  obtain ⟨K, X, h1, h2, h3, h4, h5, h6, h7⟩ := fits_nat h
  rw [h3, h4, h1, h2, M.leB_length]
  refine (rnum_calls K X h6 (by omega) w).mono ?_
  rintro e w' ⟨⟨a, cap, he, _, _, hh⟩, hb⟩
  exact ⟨⟨a, cap, he, hh⟩, hb⟩
theorem rdNum_rho (R : Nat) (x : It) (hx : M.fits x.w x.v = true) (w : World) (a : Option Addr) (l r : List Nat) (cap : Nat) (hl0 : l = M.leB x.w.toNat x.v.toNat ++ r) (OB : Obj) (hOB : OB = .cells #[.slice (cutAt a cap x.w.toNat) (l.length - x.w.toNat) (cap - x.w.toNat), .bool false] 111 (0, 0)) (hr : RdB w R a l cap false) (hl : l.length ≤ 1000000) :
    Calls Try.prog 56 #[.pointer (some ⟨R, 0, none⟩), .int .i64 x.w] w fun e w' => e = .returned (.int .i64 x.v) ∧ (Turned (fun k => k = R) w w' ∧ w'.heap[R]? = some OB) := by
  obtain ⟨K, X, h1, h2, h3, h4, h5, h6, h7⟩ := fits_nat hx
  rw [h3, h4] at hl0
  rw [h3] at hOB
  have hlen : (M.leB K X).length = K := M.leB_length K X
  have ht : l.take K = M.leB K X := by rw [hl0, List.take_left' hlen]
  have hk : K ≤ l.length := by rw [hl0, List.length_append, hlen]; omega
  rw [h1, h2]
  refine (rdNum_good R K w a l cap hr h5 h6 hk hl).mono fun e w' h => ?_
  rw [ht, M.leV_leB _ _ h7] at h
  exact ⟨h.1, h.2.2, by rw [hOB]; exact rd_obj h.2.1 (by simp)⟩
/-- what stands after k items -/
def St (w0 : World) (N : Nat) (its : List It) (k : Nat) (vw : Value) (f : Bool) (wr : World) : Prop :=
  ∃ (v : Value) (L LW : List Nat), PenB wr N v L (!f) ∧ OwnB wr w0.heap.size vw LW ∧ (∀ j, v.ownBlock = some j → w0.heap.size ≤ j ∧ vw.ownBlock ≠ some j) ∧ vw.ownBlock ≠ some N ∧ L.length ≤ 100 * k ∧ LW.length ≤ 100 * k ∧
    f = goods (its.take k) ∧ (f = true → L = encs (its.take k) ∧ LW = L) ∧ Below w0.heap.size w0 wr
end Go.Proofs.Ytncooadaeifekaa

/- Walk of the law CodecWrites: it answers true for any items. -/
namespace Go.Proofs.Ytncooadaeifekaa
open Go.RowKit Go.BigFrame
theorem build_zero63 (w : World) : (Instr.build 63 #[]).run Try.prog w = .ok (.agg #[.slice none 0 0, .bool false]) w := by kernel_rfl
theorem op_load28 {o : Oper} {F : Act} {w : World} (x : Operand) (ho : o.op = .load 28 x) (p : Addr) (hx : F.eval x = .pointer (some p)) (v : Value) (hc : w.cell? p = some v) :
    (execOp F.eval o).run Try.prog w = .ok (.value v) w := by
  unfold execOp
  simp only [ho, hx]
  simp [go_sem, hc]
theorem op_load3 {o : Oper} {F : Act} {w : World} (x : Operand) (ho : o.op = .load 3 x) (p : Addr) (hx : F.eval x = .pointer (some p)) (v : Value) (hc : w.cell? p = some v) :
    (execOp F.eval o).run Try.prog w = .ok (.value v) w := by
  unfold execOp
  simp only [ho, hx]
  simp [go_sem, hc]
theorem reach_cell {R : Nat} {ob : Option Obj} {w0 w : World} {M i : Nat} {u : Value} (h : Below w0.heap.size w0 w ∨ Mid (fun w1 w2 => Turned (fun k => k = R) w1 w2 ∧ w2.heap[R]? = ob) w0 w) (hc : w0.cell? ⟨M, i, none⟩ = some u) (hM : M ≠ R) : w.cell? ⟨M, i, none⟩ = some u := by
  have ht := reach_turned h
  rw [← hc]
  exact World.cell?_of_block (w := w0) (ht.block M (block_lt_of_cell (w := w0) (a := ⟨M, i, none⟩) hc) hM)
theorem encs_len (l : List It) (h : ∀ x ∈ l, x.enc.length ≤ 100) : (encs l).length ≤ 100 * l.length := by
  induction l with
  | nil => simp [encs]
  | cons x l ih =>
    have h1 := h x (by simp)
    have h2 := ih fun y hy => h y (by simp [hy])
    simp only [encs, List.flatMap_cons, List.length_append, List.length_cons] at *
    omega
set_option maxRecDepth 100000 in
set_option maxHeartbeats 4000000 in
theorem writes_walk (w : World) (a : Option Addr) (its : List It) (cap : Nat) (hlen : its.length ≤ 9223372036854775807) (hT : HasT w a its) :
    Calls Try.prog 17 #[.slice a its.length cap] w fun r w' => r = .returned (.bool true) ∧ Below w.heap.size w w' := by
  have HT := hid hT
  by_cases h40 : 40 < its.length
  · have t0 : decide ((40 : Int) < (its.length : Int)) = true := by simp; omega
    clear hlen hT h40
    have hW := Below.refl w.heap.size w
    go_enter Try.func17, Try.ntmps17
    go_wp2_with (first | (go_at_call 43; refine (anchor2_calls _).mono ?_; rintro e w1 ⟨rfl, hb1⟩; have hW := below_next hW hb1))
    go_ret
    exact ⟨rfl, hW⟩
  · have t0 : decide ((40 : Int) < (its.length : Int)) = false := by simp; omega
    have h40' : its.length ≤ 40 := by omega
    clear hlen hT h40
    have hW := Below.refl w.heap.size w
    go_enter Try.func17, Try.ntmps17
    go_wp2_with (first | (go_at_call 43; refine (anchor2_calls _).mono ?_; rintro e w1 ⟨rfl, hb1⟩; have hW := below_next hW hb1) | ((with_reducible show wpList _ _ _ (⟨some 18, _, _, _, _, _⟩ :: _) _ _); refine wpList_build_as 18 rfl rfl 63 _ rfl #[.slice none 0 0, .bool false] build_zero63 ?_) | ((with_reducible show wpList _ _ _ (⟨some 19, _, _, _, _, _⟩ :: _) _ _); refine wpList_boxed 19 rfl rfl 63 _ rfl #[.slice none 0 0, .bool false] rfl ?_; intro W3 N hN3 hM3 hr3 hb3; have sW3 := hb3.size; have hW := below_next hW hb3))
    have wN : w.heap.size ≤ N := by have := hb1.size; omega
    have hp0 := penB_zero hr3
    clear t0 hb1 hb3
    go_loopw [4, 5, 22] (fun vw f i wr => ∃ (k : Nat) (fb : Bool), k ≤ its.length ∧ i = .int .i64 k ∧ f = .bool fb ∧ Hid (∀ y ∈ its.take k, y.l.length ≤ 100) ∧ Hid (St w N its k vw fb wr)) (fun _ _ i _ => its.length - (intOf i).toNat)
    case atStart => exact ⟨0, true, Nat.zero_le _, rfl, rfl, (fun y hy => by simp at hy), ⟨_, [], [], hp0, ownB_nil _ _, by simp [Value.ownBlock], by simp [Value.ownBlock], by simp, by simp, rfl, fun _ => ⟨rfl, rfl⟩, hW⟩⟩
    case round =>
      clear hr3 hp0 hW sW3 hN3 hM3
      obtain ⟨k, fb, hk, rfl, rfl, HLN, HS⟩ := hrel
      obtain ⟨v, L, LW, hp, ho, hd, hn, l1, l2, hf, he, hW⟩ := HS.out
      by_cases hlt : k < its.length
      · obtain ⟨x, hx⟩ : ∃ x, its[k]? = some x := ⟨_, List.getElem?_eq_getElem hlt⟩
        obtain ⟨b, off, rfl, hat⟩ : ∃ b off, a = some ⟨b, off, none⟩ ∧ ∀ i (x : It), its[i]? = some x → It.at w b (off + i * 3) x := by
          rcases HT.out.2 with h | h
          · rw [h] at hlt; simp at hlt
          · exact h
        have hrg := It.range (hat k x hx) hW
        have HRG := hid hrg
        have HX := hid (HT.out.1 x (List.mem_of_getElem? hx))
        have HPL := hid hp.lt
        have HXK := hid hx
        have HF := hid hf
        have HE := hid he
        have tl : decide ((k : Int) < (its.length : Int)) = true := by simp; omega
        clear hat hrg hx hf he HS
        by_cases hl : x.l.length ≤ 100
        · have tlen : decide ((100 : Int) < (x.l.length : Int)) = false := by simp; omega
          have HLN2 : Hid (∀ y ∈ its.take (k + 1), y.l.length ≤ 100) := fun y hy => by
            rw [take_item HXK.out, List.mem_append] at hy
            rcases hy with h | h
            · exact HLN.out y h
            · simp at h; subst h; exact hl
          by_cases h0 : x.w = 0
          · have t2 : (x.w == 0) = true := by rw [beq_iff_eq]; exact h0
            have HG : Hid (goods (its.take (k + 1)) = fb) := by show _ = _; rw [goods_take HXK.out, ← HF.out, It.good, h0]; simp
            have HEN : Hid (x.enc = x.l) := by show _ = _; rw [It.enc, if_pos h0]
            clear h0
            go_wp2_with (first | ((with_reducible show wpList _ _ _ (⟨some 25, _, _, _, _, _⟩ :: _) _ _); refine wpList_load_item 25 rfl rfl _ rfl b (off + k * 3) rfl x HRG.out ?_) | ((with_reducible show wpList _ _ _ (⟨some 7, _, _, _, _, _⟩ :: _) _ _); refine wpList_local 7 rfl rfl rfl rfl 76 rfl _ rfl (itm x) rfl (of_decide_eq_true (by kernel_rfl)) (ty76 x) (itm_all x) ?_; intro W7 N7 hNN7 hMN7 hr7 hb; have sW7 := hb.size; have hW := below_next hW hb; have hp := hp.grow hb; have ho := ho.mono hb; have e0 : _ = some (Value.int .i64 x.w) := (cell_of_row _ N7 0 _ _ _ hr7).trans rfl; have e1 : _ = some (Value.int .i64 x.v) := (cell_of_row _ N7 1 _ _ _ hr7).trans rfl; have e2 : _ = some (Value.slice x.a x.l.length x.cap) := (cell_of_row _ N7 2 _ _ _ hr7).trans rfl) | (go_at_call 50; refine (penBytes_calls N x.a x.l x.cap _ v L (L ++ x.l) rfl (!fb) hp (HX.out.2.2.2.below hW) (by rw [List.length_append]; omega)).mono ?_; rintro r w1 ⟨rfl, hs⟩; have hr7 := pen_row hs hr7 (fun hS => absurd (HPL.out _ hS) (by omega)); obtain ⟨v1, hp, ho, hd, hW⟩ := pen_step wN hp ho hd hn hW hs; have e0 : _ = some (Value.int .i64 x.w) := (cell_of_row _ N7 0 _ _ _ hr7).trans rfl; have e1 : _ = some (Value.int .i64 x.v) := (cell_of_row _ N7 1 _ _ _ hr7).trans rfl; have e2 : _ = some (Value.slice x.a x.l.length x.cap) := (cell_of_row _ N7 2 _ _ _ hr7).trans rfl) | ((with_reducible show wpList _ _ _ (⟨some 40, _, _, _, _, _⟩ :: _) _ _); refine wpList_append_loc 40 rfl rfl _ _ rfl w.heap.size _ LW x.l (LW ++ x.l) rfl (by rfl) ho x.a x.cap (by rfl) (HX.out.2.2.2.below hW) (by rw [List.length_append]; omega) hW.size ?_; intro av cv w2 ho2 hcv hh ht hk2; obtain ⟨hp, hd, hn, hW⟩ := want_step hp ho hd hn hW ht hk2; rw [List.length_append] at ho2 hd hn))
            go_roundw
            case rel =>
              exact ⟨k + 1, fb, by omega, by go_num, rfl, HLN2, ⟨v1, _, _, hp, ho2, hd, hn, by rw [List.length_append]; omega, by rw [List.length_append]; omega, HG.out.symm, fun hh => by rw [encs_take HXK.out, HEN.out, (HE.out hh).2, (HE.out hh).1]; exact ⟨rfl, rfl⟩, hW⟩⟩
            case measure => simp [intOf]; omega
          · have t2 : (x.w == 0) = false := by rw [beq_eq_false_iff_ne]; exact h0
            have nl := numL_len x L
            by_cases hft : M.fits x.w x.v = true
            · have HFT := hid hft
              have hll : (M.leB x.w.toNat x.v.toNat).length ≤ 7 := by obtain ⟨K, X, h1, h2, h3, h4, h5, h6, _⟩ := fits_nat hft; rw [M.leB_length, h3]; exact h6
              have HG : Hid (goods (its.take (k + 1)) = fb) := by show _ = _; rw [goods_take HXK.out, ← HF.out, It.good, hft]; simp
              have HEN : Hid (x.enc = M.leB x.w.toNat x.v.toNat) := by show _ = _; rw [It.enc, if_neg h0]
              have HNL : Hid (numL x L = L ++ M.leB x.w.toNat x.v.toNat) := by show _ = _; rw [numL, if_pos hft]
              clear h0 hft
              cases fb with
              | true =>
                go_wp2_with (first | ((with_reducible show wpList _ _ _ (⟨some 25, _, _, _, _, _⟩ :: _) _ _); refine wpList_load_item 25 rfl rfl _ rfl b (off + k * 3) rfl x HRG.out ?_) | ((with_reducible show wpList _ _ _ (⟨some 7, _, _, _, _, _⟩ :: _) _ _); refine wpList_local 7 rfl rfl rfl rfl 76 rfl _ rfl (itm x) rfl (of_decide_eq_true (by kernel_rfl)) (ty76 x) (itm_all x) ?_; intro W7 N7 hNN7 hMN7 hr7 hb; have sW7 := hb.size; have hW := below_next hW hb; have hp := hp.grow hb; have ho := ho.mono hb; have e0 : _ = some (Value.int .i64 x.w) := (cell_of_row _ N7 0 _ _ _ hr7).trans rfl; have e1 : _ = some (Value.int .i64 x.v) := (cell_of_row _ N7 1 _ _ _ hr7).trans rfl; have e2 : _ = some (Value.slice x.a x.l.length x.cap) := (cell_of_row _ N7 2 _ _ _ hr7).trans rfl) | (go_at_call 55; refine (penNum_any N x HX.out _ v L (!true) hp (by omega)).mono ?_; rintro r w1 ⟨rfl, hs⟩; have hr7 := pen_row hs hr7 (fun hS => absurd (HPL.out _ hS) (by omega)); obtain ⟨v1, hp, ho, hd, hW⟩ := pen_step wN hp ho hd hn hW hs; have e0 : _ = some (Value.int .i64 x.w) := (cell_of_row _ N7 0 _ _ _ hr7).trans rfl; have e1 : _ = some (Value.int .i64 x.v) := (cell_of_row _ N7 1 _ _ _ hr7).trans rfl; have e2 : _ = some (Value.slice x.a x.l.length x.cap) := (cell_of_row _ N7 2 _ _ _ hr7).trans rfl) | (go_at_call 45; refine (fits_calls _ _ _).mono ?_; rintro r w2 ⟨rfl, hb⟩; rw [HFT.out]; have hp := hp.grow hb; have ho := ho.mono hb; have hr7 := below_blk hb hr7; have hW := below_next hW hb; have e0 : _ = some (Value.int .i64 x.w) := (cell_of_row _ N7 0 _ _ _ hr7).trans rfl; have e1 : _ = some (Value.int .i64 x.v) := (cell_of_row _ N7 1 _ _ _ hr7).trans rfl; have e2 : _ = some (Value.slice x.a x.l.length x.cap) := (cell_of_row _ N7 2 _ _ _ hr7).trans rfl) | (go_at_call 59; refine (rnum_any x HFT.out _).mono ?_; rintro r w3 ⟨⟨ax, cx, rfl, hhx⟩, hb⟩; have hp := hp.grow hb; have ho := ho.mono hb; have hW := below_next hW hb) | ((with_reducible show wpList _ _ _ (⟨some 62, _, _, _, _, _⟩ :: _) _ _); refine wpList_append_loc 62 rfl rfl _ _ rfl w.heap.size _ LW (M.leB x.w.toNat x.v.toNat) (LW ++ M.leB x.w.toNat x.v.toNat) rfl (by rfl) ho ax cx (by rfl) hhx (by rw [List.length_append]; omega) hW.size ?_; intro av cv w4 ho2 hcv hh ht hk2; obtain ⟨hp, hd, hn, hW⟩ := want_step hp ho hd hn hW ht hk2; rw [List.length_append] at ho2 hd hn))
                go_roundw
                case rel =>
                  exact ⟨k + 1, true, by omega, by go_num, rfl, HLN2, ⟨v1, _, _, by have h := hp; rw [HFT.out] at h; exact h, ho2, hd, hn, by omega, by rw [List.length_append]; omega, HG.out.symm, fun hh => by rw [encs_take HXK.out, HEN.out, HNL.out, (HE.out (by simp)).2, (HE.out (by simp)).1]; exact ⟨rfl, rfl⟩, hW⟩⟩
                case measure => simp [intOf]; omega
              | false =>
                go_wp2_with (first | ((with_reducible show wpList _ _ _ (⟨some 25, _, _, _, _, _⟩ :: _) _ _); refine wpList_load_item 25 rfl rfl _ rfl b (off + k * 3) rfl x HRG.out ?_) | ((with_reducible show wpList _ _ _ (⟨some 7, _, _, _, _, _⟩ :: _) _ _); refine wpList_local 7 rfl rfl rfl rfl 76 rfl _ rfl (itm x) rfl (of_decide_eq_true (by kernel_rfl)) (ty76 x) (itm_all x) ?_; intro W7 N7 hNN7 hMN7 hr7 hb; have sW7 := hb.size; have hW := below_next hW hb; have hp := hp.grow hb; have ho := ho.mono hb; have e0 : _ = some (Value.int .i64 x.w) := (cell_of_row _ N7 0 _ _ _ hr7).trans rfl; have e1 : _ = some (Value.int .i64 x.v) := (cell_of_row _ N7 1 _ _ _ hr7).trans rfl; have e2 : _ = some (Value.slice x.a x.l.length x.cap) := (cell_of_row _ N7 2 _ _ _ hr7).trans rfl) | (go_at_call 55; refine (penNum_any N x HX.out _ v L (!false) hp (by omega)).mono ?_; rintro r w1 ⟨rfl, hs⟩; have hr7 := pen_row hs hr7 (fun hS => absurd (HPL.out _ hS) (by omega)); obtain ⟨v1, hp, ho, hd, hW⟩ := pen_step wN hp ho hd hn hW hs; have e0 : _ = some (Value.int .i64 x.w) := (cell_of_row _ N7 0 _ _ _ hr7).trans rfl; have e1 : _ = some (Value.int .i64 x.v) := (cell_of_row _ N7 1 _ _ _ hr7).trans rfl; have e2 : _ = some (Value.slice x.a x.l.length x.cap) := (cell_of_row _ N7 2 _ _ _ hr7).trans rfl))
                go_roundw
                case rel =>
                  exact ⟨k + 1, false, by omega, by go_num, rfl, HLN2, ⟨v1, _, _, by have h := hp; rw [HFT.out] at h; exact h, ho, hd, hn, by omega, by omega, HG.out.symm, (fun hh => by cases hh), hW⟩⟩
                case measure => simp [intOf]; omega
            · have hft : M.fits x.w x.v = false := by simpa using hft
              have HFT := hid hft
              have HG : Hid (goods (its.take (k + 1)) = false) := by show _ = _; rw [goods_take HXK.out, It.good, hft, decide_eq_false h0]; simp
              clear h0 hft
              cases fb with
              | true =>
                go_wp2_with (first | ((with_reducible show wpList _ _ _ (⟨some 25, _, _, _, _, _⟩ :: _) _ _); refine wpList_load_item 25 rfl rfl _ rfl b (off + k * 3) rfl x HRG.out ?_) | ((with_reducible show wpList _ _ _ (⟨some 7, _, _, _, _, _⟩ :: _) _ _); refine wpList_local 7 rfl rfl rfl rfl 76 rfl _ rfl (itm x) rfl (of_decide_eq_true (by kernel_rfl)) (ty76 x) (itm_all x) ?_; intro W7 N7 hNN7 hMN7 hr7 hb; have sW7 := hb.size; have hW := below_next hW hb; have hp := hp.grow hb; have ho := ho.mono hb; have e0 : _ = some (Value.int .i64 x.w) := (cell_of_row _ N7 0 _ _ _ hr7).trans rfl; have e1 : _ = some (Value.int .i64 x.v) := (cell_of_row _ N7 1 _ _ _ hr7).trans rfl; have e2 : _ = some (Value.slice x.a x.l.length x.cap) := (cell_of_row _ N7 2 _ _ _ hr7).trans rfl) | (go_at_call 55; refine (penNum_any N x HX.out _ v L (!true) hp (by omega)).mono ?_; rintro r w1 ⟨rfl, hs⟩; have hr7 := pen_row hs hr7 (fun hS => absurd (HPL.out _ hS) (by omega)); obtain ⟨v1, hp, ho, hd, hW⟩ := pen_step wN hp ho hd hn hW hs; have e0 : _ = some (Value.int .i64 x.w) := (cell_of_row _ N7 0 _ _ _ hr7).trans rfl; have e1 : _ = some (Value.int .i64 x.v) := (cell_of_row _ N7 1 _ _ _ hr7).trans rfl; have e2 : _ = some (Value.slice x.a x.l.length x.cap) := (cell_of_row _ N7 2 _ _ _ hr7).trans rfl) | (go_at_call 45; refine (fits_calls _ _ _).mono ?_; rintro r w2 ⟨rfl, hb⟩; rw [HFT.out]; have hp := hp.grow hb; have ho := ho.mono hb; have hr7 := below_blk hb hr7; have hW := below_next hW hb; have e0 : _ = some (Value.int .i64 x.w) := (cell_of_row _ N7 0 _ _ _ hr7).trans rfl; have e1 : _ = some (Value.int .i64 x.v) := (cell_of_row _ N7 1 _ _ _ hr7).trans rfl; have e2 : _ = some (Value.slice x.a x.l.length x.cap) := (cell_of_row _ N7 2 _ _ _ hr7).trans rfl))
                go_roundw
                case rel =>
                  exact ⟨k + 1, false, by omega, by go_num, rfl, HLN2, ⟨v1, _, _, by have h := hp; rw [HFT.out] at h; exact h, ho, hd, hn, by omega, by omega, HG.out.symm, (fun hh => by cases hh), hW⟩⟩
                case measure => simp [intOf]; omega
              | false =>
                go_wp2_with (first | ((with_reducible show wpList _ _ _ (⟨some 25, _, _, _, _, _⟩ :: _) _ _); refine wpList_load_item 25 rfl rfl _ rfl b (off + k * 3) rfl x HRG.out ?_) | ((with_reducible show wpList _ _ _ (⟨some 7, _, _, _, _, _⟩ :: _) _ _); refine wpList_local 7 rfl rfl rfl rfl 76 rfl _ rfl (itm x) rfl (of_decide_eq_true (by kernel_rfl)) (ty76 x) (itm_all x) ?_; intro W7 N7 hNN7 hMN7 hr7 hb; have sW7 := hb.size; have hW := below_next hW hb; have hp := hp.grow hb; have ho := ho.mono hb; have e0 : _ = some (Value.int .i64 x.w) := (cell_of_row _ N7 0 _ _ _ hr7).trans rfl; have e1 : _ = some (Value.int .i64 x.v) := (cell_of_row _ N7 1 _ _ _ hr7).trans rfl; have e2 : _ = some (Value.slice x.a x.l.length x.cap) := (cell_of_row _ N7 2 _ _ _ hr7).trans rfl) | (go_at_call 55; refine (penNum_any N x HX.out _ v L (!false) hp (by omega)).mono ?_; rintro r w1 ⟨rfl, hs⟩; have hr7 := pen_row hs hr7 (fun hS => absurd (HPL.out _ hS) (by omega)); obtain ⟨v1, hp, ho, hd, hW⟩ := pen_step wN hp ho hd hn hW hs; have e0 : _ = some (Value.int .i64 x.w) := (cell_of_row _ N7 0 _ _ _ hr7).trans rfl; have e1 : _ = some (Value.int .i64 x.v) := (cell_of_row _ N7 1 _ _ _ hr7).trans rfl; have e2 : _ = some (Value.slice x.a x.l.length x.cap) := (cell_of_row _ N7 2 _ _ _ hr7).trans rfl))
                go_roundw
                case rel =>
                  exact ⟨k + 1, false, by omega, by go_num, rfl, HLN2, ⟨v1, _, _, by have h := hp; rw [HFT.out] at h; exact h, ho, hd, hn, by omega, by omega, HG.out.symm, (fun hh => by cases hh), hW⟩⟩
                case measure => simp [intOf]; omega
        · have tlen : decide ((100 : Int) < (x.l.length : Int)) = true := by simp; omega
          go_wp2_with (first | ((with_reducible show wpList _ _ _ (⟨some 25, _, _, _, _, _⟩ :: _) _ _); refine wpList_load_item 25 rfl rfl _ rfl b (off + k * 3) rfl x HRG.out ?_) | ((with_reducible show wpList _ _ _ (⟨some 7, _, _, _, _, _⟩ :: _) _ _); refine wpList_local 7 rfl rfl rfl rfl 76 rfl _ rfl (itm x) rfl (of_decide_eq_true (by kernel_rfl)) (ty76 x) (itm_all x) ?_; intro W7 N7 hNN7 hMN7 hr7 hb; have sW7 := hb.size; have hW := below_next hW hb; have hp := hp.grow hb; have ho := ho.mono hb; have e0 : _ = some (Value.int .i64 x.w) := (cell_of_row _ N7 0 _ _ _ hr7).trans rfl; have e1 : _ = some (Value.int .i64 x.v) := (cell_of_row _ N7 1 _ _ _ hr7).trans rfl; have e2 : _ = some (Value.slice x.a x.l.length x.cap) := (cell_of_row _ N7 2 _ _ _ hr7).trans rfl))
          go_ret
          exact ⟨rfl, hW⟩
      · obtain rfl : its.length = k := by omega
        have HF := hid hf
        have HE := hid he
        clear hf he HS hlt hk
        rw [List.take_length] at HLN HF HE
        cases fb with
        | false =>
          go_wp2_with (first | (go_at_call 51; refine (penOut_bad N _ v L hp).mono ?_; rintro r w5 ⟨rfl, hb⟩; have hW := below_next hW hb))
          go_ret
          exact ⟨rfl, hW⟩
        | true =>
          obtain ⟨hLE, hLW⟩ := HE.out rfl
          have hLW := hLW.symm
          subst hLW
          obtain ⟨a4, c4, rfl, hc4, hh4⟩ := ho.slice
          have HLE := hid hLE
          have HH4 := hid hh4
          clear hLE hh4 ho hc4
          go_upto_region 27 with (first | (go_at_call 51; refine (penOut_good N _ v L hp (by omega)).mono ?_; rintro r w5 ⟨⟨a8, c8, rfl, _, _, hh8⟩, hb⟩; have hW := below_next hW hb; have hh4 := HH4.out.below hb) | (go_at_call 48; refine (same_self a8 L c8 a4 c4 _ hh8 hh4 (by omega)).mono ?_; rintro r w6 ⟨rfl, hb⟩; have hW := below_next hW hb; have hh8 := hh8.below hb) | (go_at_call 49; refine (rnew_calls a8 L c8 _ hh8 (by omega)).mono ?_; rintro r w7 ⟨⟨R, ar, cr, rfl, hrd, hR1, hR2, hR3⟩, hb⟩; have wR : w.heap.size ≤ R := Nat.le_trans hW.size hR1; have hW := below_next hW hb))
          have hGD : ∀ y ∈ its, y.good = true := by
            have h := HF.out.symm
            simpa [goods] using h
          have HGD := hid hGD
          rw [HLE.out] at hrd
          have HRD := hid hrd
          clear hGD hb hh8 hh4 hR3 hrd hp hd hn
          go_wp2
          go_loopw [90] (fun i wr => ∃ k : Nat, k ≤ its.length ∧ i = .int .i64 k ∧ Hid (∃ ar cr, RdB wr R ar (encs (its.drop k)) cr false) ∧ Hid (Below w.heap.size w wr)) (fun i _ => its.length - (intOf i).toNat)
          case atStart => exact ⟨0, Nat.zero_le _, rfl, ⟨ar, cr, HRD.out⟩, hW⟩
          case round =>
            clear hW HRD
            obtain ⟨k, hk, rfl, HR0, HW0⟩ := hrel
            obtain ⟨ar, cr, hrd⟩ := HR0.out
            have hW := HW0.out
            have hRl := lt_of_block hrd.1
            by_cases hlt : k < its.length
            · obtain ⟨x, hx⟩ : ∃ x, its[k]? = some x := ⟨_, List.getElem?_eq_getElem hlt⟩
              obtain ⟨b, off, rfl, hat⟩ : ∃ b off, a = some ⟨b, off, none⟩ ∧ ∀ i (x : It), its[i]? = some x → It.at w b (off + i * 3) x := by
                rcases HT.out.2 with h | h
                · rw [h] at hlt; simp at hlt
                · exact h
              have hrg := It.range (hat k x hx) hW
              have HRG := hid hrg
              have HX := hid (HT.out.1 x (List.mem_of_getElem? hx))
              have tl : decide ((k : Int) < (its.length : Int)) = true := by simp; omega
              have hgd := HGD.out x (List.mem_of_getElem? hx)
              have hl := HLN.out x (List.mem_of_getElem? hx)
              have hed := encs_drop hx
              have hml := encs_len (its.drop k) (fun y hy => by
                have h1 := HGD.out y (List.mem_of_mem_drop hy)
                have h2 := HLN.out y (List.mem_of_mem_drop hy)
                unfold It.enc
                split
                · exact h2
                · rename_i hw
                  have hf : M.fits y.w y.v = true := by rw [It.good, decide_eq_false hw] at h1; simpa using h1
                  obtain ⟨K, X, e1, e2, e3, e4, e5, e6, _⟩ := fits_nat hf
                  rw [M.leB_length, e3]; omega)
              have hml2 : (encs (its.drop k)).length ≤ 1000000 := by have : (its.drop k).length ≤ its.length := by simp
                                                                     omega
              obtain ⟨LL, hLL⟩ : ∃ l, encs (its.drop k) = l := ⟨_, rfl⟩
              obtain ⟨RR, hRR⟩ : ∃ l, encs (its.drop (k + 1)) = l := ⟨_, rfl⟩
              rw [hLL] at hrd hed hml2
              rw [hRR] at hed
              have HRR := hid hRR
              clear hat hrg hx hml hLL HR0 HW0 hRR
              by_cases h0 : x.w = 0
              · have t2 : (x.w == 0) = true := by rw [beq_iff_eq]; exact h0
                have hLR : LL = x.l ++ RR := by rw [hed, It.enc, if_pos h0]
                clear h0 hgd hed
                go_upto_region 31 with (first | ((with_reducible show wpList _ _ _ (⟨some 93, _, _, _, _, _⟩ :: _) _ _); refine wpList_load_item 93 rfl rfl _ rfl b (off + k * 3) rfl x HRG.out ?_) | ((with_reducible show wpList _ _ _ (⟨some 12, _, _, _, _, _⟩ :: _) _ _); refine wpList_local 12 rfl rfl rfl rfl 76 rfl _ rfl (itm x) rfl (of_decide_eq_true (by kernel_rfl)) (ty76 x) (itm_all x) ?_; intro W12 N12 hNN12 hMN12 hr12 hb; have sW12 := hb.size; have hW := below_next hW hb; have hrd := hrd.grow hb; have sz12 := lt_of_block hrd.1; have c0 : _ = some (Value.int .i64 x.w) := (cell_of_row _ N12 0 _ _ _ hr12).trans rfl; have c1 : _ = some (Value.int .i64 x.v) := (cell_of_row _ N12 1 _ _ _ hr12).trans rfl; have c2 : _ = some (Value.slice x.a x.l.length x.cap) := (cell_of_row _ N12 2 _ _ _ hr12).trans rfl))
                have n12 : N12 ≠ R := by omega
                have htk : LL.take x.l.length = x.l := by rw [hLR, List.take_left' rfl]
                have hdr : LL.drop x.l.length = RR := by rw [hLR, List.drop_left' rfl]
                have hnl : x.l.length ≤ LL.length := by rw [hLR, List.length_append]; omega
                rw [← HRR.out] at hdr
                obtain ⟨OB, hOB⟩ : ∃ OB : Obj, OB = .cells #[.slice (cutAt ar cr x.l.length) (LL.length - x.l.length : Nat) (cr - x.l.length), .bool false] 111 (0, 0) := ⟨_, rfl⟩
                clear hLR hb
                refine wp_region_mut (fun w1 w2 => Turned (fun k => k = R) w1 w2 ∧ w2.heap[R]? = some OB) 4 (by decide) (spec := [none, none, none, none, some (OwnS R (some OB) (.slice ar x.l.length x.l.length)), none, none, some (OwnS R (some OB) (.bool true)), some (OwnS R (some OB) (.bool false))]) (vals := [.pointer (some ⟨R, 0, none⟩), .pointer (some ⟨N12, 2, none⟩), .slice x.a x.l.length x.cap, .int .i64 x.l.length, undef, .pointer (some ⟨N12, 2, none⟩), .slice x.a x.l.length x.cap, undef, undef]) (by kernel_rfl) (by kernel_rfl) (by kernel_rfl) (by kernel_rfl) ?hst ?hstM (fun hF => ?hobl) ?hQ
                case hst => exact ⟨ownS_stable R OB _, ownS_stable R OB _, ownS_stable R OB _, trivial⟩
                case hstM => exact ⟨fun v w w' h hr => ⟨h.1, hr.2⟩, fun v w w' h hr => ⟨h.1, hr.2⟩, fun v w w' h hr => ⟨h.1, hr.2⟩, trivial⟩
                case hobl =>
                  refine ⟨?_, ?_, ?_, ?_, ?_, ?_, ?_, ?_, ?_, trivial⟩
                  · refine fun ho => ?_; rw [if_neg (by decide)]; refine obg_det (runs_grows _ _) hF (by kernel_rfl) (by kernel_rfl) ho (by kernel_rfl) (fun wx hbx => ?_); rw [if_pos (by kernel_rfl)]; show Grows _ _ _ _ _; with_reducible exact grows_det (.pointer (some ⟨R, 0, none⟩)) (by kernel_rfl) (by kernel_rfl) (by kernel_rfl)
                  · refine fun ho => ?_; rw [if_neg (by decide)]; refine obg_det (runs_grows _ _) hF (by kernel_rfl) (by kernel_rfl) ho (by kernel_rfl) (fun wx hbx => ?_); rw [if_pos (by kernel_rfl)]; show Grows _ _ _ _ _; with_reducible exact grows_det (.pointer (some ⟨N12, 2, none⟩)) (by kernel_rfl) (by kernel_rfl) (by kernel_rfl)
                  · refine fun ho => ?_; rw [if_neg (by decide)]; refine obg_det (runs_grows _ _) hF (by kernel_rfl) (by kernel_rfl) ho (by kernel_rfl) (fun wx hbx => ?_); rw [if_pos (by kernel_rfl)]; show Grows _ _ _ _ _; with_reducible exact grows_det (.slice x.a x.l.length x.cap) (op_load28 (.tmp 98) (by kernel_rfl) ⟨N12, 2, none⟩ (by kernel_rfl) _ (reach_cell hbx c2 n12)) (by kernel_rfl) (by kernel_rfl)
                  · refine fun ho => ?_; rw [if_neg (by decide)]; refine obg_det (runs_grows _ _) hF (by kernel_rfl) (by kernel_rfl) ho (by kernel_rfl) (fun wx hbx => ?_); rw [if_pos (by kernel_rfl)]; show Grows _ _ _ _ _; with_reducible exact grows_det (.int .i64 x.l.length) (by kernel_rfl) (by kernel_rfl) (by kernel_rfl)
                  · refine fun ho => ?_; rw [if_pos (by decide)]; refine obg_det (runs_growsM _ _ _) hF (by kernel_rfl) (by kernel_rfl) ho (by kernel_rfl) (fun wx hbx => ?_); rw [if_pos (by kernel_rfl)]; show GrowsM _ _ _ _ _ _; have hcc := rdBytes_rho R x.l.length wx ar LL cr OB hOB (hrd.grow hbx) hnl (by omega); with_reducible exact growsM_call 52 #[.pointer (some ⟨R, 0, none⟩), .int .i64 x.l.length] (.slice ar x.l.length x.l.length) (by kernel_rfl) hcc (OwnS R (some OB) (.slice ar x.l.length x.l.length)) (by kernel_rfl) (fun w' hw' => ownS_mk hw'.2)
                  · refine fun ho => ?_; rw [if_neg (by decide)]; refine obg_det (runs_grows _ _) hF (by kernel_rfl) (by kernel_rfl) ho (by kernel_rfl) (fun wx hbx => ?_); rw [if_pos (by kernel_rfl)]; show Grows _ _ _ _ _; with_reducible exact grows_det (.pointer (some ⟨N12, 2, none⟩)) (by kernel_rfl) (by kernel_rfl) (by kernel_rfl)
                  · refine fun ho => ?_; rw [if_neg (by decide)]; refine obg_det (runs_grows _ _) hF (by kernel_rfl) (by kernel_rfl) ho (by kernel_rfl) (fun wx hbx => ?_); rw [if_pos (by kernel_rfl)]; show Grows _ _ _ _ _; with_reducible exact grows_det (.slice x.a x.l.length x.cap) (op_load28 (.tmp 102) (by kernel_rfl) ⟨N12, 2, none⟩ (by kernel_rfl) _ (reach_cell hbx c2 n12)) (by kernel_rfl) (by kernel_rfl)
                  · refine fun ho => ?_; rw [if_neg (by decide)]; refine obg_own (runs_grows _ _) hF (by kernel_rfl) (by kernel_rfl) ho 4 (by kernel_rfl) 101 R (some OB) (.slice ar x.l.length x.l.length) (by kernel_rfl) (by kernel_rfl) (fun wx hbx hob => ?_); rw [if_pos (by kernel_rfl)]; show Grows _ _ _ _ _; have hcc := same_selfN x.l.length ar x.l rfl x.l.length x.a x.cap wx (by have h := (reach_has hbx hrd.2.1 hrd.2.2.2).take x.l.length; rw [htk] at h; exact h) (HX.out.2.2.2.below (below_turned hW (reach_turned hbx) (fun k hk => by subst hk; exact wR))) (by omega); with_reducible exact grows_callS 48 #[.slice ar x.l.length x.l.length, .slice x.a x.l.length x.cap] (.bool true) (by kernel_rfl) hcc (OwnS R (some OB) (.bool true)) (by kernel_rfl) (fun w' hb' => ownS_mk (below_blk hb' hob))
                  · refine fun ho => ?_; rw [if_neg (by decide)]; refine obg_own (runs_grows _ _) hF (by kernel_rfl) (by kernel_rfl) ho 7 (by kernel_rfl) 104 R (some OB) (.bool true) (by kernel_rfl) (by kernel_rfl) (fun wx hbx hob => ?_); rw [if_pos (by kernel_rfl)]; show Grows _ _ _ _ _; with_reducible exact grows_new (.bool false) wx (by kernel_rfl) (Below.refl _ _) (OwnS R (some OB) (.bool false)) (by kernel_rfl) (ownS_mk hob)
                case hQ =>
                  intro wy hby
                  have hty := reach_turned (.inr hby)
                  have hhy := reach_has (.inr hby) hrd.2.1 hrd.2.2.2
                  simp only [each]
                  rintro x0 ⟨rfl, hob⟩ x1 ⟨rfl, hob⟩ x2 ⟨rfl, hob⟩
                  simp only [putAll, Act.put, List.setIfInBounds_toArray, List.set_cons_succ, List.set_cons_zero]
                  have hW := below_turned hW hty (fun k hk => by subst hk; exact wR)
                  have hrd2 := rd_of (n := x.l.length) (k := LL.length - x.l.length) (by rw [← hOB]; exact hob) (by simp) hhy hrd
                  rw [hdr] at hrd2
                  have HR2 := hid hrd2
                  clear hby hty hhy hrd hrd2 hob hOB
                  go_wp2
                  go_roundw
                  case rel => exact ⟨k + 1, by omega, by go_num, ⟨_, _, HR2.out⟩, hW⟩
                  case measure => simp [intOf]; omega
              · have t2 : (x.w == 0) = false := by rw [beq_eq_false_iff_ne]; exact h0
                have hft : M.fits x.w x.v = true := by rw [It.good, decide_eq_false h0] at hgd; simpa using hgd
                have hLR : LL = M.leB x.w.toNat x.v.toNat ++ RR := by rw [hed, It.enc, if_neg h0]
                have HFT := hid hft
                have hn7 : (M.leB x.w.toNat x.v.toNat).length = x.w.toNat := M.leB_length _ _
                clear h0 hgd hed hft
                go_upto_region 33 with (first | ((with_reducible show wpList _ _ _ (⟨some 93, _, _, _, _, _⟩ :: _) _ _); refine wpList_load_item 93 rfl rfl _ rfl b (off + k * 3) rfl x HRG.out ?_) | ((with_reducible show wpList _ _ _ (⟨some 12, _, _, _, _, _⟩ :: _) _ _); refine wpList_local 12 rfl rfl rfl rfl 76 rfl _ rfl (itm x) rfl (of_decide_eq_true (by kernel_rfl)) (ty76 x) (itm_all x) ?_; intro W12 N12 hNN12 hMN12 hr12 hb; have sW12 := hb.size; have hW := below_next hW hb; have hrd := hrd.grow hb; have sz12 := lt_of_block hrd.1; have c0 : _ = some (Value.int .i64 x.w) := (cell_of_row _ N12 0 _ _ _ hr12).trans rfl; have c1 : _ = some (Value.int .i64 x.v) := (cell_of_row _ N12 1 _ _ _ hr12).trans rfl; have c2 : _ = some (Value.slice x.a x.l.length x.cap) := (cell_of_row _ N12 2 _ _ _ hr12).trans rfl))
                have n12 : N12 ≠ R := by omega
                have hdr : LL.drop x.w.toNat = RR := by rw [hLR, List.drop_left' hn7]
                rw [← HRR.out] at hdr
                obtain ⟨OB, hOB⟩ : ∃ OB : Obj, OB = .cells #[.slice (cutAt ar cr x.w.toNat) (LL.length - x.w.toNat : Nat) (cr - x.w.toNat), .bool false] 111 (0, 0) := ⟨_, rfl⟩
                clear hb hn7
                refine wp_region_mut (fun w1 w2 => Turned (fun k => k = R) w1 w2 ∧ w2.heap[R]? = some OB) 3 (by decide) (spec := [none, none, none, some (OwnS R (some OB) (.int .i64 x.v)), none, none, some (OwnS R (some OB) (.bool false))]) (vals := [.pointer (some ⟨R, 0, none⟩), .pointer (some ⟨N12, 0, none⟩), .int .i64 x.w, undef, .pointer (some ⟨N12, 1, none⟩), .int .i64 x.v, undef]) (by kernel_rfl) (by kernel_rfl) (by kernel_rfl) (by kernel_rfl) ?hst ?hstM (fun hF => ?hobl) ?hQ
                case hst => exact ⟨ownS_stable R OB _, ownS_stable R OB _, trivial⟩
                case hstM => exact ⟨fun v w w' h hr => ⟨h.1, hr.2⟩, fun v w w' h hr => ⟨h.1, hr.2⟩, trivial⟩
                case hobl =>
                  refine ⟨?_, ?_, ?_, ?_, ?_, ?_, ?_, trivial⟩
                  · refine fun ho => ?_; rw [if_neg (by decide)]; refine obg_det (runs_grows _ _) hF (by kernel_rfl) (by kernel_rfl) ho (by kernel_rfl) (fun wx hbx => ?_); rw [if_pos (by kernel_rfl)]; show Grows _ _ _ _ _; with_reducible exact grows_det (.pointer (some ⟨R, 0, none⟩)) (by kernel_rfl) (by kernel_rfl) (by kernel_rfl)
                  · refine fun ho => ?_; rw [if_neg (by decide)]; refine obg_det (runs_grows _ _) hF (by kernel_rfl) (by kernel_rfl) ho (by kernel_rfl) (fun wx hbx => ?_); rw [if_pos (by kernel_rfl)]; show Grows _ _ _ _ _; with_reducible exact grows_det (.pointer (some ⟨N12, 0, none⟩)) (by kernel_rfl) (by kernel_rfl) (by kernel_rfl)
                  · refine fun ho => ?_; rw [if_neg (by decide)]; refine obg_det (runs_grows _ _) hF (by kernel_rfl) (by kernel_rfl) ho (by kernel_rfl) (fun wx hbx => ?_); rw [if_pos (by kernel_rfl)]; show Grows _ _ _ _ _; with_reducible exact grows_det (.int .i64 x.w) (op_load3 (.tmp 107) (by kernel_rfl) ⟨N12, 0, none⟩ (by kernel_rfl) _ (reach_cell hbx c0 n12)) (by kernel_rfl) (by kernel_rfl)
                  · refine fun ho => ?_; rw [if_pos (by decide)]; refine obg_det (runs_growsM _ _ _) hF (by kernel_rfl) (by kernel_rfl) ho (by kernel_rfl) (fun wx hbx => ?_); rw [if_pos (by kernel_rfl)]; show GrowsM _ _ _ _ _ _; have hcc := rdNum_rho R x HFT.out wx ar LL RR cr hLR OB hOB (hrd.grow hbx) (by omega); with_reducible exact growsM_call 56 #[.pointer (some ⟨R, 0, none⟩), .int .i64 x.w] (.int .i64 x.v) (by kernel_rfl) hcc (OwnS R (some OB) (.int .i64 x.v)) (by kernel_rfl) (fun w' hw' => ownS_mk hw'.2)
                  · refine fun ho => ?_; rw [if_neg (by decide)]; refine obg_det (runs_grows _ _) hF (by kernel_rfl) (by kernel_rfl) ho (by kernel_rfl) (fun wx hbx => ?_); rw [if_pos (by kernel_rfl)]; show Grows _ _ _ _ _; with_reducible exact grows_det (.pointer (some ⟨N12, 1, none⟩)) (by kernel_rfl) (by kernel_rfl) (by kernel_rfl)
                  · refine fun ho => ?_; rw [if_neg (by decide)]; refine obg_det (runs_grows _ _) hF (by kernel_rfl) (by kernel_rfl) ho (by kernel_rfl) (fun wx hbx => ?_); rw [if_pos (by kernel_rfl)]; show Grows _ _ _ _ _; with_reducible exact grows_det (.int .i64 x.v) (op_load3 (.tmp 110) (by kernel_rfl) ⟨N12, 1, none⟩ (by kernel_rfl) _ (reach_cell hbx c1 n12)) (by kernel_rfl) (by kernel_rfl)
                  · refine fun ho => ?_; rw [if_neg (by decide)]; refine obg_own (runs_grows _ _) hF (by kernel_rfl) (by kernel_rfl) ho 3 (by kernel_rfl) 109 R (some OB) (.int .i64 x.v) (by kernel_rfl) (by kernel_rfl) (fun wx hbx hob => ?_); rw [if_pos (by kernel_rfl)]; show Grows _ _ _ _ _; with_reducible exact grows_new (.bool false) wx (op_neq_i (t := 3) (u := 3) (.tmp 109) (.tmp 111) (by kernel_rfl) .i64 x.v x.v (by kernel_rfl) (by kernel_rfl) false (by simp)) (Below.refl _ _) (OwnS R (some OB) (.bool false)) (by kernel_rfl) (ownS_mk hob)
                case hQ =>
                  intro wy hby
                  have hty := reach_turned (.inr hby)
                  have hhy := reach_has (.inr hby) hrd.2.1 hrd.2.2.2
                  simp only [each]
                  rintro x0 ⟨rfl, hob⟩ x1 ⟨rfl, hob⟩
                  simp only [putAll, Act.put, List.setIfInBounds_toArray, List.set_cons_succ, List.set_cons_zero]
                  have hW := below_turned hW hty (fun k hk => by subst hk; exact wR)
                  have hrd2 := rd_of (n := x.w.toNat) (k := LL.length - x.w.toNat) (by rw [← hOB]; exact hob) (by simp) hhy hrd
                  rw [hdr] at hrd2
                  have HR2 := hid hrd2
                  clear hby hty hhy hrd hrd2 hob hOB
                  go_wp2
                  go_roundw
                  case rel => exact ⟨k + 1, by omega, by go_num, ⟨_, _, HR2.out⟩, hW⟩
                  case measure => simp [intOf]; omega
            · obtain rfl : its.length = k := by omega
              have hnil : encs (its.drop its.length) = [] := by rw [List.drop_length]; rfl
              rw [hnil] at hrd
              have HRD := hid hrd
              clear HR0 HW0 hrd hnil
              go_wp2_with (first | (go_at_call 53; refine (rest_calls R _ ar [] cr false HRD.out).mono ?_; rintro r w8 ⟨rfl, hb⟩; have hrd := HRD.out.grow hb; have hW := below_next hW hb) | (go_at_call 58; refine (done_calls R _ ar [] cr false hrd).mono ?_; rintro r w9 ⟨rfl, hb⟩; have hW := below_next hW hb))
              go_ret
              exact ⟨rfl, hW⟩
end Go.Proofs.Ytncooadaeifekaa

/- CodecWrites is proved: for any items the law returns true. No condition. -/
namespace Go.Proofs.Ytncooadaeifekaa.codecWrites
open Go.ChangeShapes Go.WideShapes Go.ChangeAt Go.RowKit
set_option maxRecDepth 100000 in
theorem lifted (os : Os) (started : os.Started) (H : Type) (enc : TypeId × Value → H) :
    ReturnsInHanded {} Try.checked os 17 .any (Rows.codecWritesSpec.pre6 enc Try.prog Try.f17 Rows.codecWritesRow.domain false) (Rows.codecWritesSpec.post enc Try.prog Try.f17 false true false false) := by
  refine returnsInHanded_of_change (C := Try.checked) own started (by kernel_rfl) Try.func17
    (ChangeSpec.witness6 (enc := enc) (C := Try.checked) false ⟨#[], #[.slice none 0 0], []⟩ 8 (by kernel_rfl) (by kernel_rfl) (by kernel_rfl) (by kernel_rfl)) ?_
  intro W base args ds gs before hval0 hW hcnd _
  have hval : ∀ (j : Nat) t v, Try.f17.params[j]? = some t → args[j]? = some v → Value.okWide Try.prog W .any base t v := hval0
  have hW' := hW
  obtain ⟨p, q, hA0, hV, rfl, hfz, hnd⟩ := hW
  have hA : DataW.TrodAll enc Try.prog W 0 (fun _ => true) true Try.f17.params.toList args.toList ds p := hA0
  rw [Try.params17] at hA hval
  obtain ⟨v0, vs0, d0, ds0, p0, q0, hargs, rfl, rfl, h0, r0⟩ := trodAll_cons hA
  obtain ⟨rfl, rfl, rfl⟩ := trodAll_nil r0
  obtain rfl : args = #[v0] := by cases args; simp_all
  obtain ⟨rfl, rfl⟩ := trodVars_none hV
  have k0 := h0
  have lt0 := trod_fin k0
  obtain ⟨a0, l0, c0, rfl, m0, n0⟩ := open_items (hval 0 73 v0 rfl rfl) h0
  clear hA0 hval0
  refine (writes_walk W a0 l0 c0 m0 n0).mono fun e W' ⟨he, bel⟩ => ?_
  subst he
  exact ⟨_, rfl, _, _, _, [], _, [], hW', trodAll_mk1 (shut_bool Try.underlying4 _), (trodAll_cons_mk (Below.trod laidOut (by kernel_rfl) (of_decide_eq_true (by kernel_rfl)) k0 bel lt0) trodAll_mk0), rfl, bel.frame _, fun h => by cases h⟩
theorem facts : joinedFacts Try.prog 17 Try.f17 Rows.codecWritesSpec Rows.codecWritesRow = true := by
  unfold joinedFacts
  rw [may_enter, lifts_final, make_is]
  kernel_rfl
theorem over : Rows.codecWritesRow.holds Try.pinned (OpenSpec.ofChange Rows.codecWritesSpec) :=
  OpenClaim.holds_of_wide 17 Try.f17 rfl rfl rfl rfl rfl rfl rfl ⟨rfl, rfl, rfl, rfl, rfl⟩ rfl rfl rfl rfl rfl (by kernel_rfl) Try.func17 facts
    (of_decide_eq_true (by kernel_rfl)) (by unfold Func.isWrapper; first | (rw [if_pos (by decide +kernel)]; kernel_rfl) | (rw [if_neg (by decide +kernel)]; exact ⟨rfl, rfl⟩))
    (fun os started H enc _ => lifted os started H enc)
theorem proved : Rows.CodecWritesSaid := over
#print axioms proved
end Go.Proofs.Ytncooadaeifekaa.codecWrites
