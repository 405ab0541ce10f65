/- Walk of the law CodecOwn: it answers true for any bytes and number. -/
import Derived.Test.YtncooadaeifekaaT9
import Derived.Test.YtncooadaeifekaaT8
import Derived.Test.YtncooadaeifekaaG5
namespace Go.Proofs.Ytncooadaeifekaa
open Go.RowKit Go.BigFrame
/-- this value, and block R holds this -/
def OwnS (R : Nat) (ob : Option Obj) (u v : Value) (w : World) : Prop := v = u ∧ w.heap[R]? = ob
theorem ownS_stable (R : Nat) (o : Obj) (u v : Value) (w w' : World) (h : OwnS R (some o) u v w) (hb : Below w.heap.size w w') : OwnS R (some o) u v w' := ⟨h.1, below_blk hb h.2⟩
theorem ownS_mk {R : Nat} {ob : Option Obj} {u : Value} {w : World} (h : w.heap[R]? = ob) : OwnS R ob u u w := ⟨rfl, h⟩
theorem obg_own {ops : Array Oper} {spec : Spec} {vals : List Value} {a0 : Act} {T : World → Prop} {G : Oper → Act → World → Prop} {N : World → Prop} (hG : Runs G) (hF : Flows ops a0.tmps.size) (hlen : ops.size = vals.length) (hns : Region.noSelect ops = true) {i : Nat} {o : Oper} (ho : ops[i]? = some o)
    (k : Nat) (hn : newsOf ops spec o = [k]) (t : Tmp) (R : Nat) (ob : Option Obj) (u : Value) (hS : spec.getD k none = some (OwnS R ob u)) (hk : (ops[k]?).bind (·.dst) = some t)
    (h : ∀ w, T w → w.heap[R]? = ob → if Region.wanted o (yielded ops ((putAll ops.toList vals a0).put (some t) u).tmps) then G o ((putAll ops.toList vals a0).put (some t) u) w else N w) :
    ObG ops (known spec vals) a0 T G N o :=
  obg_one hG hF hlen hns ho k hn t (OwnS R ob u) hS hk fun w x hw hx => by
    have e : x = u := hx.1
    rw [e]
    exact h w hw hx.2
section
variable {P : Program} {o : Oper} {a : Act} {w : World} {spec : Spec} {vals : List Value} {i : Nat}
theorem grows_callS (f : FuncId) (args : Array Value) (v : Value) (h : (execOp a.eval o).run P w = .ok (.enter f args) w) (hc : Calls P f args w fun e w' => e = .returned v ∧ Below w.heap.size w w') (S : Value → World → Prop) (hs : spec.getD i none = some S) (hv : ∀ w', Below w.heap.size w w' → S v w') :
    Grows P o a w (known spec vals i) := by
  unfold Grows; rw [h]; exact ⟨Below.refl _ _, hc.mono fun e w' ⟨he, hb⟩ => ⟨v, he, hb, known_new S hs (hv w' hb)⟩⟩
theorem growsM_call {ρ : World → World → Prop} (f : FuncId) (args : Array Value) (v : Value) (h : (execOp a.eval o).run P w = .ok (.enter f args) w) (hc : Calls P f args w fun e w' => e = .returned v ∧ ρ w w') (S : Value → World → Prop) (hs : spec.getD i none = some S) (hv : ∀ w', ρ w w' → S v w') :
    GrowsM P ρ o a w (known spec vals i) := by
  unfold GrowsM; rw [h]; exact ⟨rfl, hc.mono fun e w' ⟨he, hb⟩ => ⟨v, he, hb, known_new S hs (hv w' hb)⟩⟩
end
theorem reach_turned {R : Nat} {ob : Option Obj} {w0 w : World} (h : Below w0.heap.size w0 w ∨ Mid (fun w1 w2 => Turned (fun k => k = R) w1 w2 ∧ w2.heap[R]? = ob) w0 w) : Turned (fun k => k = R) w0 w := by
  rcases h with h | ⟨w1, w2, h1, h2, h3⟩
  · exact Turned.ofBelow h
  · exact ((Turned.ofBelow h1).trans h2.1 fun i hi => .inl hi).trans (Turned.ofBelow (S := fun k => k = R) h3) fun i hi => .inl hi
theorem reach_has {R : Nat} {ob : Option Obj} {w0 w : World} {a : Option Addr} {l : List Nat} (h : Below w0.heap.size w0 w ∨ Mid (fun w1 w2 => Turned (fun k => k = R) w1 w2 ∧ w2.heap[R]? = ob) w0 w) (hl : HasB w0 a l) (ha : ∀ p, a = some p → p.block ≠ R) : HasB w a l :=
  (reach_turned h).has hl ha
theorem rd_obj {w : World} {R : Nat} {a : Option Addr} {l : List Nat} {cap : Nat} {bad : Bool} (h : RdB w R a l cap bad) {k : Nat} (hk : l.length = k) : w.heap[R]? = some (.cells #[.slice a k cap, .bool bad] 111 (0, 0)) := by
  subst hk; exact h.1
theorem rd_of {w w0 : World} {R n : Nat} {a : Option Addr} {l : List Nat} {cap : Nat} {k : Nat} (ho : w.heap[R]? = some (.cells #[.slice (cutAt a cap n) k (cap - n), .bool false] 111 (0, 0))) (hk : (l.drop n).length = k) (hh : HasB w a l) (h0 : RdB w0 R a l cap false) : RdB w R (cutAt a cap n) (l.drop n) (cap - n) false := by
  subst hk
  refine ⟨ho, hh.drop n cap h0.2.2.1, by have := h0.2.2.1; simp; omega, fun p hp => ?_⟩
  obtain ⟨q, hq, e⟩ := cutAt_block hp
  rw [← e]
  exact h0.2.2.2 q hq
theorem op_sub {o : Oper} {F : Act} {w : World} {x y : Operand} (a b : Nat) (ho : o.op = .binOp .sub 3 x y 3) (hx : F.eval x = .int .i64 a) (hy : F.eval y = .int .i64 b) (h : b ≤ a) (ha : a ≤ 1000000) :
    (execOp F.eval o).run Try.prog w = .ok (.value (.int .i64 (a - b : Nat))) w := by
  unfold execOp
  simp only [ho, hx, hy]
  have e : wrap64 ((a : Int) - (b : Int)) = ((a - b : Nat) : Int) := by unfold wrap64; omega
  simp [go_sem]
  rw [IntKind.wrap_i64]
  omega
theorem rdBytes_rho (R n : Nat) (w : World) (a : Option Addr) (l : List Nat) (cap : Nat) (OB : Obj) (hOB : OB = .cells #[.slice (cutAt a cap n) (l.length - n) (cap - n), .bool false] 111 (0, 0)) (hr : RdB w R a l cap false) (hn : n ≤ l.length) (hl : l.length ≤ 1000000) :
    Calls Try.prog 52 #[.pointer (some ⟨R, 0, none⟩), .int .i64 n] w fun e w' => e = .returned (.slice a n n) ∧ (Turned (fun k => k = R) w w' ∧ w'.heap[R]? = some OB) :=
  (rdBytes_good R n w a l cap hr hn hl).mono fun e w' h => ⟨h.1, h.2.2, by rw [hOB]; exact rd_obj h.2.1 (by simp)⟩
theorem storeN {w : World} {B : Nat} {av : Option Addr} {cv n : Nat} {l : List Nat} (h : OwnB w B (.slice av n cv) l) (hl : l.length = n) (hne : 0 < n) :
    ∃ g, av = some ⟨g, 0, none⟩ ∧ B ≤ g ∧ g < w.heap.size ∧ (∀ i, i < n → w.cell? ⟨g, i, none⟩ = some (.int .u8 (nth l i))) ∧ (∀ i, w.frozen? ⟨g, i, none⟩ = false) ∧
      ∀ i x, x < 256 → OwnB (w.setCell ⟨g, i, none⟩ (.int .u8 (x : Nat))) B (.slice av n cv) (l.set i x) := by
  subst hl; exact OwnB.store h hne
set_option maxRecDepth 100000 in
set_option maxHeartbeats 800000 in
theorem own_walk (ab : Option Addr) (l : List Nat) (cb n : Nat) (h0 : 0 < l.length) (hl : l.length ≤ 200) (hnl : n ≤ l.length) (hcb : l.length ≤ cb) (w : World) (hB0 : HasB w ab l) :
    Calls Try.prog 13 #[.slice ab l.length cb, .int .i64 n] w fun e w' => e = .returned (.bool true) ∧ Below w.heap.size w w' := by
  have t0 : ((l.length : Int) == 0) = false := by rw [beq_eq_false_iff_ne]; omega
  have t1 : decide ((200 : Int) < (l.length : Int)) = false := by simp; omega
  have t2 : decide ((n : Int) < 0) = false := by simp
  have t3 : decide (l.length < n) = false := by simp; omega
  have HB0 := hid hB0
  have hW := Below.refl w.heap.size w
  have habl : ∀ p, ab = some p → p.block < w.heap.size := fun p hp => by
    obtain ⟨bb, off, hab, hcc⟩ := hB0.cell h0
    rw [hab] at hp
    obtain rfl := Option.some.inj hp
    exact block_lt_of_cell (w := w) (a := ⟨bb, off + 0, none⟩) (hcc 0 h0)
  have HAB := hid habl
  clear hB0 habl
  go_enter Try.func13, Try.ntmps13
  go_upto_region 9 with (first | (go_at_call 43; refine (anchor2_calls _).mono ?_; rintro e w1 ⟨rfl, hb1⟩; have hW := below_next hW hb1) | ((with_reducible show wpList _ _ _ (⟨some 36, _, _, _, _, _⟩ :: _) _ _); refine wpList_empty 36 rfl rfl rfl ?_; intro W36 v36 ho36 hb36; have ho36' := ho36.weak hW.size; have hW := below_next hW hb36) | ((with_reducible show wpList _ _ _ (⟨some 38, _, _, _, _, _⟩ :: _) _ _); refine wpList_append_at 38 rfl rfl _ _ rfl w.heap.size _ [] l l rfl (by rfl) ho36' ab cb (by rfl) (HB0.out.below hW) (by omega) hW.size ?_; intro ai ci W5 ho5 hci hh5 hb5; have hW := hW.trans hb5) | (go_at_call 49; refine (rnew_calls ai l ci _ hh5 (by omega)).mono ?_; rintro e W6 ⟨⟨R, ar, cr, rfl, hrd, hR1, hR2, hR3⟩, hb6⟩; have hW := below_next hW hb6; have ho6 := ho5.mono hb6; have hh6 := hh5.below hb6) | ((with_reducible show wpList _ _ _ (⟨some 7, _, _, _, _, _⟩ :: _) _ _); refine wpList_zeroed 7 rfl rfl 63 rfl _ zero63 ?_; intro W7 N7 hN7 hM7 hr7 hb7; have hW := below_next hW hb7; have ho7 := ho6.mono hb7; have hh7 := hh6.below hb7; have hrd7 := hrd.grow hb7; have hp7 := penB_zero hr7) | (go_at_call 50; refine (penBytes_calls N7 ai l ci _ _ [] l rfl false hp7 hh7 (by omega)).mono ?_; rintro e W8 ⟨rfl, hs8⟩))
  obtain ⟨g, rfl, hg1, hg2, _⟩ := storeN ho5 rfl h0
  obtain ⟨v8, hp8, ht8, hl8⟩ := hs8
  have sz6 := hb6.size
  have sz7 := hb7.size
  have sz8 := ht8.size
  have ho8 := ht8.own ho7 (fun k hk hS => by simp only [Value.ownBlock, Option.some.injEq] at hk; subst hk; rcases hS with h | h; omega; simp [Value.ownBlock] at h)
  have hrd8 := hrd7.turned ht8 (fun hS => by rcases hS with h | h; omega; simp [Value.ownBlock] at h) (fun p hp hS => by have := (hR3 p hp).2; rcases hS with h | h; omega; simp [Value.ownBlock] at h)
  have hW8 := below_turned hW ht8 (nil_low N7 _ (by omega))
  have hv8 : ∀ k, v8.ownBlock = some k → W7.heap.size ≤ k ∧ k < W8.heap.size := fun k hk => ⟨by rcases hl8 k hk with h | h; simp [Value.ownBlock] at h; exact h, hp8.lt k (.inr hk)⟩
  have HV8 := hid hv8
  have HR3 := hid hR3
  have HW8 := hid hW8
  clear hv8 hR3 hW8 hl8 ht8 hrd7 hp7 hh7 ho7 hb7 hr7 hh6 ho6 hb6 hh5 ho5 hb5 ho36 ho36' hb36 hb1 t0 t1 t2 t3 hW
  go_wp2
  go_loopw [8, 45] (fun _ i wr => ∃ (k : Nat) (l' : List Nat), k ≤ l.length ∧ i = .int .i64 k ∧ Hid (l'.length = l.length) ∧ Hid (OwnB wr w.heap.size (.slice (some ⟨g, 0, none⟩) l.length ci) l') ∧ Hid (Turned (fun j => j = g) W8 wr)) (fun _ i _ => l.length - (intOf i).toNat)
  case atStart => exact ⟨0, l, Nat.zero_le _, rfl, rfl, ho8, Turned.refl _ _⟩
  case round =>
    obtain ⟨k, l', hk, rfl, HL', HO', HT'⟩ := hrel
    by_cases hlt : k < l.length
    · obtain ⟨g', hgg, _, _, hcells, hfree, hset⟩ := storeN HO'.out HL'.out h0
      obtain rfl : g = g' := by simpa using hgg
      have hcell := hcells k hlt
      have hfr := hfree k
      have hcb := nth_lt l' HO'.out.2 k
      obtain ⟨X, hX⟩ : ∃ X : Nat, ((nth l' k : Int) + 1) % 256 = X := ⟨(nth l' k + 1) % 256, by omega⟩
      have hXl : X < 256 := by omega
      have HO2 := hid (hset k X hXl)
      clear hset hcells hfree hgg
      go_wp2
      go_roundw
      case rel => exact ⟨k + 1, l'.set k X, by omega, by go_num, (by show _ = _; rw [List.length_set]; exact HL'.out), HO2, HT'.out.setCell (p := ⟨g, k, none⟩) (.inl rfl) _⟩
      case measure => simp [intOf]; omega
    · have sz9 := HT'.out.size
      have hp9 := hp8.turned HT'.out (fun k hk e => by subst e; rcases hk with h | h; omega; have := (HV8.out _ h).1; omega)
      have hrd9 := hrd8.turned HT'.out (fun e => by omega) (fun p hp e => by have := (HR3.out p hp).1; omega)
      have hW9 := below_turned HW8.out HT'.out (fun k hk => by subst hk; exact hg1)
      clear HO' HL' ho8 hrd8 hp8
      go_upto_region 15 with (first | (go_at_call 51; refine (penOut_good N7 _ v8 l hp9 (by omega)).mono ?_; rintro e W11 ⟨⟨a1, c1, rfl, ho1, _, hh1⟩, hb1⟩))
      go_upto_region 16 with (first | (go_at_call 51; refine (penOut_good N7 _ v8 l (hp9.grow hb1) (by omega)).mono ?_; rintro e W12 ⟨⟨a2, c2, rfl, ho2, _, hh2⟩, hb2⟩))
      obtain ⟨g2, rfl, hg21, hg22, _⟩ := storeN ho2 rfl h0
      have sz11 := hb1.size
      have sz12 := hb2.size
      have hp12 := (hp9.grow hb1).grow hb2
      have hrd12 := (hrd9.grow hb1).grow hb2
      have h1 := hh1.below hb2
      have hW12 := below_next (below_next hW9 hb1) hb2
      have hn1 : ∀ p, a1 = some p → p.block < W11.heap.size ∧ wr.heap.size ≤ p.block := fun p hp => by have := ho1.ownLt p.block (by subst hp; rfl); exact ⟨this.2, this.1⟩
      have HN1 := hid hn1
      have HW12 := hid hW12
      clear hn1 hW12 hh1 hh2 hp9 hrd9 hW9 hb1 hb2 ho1
      go_wp2
      go_loopw [13, 65] (fun _ i wq => ∃ (k : Nat) (l' : List Nat), k ≤ l.length ∧ i = .int .i64 k ∧ Hid (l'.length = l.length) ∧ Hid (OwnB wq W11.heap.size (.slice (some ⟨g2, 0, none⟩) l.length c2) l') ∧ Hid (Turned (fun j => j = g2) W12 wq)) (fun _ i _ => l.length - (intOf i).toNat)
      case atStart => exact ⟨0, l, Nat.zero_le _, rfl, rfl, ho2, Turned.refl _ _⟩
      case round =>
        obtain ⟨k, l', hk, rfl, HL', HO', HT'⟩ := hrel
        by_cases hlt : k < l.length
        · obtain ⟨g', hgg, _, _, hcells, hfree, hset⟩ := storeN HO'.out HL'.out h0
          obtain rfl : g2 = g' := by simpa using hgg
          have hcell := hcells k hlt
          have hfr := hfree k
          have hcb := nth_lt l' HO'.out.2 k
          obtain ⟨X, hX⟩ : ∃ X : Nat, ((nth l' k : Int) + 1) % 256 = X := ⟨(nth l' k + 1) % 256, by omega⟩
          have hXl : X < 256 := by omega
          have HO2 := hid (hset k X hXl)
          clear hset hcells hfree hgg
          go_wp2
          go_roundw
          case rel => exact ⟨k + 1, l'.set k X, by omega, by go_num, (by show _ = _; rw [List.length_set]; exact HL'.out), HO2, HT'.out.setCell (p := ⟨g2, k, none⟩) (.inl rfl) _⟩
          case measure => simp [intOf]; omega
        · have hp13 := hp12.turned HT'.out (fun k hk e => by subst e; rcases hk with h | h; omega; have := (HV8.out _ h).2; omega)
          have hrd13 := hrd12.turned HT'.out (fun e => by omega) (fun p hp e => by have := (HR3.out p hp).2; omega)
          have hW13 := below_turned HW12.out HT'.out (fun k hk => by subst hk; have := HW12.out.size; omega)
          have hh13 := HT'.out.has h1 (fun p hp e => by have := (HN1.out p hp).1; omega)
          have sz13 := HT'.out.size
          clear HO' HL' hp12 hrd12 h1 ho2
          go_upto_region 22 with (first | (go_at_call 51; refine (penOut_good N7 _ v8 l hp13 (by omega)).mono ?_; rintro e W14 ⟨⟨a3, c3, rfl, ho3, _, h3⟩, hb3⟩))
          have h1 := hh13.below hb3
          have hrd := hrd13.grow hb3
          have hWX := below_next hW13 hb3
          have hB := HB0.out.below hWX
          have hn1 : ∀ p, a1 = some p → p.block ≠ R := fun p hp e => by have := (HN1.out p hp).2; omega
          have hn3 : ∀ p, a3 = some p → p.block ≠ R := fun p hp e => by have := (ho3.ownLt p.block (by subst hp; rfl)).1; omega
          have hnb : ∀ p, ab = some p → p.block ≠ R := fun p hp e => by have := HAB.out p hp; omega
          have htk : (l.take n).length = n := by simp; omega
          have hdl : (l.drop n).length = l.length - n := by simp
          have hRw : w.heap.size ≤ R := by omega
          have HD := hid h0
          obtain ⟨OB, hOB⟩ : ∃ OB : Obj, OB = .cells #[.slice (cutAt ar cr n) (l.length - n) (cr - n), .bool false] 111 (0, 0) := ⟨_, rfl⟩
          clear ho3 hb3 hW13 hrd13 hp13 hh13 HT' HW12 HN1 HR3 HV8 HW8 sz6 sz7 sz8 sz9 sz11 sz12 sz13 hg21 hg22 hg1 hg2 hN7 hM7 hR1 hR2 h0
          refine wp_region_mut (fun w1 w2 => Turned (fun k => k = R) w1 w2 ∧ w2.heap[R]? = some OB) 23 (by decide) (spec := [none, none, none, none, none, none, none, none, none, none, none, none, none, none, none, none, none, none, none, none, none, none, none, some (OwnS R (some OB) (.slice ar n n)), none, none, none, some (OwnS R (some OB) (.bool true)), some (OwnS R (some OB) (.bool true)), some (OwnS R (some OB) (.bool true)), none, none, none, none, none, none, none, none, none]) (vals := [.int .i64 0, .bool true, .bool true, .int .i64 0, .bool true, .bool true, .bool true, .int .i64 0, .bool true, .bool true, .bool true, .slice a1 l.length c1, .slice ab l.length cb, .bool true, .bool true, .bool true, .slice a3 l.length c3, .slice ab l.length cb, .bool true, .bool true, .bool true, .pointer (some ⟨R, 0, none⟩), .int .i64 n, undef, .slice ab l.length cb, .int .i64 n, .slice ab n cb, undef, undef, undef, .pointer (some ⟨R, 0, none⟩), .int .i64 (l.length - n : Nat), .slice ab l.length cb, .int .i64 l.length, .int .i64 n, .int .i64 (l.length - n : Nat), .bool true, .bool true, .bool true]) (by kernel_rfl) (by kernel_rfl) (by kernel_rfl) (by kernel_rfl) ?hst ?hstM (fun hF => ?hobl) ?hQ
          case hst => exact ⟨ownS_stable R OB _, ownS_stable R OB _, ownS_stable R OB _, ownS_stable R OB _, trivial⟩
          case hstM => exact ⟨fun v w w' h hr => ⟨h.1, hr.2⟩, fun v w w' h hr => ⟨h.1, hr.2⟩, fun v w w' h hr => ⟨h.1, hr.2⟩, fun v w w' h hr => ⟨h.1, hr.2⟩, trivial⟩
          case hobl =>
            refine ⟨?_, ?_, ?_, ?_, ?_, ?_, ?_, ?_, ?_, ?_, ?_, ?_, ?_, ?_, ?_, ?_, ?_, ?_, ?_, ?_, ?_, ?_, ?_, ?_, ?_, ?_, ?_, ?_, ?_, ?_, ?_, ?_, ?_, ?_, ?_, ?_, ?_, ?_, ?_, trivial⟩
            · refine fun ho => ?_; rw [if_neg (by decide)]; refine obg_det (runs_grows _ _) hF (by kernel_rfl) (by kernel_rfl) ho (by kernel_rfl) (fun wx hbx => ?_); rw [if_pos (by kernel_rfl)]; show Grows _ _ _ _ _; with_reducible exact grows_det (.int .i64 0) (by kernel_rfl) (by kernel_rfl) (by kernel_rfl)
            · refine fun ho => ?_; rw [if_neg (by decide)]; refine obg_det (runs_grows _ _) hF (by kernel_rfl) (by kernel_rfl) ho (by kernel_rfl) (fun wx hbx => ?_); rw [if_pos (by kernel_rfl)]; show Grows _ _ _ _ _; with_reducible exact grows_det (.bool true) (by kernel_rfl) (by kernel_rfl) (by kernel_rfl)
            · refine fun ho => ?_; rw [if_neg (by decide)]; refine obg_det (runs_grows _ _) hF (by kernel_rfl) (by kernel_rfl) ho (by kernel_rfl) (fun wx hbx => ?_); rw [if_pos (by kernel_rfl)]; show Grows _ _ _ _ _; with_reducible exact grows_det (.bool true) (by kernel_rfl) (by kernel_rfl) (by kernel_rfl)
            · refine fun ho => ?_; rw [if_neg (by decide)]; refine obg_det (runs_grows _ _) hF (by kernel_rfl) (by kernel_rfl) ho (by kernel_rfl) (fun wx hbx => ?_); rw [if_pos (by kernel_rfl)]; show Grows _ _ _ _ _; with_reducible exact grows_det (.int .i64 0) (by kernel_rfl) (by kernel_rfl) (by kernel_rfl)
            · refine fun ho => ?_; rw [if_neg (by decide)]; refine obg_det (runs_grows _ _) hF (by kernel_rfl) (by kernel_rfl) ho (by kernel_rfl) (fun wx hbx => ?_); rw [if_pos (by kernel_rfl)]; show Grows _ _ _ _ _; with_reducible exact grows_det (.bool true) (by kernel_rfl) (by kernel_rfl) (by kernel_rfl)
            · refine fun ho => ?_; rw [if_neg (by decide)]; refine obg_det (runs_grows _ _) hF (by kernel_rfl) (by kernel_rfl) ho (by kernel_rfl) (fun wx hbx => ?_); rw [if_pos (by kernel_rfl)]; show Grows _ _ _ _ _; with_reducible exact grows_det (.bool true) (by kernel_rfl) (by kernel_rfl) (by kernel_rfl)
            · refine fun ho => ?_; rw [if_neg (by decide)]; refine obg_det (runs_grows _ _) hF (by kernel_rfl) (by kernel_rfl) ho (by kernel_rfl) (fun wx hbx => ?_); rw [if_pos (by kernel_rfl)]; show Grows _ _ _ _ _; with_reducible exact grows_det (.bool true) (by kernel_rfl) (by kernel_rfl) (by kernel_rfl)
            · refine fun ho => ?_; rw [if_neg (by decide)]; refine obg_det (runs_grows _ _) hF (by kernel_rfl) (by kernel_rfl) ho (by kernel_rfl) (fun wx hbx => ?_); rw [if_pos (by kernel_rfl)]; show Grows _ _ _ _ _; with_reducible exact grows_det (.int .i64 0) (by kernel_rfl) (by kernel_rfl) (by kernel_rfl)
            · refine fun ho => ?_; rw [if_neg (by decide)]; refine obg_det (runs_grows _ _) hF (by kernel_rfl) (by kernel_rfl) ho (by kernel_rfl) (fun wx hbx => ?_); rw [if_pos (by kernel_rfl)]; show Grows _ _ _ _ _; with_reducible exact grows_det (.bool true) (by kernel_rfl) (by kernel_rfl) (by kernel_rfl)
            · refine fun ho => ?_; rw [if_neg (by decide)]; refine obg_det (runs_grows _ _) hF (by kernel_rfl) (by kernel_rfl) ho (by kernel_rfl) (fun wx hbx => ?_); rw [if_pos (by kernel_rfl)]; show Grows _ _ _ _ _; with_reducible exact grows_det (.bool true) (by kernel_rfl) (by kernel_rfl) (by kernel_rfl)
            · refine fun ho => ?_; rw [if_neg (by decide)]; refine obg_det (runs_grows _ _) hF (by kernel_rfl) (by kernel_rfl) ho (by kernel_rfl) (fun wx hbx => ?_); rw [if_pos (by kernel_rfl)]; show Grows _ _ _ _ _; with_reducible exact grows_det (.bool true) (by kernel_rfl) (by kernel_rfl) (by kernel_rfl)
            · refine fun ho => ?_; rw [if_neg (by decide)]; refine obg_det (runs_grows _ _) hF (by kernel_rfl) (by kernel_rfl) ho (by kernel_rfl) (fun wx hbx => ?_); rw [if_pos (by kernel_rfl)]; show Grows _ _ _ _ _; with_reducible exact grows_det (.slice a1 l.length c1) (by kernel_rfl) (by kernel_rfl) (by kernel_rfl)
            · refine fun ho => ?_; rw [if_neg (by decide)]; refine obg_det (runs_grows _ _) hF (by kernel_rfl) (by kernel_rfl) ho (by kernel_rfl) (fun wx hbx => ?_); rw [if_pos (by kernel_rfl)]; show Grows _ _ _ _ _; with_reducible exact grows_det (.slice ab l.length cb) (by kernel_rfl) (by kernel_rfl) (by kernel_rfl)
            · refine fun ho => ?_; rw [if_neg (by decide)]; refine obg_det (runs_grows _ _) hF (by kernel_rfl) (by kernel_rfl) ho (by kernel_rfl) (fun wx hbx => ?_); rw [if_pos (by kernel_rfl)]; show Grows _ _ _ _ _; have hcc := same_self a1 l c1 ab cb wx (reach_has hbx h1 hn1) (reach_has hbx hB hnb) (by omega); with_reducible exact grows_call 48 #[.slice a1 l.length c1, .slice ab l.length cb] (.bool true) (by kernel_rfl) hcc (by kernel_rfl) (by kernel_rfl)
            · refine fun ho => ?_; rw [if_neg (by decide)]; refine obg_det (runs_grows _ _) hF (by kernel_rfl) (by kernel_rfl) ho (by kernel_rfl) (fun wx hbx => ?_); rw [if_pos (by kernel_rfl)]; show Grows _ _ _ _ _; with_reducible exact grows_det (.bool true) (by kernel_rfl) (by kernel_rfl) (by kernel_rfl)
            · refine fun ho => ?_; rw [if_neg (by decide)]; refine obg_det (runs_grows _ _) hF (by kernel_rfl) (by kernel_rfl) ho (by kernel_rfl) (fun wx hbx => ?_); rw [if_pos (by kernel_rfl)]; show Grows _ _ _ _ _; with_reducible exact grows_det (.bool true) (by kernel_rfl) (by kernel_rfl) (by kernel_rfl)
            · refine fun ho => ?_; rw [if_neg (by decide)]; refine obg_det (runs_grows _ _) hF (by kernel_rfl) (by kernel_rfl) ho (by kernel_rfl) (fun wx hbx => ?_); rw [if_pos (by kernel_rfl)]; show Grows _ _ _ _ _; with_reducible exact grows_det (.slice a3 l.length c3) (by kernel_rfl) (by kernel_rfl) (by kernel_rfl)
            · refine fun ho => ?_; rw [if_neg (by decide)]; refine obg_det (runs_grows _ _) hF (by kernel_rfl) (by kernel_rfl) ho (by kernel_rfl) (fun wx hbx => ?_); rw [if_pos (by kernel_rfl)]; show Grows _ _ _ _ _; with_reducible exact grows_det (.slice ab l.length cb) (by kernel_rfl) (by kernel_rfl) (by kernel_rfl)
            · refine fun ho => ?_; rw [if_neg (by decide)]; refine obg_det (runs_grows _ _) hF (by kernel_rfl) (by kernel_rfl) ho (by kernel_rfl) (fun wx hbx => ?_); rw [if_pos (by kernel_rfl)]; show Grows _ _ _ _ _; have hcc := same_self a3 l c3 ab cb wx (reach_has hbx h3 hn3) (reach_has hbx hB hnb) (by omega); with_reducible exact grows_call 48 #[.slice a3 l.length c3, .slice ab l.length cb] (.bool true) (by kernel_rfl) hcc (by kernel_rfl) (by kernel_rfl)
            · refine fun ho => ?_; rw [if_neg (by decide)]; refine obg_det (runs_grows _ _) hF (by kernel_rfl) (by kernel_rfl) ho (by kernel_rfl) (fun wx hbx => ?_); rw [if_pos (by kernel_rfl)]; show Grows _ _ _ _ _; with_reducible exact grows_det (.bool true) (by kernel_rfl) (by kernel_rfl) (by kernel_rfl)
            · refine fun ho => ?_; rw [if_neg (by decide)]; refine obg_det (runs_grows _ _) hF (by kernel_rfl) (by kernel_rfl) ho (by kernel_rfl) (fun wx hbx => ?_); rw [if_pos (by kernel_rfl)]; show Grows _ _ _ _ _; with_reducible exact grows_det (.bool true) (by kernel_rfl) (by kernel_rfl) (by kernel_rfl)
            · refine fun ho => ?_; rw [if_neg (by decide)]; refine obg_det (runs_grows _ _) hF (by kernel_rfl) (by kernel_rfl) ho (by kernel_rfl) (fun wx hbx => ?_); rw [if_pos (by kernel_rfl)]; show Grows _ _ _ _ _; with_reducible exact grows_det (.pointer (some ⟨R, 0, none⟩)) (by kernel_rfl) (by kernel_rfl) (by kernel_rfl)
            · refine fun ho => ?_; rw [if_neg (by decide)]; refine obg_det (runs_grows _ _) hF (by kernel_rfl) (by kernel_rfl) ho (by kernel_rfl) (fun wx hbx => ?_); rw [if_pos (by kernel_rfl)]; show Grows _ _ _ _ _; with_reducible exact grows_det (.int .i64 n) (by kernel_rfl) (by kernel_rfl) (by kernel_rfl)
            · refine fun ho => ?_; rw [if_pos (by decide)]; refine obg_det (runs_growsM _ _ _) hF (by kernel_rfl) (by kernel_rfl) ho (by kernel_rfl) (fun wx hbx => ?_); rw [if_pos (by kernel_rfl)]; show GrowsM _ _ _ _ _ _; have hcc := rdBytes_rho R n wx ar l cr OB hOB (hrd.grow hbx) hnl (by omega); with_reducible exact growsM_call 52 #[.pointer (some ⟨R, 0, none⟩), .int .i64 n] (.slice ar n n) (by kernel_rfl) hcc (OwnS R (some OB) (.slice ar n n)) (by kernel_rfl) (fun w' hw' => ownS_mk hw'.2)
            · refine fun ho => ?_; rw [if_neg (by decide)]; refine obg_det (runs_grows _ _) hF (by kernel_rfl) (by kernel_rfl) ho (by kernel_rfl) (fun wx hbx => ?_); rw [if_pos (by kernel_rfl)]; show Grows _ _ _ _ _; with_reducible exact grows_det (.slice ab l.length cb) (by kernel_rfl) (by kernel_rfl) (by kernel_rfl)
            · refine fun ho => ?_; rw [if_neg (by decide)]; refine obg_det (runs_grows _ _) hF (by kernel_rfl) (by kernel_rfl) ho (by kernel_rfl) (fun wx hbx => ?_); rw [if_pos (by kernel_rfl)]; show Grows _ _ _ _ _; with_reducible exact grows_det (.int .i64 n) (by kernel_rfl) (by kernel_rfl) (by kernel_rfl)
            · refine fun ho => ?_; rw [if_neg (by decide)]; refine obg_det (runs_grows _ _) hF (by kernel_rfl) (by kernel_rfl) ho (by kernel_rfl) (fun wx hbx => ?_); rw [if_pos (by kernel_rfl)]; show Grows _ _ _ _ _; with_reducible exact grows_det (.slice ab n cb) (op_slice_to (x := .tmp 103) (y := .tmp 104) ab l.length cb n (by kernel_rfl) (by kernel_rfl) (by kernel_rfl) (Nat.le_trans hnl hcb)) (by kernel_rfl) (by kernel_rfl)
            · refine fun ho => ?_; rw [if_neg (by decide)]; refine obg_own (runs_grows _ _) hF (by kernel_rfl) (by kernel_rfl) ho 23 (by kernel_rfl) 102 R (some OB) (.slice ar n n) (by kernel_rfl) (by kernel_rfl) (fun wx hbx hob => ?_); rw [if_pos (by kernel_rfl)]; show Grows _ _ _ _ _; have hcc := same_selfN n ar (l.take n) htk n ab cb wx ((reach_has hbx hrd.2.1 hrd.2.2.2).take n) ((reach_has hbx hB hnb).take n) (by omega); with_reducible exact grows_callS 48 #[.slice ar n n, .slice ab n cb] (.bool true) (by kernel_rfl) hcc (OwnS R (some OB) (.bool true)) (by kernel_rfl) (fun w' hb' => ownS_mk (below_blk hb' hob))
            · refine fun ho => ?_; rw [if_neg (by decide)]; refine obg_own (runs_grows _ _) hF (by kernel_rfl) (by kernel_rfl) ho 27 (by kernel_rfl) 106 R (some OB) (.bool true) (by kernel_rfl) (by kernel_rfl) (fun wx hbx hob => ?_); rw [if_pos (by kernel_rfl)]; show Grows _ _ _ _ _; with_reducible exact grows_new (.bool true) wx (by kernel_rfl) (Below.refl _ _) (OwnS R (some OB) (.bool true)) (by kernel_rfl) (ownS_mk hob)
            · refine fun ho => ?_; rw [if_neg (by decide)]; refine obg_own (runs_grows _ _) hF (by kernel_rfl) (by kernel_rfl) ho 28 (by kernel_rfl) 107 R (some OB) (.bool true) (by kernel_rfl) (by kernel_rfl) (fun wx hbx hob => ?_); rw [if_pos (by kernel_rfl)]; show Grows _ _ _ _ _; with_reducible exact grows_new (.bool true) wx (by kernel_rfl) (Below.refl _ _) (OwnS R (some OB) (.bool true)) (by kernel_rfl) (ownS_mk hob)
            · refine fun ho => ?_; rw [if_neg (by decide)]; refine obg_own (runs_grows _ _) hF (by kernel_rfl) (by kernel_rfl) ho 29 (by kernel_rfl) 108 R (some OB) (.bool true) (by kernel_rfl) (by kernel_rfl) (fun wx hbx hob => ?_); rw [if_pos (by kernel_rfl)]; show Grows _ _ _ _ _; with_reducible exact grows_det (.pointer (some ⟨R, 0, none⟩)) (by kernel_rfl) (by kernel_rfl) (by kernel_rfl)
            · refine fun ho => ?_; rw [if_neg (by decide)]; refine obg_own (runs_grows _ _) hF (by kernel_rfl) (by kernel_rfl) ho 29 (by kernel_rfl) 108 R (some OB) (.bool true) (by kernel_rfl) (by kernel_rfl) (fun wx hbx hob => ?_); rw [if_pos (by kernel_rfl)]; show Grows _ _ _ _ _; have hcc := rest_calls R wx (cutAt ar cr n) (l.drop n) (cr - n) false (rd_of (by rw [← hOB]; exact hob) hdl (reach_has hbx hrd.2.1 hrd.2.2.2) hrd); rw [hdl] at hcc; with_reducible exact grows_call 53 #[.pointer (some ⟨R, 0, none⟩)] (.int .i64 (l.length - n : Nat)) (by kernel_rfl) hcc (by kernel_rfl) (by kernel_rfl)
            · refine fun ho => ?_; rw [if_neg (by decide)]; refine obg_own (runs_grows _ _) hF (by kernel_rfl) (by kernel_rfl) ho 29 (by kernel_rfl) 108 R (some OB) (.bool true) (by kernel_rfl) (by kernel_rfl) (fun wx hbx hob => ?_); rw [if_pos (by kernel_rfl)]; show Grows _ _ _ _ _; with_reducible exact grows_det (.slice ab l.length cb) (by kernel_rfl) (by kernel_rfl) (by kernel_rfl)
            · refine fun ho => ?_; rw [if_neg (by decide)]; refine obg_own (runs_grows _ _) hF (by kernel_rfl) (by kernel_rfl) ho 29 (by kernel_rfl) 108 R (some OB) (.bool true) (by kernel_rfl) (by kernel_rfl) (fun wx hbx hob => ?_); rw [if_pos (by kernel_rfl)]; show Grows _ _ _ _ _; with_reducible exact grows_det (.int .i64 l.length) (by kernel_rfl) (by kernel_rfl) (by kernel_rfl)
            · refine fun ho => ?_; rw [if_neg (by decide)]; refine obg_own (runs_grows _ _) hF (by kernel_rfl) (by kernel_rfl) ho 29 (by kernel_rfl) 108 R (some OB) (.bool true) (by kernel_rfl) (by kernel_rfl) (fun wx hbx hob => ?_); rw [if_pos (by kernel_rfl)]; show Grows _ _ _ _ _; with_reducible exact grows_det (.int .i64 n) (by kernel_rfl) (by kernel_rfl) (by kernel_rfl)
            · refine fun ho => ?_; rw [if_neg (by decide)]; refine obg_own (runs_grows _ _) hF (by kernel_rfl) (by kernel_rfl) ho 29 (by kernel_rfl) 108 R (some OB) (.bool true) (by kernel_rfl) (by kernel_rfl) (fun wx hbx hob => ?_); rw [if_pos (by kernel_rfl)]; show Grows _ _ _ _ _; with_reducible exact grows_det (.int .i64 (l.length - n : Nat)) (op_sub (x := .tmp 112) (y := .tmp 113) l.length n (by kernel_rfl) (by kernel_rfl) (by kernel_rfl) hnl (by omega)) (by kernel_rfl) (by kernel_rfl)
            · refine fun ho => ?_; rw [if_neg (by decide)]; refine obg_own (runs_grows _ _) hF (by kernel_rfl) (by kernel_rfl) ho 29 (by kernel_rfl) 108 R (some OB) (.bool true) (by kernel_rfl) (by kernel_rfl) (fun wx hbx hob => ?_); rw [if_pos (by kernel_rfl)]; show Grows _ _ _ _ _; have hq : Value.bool (((l.length - n : Nat) : Int) == ((l.length - n : Nat) : Int)) = Value.bool true := (by simp); with_reducible exact grows_det (.bool (((l.length - n : Nat) : Int) == ((l.length - n : Nat) : Int))) (by kernel_rfl) (by kernel_rfl) (hq.trans (by kernel_rfl))
            · refine fun ho => ?_; rw [if_neg (by decide)]; refine obg_own (runs_grows _ _) hF (by kernel_rfl) (by kernel_rfl) ho 29 (by kernel_rfl) 108 R (some OB) (.bool true) (by kernel_rfl) (by kernel_rfl) (fun wx hbx hob => ?_); rw [if_pos (by kernel_rfl)]; show Grows _ _ _ _ _; with_reducible exact grows_det (.bool true) (by kernel_rfl) (by kernel_rfl) (by kernel_rfl)
            · refine fun ho => ?_; rw [if_neg (by decide)]; refine obg_det (runs_grows _ _) hF (by kernel_rfl) (by kernel_rfl) ho (by kernel_rfl) (fun wx hbx => ?_); rw [if_pos (by kernel_rfl)]; show Grows _ _ _ _ _; with_reducible exact grows_det (.bool true) (by kernel_rfl) (by kernel_rfl) (by kernel_rfl)
          case hQ =>
            intro wy hby
            have ht := reach_turned (.inr hby)
            simp only [each]
            intro x1 _ x2 _ x3 _ x4 _
            generalize hF : putAll _ _ _ = F
            have hd : F.defers = [] := by rw [← hF]; kernel_rfl
            have h8 : F.tmps.getD 4 undef = .bool true := by rw [← hF]; kernel_rfl
            clear hF
            go_step
            go_step
            go_step
            exact ret_of 4 rfl hd _ h8 ⟨rfl, below_turned hWX ht (fun k hk => by subst hk; exact hRw)⟩
end Go.Proofs.Ytncooadaeifekaa
