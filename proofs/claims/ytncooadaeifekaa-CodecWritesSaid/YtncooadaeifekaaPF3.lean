/- Lemmas, contracts and walks, merged (texts K14 F3 F4 M4 M5 F5 K15 C23 C25 C26 C14 C15 C27). No condition but what each states. -/
import Derived.Test.YtncooadaeifekaaPF2
/- Helpers for the walks: what single operations of a drawn statement yield; a new variable in it. No condition but what each states. -/
namespace Go.Proofs.Ytncooadaeifekaa
open Go.RowKit
theorem op_neq_i {o : Oper} {F : Act} {w : World} {t u : TypeId} (x y : Operand) (ho : o.op = .binOp .neq t x y u) (k : IntKind) (a b : Int) (hx : F.eval x = .int k a) (hy : F.eval y = .int k b) (r : Bool) (h : (a != b) = r) :
    (execOp F.eval o).run Try.prog w = .ok (.value (.bool r)) w := by
  subst h
  unfold execOp
  simp only [ho, hx, hy]
  simp [go_sem, eqGuard, bne]
theorem op_eql_i {o : Oper} {F : Act} {w : World} {t u : TypeId} (x y : Operand) (ho : o.op = .binOp .eql t x y u) (k : IntKind) (a b : Int) (hx : F.eval x = .int k a) (hy : F.eval y = .int k b) (r : Bool) (h : (a == b) = r) :
    (execOp F.eval o).run Try.prog w = .ok (.value (.bool r)) w := by
  subst h
  unfold execOp
  simp only [ho, hx, hy]
  simp [go_sem, eqGuard]
theorem op_conv_u32 {o : Oper} {F : Act} {w : World} (x : Operand) (ho : o.op = .convert 23 3 x) (C : Nat) (hx : F.eval x = .int .u32 C) (hC : C < 4294967296) :
    (execOp F.eval o).run Try.prog w = .ok (.value (.int .i64 C)) w := by
  unfold execOp
  simp only [ho, hx]
  simp [go_sem]
  rw [IntKind.wrap_i64]; omega
theorem op_conv_u8 {o : Oper} {F : Act} {w : World} (x : Operand) (ho : o.op = .convert 5 3 x) (C : Nat) (hx : F.eval x = .int .u8 C) (hC : C < 256) :
    (execOp F.eval o).run Try.prog w = .ok (.value (.int .i64 C)) w := by
  unfold execOp
  simp only [ho, hx]
  simp [go_sem]
  rw [IntKind.wrap_i64]; omega
theorem op_load_u8 {o : Oper} {F : Act} {w : World} (x : Operand) (ho : o.op = .load 5 x) (p : Addr) (hx : F.eval x = .pointer (some p)) (v : Value) (hc : w.cell? p = some v) :
    (execOp F.eval o).run Try.prog w = .ok (.value v) w := by
  unfold execOp
  simp only [ho, hx]
  simp [go_sem, hc]
/-- a new variable, its zero value in it -/
def ptF (N : Nat) : Value := .pointer (some ⟨N, 0, none⟩)
def rowF (B : Nat) (z : Array Value) (T : TypeId) (N : Nat) (w : World) : Prop := B ≤ N ∧ N < w.heap.size ∧ w.heap[N]? = some (.cells z T (0, 0))
theorem rowF_stable (B : Nat) (z : Array Value) (T : TypeId) (N : Nat) (w w' : World) (h : rowF B z T N w) (hb : Below w.heap.size w w') : rowF B z T N w' := ⟨h.1, Nat.lt_of_lt_of_le h.2.1 hb.size, below_blk hb h.2.2⟩
theorem grows_alloc {P : Program} {o : Oper} {a : Act} {w : World} {spec : Spec} {vals : List Value} {i : Nat} (T : TypeId) (ho : o.op = .alloc T) (z : Array Value) (hz : (P.info? T).bind (fun i => i.zero.map (·.cells)) = some z) (B : Nat) (hB : B ≤ w.heap.size) (hs : spec.getD i none = some (Img ptF (rowF B z T))) :
    Grows P o a w (known spec vals i) := by
  refine grows_new (ptF w.heap.size) (w.alloc (.cells z T)) ?_ ((Below.refl _ _).alloc (Nat.le_refl _) _) _ hs (img_mk _ ⟨hB, by simp, heap_alloc_new w _⟩)
  unfold execOp
  cases hi : P.info? T with
  | none => simp [hi] at hz
  | some i =>
    cases hzz : i.zero with
    | none => simp [hi, hzz] at hz
    | some zz =>
      have hzc : zz.cells = z := by simpa [hi, hzz] using hz
      simp [ho, Instr.alloc, zeroValue, typeInfo, hi, hzz, newVar, newRow, hzc, ptF]
theorem readN (n : Nat) (a : Option Addr) (l : List Nat) (hl0 : l.length = n) (c : Nat) (V : Nat) (hV : M.leV l = V) (w : World) (hl : HasB w a l) (hn : n ≤ 7) :
    Calls Try.prog 57 #[.slice a n c] w fun e w' => e = .returned (.int .i64 V) ∧ Below w.heap.size w w' := by
  subst hl0 hV; exact read_calls a l c w hl hn
theorem rsumC (n : Nat) (a : Option Addr) (l : List Nat) (hl0 : l.length = n) (cap : Nat) (C : Nat) (hC : M.crc l = C) (w : World) (h : HasB w a l) (hn : n ≤ 1000000) :
    Calls Try.prog 34 #[.slice a n cap] w fun e w' => e = .returned (.int .u32 C) ∧ Below w.heap.size w w' := by
  subst hl0 hC; exact rsum_calls a l cap w h hn
/-- a part of bytes that lie in a row -/
theorem hasB_part {w : World} {N : Nat} {s : List Nat} {t : TypeId} (h : ∀ c ∈ s, c < 256) (hr : w.heap[N]? = some (.cells (sct s) t (0, 0))) (a n : Nat) : HasB w (some ⟨N, a, none⟩) ((s.drop a).take n) := by
  refine ⟨fun c hc => h c (List.mem_of_mem_drop (List.mem_of_mem_take hc)), .inr ⟨N, a, rfl, fun i hi => ?_⟩⟩
  have hi2 : i < n ∧ a + i < s.length := by simp at hi; omega
  rw [cell_of_row _ _ _ _ _ _ hr]
  have := u8s_at s (a + i) hi2.2
  have e : nth ((s.drop a).take n) i = nth s (a + i) := by simp [nth, hi2.1]
  rw [e]
  simpa [sct] using this
theorem frm_setb (k z o e s : Int) (b : List Nat) (i v : Nat) : (frm ⟨k, z, o, e, s, b⟩).setIfInBounds (5 + i) (.int .u8 v) = frm ⟨k, z, o, e, s, b.set i v⟩ := by
  apply Array.ext'
  rw [show 5 + i = i + 5 by omega]
  simp [frm, u8s, List.map_set]
theorem zero42 : (Try.prog.info? 42).bind (fun i => i.zero.map (·.cells)) = some (frm M.Fr.zero) := by kernel_rfl
theorem build_zero42 (w : World) : (Instr.build 42 #[]).run Try.prog w = .ok (.agg (frm M.Fr.zero)) w := by kernel_rfl
theorem ty42' (f : M.Fr) (h : f.ok) : TyRow Try.prog 42 (frm f).size := by rw [frm_size f h]; unfold TyRow; kernel_rfl
end Go.Proofs.Ytncooadaeifekaa

/- Helpers for the rows: a slice of integers that comes in. No condition but what each states. -/
namespace Go.Proofs.Ytncooadaeifekaa
open Go.ChangeShapes Go.WideShapes Go.ChangeAt Go.RowKit
def nthI (l : List Int) (i : Nat) : Int := l.getD i 0
/-- integers that lie behind an address -/
def HasI (w : World) (a : Option Addr) (l : List Int) : Prop :=
  (∀ i, -9223372036854775808 ≤ nthI l i ∧ nthI l i ≤ 9223372036854775807) ∧ (l = [] ∨ ∃ b off, a = some ⟨b, off, none⟩ ∧ ∀ i, i < l.length → w.cell? ⟨b, off + i, none⟩ = some (.int .i64 (nthI l i)))
theorem HasI.turned {S : Nat → Prop} {w w' : World} {a : Option Addr} {l : List Int} (h : HasI w a l) (ht : Turned S w w') (hS : ∀ p, a = some p → ¬ S p.block) : HasI w' a l := by
  refine ⟨h.1, ?_⟩
  rcases h.2 with h0 | ⟨b, off, ha, hc⟩
  · exact .inl h0
  · refine .inr ⟨b, off, ha, fun i hi => ?_⟩
    have h1 := hc i hi
    rw [← h1]
    exact World.cell?_of_block (w := w) (ht.block b (block_lt_of_cell (w := w) (a := ⟨b, off + i, none⟩) h1) (hS _ ha))
theorem HasI.grow {w w' : World} {a : Option Addr} {l : List Int} (h : HasI w a l) (hb : Below w.heap.size w w') : HasI w' a l := h.turned (S := fun _ => False) (Turned.ofBelow hb) fun _ _ h => h
theorem HasI.cell {w : World} {a : Option Addr} {l : List Int} (h : HasI w a l) (hne : 0 < l.length) :
    ∃ b off, a = some ⟨b, off, none⟩ ∧ ∀ i, i < l.length → w.cell? ⟨b, off + i, none⟩ = some (.int .i64 (nthI l i)) := by
  rcases h.2 with h0 | h1
  · subst h0; simp at hne
  · exact h1
/-- a slice of integers that came in -/
theorem open_i64s {H : Type} {enc : TypeId × Value → H} {P : Program} {W : World} {base : Nat} {d : DataW H} {p : List MemPlace} {t e : TypeId} {v : Value}
    (ht : P.underlying t = some (.slice e)) (he : P.underlying e = some (.int .i64)) (hc : P.cellsOf e = 1) (hv : Value.okWide P W .any base t v) (h : DataW.Trod enc P W 0 (fun _ => true) true t v d p) :
    ∃ (a : Option Addr) (l : List Int) (cap : Nat), v = .slice a l.length cap ∧ l.length ≤ 9223372036854775807 ∧ HasI W a l := by
  obtain ⟨a, len, cap, rfl⟩ := okWide_slice ht hv
  obtain ⟨fuel, hf⟩ := h
  rcases open_ints ht he hc hf with ⟨hcs, _⟩ | ⟨x, l, c, zs, hcs, _, hl, hm, hz, _, hcell, hwz⟩
  · simp [Value.cells] at hcs
    obtain ⟨rfl, rfl, rfl⟩ := hcs
    exact ⟨none, [], 0, rfl, by simp, fun i => by simp [nthI], .inl rfl⟩
  · simp [Value.cells] at hcs
    obtain ⟨rfl, rfl, rfl⟩ := hcs
    have hz' : zs.length = cap := by simpa using hz
    have hlen : (zs.take len).length = len := by simp; omega
    refine ⟨some x, zs.take len, cap, by rw [hlen], by rw [hlen]; unfold maxLen at hm; omega, ?_, ?_⟩
    · intro i
      by_cases hi : i < len
      · have hlt : i < zs.length := by omega
        have := bounds_i64 (hwz zs[i] (List.getElem_mem hlt))
        simpa [nthI, hi, hlt] using this
      · have : nthI (zs.take len) i = 0 := by unfold nthI; rw [List.getD, List.getElem?_eq_none (by omega)]; rfl
        rw [this]; omega
    · by_cases h0 : len = 0
      · left; subst h0; rfl
      · right
        obtain ⟨b, off, spot⟩ := x
        have hc0 := hcell 0 (by omega)
        have hspot : spot = none := by simpa [Addr.add] using World.cell?_spot hc0
        subst hspot
        refine ⟨b, off, rfl, fun i hi => ?_⟩
        rw [hlen] at hi
        have hci := hcell i (by omega)
        have hadd : (⟨b, off, none⟩ : Addr).add i = ⟨b, off + i, none⟩ := by unfold Addr.add; split <;> simp_all
        rw [hadd] at hci
        rw [hci]
        have hlt : i < zs.length := by omega
        simp [nthI, hlt, hi]
end Go.Proofs.Ytncooadaeifekaa

/- Helpers for the rows: arrays of bytes and frames that come in. No condition but what each states. -/
namespace Go.Proofs.Ytncooadaeifekaa
open Go.ChangeShapes Go.WideShapes Go.ChangeAt Go.RowKit
def natIn : Value → Nat
  | .int _ n => n.toNat
  | _ => 0
theorem trod_u8s {H : Type} {enc : TypeId × Value → H} {P : Program} {W : World} {n : Nat} {t e : TypeId} {fuel : Nat} {cs : List Value} {x : DataW H × List MemPlace}
    (ht : P.underlying t = some (.array n e)) (he : P.underlying e = some (.int .u8)) (hc : P.cellsOf e = 1) (hct : P.cellsOf t = n) (h : DataW.trod enc P W 0 (fun _ => true) true fuel t cs = some x) :
    ∃ s : List Nat, s.length = n ∧ (∀ c ∈ s, c < 256) ∧ cs = u8s s := by
  obtain ⟨xs, m, rfl, rfl, hl, hxs, hi⟩ := DataW.trod_array ht h
  have key : ∀ i, i < n → ∃ k : Nat, k < 256 ∧ cs[i]? = some (.int .u8 k) := by
    intro i hin
    have h1 := hi i hin
    rw [List.getElem?_eq_getElem (by omega)] at h1
    obtain ⟨z, hz, _, hw⟩ := DataW.trod_int he h1
    obtain ⟨k, rfl, hk⟩ := nat_u8 hw
    rw [hc, Nat.mul_one] at hz
    refine ⟨k, hk, ?_⟩
    have := congrArg (·[0]?) hz
    simpa using this
  have hln : cs.length = n := by rw [hl, hct]
  refine ⟨cs.map natIn, by simpa using hln, ?_, ?_⟩
  · intro c hc
    obtain ⟨i, hi, rfl⟩ := List.mem_iff_getElem.1 hc
    simp only [List.length_map] at hi
    obtain ⟨k, hk, e⟩ := key i (by omega)
    rw [List.getElem?_eq_getElem hi] at e
    simp only [Option.some.injEq] at e
    simp [e, natIn]; omega
  · apply List.ext_getElem (by simp [u8s])
    intro i h1 h2
    obtain ⟨k, hk, e⟩ := key i (by omega)
    rw [List.getElem?_eq_getElem h1] at e
    simp only [Option.some.injEq] at e
    simp [u8s, e, natIn]
theorem okWide_array {P : Program} {w : World} {r : Reach} {base n : Nat} {t e : TypeId} {v : Value} (ht : P.underlying t = some (.array n e)) (h : Value.okWide P w r base t v) : ∃ cs, v = .agg cs ∧ cs.size = P.cellsOf t := by
  simp only [Value.okWide, ht] at h
  obtain ⟨cs, h1, h2, _⟩ := h
  exact ⟨cs, h1, h2⟩
/-- an array of bytes that came in -/
theorem open_u8s {H : Type} {enc : TypeId × Value → H} {P : Program} {W : World} {base n : Nat} {d : DataW H} {p : List MemPlace} {t e : TypeId} {v : Value}
    (ht : P.underlying t = some (.array n e)) (he : P.underlying e = some (.int .u8)) (hc : P.cellsOf e = 1) (hct : P.cellsOf t = n) (hv : Value.okWide P W .any base t v) (h : DataW.Trod enc P W 0 (fun _ => true) true t v d p) :
    ∃ s : List Nat, v = .agg (sct s) ∧ s.length = n ∧ ∀ c ∈ s, c < 256 := by
  obtain ⟨cs, rfl, hs⟩ := okWide_array ht hv
  obtain ⟨fuel, hf⟩ := h
  obtain ⟨s, h1, h2, h3⟩ := trod_u8s ht he hc hct hf
  refine ⟨s, ?_, h1, h2⟩
  simp only [Value.cells] at h3
  rw [sct, ← h3]
theorem take1 {cs : List Value} {i : Nat} {v : Value} (h : (cs.drop i).take 1 = [v]) : cs[i]? = some v := by
  have := congrArg (·[0]?) h
  simpa using this
end Go.Proofs.Ytncooadaeifekaa

/- Plain laws: a right sum by the word's residue; a pattern put into what is sealed; what a sector says; entries and their bodies. No program in sight. -/
namespace Go.Proofs.Ytncooadaeifekaa.M
theorem over_leB (k r x : Nat) (h : x < 256 ^ k) : over r (leB k x) = stpN (8 * k) (r ^^^ x) := by
  induction k generalizing r x with
  | zero => simp at h; subst h; simp [leB, over, stpN]
  | succ k ih =>
    have hx : x / 256 < 256 ^ k := by rw [Nat.pow_succ] at h; omega
    rw [leB, over_cons, ih _ _ hx, show 8 * (k + 1) = 8 + 8 * k by omega, stpN_add]
    congr 1
    conv => rhs; rw [split8 x, Nat.xor_comm (2 ^ 8 * _), ← Nat.xor_assoc, stpN_xor, stpN_shift 8]
    rfl
def residue : Nat := stpN 32 4294967295
theorem sealed_iff (s : List Nat) (n : Nat) (hs : s.length = n + 4) (hb : ∀ c ∈ s, c < 256) : s.drop n = leB 4 (crc (s.take n)) ↔ over 4294967295 s = residue := by
  have hd : ∀ c ∈ s.drop n, c < 256 := fun c hc => hb c (List.mem_of_mem_drop hc)
  have ht : ∀ c ∈ s.take n, c < 256 := fun c hc => hb c (List.mem_of_mem_take hc)
  have hl : (s.drop n).length = 4 := by simp; omega
  have hv : leB 4 (leV (s.drop n)) = s.drop n := by have := leB_leV (s.drop n) hd; rw [hl] at this; exact this
  have hx : leV (s.drop n) < 256 ^ 4 := by have := leV_lt (s.drop n) hd; rw [hl] at this; exact this
  have hx4 : leV (s.drop n) < 4294967296 := hx
  have hR := over_lt 4294967295 (s.take n) (by decide) ht
  have e1 : over 4294967295 s = stpN 32 (over 4294967295 (s.take n) ^^^ leV (s.drop n)) := by
    conv => lhs; rw [← List.take_append_drop n s, over_append, ← hv, over_leB 4 _ _ hx]
  have hc := crc_lt (s.take n) ht
  rw [e1, residue]
  constructor
  · intro h
    congr 1
    have h2 : leV (s.drop n) = crc (s.take n) := by rw [h]; exact leV_leB 4 _ hc
    rw [h2, crc, ← Nat.xor_assoc, Nat.xor_self, Nat.zero_xor]
  · intro h
    have h3 := stpN_inj 32 _ _ (Nat.xor_lt_two_pow (n := 32) hR hx4) (by decide) h
    have h4 : leV (s.drop n) = crc (s.take n) := by
      rw [crc]
      generalize over 4294967295 (s.take n) = R at h3 ⊢
      generalize leV (s.drop n) = X at h3 ⊢
      rw [← h3, ← Nat.xor_assoc, Nat.xor_self, Nat.zero_xor]
    rw [← hv, h4]
/-- a pattern put into bytes -/
def xorL (a b : List Nat) : List Nat := List.zipWith (· ^^^ ·) a b
theorem xorL_length (a b : List Nat) (h : a.length = b.length) : (xorL a b).length = a.length := by simp [xorL]; omega
theorem xorL_lt (a b : List Nat) (ha : ∀ c ∈ a, c < 256) (hb : ∀ c ∈ b, c < 256) : ∀ c ∈ xorL a b, c < 256 := fun c hc => by
  unfold xorL at hc
  rw [List.zipWith_eq_zipWith_take_min] at hc
  obtain ⟨i, hi, rfl⟩ := List.mem_iff_getElem.1 hc
  simp only [List.getElem_zipWith]
  exact Nat.xor_lt_two_pow (n := 8) (ha _ (List.mem_of_mem_take (List.getElem_mem _))) (hb _ (List.mem_of_mem_take (List.getElem_mem _)))
theorem spoilt_iff (s p : List Nat) (n : Nat) (hs : s.length = n + 4) (hp : p.length = n + 4) (hb : ∀ c ∈ s, c < 256) (hq : ∀ c ∈ p, c < 256) (h : s.drop n = leB 4 (crc (s.take n))) :
    (xorL s p).drop n = leB 4 (crc ((xorL s p).take n)) ↔ over 0 p = 0 := by
  rw [sealed_iff _ n (by rw [xorL_length _ _ (by omega)]; exact hs) (xorL_lt _ _ hb hq)]
  rw [sealed_iff s n hs hb] at h
  have e := over_xor s p 4294967295 0 (by omega)
  rw [Nat.xor_zero, h] at e
  show over 4294967295 (List.zipWith (· ^^^ ·) s p) = residue ↔ _
  rw [e]
  constructor
  · intro h2
    apply xor_cancel_left (a := residue); rw [h2, Nat.xor_zero]
  · intro h2; rw [h2, Nat.xor_zero]
theorem xorL_self (a b : List Nat) (h : a.length = b.length) : xorL (xorL a b) b = a := by
  apply List.ext_getElem (by simp [xorL]; omega)
  intro i h1 h2
  simp [xorL, Nat.xor_assoc]
/-- what is told of a sector: its frame, and what went wrong -/
def dec (s : List Nat) : Fr × Int :=
  if sealed s = false then (Fr.zero, 11) else if ver s = 1 ∧ (unFr s).right = true then (unFr s, 0) else (Fr.zero, 10)
theorem zero_ok : Fr.zero.ok := ⟨by simp [Fr.zero], by simp [Fr.zero]⟩
theorem dec_ok (s : List Nat) (hs : s.length = 64) (hb : ∀ c ∈ s, c < 256) : (dec s).1.ok := by
  unfold dec
  split
  · exact zero_ok
  · split
    · exact unFr_ok s (by omega) hb
    · exact zero_ok
theorem dec_sec (f : Fr) (h : f.ok) (hr : f.right = true) : dec f.sec = (f, 0) := by
  obtain ⟨h1, h2⟩ := unFr_sec f h hr
  rw [dec, sealed_sec f h, h1, h2, hr]; simp
theorem dec_unsealed (s : List Nat) (h : sealed s = false) : dec s = (Fr.zero, 11) := by rw [dec, if_pos h]
theorem dec_err (s : List Nat) : (dec s).2 = 11 ↔ sealed s = false := by
  unfold dec
  split
  · next h => simp [h]
  · next h => split <;> simp at h ⊢ <;> exact h
def decAt (s : List Nat) (zone off : Int) : Fr × Int :=
  if (dec s).2 = 0 then (if (dec s).1.zone = zone ∧ (dec s).1.off = off then ((dec s).1, 0) else (Fr.zero, 12)) else (Fr.zero, (dec s).2)
end Go.Proofs.Ytncooadaeifekaa.M

/- Plain laws: entries and their bodies. No program in sight. -/
namespace Go.Proofs.Ytncooadaeifekaa.M
structure En where
  kind : Int
  first : Int
  count : Int
  block : Int
  many : Int
  mate : Int
  bytes : List Nat
deriving DecidableEq
def En.ok (e : En) : Prop := e.bytes.length = 32 ∧ ∀ c ∈ e.bytes, c < 256
def En.zero : En := ⟨0, 0, 0, 0, 0, 0, List.replicate 32 0⟩
def En.counts (e : En) : Bool :=
  if e.kind = 1 then decide ((1 ≤ e.count ∧ e.count ≤ 4) ∧ e.many = 0)
  else if e.kind = 2 then decide (e.count = 1 ∧ (1 ≤ e.many ∧ e.many ≤ 256 - e.block) ∧ e.bytes = List.replicate 32 0)
  else if e.kind = 3 then decide (e.count = 1 ∧ e.many = 0) else false
def En.right (e : En) : Bool := decide ((0 ≤ e.first ∧ e.first ≤ 281474976710655) ∧ (0 ≤ e.block ∧ e.block ≤ 255) ∧ (0 ≤ e.mate ∧ e.mate ≤ 65535)) && e.counts
theorem En.right_bounds (e : En) (h : e.right = true) : (0 ≤ e.first ∧ e.first ≤ 281474976710655) ∧ (0 ≤ e.block ∧ e.block ≤ 255) ∧ (0 ≤ e.mate ∧ e.mate ≤ 65535) ∧ (1 ≤ e.count ∧ e.count ≤ 4) ∧ (0 ≤ e.many ∧ e.many ≤ 256) := by
  simp only [En.right, Bool.and_eq_true, decide_eq_true_eq, En.counts] at h
  obtain ⟨⟨h1, h2, h3⟩, h4⟩ := h
  refine ⟨h1, h2, h3, ?_⟩
  split at h4
  · simp only [decide_eq_true_eq] at h4; omega
  · split at h4
    · simp only [decide_eq_true_eq] at h4; omega
    · split at h4
      · simp only [decide_eq_true_eq] at h4; omega
      · simp at h4
def En.body (e : En) : List Nat := leB 6 e.first.toNat ++ leB 1 e.count.toNat ++ leB 1 e.block.toNat ++ leB 2 e.many.toNat ++ leB 2 e.mate.toNat ++ e.bytes
theorem En.body_length (e : En) (h : e.ok) : e.body.length = 44 := by simp [En.body, leB_length, h.1]
theorem En.body_lt (e : En) (h : e.ok) : ∀ c ∈ e.body, c < 256 := fun c hc => by
  simp only [En.body, List.mem_append] at hc
  rcases hc with ((((hc | hc) | hc) | hc) | hc) | hc
  all_goals first | exact leB_lt _ _ c hc | exact h.2 c hc
/-- what a body says -/
def unEn (kind : Int) (s : List Nat) : En := ⟨kind, leV (s.take 6), leV ((s.drop 6).take 1), leV ((s.drop 7).take 1), leV ((s.drop 8).take 2), leV ((s.drop 10).take 2), (s.drop 12).take 32⟩
theorem unEn_ok (kind : Int) (s : List Nat) (hs : s.length = 44) (hb : ∀ c ∈ s, c < 256) : (unEn kind s).ok := by
  refine ⟨by simp [unEn]; omega, fun c hc => hb c ?_⟩
  exact List.mem_of_mem_drop (List.mem_of_mem_take hc)
theorem body_unEn (kind : Int) (s : List Nat) (hs : s.length = 44) (hb : ∀ c ∈ s, c < 256) : (unEn kind s).body = s := by
  have h0 := leB_of s hb 0 6 (by omega)
  have h1 := leB_of s hb 6 1 (by omega)
  have h2 := leB_of s hb 7 1 (by omega)
  have h4 := leB_of s hb 8 2 (by omega)
  have h6 := leB_of s hb 10 2 (by omega)
  rw [List.drop_zero] at h0
  simp only [En.body, unEn, Int.toNat_natCast, h0, h1, h2, h4, h6]
  have cut : ∀ a n : Nat, s.take a ++ (s.drop a).take n = s.take (a + n) := fun a n => by rw [List.take_add]
  rw [cut 6 1, cut 7 1, cut 8 2, cut 10 2, cut 12 32, List.take_of_length_le (by omega)]
theorem unEn_body (e : En) (h : e.ok) (hr : e.right = true) : unEn e.kind e.body = e := by
  obtain ⟨h1, h2, h3, h4, h5⟩ := e.right_bounds hr
  have k : ∀ (a b c d g i : List Nat), a.length = 6 → b.length = 1 → c.length = 1 → d.length = 2 → g.length = 2 → i.length = 32 →
      unEn e.kind (a ++ b ++ c ++ d ++ g ++ i) = ⟨e.kind, leV a, leV b, leV c, leV d, leV g, i⟩ := by
    intro a b c d g i ha hb hc hd hg hi
    simp [unEn, List.drop_append, ha, hb, hc, hd, hg, hi, List.drop_eq_nil_of_le, List.take_of_length_le]
  have e1 := k _ _ _ _ _ _ (leB_length 6 e.first.toNat) (leB_length 1 e.count.toNat) (leB_length 1 e.block.toNat) (leB_length 2 e.many.toNat) (leB_length 2 e.mate.toNat) h.1
  rw [En.body, e1, leV_leB _ _ (by show _ < 281474976710656; omega), leV_leB _ _ (by show _ < 256; omega), leV_leB _ _ (by show _ < 256; omega), leV_leB _ _ (by show _ < 65536; omega), leV_leB _ _ (by show _ < 65536; omega)]
  cases e
  simp only [En.mk.injEq, and_true, true_and]
  simp only at *
  omega
theorem body_inj (a b : En) (ha : a.ok) (hb : b.ok) (ra : a.right = true) (rb : b.right = true) (hk : a.kind = b.kind) (h : a.body = b.body) : a = b := by
  rw [← unEn_body a ha ra, h, hk, unEn_body b hb rb]
theorem zeroE_ok : En.zero.ok := ⟨by simp [En.zero], by simp [En.zero]⟩
/-- what is told of a body -/
def ofB (kind : Int) (s : List Nat) : En × Int := if (unEn kind s).right = true then (unEn kind s, 0) else (En.zero, 10)
/-- an entry's frame, and what went wrong -/
def En.fr (e : En) (zone off epoch seq : Int) : Fr := ⟨e.kind, zone, off, epoch, seq, e.body⟩
def En.frame (e : En) (zone off epoch seq : Int) : Fr × Int :=
  if e.right = true ∧ (e.fr zone off epoch seq).right = true ∧ e.first ≤ seq ∧ seq < e.first + e.count then (e.fr zone off epoch seq, 0) else (Fr.zero, 10)
def rdE (f : Fr) : En × Int :=
  if (unEn f.kind f.body).right = true ∧ f.right = true ∧ (unEn f.kind f.body).first ≤ f.seq ∧ f.seq < (unEn f.kind f.body).first + (unEn f.kind f.body).count then (unEn f.kind f.body, 0) else (En.zero, 10)
theorem fr_ok (e : En) (h : e.ok) (zone off epoch seq : Int) : (e.fr zone off epoch seq).ok := ⟨e.body_length h, e.body_lt h⟩
theorem frame_ok (e : En) (h : e.ok) (zone off epoch seq : Int) : (e.frame zone off epoch seq).1.ok := by
  unfold En.frame
  split
  · exact fr_ok e h _ _ _ _
  · exact zero_ok
theorem ofB_ok (kind : Int) (s : List Nat) (hs : s.length = 44) (hb : ∀ c ∈ s, c < 256) : (ofB kind s).1.ok := by
  unfold ofB
  split
  · exact unEn_ok kind s hs hb
  · exact zeroE_ok
theorem fr_of (f : Fr) (h : f.ok) : (unEn f.kind f.body).fr f.zone f.off f.epoch f.seq = f := by
  have := body_unEn f.kind f.body h.1 h.2
  rw [En.fr, this]; cases f; rfl
end Go.Proofs.Ytncooadaeifekaa.M

/- Helpers for the rows: frames, sectors, entries and bodies that come in. No condition but what each states. -/
namespace Go.Proofs.Ytncooadaeifekaa
open Go.ChangeShapes Go.WideShapes Go.ChangeAt Go.RowKit
/-- an entry's cells -/
def ent (e : M.En) : Array Value := (Value.int .i64 e.kind :: Value.int .i64 e.first :: Value.int .i64 e.count :: Value.int .i64 e.block :: Value.int .i64 e.many :: Value.int .i64 e.mate :: u8s e.bytes).toArray
theorem cells3 : Try.prog.cellsOf 3 = 1 := by kernel_rfl
theorem cells5 : Try.prog.cellsOf 5 = 1 := by kernel_rfl
theorem cells39 : Try.prog.cellsOf 39 = 44 := by kernel_rfl
theorem cells44 : Try.prog.cellsOf 44 = 64 := by kernel_rfl
theorem cells80 : Try.prog.cellsOf 80 = 32 := by kernel_rfl
theorem cells41 : Try.prog.cellsOf 41 = 49 := by kernel_rfl
theorem cells82 : Try.prog.cellsOf 82 = 38 := by kernel_rfl
section
variable {H : Type} {enc : TypeId × Value → H} {W : World} {base : Nat} {d : DataW H} {p : List MemPlace} {v : Value}
set_option maxRecDepth 100000 in
theorem open_sector (hv : Value.okWide Try.prog W .any base 44 v) (h : DataW.Trod enc Try.prog W 0 (fun _ => true) true 44 v d p) : ∃ s : List Nat, v = .agg (sct s) ∧ s.length = 64 ∧ ∀ c ∈ s, c < 256 :=
  open_u8s Try.underlying44 Try.underlying5 cells5 cells44 hv h
set_option maxRecDepth 100000 in
theorem open_body (hv : Value.okWide Try.prog W .any base 39 v) (h : DataW.Trod enc Try.prog W 0 (fun _ => true) true 39 v d p) : ∃ s : List Nat, v = .agg (sct s) ∧ s.length = 44 ∧ ∀ c ∈ s, c < 256 :=
  open_u8s Try.underlying39 Try.underlying5 cells5 cells39 hv h
set_option maxRecDepth 100000 in
theorem field_int {fuel : Nat} {cs : List Value} {x : DataW H × List MemPlace} {i : Nat} (h : DataW.trod enc Try.prog W 0 (fun _ => true) true fuel 3 ((cs.drop i).take (Try.prog.cellsOf 3)) = some x) : ∃ n : Int, cs[i]? = some (.int .i64 n) ∧ -9223372036854775808 ≤ n ∧ n ≤ 9223372036854775807 := by
  rw [cells3] at h
  obtain ⟨n, hn, _, hw⟩ := DataW.trod_int Try.underlying3 h
  have := bounds_i64 hw
  exact ⟨n, take1 hn, by omega, by omega⟩
set_option maxRecDepth 100000 in
theorem open_frame (hv : Value.okWide Try.prog W .any base 41 v) (h : DataW.Trod enc Try.prog W 0 (fun _ => true) true 41 v d p) : ∃ f : M.Fr, v = .agg (frm f) ∧ f.ok := by
  obtain ⟨cs, rfl, hs⟩ := okWide_struct Try.underlying41 hv
  obtain ⟨fuel, hf⟩ := h
  obtain ⟨xs, m, rfl, hx, hl, hxs, hi⟩ := DataW.trod_struct Try.underlying41 hf
  simp only [Value.cells] at hl hi
  have hxs6 : xs.length = 6 := hxs
  have g : ∀ i (h : i < 6), xs[i]? = some (xs[i]'(by omega)) := fun i h => List.getElem?_eq_getElem (by omega)
  obtain ⟨k, hk, _⟩ := field_int ((hi 0 _ rfl).trans (g 0 (by omega)))
  obtain ⟨z, hz, _⟩ := field_int ((hi 1 _ rfl).trans (g 1 (by omega)))
  obtain ⟨o, ho, _⟩ := field_int ((hi 2 _ rfl).trans (g 2 (by omega)))
  obtain ⟨e, he, _⟩ := field_int ((hi 3 _ rfl).trans (g 3 (by omega)))
  obtain ⟨s, hs4, _⟩ := field_int ((hi 4 _ rfl).trans (g 4 (by omega)))
  obtain ⟨b, hb1, hb2, hb3⟩ := trod_u8s Try.underlying39 Try.underlying5 cells5 cells39 ((hi 5 _ rfl).trans (g 5 (by omega)))
  have hb3' : (cs.toList.drop 5).take (Try.prog.cellsOf 39) = u8s b := hb3
  rw [cells39] at hb3'
  rw [cells41] at hl
  refine ⟨⟨k, z, o, e, s, b⟩, ?_, hb1, hb2⟩
  congr 1
  apply Array.ext'
  apply List.ext_getElem?
  intro i
  show cs.toList[i]? = (Value.int .i64 k :: Value.int .i64 z :: Value.int .i64 o :: Value.int .i64 e :: Value.int .i64 s :: u8s b)[i]?
  match i with
  | 0 => exact hk
  | 1 => exact hz
  | 2 => exact ho
  | 3 => exact he
  | 4 => exact hs4
  | i + 5 =>
    simp only [List.getElem?_cons_succ]
    rw [← hb3']
    simp only [List.getElem?_take, List.getElem?_drop]
    by_cases h44 : i < 44
    · rw [if_pos h44, Nat.add_comm]
    · rw [if_neg h44, List.getElem?_eq_none (by omega)]
set_option maxRecDepth 100000 in
theorem open_entry (hv : Value.okWide Try.prog W .any base 82 v) (h : DataW.Trod enc Try.prog W 0 (fun _ => true) true 82 v d p) : ∃ f : M.En, v = .agg (ent f) ∧ f.ok := by
  obtain ⟨cs, rfl, hs⟩ := okWide_struct Try.underlying82 hv
  obtain ⟨fuel, hf⟩ := h
  obtain ⟨xs, m, rfl, hx, hl, hxs, hi⟩ := DataW.trod_struct Try.underlying82 hf
  simp only [Value.cells] at hl hi
  have hxs6 : xs.length = 7 := hxs
  have g : ∀ i (h : i < 7), xs[i]? = some (xs[i]'(by omega)) := fun i h => List.getElem?_eq_getElem (by omega)
  obtain ⟨k, hk, _⟩ := field_int ((hi 0 _ rfl).trans (g 0 (by omega)))
  obtain ⟨z, hz, _⟩ := field_int ((hi 1 _ rfl).trans (g 1 (by omega)))
  obtain ⟨o, ho, _⟩ := field_int ((hi 2 _ rfl).trans (g 2 (by omega)))
  obtain ⟨e, he, _⟩ := field_int ((hi 3 _ rfl).trans (g 3 (by omega)))
  obtain ⟨s, hs4, _⟩ := field_int ((hi 4 _ rfl).trans (g 4 (by omega)))
  obtain ⟨t, hs5, _⟩ := field_int ((hi 5 _ rfl).trans (g 5 (by omega)))
  obtain ⟨b, hb1, hb2, hb3⟩ := trod_u8s Try.underlying80 Try.underlying5 cells5 cells80 ((hi 6 _ rfl).trans (g 6 (by omega)))
  have hb3' : (cs.toList.drop 6).take (Try.prog.cellsOf 80) = u8s b := hb3
  rw [cells80] at hb3'
  rw [cells82] at hl
  refine ⟨⟨k, z, o, e, s, t, b⟩, ?_, hb1, hb2⟩
  congr 1
  apply Array.ext'
  apply List.ext_getElem?
  intro i
  show cs.toList[i]? = (Value.int .i64 k :: Value.int .i64 z :: Value.int .i64 o :: Value.int .i64 e :: Value.int .i64 s :: Value.int .i64 t :: u8s b)[i]?
  match i with
  | 0 => exact hk
  | 1 => exact hz
  | 2 => exact ho
  | 3 => exact he
  | 4 => exact hs4
  | 5 => exact hs5
  | i + 6 =>
    simp only [List.getElem?_cons_succ]
    rw [← hb3']
    simp only [List.getElem?_take, List.getElem?_drop]
    by_cases h44 : i < 32
    · rw [if_pos h44, Nat.add_comm]
    · rw [if_neg h44, List.getElem?_eq_none (by omega)]
end
end Go.Proofs.Ytncooadaeifekaa

/- Helpers for the walks: entries' cells, compared, read and built. No condition but what each states. -/
namespace Go.Proofs.Ytncooadaeifekaa
open Go.RowKit
theorem ent_size (e : M.En) (h : e.ok) : (ent e).size = 38 := by simp [ent, u8s_length, h.1]
theorem ent_all (e : M.En) : (ent e).all (·.oneCell') = true := by
  refine Array.all_eq_true_iff_forall_mem.2 fun v hv => ?_
  simp only [ent, List.mem_toArray, List.mem_cons] at hv
  rcases hv with rfl | rfl | rfl | rfl | rfl | rfl | hv
  all_goals first | rfl | exact u8s_one _ v hv
theorem ent0 (e : M.En) : (ent e)[0]? = some (.int .i64 e.kind) := by simp [ent]
theorem ent1 (e : M.En) : (ent e)[1]? = some (.int .i64 e.first) := by simp [ent]
theorem ent2 (e : M.En) : (ent e)[2]? = some (.int .i64 e.count) := by simp [ent]
theorem ent3 (e : M.En) : (ent e)[3]? = some (.int .i64 e.block) := by simp [ent]
theorem ent4 (e : M.En) : (ent e)[4]? = some (.int .i64 e.many) := by simp [ent]
theorem ent5 (e : M.En) : (ent e)[5]? = some (.int .i64 e.mate) := by simp [ent]
theorem ent_bytes (e : M.En) (i : Nat) (hi : i < e.bytes.length) : (ent e)[6 + i]? = some (.int .u8 (nth e.bytes i)) := by
  have := u8s_at e.bytes i hi
  rw [show 6 + i = i + 6 by omega]
  simpa [ent] using this
theorem ty82 (e : M.En) (h : e.ok) : TyRow Try.prog 82 (ent e).size := by rw [ent_size e h]; unfold TyRow; kernel_rfl
theorem ty91 (e : M.En) (h : e.ok) : TyRow Try.prog 91 (ent e).size := by rw [ent_size e h]; unfold TyRow; kernel_rfl
theorem ty80 (s : List Nat) (h : s.length = 32) : TyRow Try.prog 80 (sct s).size := by rw [sct_size, h]; unfold TyRow; kernel_rfl
theorem ty39 (s : List Nat) (h : s.length = 44) : TyRow Try.prog 39 (sct s).size := by rw [sct_size, h]; unfold TyRow; kernel_rfl
theorem zero82 : (Try.prog.info? 82).bind (fun i => i.zero.map (·.cells)) = some (ent M.En.zero) := by kernel_rfl
theorem zero91 : (Try.prog.info? 91).bind (fun i => i.zero.map (·.cells)) = some (ent M.En.zero) := by kernel_rfl
theorem zero80 : (Try.prog.info? 80).bind (fun i => i.zero.map (·.cells)) = some (sct (List.replicate 32 0)) := by kernel_rfl
theorem zero39 : (Try.prog.info? 39).bind (fun i => i.zero.map (·.cells)) = some (sct (List.replicate 44 0)) := by kernel_rfl
theorem build_zero82 (w : World) : (Instr.build 82 #[]).run Try.prog w = .ok (.agg (ent M.En.zero)) w := by kernel_rfl
theorem build_zero91 (w : World) : (Instr.build 91 #[]).run Try.prog w = .ok (.agg (ent M.En.zero)) w := by kernel_rfl
theorem build_zero80 (w : World) : (Instr.build 80 #[]).run Try.prog w = .ok (.agg (sct (List.replicate 32 0))) w := by kernel_rfl
theorem build_zero79 (w : World) : (Instr.build 79 #[]).run Try.prog w = .ok (.agg (sct (List.replicate 32 0))) w := by kernel_rfl
theorem build_zero39 (w : World) : (Instr.build 39 #[]).run Try.prog w = .ok (.agg (sct (List.replicate 44 0))) w := by kernel_rfl
theorem grd39 : Try.prog.eqGuardType Try.prog.depth 39 = false := by kernel_rfl
theorem grd79 : Try.prog.eqGuardType Try.prog.depth 79 = false := by kernel_rfl
theorem grd80 : Try.prog.eqGuardType Try.prog.depth 80 = false := by kernel_rfl
theorem grd82 : Try.prog.eqGuardType Try.prog.depth 82 = false := by kernel_rfl
theorem grd91 : Try.prog.eqGuardType Try.prog.depth 91 = false := by kernel_rfl
theorem fields82 : (Try.prog.fieldsOf 82).toList.map (fun f => (f.name, f.type, f.offset)) = [("Kind", 3, 0), ("First", 3, 1), ("Count", 3, 2), ("Block", 3, 3), ("Many", 3, 4), ("Mate", 3, 5), ("Bytes", 80, 6)] := by kernel_rfl
theorem fields91 : (Try.prog.fieldsOf 91).toList.map (fun f => (f.name, f.type, f.offset)) = [("Kind", 3, 0), ("First", 3, 1), ("Count", 3, 2), ("Block", 3, 3), ("Many", 3, 4), ("Mate", 3, 5), ("Bytes", 79, 6)] := by kernel_rfl
theorem size80 (w : World) : (sizeOf 80).run Try.prog w = .ok 32 w := by kernel_rfl
theorem size79 (w : World) : (sizeOf 79).run Try.prog w = .ok 32 w := by kernel_rfl
theorem part_bytes (w : World) (t : TypeId) (hu : Try.prog.underlying t = some (.array 32 5)) (hs : (sizeOf t).run Try.prog w = .ok 32 w) (e : M.En) (h : e.ok) : (part t (ent e) 6).run Try.prog w = .ok (.agg (sct e.bytes)) w := by
  simp only [part, isAgg, Sem.run_bind, run_underlying hu, Result.andThen_ok, Sem.run_pure, if_true, hs]
  have e1 : (ent e).extract 6 (6 + 32) = sct e.bytes := by
    apply Array.ext'
    simp [ent, sct, List.take_of_length_le, u8s_length, h.1]
  rw [e1]
theorem eqFields_ent (w : World) (d : Nat) (T : TypeId) (hT : Try.prog.underlying T = some (.array 32 5)) (hs : (sizeOf T).run Try.prog w = .ok 32 w) (f g : M.En) (hf : f.ok) (hg : g.ok) (fs : List Field) (hfs : fs.map (fun f => (f.name, f.type, f.offset)) = [("Kind", 3, 0), ("First", 3, 1), ("Count", 3, 2), ("Block", 3, 3), ("Many", 3, 4), ("Mate", 3, 5), ("Bytes", T, 6)]) :
    (Op.eqFields (d + 2) (ent f) (ent g) fs).run Try.prog w = .ok (decide (f = g)) w := by
  obtain ⟨f0, f1, f2, f3, f4, f5, f6, rfl⟩ : ∃ f0 f1 f2 f3 f4 f5 f6, fs = [f0, f1, f2, f3, f4, f5, f6] := by
    rcases fs with _ | ⟨f0, _ | ⟨f1, _ | ⟨f2, _ | ⟨f3, _ | ⟨f4, _ | ⟨f5, _ | ⟨f6, _ | ⟨f7, fs⟩⟩⟩⟩⟩⟩⟩⟩
    all_goals first | exact ⟨_, _, _, _, _, _, _, rfl⟩ | (simp at hfs; done)
  simp only [List.map_cons, List.map_nil, List.cons.injEq, Prod.mk.injEq, and_true] at hfs
  obtain ⟨⟨n0, t0, o0⟩, ⟨n1, t1, o1⟩, ⟨n2, t2, o2⟩, ⟨n3, t3, o3⟩, ⟨n4, t4, o4⟩, ⟨n5, t5, o5⟩, n6, t6, o6⟩ := hfs
  rw [eqFields_step w _ _ _ f0 _ (.int .i64 f.kind) (.int .i64 g.kind) (decide (f.kind = g.kind)) (by rw [n0]; decide) (by rw [t0, o0]; exact part_int w _ _ _ (ent0 f)) (by rw [t0, o0]; exact part_int w _ _ _ (ent0 g)) (by rw [t0]; exact eq_int w _ _ _)]
  rw [eqFields_step w _ _ _ f1 _ (.int .i64 f.first) (.int .i64 g.first) (decide (f.first = g.first)) (by rw [n1]; decide) (by rw [t1, o1]; exact part_int w _ _ _ (ent1 f)) (by rw [t1, o1]; exact part_int w _ _ _ (ent1 g)) (by rw [t1]; exact eq_int w _ _ _)]
  rw [eqFields_step w _ _ _ f2 _ (.int .i64 f.count) (.int .i64 g.count) (decide (f.count = g.count)) (by rw [n2]; decide) (by rw [t2, o2]; exact part_int w _ _ _ (ent2 f)) (by rw [t2, o2]; exact part_int w _ _ _ (ent2 g)) (by rw [t2]; exact eq_int w _ _ _)]
  rw [eqFields_step w _ _ _ f3 _ (.int .i64 f.block) (.int .i64 g.block) (decide (f.block = g.block)) (by rw [n3]; decide) (by rw [t3, o3]; exact part_int w _ _ _ (ent3 f)) (by rw [t3, o3]; exact part_int w _ _ _ (ent3 g)) (by rw [t3]; exact eq_int w _ _ _)]
  rw [eqFields_step w _ _ _ f4 _ (.int .i64 f.many) (.int .i64 g.many) (decide (f.many = g.many)) (by rw [n4]; decide) (by rw [t4, o4]; exact part_int w _ _ _ (ent4 f)) (by rw [t4, o4]; exact part_int w _ _ _ (ent4 g)) (by rw [t4]; exact eq_int w _ _ _)]
  rw [eqFields_step w _ _ _ f5 _ (.int .i64 f.mate) (.int .i64 g.mate) (decide (f.mate = g.mate)) (by rw [n5]; decide) (by rw [t5, o5]; exact part_int w _ _ _ (ent5 f)) (by rw [t5, o5]; exact part_int w _ _ _ (ent5 g)) (by rw [t5]; exact eq_int w _ _ _)]
  rw [eqFields_step w _ _ _ f6 _ (.agg (sct f.bytes)) (.agg (sct g.bytes)) (decide (f.bytes = g.bytes)) (by rw [n6]; decide) (by rw [t6, o6]; exact part_bytes w T hT hs f hf) (by rw [t6, o6]; exact part_bytes w T hT hs g hg) (by rw [t6]; exact run_equalIn_u8s w d T 32 hT _ _ hf.1 hg.1 hf.2 hg.2)]
  simp only [Op.eqFields, Sem.run_pure]
  obtain ⟨k, a, b, c, e, s, t⟩ := f
  obtain ⟨k', a', b', c', e', s', t'⟩ := g
  simp only [M.En.mk.injEq]
  by_cases h1 : k = k' <;> by_cases h2 : a = a' <;> by_cases h3 : b = b' <;> by_cases h4 : c = c' <;> by_cases h5 : e = e' <;> by_cases h6 : s = s' <;> by_cases h7 : t = t' <;> simp [h1, h2, h3, h4, h5, h6, h7]
theorem eq_ent82 (f g : M.En) (hf : f.ok) (hg : g.ok) (w : World) : (Op.equalIn 10000 82 (.agg (ent f)) (.agg (ent g))).run Try.prog w = .ok (decide (f = g)) w := by
  rw [run_equalIn_agg w 9999 82 _ _ (by kernel_rfl) (by kernel_rfl)]
  exact eqFields_ent w 9997 80 Try.underlying80 (size80 w) f g hf hg _ fields82
theorem eq_ent91 (f g : M.En) (hf : f.ok) (hg : g.ok) (w : World) : (Op.equalIn 10000 91 (.agg (ent f)) (.agg (ent g))).run Try.prog w = .ok (decide (f = g)) w := by
  rw [run_equalIn_agg w 9999 91 _ _ (by kernel_rfl) (by kernel_rfl)]
  exact eqFields_ent w 9997 79 Try.underlying79 (size79 w) f g hf hg _ fields91
theorem hasB_ent {w : World} {N : Nat} {e : M.En} {t : TypeId} (h : e.ok) (hr : w.heap[N]? = some (.cells (ent e) t (0, 0))) : HasB w (some ⟨N, 6, none⟩) e.bytes :=
  ⟨h.2, .inr ⟨N, 6, rfl, fun i hi => by rw [cell_of_row _ _ _ _ _ _ hr]; exact ent_bytes e i hi⟩⟩
/-- 'load' of an array of bytes, under a guard that says yes -/
theorem wpList_load_bytesg {P : Program} {ops : Array Oper} {rest : List Oper} {o : Oper} {a : Act} {w : World} {Q : Exit → Act → World → Prop} (d : Tmp) (hdst : o.dst = some d) (hw : Region.wanted o (yielded ops a.tmps) = true) (ty : TypeId) (x : Operand) (ho : o.op = .load ty x)
    (g off : Nat) (hx : a.eval x = .pointer (some ⟨g, off, none⟩)) (s : List Nat) (de : TypeDesc) (hs : HasB w (some ⟨g, off, none⟩) s)
    (hu : P.underlying ty = some de) (hd : (match de with | .struct _ | .array _ _ => true | _ => false) = true) (hi : (P.info? ty).map (·.size) = some s.length)
    (h : wpList P ops Q rest (a.put (some d) (.agg (sct s))) w) : wpList P ops Q (o :: rest) a w := by
  refine wpList_wanted hw fun K hK => ?_
  unfold Oper.wp execOp
  simp only [ho, hx, Instr.loadAt, Instr.sureAddr, Sem.run_bind, Sem.run_pure, Result.andThen_ok, run_loadVar_bytes w g off s ty de hs hu hd hi]
  show K (a.put o.dst _) _
  rw [hdst]
  exact hK _ _ h
theorem ent_bytes_put (k a b c e s : Int) (l t : List Nat) (hb : l.length = 32) (_ : t.length = 32) : ((ent ⟨k, a, b, c, e, s, l⟩).toList.take 6 ++ (u8s t ++ (ent ⟨k, a, b, c, e, s, l⟩).toList.drop (6 + 32))).toArray = ent ⟨k, a, b, c, e, s, t⟩ := by
  have : (u8s l).length = 32 := by rw [u8s_length, hb]
  simp [ent, List.drop_eq_nil_of_le, this]
theorem ent_setb (k a b c e s : Int) (l : List Nat) (i v : Nat) : (ent ⟨k, a, b, c, e, s, l⟩).setIfInBounds (6 + i) (.int .u8 v) = ent ⟨k, a, b, c, e, s, l.set i v⟩ := by
  apply Array.ext'
  rw [show 6 + i = i + 6 by omega]
  simp [ent, u8s, List.map_set]
theorem sct_put (s : List Nat) (i v : Nat) : (sct s).setIfInBounds i (.int .u8 v) = sct (s.set i v) := by
  apply Array.ext'
  simp [sct, u8s, List.map_set]
theorem set_copyE (t p : List Nat) (m : Nat) (hl : t.length = p.length) (hm : m < p.length) : (p.take m ++ t.drop m).set m (nth p m) = p.take (m + 1) ++ t.drop (m + 1) := by
  have h1 : (p.take m).length = m := by simp; omega
  rw [List.set_append_right _ _ (by omega), h1, Nat.sub_self, List.drop_eq_getElem_cons (by omega : m < t.length), List.set_cons_zero, take_nth p m hm, List.append_assoc]
  rfl
end Go.Proofs.Ytncooadaeifekaa

/- Walks of an entry's within, counts and Right, of the reference entry's Right. -/
namespace Go.Proofs.Ytncooadaeifekaa
open Go.RowKit
theorem ewithin_calls (x a b : Int) (w : World) :
    Calls Try.prog 81 #[.int .i64 x, .int .i64 a, .int .i64 b] w fun e w' => e = .returned (.bool (decide (a ≤ x ∧ x ≤ b))) ∧ Below w.heap.size w w' := by
  by_cases h1 : a ≤ x
  · by_cases h2 : x ≤ b
    · have t1 : decide (a ≤ x) = true := by simpa using h1
      have t2 : decide (x ≤ b) = true := by simpa using h2
      have t3 : decide (a ≤ x ∧ x ≤ b) = true := by simp [h1, h2]
      rw [t3]
      clear h1 h2 t3
      go_enter Try.func81, Try.ntmps81
      go_wp2
      go_ret
      exact ⟨rfl, Below.refl _ _⟩
    · have t1 : decide (a ≤ x) = true := by simpa using h1
      have t2 : decide (x ≤ b) = false := by simpa using h2
      have t3 : decide (a ≤ x ∧ x ≤ b) = false := by simp; omega
      rw [t3]
      clear h1 h2 t3
      go_enter Try.func81, Try.ntmps81
      go_wp2
      go_ret
      exact ⟨rfl, Below.refl _ _⟩
  · have t1 : decide (a ≤ x) = false := by simpa using h1
    have t3 : decide (a ≤ x ∧ x ≤ b) = false := by simp; omega
    rw [t3]
    clear h1 t3
    go_enter Try.func81, Try.ntmps81
    go_wp2
    go_ret
    exact ⟨rfl, Below.refl _ _⟩
set_option maxRecDepth 100000 in
set_option maxHeartbeats 1000000 in
theorem counts_a1 (e : M.En) (hok : e.ok) (hk : e.kind = 1) (hw : 1 ≤ e.count ∧ e.count ≤ 4) (hm : e.many = 0) (w : World) :
    Calls Try.prog 82 #[.agg (ent e)] w fun r w' => r = .returned (.bool e.counts) ∧ Below w.heap.size w w' := by
  have hr : e.counts = true := by
    unfold M.En.counts; rw [if_pos hk, decide_eq_true ⟨hw, hm⟩]
  rw [hr]
  have q0 : (e.kind == 1) = true := by rw [hk]; rfl
  have q1 : (e.many == 0) = true := by rw [hm]; rfl
  have HOK := hid hok
  have Q1 := hid (decide_eq_true hw)
  have hW := Below.refl w.heap.size w
  clear hr hok hk hw hm
  go_enter Try.func82, Try.ntmps82
  go_wp2_with (first | ((with_reducible show wpList _ _ _ (⟨some 1, _, _, _, _, _⟩ :: _) _ _); refine wpList_boxed 1 rfl rfl 82 _ rfl (ent e) rfl ?_; intro W1 N1 hN1 hM1 hr1 hb; have hW := below_next hW hb; have c0 := cell_of_row _ N1 0 _ _ _ hr1; rw [ent0] at c0; have c1 := cell_of_row _ N1 1 _ _ _ hr1; rw [ent1] at c1; have c2 := cell_of_row _ N1 2 _ _ _ hr1; rw [ent2] at c2; have c3 := cell_of_row _ N1 3 _ _ _ hr1; rw [ent3] at c3; have c4 := cell_of_row _ N1 4 _ _ _ hr1; rw [ent4] at c4; have c5 := cell_of_row _ N1 5 _ _ _ hr1; rw [ent5] at c5) | (go_at_call 81; refine (ewithin_calls _ _ _ _).mono ?_; rintro r w2 ⟨rfl, hb⟩; have hW := below_next hW hb; have hr1 := below_blk hb hr1; have c0 := cell_of_row _ N1 0 _ _ _ hr1; rw [ent0] at c0; have c1 := cell_of_row _ N1 1 _ _ _ hr1; rw [ent1] at c1; have c2 := cell_of_row _ N1 2 _ _ _ hr1; rw [ent2] at c2; have c3 := cell_of_row _ N1 3 _ _ _ hr1; rw [ent3] at c3; have c4 := cell_of_row _ N1 4 _ _ _ hr1; rw [ent4] at c4; have c5 := cell_of_row _ N1 5 _ _ _ hr1; rw [ent5] at c5; first | rw [Q1.out]))
  go_ret
  exact ⟨rfl, hW⟩
set_option maxRecDepth 100000 in
set_option maxHeartbeats 1000000 in
theorem counts_a2 (e : M.En) (hok : e.ok) (hk : e.kind = 1) (hw : 1 ≤ e.count ∧ e.count ≤ 4) (hm : e.many ≠ 0) (w : World) :
    Calls Try.prog 82 #[.agg (ent e)] w fun r w' => r = .returned (.bool e.counts) ∧ Below w.heap.size w w' := by
  have hr : e.counts = false := by
    unfold M.En.counts; rw [if_pos hk, decide_eq_false (fun h => hm h.2)]
  rw [hr]
  have q0 : (e.kind == 1) = true := by rw [hk]; rfl
  have q1 : (e.many == 0) = false := by rw [beq_eq_false_iff_ne]; exact hm
  have HOK := hid hok
  have Q1 := hid (decide_eq_true hw)
  have hW := Below.refl w.heap.size w
  clear hr hok hk hw hm
  go_enter Try.func82, Try.ntmps82
  go_wp2_with (first | ((with_reducible show wpList _ _ _ (⟨some 1, _, _, _, _, _⟩ :: _) _ _); refine wpList_boxed 1 rfl rfl 82 _ rfl (ent e) rfl ?_; intro W1 N1 hN1 hM1 hr1 hb; have hW := below_next hW hb; have c0 := cell_of_row _ N1 0 _ _ _ hr1; rw [ent0] at c0; have c1 := cell_of_row _ N1 1 _ _ _ hr1; rw [ent1] at c1; have c2 := cell_of_row _ N1 2 _ _ _ hr1; rw [ent2] at c2; have c3 := cell_of_row _ N1 3 _ _ _ hr1; rw [ent3] at c3; have c4 := cell_of_row _ N1 4 _ _ _ hr1; rw [ent4] at c4; have c5 := cell_of_row _ N1 5 _ _ _ hr1; rw [ent5] at c5) | (go_at_call 81; refine (ewithin_calls _ _ _ _).mono ?_; rintro r w2 ⟨rfl, hb⟩; have hW := below_next hW hb; have hr1 := below_blk hb hr1; have c0 := cell_of_row _ N1 0 _ _ _ hr1; rw [ent0] at c0; have c1 := cell_of_row _ N1 1 _ _ _ hr1; rw [ent1] at c1; have c2 := cell_of_row _ N1 2 _ _ _ hr1; rw [ent2] at c2; have c3 := cell_of_row _ N1 3 _ _ _ hr1; rw [ent3] at c3; have c4 := cell_of_row _ N1 4 _ _ _ hr1; rw [ent4] at c4; have c5 := cell_of_row _ N1 5 _ _ _ hr1; rw [ent5] at c5; first | rw [Q1.out]))
  go_ret
  exact ⟨rfl, hW⟩
set_option maxRecDepth 100000 in
set_option maxHeartbeats 1000000 in
theorem counts_a3 (e : M.En) (hok : e.ok) (hk : e.kind = 1) (hw : ¬ (1 ≤ e.count ∧ e.count ≤ 4)) (w : World) :
    Calls Try.prog 82 #[.agg (ent e)] w fun r w' => r = .returned (.bool e.counts) ∧ Below w.heap.size w w' := by
  have hr : e.counts = false := by
    unfold M.En.counts; rw [if_pos hk, decide_eq_false (fun h => hw h.1)]
  rw [hr]
  have q0 : (e.kind == 1) = true := by rw [hk]; rfl
  have HOK := hid hok
  have Q1 := hid (decide_eq_false hw)
  have hW := Below.refl w.heap.size w
  clear hr hok hk hw
  go_enter Try.func82, Try.ntmps82
  go_wp2_with (first | ((with_reducible show wpList _ _ _ (⟨some 1, _, _, _, _, _⟩ :: _) _ _); refine wpList_boxed 1 rfl rfl 82 _ rfl (ent e) rfl ?_; intro W1 N1 hN1 hM1 hr1 hb; have hW := below_next hW hb; have c0 := cell_of_row _ N1 0 _ _ _ hr1; rw [ent0] at c0; have c1 := cell_of_row _ N1 1 _ _ _ hr1; rw [ent1] at c1; have c2 := cell_of_row _ N1 2 _ _ _ hr1; rw [ent2] at c2; have c3 := cell_of_row _ N1 3 _ _ _ hr1; rw [ent3] at c3; have c4 := cell_of_row _ N1 4 _ _ _ hr1; rw [ent4] at c4; have c5 := cell_of_row _ N1 5 _ _ _ hr1; rw [ent5] at c5) | (go_at_call 81; refine (ewithin_calls _ _ _ _).mono ?_; rintro r w2 ⟨rfl, hb⟩; have hW := below_next hW hb; have hr1 := below_blk hb hr1; have c0 := cell_of_row _ N1 0 _ _ _ hr1; rw [ent0] at c0; have c1 := cell_of_row _ N1 1 _ _ _ hr1; rw [ent1] at c1; have c2 := cell_of_row _ N1 2 _ _ _ hr1; rw [ent2] at c2; have c3 := cell_of_row _ N1 3 _ _ _ hr1; rw [ent3] at c3; have c4 := cell_of_row _ N1 4 _ _ _ hr1; rw [ent4] at c4; have c5 := cell_of_row _ N1 5 _ _ _ hr1; rw [ent5] at c5; first | rw [Q1.out]))
  go_ret
  exact ⟨rfl, hW⟩
set_option maxRecDepth 100000 in
set_option maxHeartbeats 1000000 in
theorem counts_b1 (e : M.En) (hok : e.ok) (hk : e.kind = 2) (hblk : 0 ≤ e.block ∧ e.block ≤ 255) (hc : e.count = 1) (hw : 1 ≤ e.many ∧ e.many ≤ 256 - e.block) (hz : e.bytes = List.replicate 32 0) (w : World) :
    Calls Try.prog 82 #[.agg (ent e)] w fun r w' => r = .returned (.bool e.counts) ∧ Below w.heap.size w w' := by
  have hr : e.counts = true := by
    unfold M.En.counts; rw [if_neg (by rw [hk]; decide), if_pos hk, decide_eq_true ⟨hc, hw, hz⟩]
  rw [hr]
  have q0 : (e.kind == 1) = false := by rw [hk]; rfl
  have q1 : (e.kind == 2) = true := by rw [hk]; rfl
  have q2 : (e.count == 1) = true := by rw [hc]; rfl
  have HOK := hid hok
  have hD1 : wrap64 (256 - e.block) = 256 - e.block := by unfold wrap64; omega
  have Q1 : Hid (decide (1 ≤ e.many ∧ e.many ≤ 256 - e.block) = true) := decide_eq_true hw
  have HQB : Hid (∀ w, (Op.equalIn 10000 80 (.agg (sct e.bytes)) (.agg (sct (List.replicate 32 0)))).run Try.prog w = .ok true w) := fun w => by rw [eq_sct 80 32 Try.underlying80 _ _ hok.1 (by simp) hok.2 (by simp), decide_eq_true hz]
  have b1 := hblk.1
  have b2 := hblk.2
  have hW := Below.refl w.heap.size w
  clear hr hok hk hblk hc hw hz
  go_enter Try.func82, Try.ntmps82
  go_wp2_with (first | ((with_reducible show wpList _ _ _ (⟨some 1, _, _, _, _, _⟩ :: _) _ _); refine wpList_boxed 1 rfl rfl 82 _ rfl (ent e) rfl ?_; intro W1 N1 hN1 hM1 hr1 hb; have hW := below_next hW hb; have c0 := cell_of_row _ N1 0 _ _ _ hr1; rw [ent0] at c0; have c1 := cell_of_row _ N1 1 _ _ _ hr1; rw [ent1] at c1; have c2 := cell_of_row _ N1 2 _ _ _ hr1; rw [ent2] at c2; have c3 := cell_of_row _ N1 3 _ _ _ hr1; rw [ent3] at c3; have c4 := cell_of_row _ N1 4 _ _ _ hr1; rw [ent4] at c4; have c5 := cell_of_row _ N1 5 _ _ _ hr1; rw [ent5] at c5) | (go_at_call 81; refine (ewithin_calls _ _ _ _).mono ?_; rintro r w2 ⟨rfl, hb⟩; have hW := below_next hW hb; have hr1 := below_blk hb hr1; have c0 := cell_of_row _ N1 0 _ _ _ hr1; rw [ent0] at c0; have c1 := cell_of_row _ N1 1 _ _ _ hr1; rw [ent1] at c1; have c2 := cell_of_row _ N1 2 _ _ _ hr1; rw [ent2] at c2; have c3 := cell_of_row _ N1 3 _ _ _ hr1; rw [ent3] at c3; have c4 := cell_of_row _ N1 4 _ _ _ hr1; rw [ent4] at c4; have c5 := cell_of_row _ N1 5 _ _ _ hr1; rw [ent5] at c5; first | rw [Q1.out]) | ((with_reducible show wpList _ _ _ (⟨some 30, _, _, _, _, _⟩ :: _) _ _); refine wpList_load_bytesg 30 rfl rfl 80 _ rfl N1 6 rfl e.bytes _ (hasB_ent HOK.out hr1) Try.underlying80 rfl (by rw [HOK.out.1]; kernel_rfl) ?_) | ((with_reducible show wpList _ _ _ (⟨some 31, _, _, _, _, _⟩ :: _) _ _); refine wpList_build_g 31 rfl rfl 80 _ rfl (sct (List.replicate 32 0)) build_zero80 ?_) | ((with_reducible show wpList _ _ _ (⟨some 32, _, _, _, _, _⟩ :: _) _ _); refine wpList_eql 32 rfl rfl 80 _ _ _ rfl (sct e.bytes) (sct (List.replicate 32 0)) rfl rfl grd80 true HQB.out ?_))
  go_ret
  exact ⟨rfl, hW⟩
set_option maxRecDepth 100000 in
set_option maxHeartbeats 1000000 in
theorem counts_b2 (e : M.En) (hok : e.ok) (hk : e.kind = 2) (hblk : 0 ≤ e.block ∧ e.block ≤ 255) (hc : e.count = 1) (hw : 1 ≤ e.many ∧ e.many ≤ 256 - e.block) (hz : ¬ e.bytes = List.replicate 32 0) (w : World) :
    Calls Try.prog 82 #[.agg (ent e)] w fun r w' => r = .returned (.bool e.counts) ∧ Below w.heap.size w w' := by
  have hr : e.counts = false := by
    unfold M.En.counts; rw [if_neg (by rw [hk]; decide), if_pos hk, decide_eq_false (fun h => hz h.2.2)]
  rw [hr]
  have q0 : (e.kind == 1) = false := by rw [hk]; rfl
  have q1 : (e.kind == 2) = true := by rw [hk]; rfl
  have q2 : (e.count == 1) = true := by rw [hc]; rfl
  have HOK := hid hok
  have hD1 : wrap64 (256 - e.block) = 256 - e.block := by unfold wrap64; omega
  have Q1 : Hid (decide (1 ≤ e.many ∧ e.many ≤ 256 - e.block) = true) := decide_eq_true hw
  have HQB : Hid (∀ w, (Op.equalIn 10000 80 (.agg (sct e.bytes)) (.agg (sct (List.replicate 32 0)))).run Try.prog w = .ok false w) := fun w => by rw [eq_sct 80 32 Try.underlying80 _ _ hok.1 (by simp) hok.2 (by simp), decide_eq_false hz]
  have b1 := hblk.1
  have b2 := hblk.2
  have hW := Below.refl w.heap.size w
  clear hr hok hk hblk hc hw hz
  go_enter Try.func82, Try.ntmps82
  go_wp2_with (first | ((with_reducible show wpList _ _ _ (⟨some 1, _, _, _, _, _⟩ :: _) _ _); refine wpList_boxed 1 rfl rfl 82 _ rfl (ent e) rfl ?_; intro W1 N1 hN1 hM1 hr1 hb; have hW := below_next hW hb; have c0 := cell_of_row _ N1 0 _ _ _ hr1; rw [ent0] at c0; have c1 := cell_of_row _ N1 1 _ _ _ hr1; rw [ent1] at c1; have c2 := cell_of_row _ N1 2 _ _ _ hr1; rw [ent2] at c2; have c3 := cell_of_row _ N1 3 _ _ _ hr1; rw [ent3] at c3; have c4 := cell_of_row _ N1 4 _ _ _ hr1; rw [ent4] at c4; have c5 := cell_of_row _ N1 5 _ _ _ hr1; rw [ent5] at c5) | (go_at_call 81; refine (ewithin_calls _ _ _ _).mono ?_; rintro r w2 ⟨rfl, hb⟩; have hW := below_next hW hb; have hr1 := below_blk hb hr1; have c0 := cell_of_row _ N1 0 _ _ _ hr1; rw [ent0] at c0; have c1 := cell_of_row _ N1 1 _ _ _ hr1; rw [ent1] at c1; have c2 := cell_of_row _ N1 2 _ _ _ hr1; rw [ent2] at c2; have c3 := cell_of_row _ N1 3 _ _ _ hr1; rw [ent3] at c3; have c4 := cell_of_row _ N1 4 _ _ _ hr1; rw [ent4] at c4; have c5 := cell_of_row _ N1 5 _ _ _ hr1; rw [ent5] at c5; first | rw [Q1.out]) | ((with_reducible show wpList _ _ _ (⟨some 30, _, _, _, _, _⟩ :: _) _ _); refine wpList_load_bytesg 30 rfl rfl 80 _ rfl N1 6 rfl e.bytes _ (hasB_ent HOK.out hr1) Try.underlying80 rfl (by rw [HOK.out.1]; kernel_rfl) ?_) | ((with_reducible show wpList _ _ _ (⟨some 31, _, _, _, _, _⟩ :: _) _ _); refine wpList_build_g 31 rfl rfl 80 _ rfl (sct (List.replicate 32 0)) build_zero80 ?_) | ((with_reducible show wpList _ _ _ (⟨some 32, _, _, _, _, _⟩ :: _) _ _); refine wpList_eql 32 rfl rfl 80 _ _ _ rfl (sct e.bytes) (sct (List.replicate 32 0)) rfl rfl grd80 false HQB.out ?_))
  go_ret
  exact ⟨rfl, hW⟩
set_option maxRecDepth 100000 in
set_option maxHeartbeats 1000000 in
theorem counts_b3 (e : M.En) (hok : e.ok) (hk : e.kind = 2) (hblk : 0 ≤ e.block ∧ e.block ≤ 255) (hc : e.count = 1) (hw : ¬ (1 ≤ e.many ∧ e.many ≤ 256 - e.block)) (w : World) :
    Calls Try.prog 82 #[.agg (ent e)] w fun r w' => r = .returned (.bool e.counts) ∧ Below w.heap.size w w' := by
  have hr : e.counts = false := by
    unfold M.En.counts; rw [if_neg (by rw [hk]; decide), if_pos hk, decide_eq_false (fun h => hw h.2.1)]
  rw [hr]
  have q0 : (e.kind == 1) = false := by rw [hk]; rfl
  have q1 : (e.kind == 2) = true := by rw [hk]; rfl
  have q2 : (e.count == 1) = true := by rw [hc]; rfl
  have HOK := hid hok
  have hD1 : wrap64 (256 - e.block) = 256 - e.block := by unfold wrap64; omega
  have Q1 : Hid (decide (1 ≤ e.many ∧ e.many ≤ 256 - e.block) = false) := decide_eq_false hw
  have b1 := hblk.1
  have b2 := hblk.2
  have hW := Below.refl w.heap.size w
  clear hr hok hk hblk hc hw
  go_enter Try.func82, Try.ntmps82
  go_wp2_with (first | ((with_reducible show wpList _ _ _ (⟨some 1, _, _, _, _, _⟩ :: _) _ _); refine wpList_boxed 1 rfl rfl 82 _ rfl (ent e) rfl ?_; intro W1 N1 hN1 hM1 hr1 hb; have hW := below_next hW hb; have c0 := cell_of_row _ N1 0 _ _ _ hr1; rw [ent0] at c0; have c1 := cell_of_row _ N1 1 _ _ _ hr1; rw [ent1] at c1; have c2 := cell_of_row _ N1 2 _ _ _ hr1; rw [ent2] at c2; have c3 := cell_of_row _ N1 3 _ _ _ hr1; rw [ent3] at c3; have c4 := cell_of_row _ N1 4 _ _ _ hr1; rw [ent4] at c4; have c5 := cell_of_row _ N1 5 _ _ _ hr1; rw [ent5] at c5) | (go_at_call 81; refine (ewithin_calls _ _ _ _).mono ?_; rintro r w2 ⟨rfl, hb⟩; have hW := below_next hW hb; have hr1 := below_blk hb hr1; have c0 := cell_of_row _ N1 0 _ _ _ hr1; rw [ent0] at c0; have c1 := cell_of_row _ N1 1 _ _ _ hr1; rw [ent1] at c1; have c2 := cell_of_row _ N1 2 _ _ _ hr1; rw [ent2] at c2; have c3 := cell_of_row _ N1 3 _ _ _ hr1; rw [ent3] at c3; have c4 := cell_of_row _ N1 4 _ _ _ hr1; rw [ent4] at c4; have c5 := cell_of_row _ N1 5 _ _ _ hr1; rw [ent5] at c5; first | rw [Q1.out]))
  go_ret
  exact ⟨rfl, hW⟩
set_option maxRecDepth 100000 in
set_option maxHeartbeats 1000000 in
theorem counts_b4 (e : M.En) (hok : e.ok) (hk : e.kind = 2) (hc : e.count ≠ 1) (w : World) :
    Calls Try.prog 82 #[.agg (ent e)] w fun r w' => r = .returned (.bool e.counts) ∧ Below w.heap.size w w' := by
  have hr : e.counts = false := by
    unfold M.En.counts; rw [if_neg (by rw [hk]; decide), if_pos hk, decide_eq_false (fun h => hc h.1)]
  rw [hr]
  have q0 : (e.kind == 1) = false := by rw [hk]; rfl
  have q1 : (e.kind == 2) = true := by rw [hk]; rfl
  have q2 : (e.count == 1) = false := by rw [beq_eq_false_iff_ne]; exact hc
  have HOK := hid hok
  have hW := Below.refl w.heap.size w
  clear hr hok hk hc
  go_enter Try.func82, Try.ntmps82
  go_wp2_with (first | ((with_reducible show wpList _ _ _ (⟨some 1, _, _, _, _, _⟩ :: _) _ _); refine wpList_boxed 1 rfl rfl 82 _ rfl (ent e) rfl ?_; intro W1 N1 hN1 hM1 hr1 hb; have hW := below_next hW hb; have c0 := cell_of_row _ N1 0 _ _ _ hr1; rw [ent0] at c0; have c1 := cell_of_row _ N1 1 _ _ _ hr1; rw [ent1] at c1; have c2 := cell_of_row _ N1 2 _ _ _ hr1; rw [ent2] at c2; have c3 := cell_of_row _ N1 3 _ _ _ hr1; rw [ent3] at c3; have c4 := cell_of_row _ N1 4 _ _ _ hr1; rw [ent4] at c4; have c5 := cell_of_row _ N1 5 _ _ _ hr1; rw [ent5] at c5))
  go_ret
  exact ⟨rfl, hW⟩
set_option maxRecDepth 100000 in
set_option maxHeartbeats 1000000 in
theorem counts_c1 (e : M.En) (hok : e.ok) (hk : e.kind = 3) (hc : e.count = 1) (hm : e.many = 0) (w : World) :
    Calls Try.prog 82 #[.agg (ent e)] w fun r w' => r = .returned (.bool e.counts) ∧ Below w.heap.size w w' := by
  have hr : e.counts = true := by
    unfold M.En.counts; rw [if_neg (by rw [hk]; decide), if_neg (by rw [hk]; decide), if_pos hk, decide_eq_true ⟨hc, hm⟩]
  rw [hr]
  have q0 : (e.kind == 1) = false := by rw [hk]; rfl
  have q1 : (e.kind == 2) = false := by rw [hk]; rfl
  have q2 : (e.kind == 3) = true := by rw [hk]; rfl
  have q3 : (e.count == 1) = true := by rw [hc]; rfl
  have q4 : (e.many == 0) = true := by rw [hm]; rfl
  have HOK := hid hok
  have hW := Below.refl w.heap.size w
  clear hr hok hk hc hm
  go_enter Try.func82, Try.ntmps82
  go_wp2_with (first | ((with_reducible show wpList _ _ _ (⟨some 1, _, _, _, _, _⟩ :: _) _ _); refine wpList_boxed 1 rfl rfl 82 _ rfl (ent e) rfl ?_; intro W1 N1 hN1 hM1 hr1 hb; have hW := below_next hW hb; have c0 := cell_of_row _ N1 0 _ _ _ hr1; rw [ent0] at c0; have c1 := cell_of_row _ N1 1 _ _ _ hr1; rw [ent1] at c1; have c2 := cell_of_row _ N1 2 _ _ _ hr1; rw [ent2] at c2; have c3 := cell_of_row _ N1 3 _ _ _ hr1; rw [ent3] at c3; have c4 := cell_of_row _ N1 4 _ _ _ hr1; rw [ent4] at c4; have c5 := cell_of_row _ N1 5 _ _ _ hr1; rw [ent5] at c5))
  go_ret
  exact ⟨rfl, hW⟩
set_option maxRecDepth 100000 in
set_option maxHeartbeats 1000000 in
theorem counts_c2 (e : M.En) (hok : e.ok) (hk : e.kind = 3) (hc : e.count = 1) (hm : e.many ≠ 0) (w : World) :
    Calls Try.prog 82 #[.agg (ent e)] w fun r w' => r = .returned (.bool e.counts) ∧ Below w.heap.size w w' := by
  have hr : e.counts = false := by
    unfold M.En.counts; rw [if_neg (by rw [hk]; decide), if_neg (by rw [hk]; decide), if_pos hk, decide_eq_false (fun h => hm h.2)]
  rw [hr]
  have q0 : (e.kind == 1) = false := by rw [hk]; rfl
  have q1 : (e.kind == 2) = false := by rw [hk]; rfl
  have q2 : (e.kind == 3) = true := by rw [hk]; rfl
  have q3 : (e.count == 1) = true := by rw [hc]; rfl
  have q4 : (e.many == 0) = false := by rw [beq_eq_false_iff_ne]; exact hm
  have HOK := hid hok
  have hW := Below.refl w.heap.size w
  clear hr hok hk hc hm
  go_enter Try.func82, Try.ntmps82
  go_wp2_with (first | ((with_reducible show wpList _ _ _ (⟨some 1, _, _, _, _, _⟩ :: _) _ _); refine wpList_boxed 1 rfl rfl 82 _ rfl (ent e) rfl ?_; intro W1 N1 hN1 hM1 hr1 hb; have hW := below_next hW hb; have c0 := cell_of_row _ N1 0 _ _ _ hr1; rw [ent0] at c0; have c1 := cell_of_row _ N1 1 _ _ _ hr1; rw [ent1] at c1; have c2 := cell_of_row _ N1 2 _ _ _ hr1; rw [ent2] at c2; have c3 := cell_of_row _ N1 3 _ _ _ hr1; rw [ent3] at c3; have c4 := cell_of_row _ N1 4 _ _ _ hr1; rw [ent4] at c4; have c5 := cell_of_row _ N1 5 _ _ _ hr1; rw [ent5] at c5))
  go_ret
  exact ⟨rfl, hW⟩
set_option maxRecDepth 100000 in
set_option maxHeartbeats 1000000 in
theorem counts_c3 (e : M.En) (hok : e.ok) (hk : e.kind = 3) (hc : e.count ≠ 1) (w : World) :
    Calls Try.prog 82 #[.agg (ent e)] w fun r w' => r = .returned (.bool e.counts) ∧ Below w.heap.size w w' := by
  have hr : e.counts = false := by
    unfold M.En.counts; rw [if_neg (by rw [hk]; decide), if_neg (by rw [hk]; decide), if_pos hk, decide_eq_false (fun h => hc h.1)]
  rw [hr]
  have q0 : (e.kind == 1) = false := by rw [hk]; rfl
  have q1 : (e.kind == 2) = false := by rw [hk]; rfl
  have q2 : (e.kind == 3) = true := by rw [hk]; rfl
  have q3 : (e.count == 1) = false := by rw [beq_eq_false_iff_ne]; exact hc
  have HOK := hid hok
  have hW := Below.refl w.heap.size w
  clear hr hok hk hc
  go_enter Try.func82, Try.ntmps82
  go_wp2_with (first | ((with_reducible show wpList _ _ _ (⟨some 1, _, _, _, _, _⟩ :: _) _ _); refine wpList_boxed 1 rfl rfl 82 _ rfl (ent e) rfl ?_; intro W1 N1 hN1 hM1 hr1 hb; have hW := below_next hW hb; have c0 := cell_of_row _ N1 0 _ _ _ hr1; rw [ent0] at c0; have c1 := cell_of_row _ N1 1 _ _ _ hr1; rw [ent1] at c1; have c2 := cell_of_row _ N1 2 _ _ _ hr1; rw [ent2] at c2; have c3 := cell_of_row _ N1 3 _ _ _ hr1; rw [ent3] at c3; have c4 := cell_of_row _ N1 4 _ _ _ hr1; rw [ent4] at c4; have c5 := cell_of_row _ N1 5 _ _ _ hr1; rw [ent5] at c5))
  go_ret
  exact ⟨rfl, hW⟩
set_option maxRecDepth 100000 in
set_option maxHeartbeats 1000000 in
theorem counts_d (e : M.En) (hok : e.ok) (h1 : e.kind ≠ 1) (h2 : e.kind ≠ 2) (h3 : e.kind ≠ 3) (w : World) :
    Calls Try.prog 82 #[.agg (ent e)] w fun r w' => r = .returned (.bool e.counts) ∧ Below w.heap.size w w' := by
  have hr : e.counts = false := by
    unfold M.En.counts; rw [if_neg h1, if_neg h2, if_neg h3]
  rw [hr]
  have q0 : (e.kind == 1) = false := by rw [beq_eq_false_iff_ne]; exact h1
  have q1 : (e.kind == 2) = false := by rw [beq_eq_false_iff_ne]; exact h2
  have q2 : (e.kind == 3) = false := by rw [beq_eq_false_iff_ne]; exact h3
  have HOK := hid hok
  have hW := Below.refl w.heap.size w
  clear hr hok h1 h2 h3
  go_enter Try.func82, Try.ntmps82
  go_wp2_with (first | ((with_reducible show wpList _ _ _ (⟨some 1, _, _, _, _, _⟩ :: _) _ _); refine wpList_boxed 1 rfl rfl 82 _ rfl (ent e) rfl ?_; intro W1 N1 hN1 hM1 hr1 hb; have hW := below_next hW hb; have c0 := cell_of_row _ N1 0 _ _ _ hr1; rw [ent0] at c0; have c1 := cell_of_row _ N1 1 _ _ _ hr1; rw [ent1] at c1; have c2 := cell_of_row _ N1 2 _ _ _ hr1; rw [ent2] at c2; have c3 := cell_of_row _ N1 3 _ _ _ hr1; rw [ent3] at c3; have c4 := cell_of_row _ N1 4 _ _ _ hr1; rw [ent4] at c4; have c5 := cell_of_row _ N1 5 _ _ _ hr1; rw [ent5] at c5))
  go_ret
  exact ⟨rfl, hW⟩
theorem counts_calls (e : M.En) (hok : e.ok) (hb : 0 ≤ e.block ∧ e.block ≤ 255) (w : World) :
    Calls Try.prog 82 #[.agg (ent e)] w fun r w' => r = .returned (.bool e.counts) ∧ Below w.heap.size w w' := by
  by_cases h1 : e.kind = 1
  · by_cases hw : 1 ≤ e.count ∧ e.count ≤ 4
    · by_cases hm : e.many = 0
      · exact counts_a1 e hok h1 hw hm w
      · exact counts_a2 e hok h1 hw hm w
    · exact counts_a3 e hok h1 hw w
  · by_cases h2 : e.kind = 2
    · by_cases hc : e.count = 1
      · by_cases hw : 1 ≤ e.many ∧ e.many ≤ 256 - e.block
        · by_cases hz : e.bytes = List.replicate 32 0
          · exact counts_b1 e hok h2 hb hc hw hz w
          · exact counts_b2 e hok h2 hb hc hw hz w
        · exact counts_b3 e hok h2 hb hc hw w
      · exact counts_b4 e hok h2 hc w
    · by_cases h3 : e.kind = 3
      · by_cases hc : e.count = 1
        · by_cases hm : e.many = 0
          · exact counts_c1 e hok h3 hc hm w
          · exact counts_c2 e hok h3 hc hm w
        · exact counts_c3 e hok h3 hc w
      · exact counts_d e hok h1 h2 h3 w
set_option maxRecDepth 100000 in
set_option maxHeartbeats 1000000 in
theorem eright_0 (e : M.En) (hok : e.ok) (p0 : ¬ (0 ≤ e.first ∧ e.first ≤ 281474976710655)) (w : World) :
    Calls Try.prog 62 #[.agg (ent e)] w fun r w' => r = .returned (.bool e.right) ∧ Below w.heap.size w w' := by
  have hr : e.right = false := by
    unfold M.En.right; rw [decide_eq_false (fun h => p0 h.1)]; rfl
  rw [hr]
  have HOK := hid hok
  have Q0 := hid (decide_eq_false p0)
  have hW := Below.refl w.heap.size w
  clear hr hok p0
  go_enter Try.func62, Try.ntmps62
  go_wp2_with (first | ((with_reducible show wpList _ _ _ (⟨some 1, _, _, _, _, _⟩ :: _) _ _); refine wpList_boxed 1 rfl rfl 82 _ rfl (ent e) rfl ?_; intro W1 N1 hN1 hM1 hr1 hb; have hW := below_next hW hb; have c0 := cell_of_row _ N1 0 _ _ _ hr1; rw [ent0] at c0; have c1 := cell_of_row _ N1 1 _ _ _ hr1; rw [ent1] at c1; have c2 := cell_of_row _ N1 2 _ _ _ hr1; rw [ent2] at c2; have c3 := cell_of_row _ N1 3 _ _ _ hr1; rw [ent3] at c3; have c4 := cell_of_row _ N1 4 _ _ _ hr1; rw [ent4] at c4; have c5 := cell_of_row _ N1 5 _ _ _ hr1; rw [ent5] at c5) | (go_at_call 81; refine (ewithin_calls _ _ _ _).mono ?_; rintro r w2 ⟨rfl, hb⟩; have hW := below_next hW hb; have hr1 := below_blk hb hr1; have c0 := cell_of_row _ N1 0 _ _ _ hr1; rw [ent0] at c0; have c1 := cell_of_row _ N1 1 _ _ _ hr1; rw [ent1] at c1; have c2 := cell_of_row _ N1 2 _ _ _ hr1; rw [ent2] at c2; have c3 := cell_of_row _ N1 3 _ _ _ hr1; rw [ent3] at c3; have c4 := cell_of_row _ N1 4 _ _ _ hr1; rw [ent4] at c4; have c5 := cell_of_row _ N1 5 _ _ _ hr1; rw [ent5] at c5; first | rw [Q0.out]))
  go_ret
  exact ⟨rfl, hW⟩
set_option maxRecDepth 100000 in
set_option maxHeartbeats 1000000 in
theorem eright_1 (e : M.En) (hok : e.ok) (p0 : 0 ≤ e.first ∧ e.first ≤ 281474976710655) (p1 : ¬ (0 ≤ e.block ∧ e.block ≤ 255)) (w : World) :
    Calls Try.prog 62 #[.agg (ent e)] w fun r w' => r = .returned (.bool e.right) ∧ Below w.heap.size w w' := by
  have hr : e.right = false := by
    unfold M.En.right; rw [decide_eq_false (fun h => p1 h.2.1)]; rfl
  rw [hr]
  have HOK := hid hok
  have Q0 := hid (decide_eq_true p0)
  have Q1 := hid (decide_eq_false p1)
  have hW := Below.refl w.heap.size w
  clear hr hok p0 p1
  go_enter Try.func62, Try.ntmps62
  go_wp2_with (first | ((with_reducible show wpList _ _ _ (⟨some 1, _, _, _, _, _⟩ :: _) _ _); refine wpList_boxed 1 rfl rfl 82 _ rfl (ent e) rfl ?_; intro W1 N1 hN1 hM1 hr1 hb; have hW := below_next hW hb; have c0 := cell_of_row _ N1 0 _ _ _ hr1; rw [ent0] at c0; have c1 := cell_of_row _ N1 1 _ _ _ hr1; rw [ent1] at c1; have c2 := cell_of_row _ N1 2 _ _ _ hr1; rw [ent2] at c2; have c3 := cell_of_row _ N1 3 _ _ _ hr1; rw [ent3] at c3; have c4 := cell_of_row _ N1 4 _ _ _ hr1; rw [ent4] at c4; have c5 := cell_of_row _ N1 5 _ _ _ hr1; rw [ent5] at c5) | (go_at_call 81; refine (ewithin_calls _ _ _ _).mono ?_; rintro r w2 ⟨rfl, hb⟩; have hW := below_next hW hb; have hr1 := below_blk hb hr1; have c0 := cell_of_row _ N1 0 _ _ _ hr1; rw [ent0] at c0; have c1 := cell_of_row _ N1 1 _ _ _ hr1; rw [ent1] at c1; have c2 := cell_of_row _ N1 2 _ _ _ hr1; rw [ent2] at c2; have c3 := cell_of_row _ N1 3 _ _ _ hr1; rw [ent3] at c3; have c4 := cell_of_row _ N1 4 _ _ _ hr1; rw [ent4] at c4; have c5 := cell_of_row _ N1 5 _ _ _ hr1; rw [ent5] at c5; first | rw [Q0.out] | rw [Q1.out]))
  go_ret
  exact ⟨rfl, hW⟩
set_option maxRecDepth 100000 in
set_option maxHeartbeats 1000000 in
theorem eright_2 (e : M.En) (hok : e.ok) (p0 : 0 ≤ e.first ∧ e.first ≤ 281474976710655) (p1 : 0 ≤ e.block ∧ e.block ≤ 255) (p2 : ¬ (0 ≤ e.mate ∧ e.mate ≤ 65535)) (w : World) :
    Calls Try.prog 62 #[.agg (ent e)] w fun r w' => r = .returned (.bool e.right) ∧ Below w.heap.size w w' := by
  have hr : e.right = false := by
    unfold M.En.right; rw [decide_eq_false (fun h => p2 h.2.2)]; rfl
  rw [hr]
  have HOK := hid hok
  have Q0 := hid (decide_eq_true p0)
  have Q1 := hid (decide_eq_true p1)
  have Q2 := hid (decide_eq_false p2)
  have hW := Below.refl w.heap.size w
  clear hr hok p0 p1 p2
  go_enter Try.func62, Try.ntmps62
  go_wp2_with (first | ((with_reducible show wpList _ _ _ (⟨some 1, _, _, _, _, _⟩ :: _) _ _); refine wpList_boxed 1 rfl rfl 82 _ rfl (ent e) rfl ?_; intro W1 N1 hN1 hM1 hr1 hb; have hW := below_next hW hb; have c0 := cell_of_row _ N1 0 _ _ _ hr1; rw [ent0] at c0; have c1 := cell_of_row _ N1 1 _ _ _ hr1; rw [ent1] at c1; have c2 := cell_of_row _ N1 2 _ _ _ hr1; rw [ent2] at c2; have c3 := cell_of_row _ N1 3 _ _ _ hr1; rw [ent3] at c3; have c4 := cell_of_row _ N1 4 _ _ _ hr1; rw [ent4] at c4; have c5 := cell_of_row _ N1 5 _ _ _ hr1; rw [ent5] at c5) | (go_at_call 81; refine (ewithin_calls _ _ _ _).mono ?_; rintro r w2 ⟨rfl, hb⟩; have hW := below_next hW hb; have hr1 := below_blk hb hr1; have c0 := cell_of_row _ N1 0 _ _ _ hr1; rw [ent0] at c0; have c1 := cell_of_row _ N1 1 _ _ _ hr1; rw [ent1] at c1; have c2 := cell_of_row _ N1 2 _ _ _ hr1; rw [ent2] at c2; have c3 := cell_of_row _ N1 3 _ _ _ hr1; rw [ent3] at c3; have c4 := cell_of_row _ N1 4 _ _ _ hr1; rw [ent4] at c4; have c5 := cell_of_row _ N1 5 _ _ _ hr1; rw [ent5] at c5; first | rw [Q0.out] | rw [Q1.out] | rw [Q2.out]))
  go_ret
  exact ⟨rfl, hW⟩
set_option maxRecDepth 100000 in
set_option maxHeartbeats 1000000 in
theorem eright_true (e : M.En) (hok : e.ok) (p0 : 0 ≤ e.first ∧ e.first ≤ 281474976710655) (p1 : 0 ≤ e.block ∧ e.block ≤ 255) (p2 : 0 ≤ e.mate ∧ e.mate ≤ 65535) (hc : e.counts = true) (w : World) :
    Calls Try.prog 62 #[.agg (ent e)] w fun r w' => r = .returned (.bool e.right) ∧ Below w.heap.size w w' := by
  have hr : e.right = true := by
    unfold M.En.right; rw [decide_eq_true ⟨p0, p1, p2⟩, hc]; rfl
  rw [hr]
  have HOK := hid hok
  have Q0 := hid (decide_eq_true p0)
  have Q1 := hid (decide_eq_true p1)
  have Q2 := hid (decide_eq_true p2)
  have HBL := hid p1
  have HC := hid hc
  have hW := Below.refl w.heap.size w
  clear hr hok p0 p1 p2 hc
  go_enter Try.func62, Try.ntmps62
  go_wp2_with (first | ((with_reducible show wpList _ _ _ (⟨some 1, _, _, _, _, _⟩ :: _) _ _); refine wpList_boxed 1 rfl rfl 82 _ rfl (ent e) rfl ?_; intro W1 N1 hN1 hM1 hr1 hb; have hW := below_next hW hb; have c0 := cell_of_row _ N1 0 _ _ _ hr1; rw [ent0] at c0; have c1 := cell_of_row _ N1 1 _ _ _ hr1; rw [ent1] at c1; have c2 := cell_of_row _ N1 2 _ _ _ hr1; rw [ent2] at c2; have c3 := cell_of_row _ N1 3 _ _ _ hr1; rw [ent3] at c3; have c4 := cell_of_row _ N1 4 _ _ _ hr1; rw [ent4] at c4; have c5 := cell_of_row _ N1 5 _ _ _ hr1; rw [ent5] at c5) | (go_at_call 81; refine (ewithin_calls _ _ _ _).mono ?_; rintro r w2 ⟨rfl, hb⟩; have hW := below_next hW hb; have hr1 := below_blk hb hr1; have c0 := cell_of_row _ N1 0 _ _ _ hr1; rw [ent0] at c0; have c1 := cell_of_row _ N1 1 _ _ _ hr1; rw [ent1] at c1; have c2 := cell_of_row _ N1 2 _ _ _ hr1; rw [ent2] at c2; have c3 := cell_of_row _ N1 3 _ _ _ hr1; rw [ent3] at c3; have c4 := cell_of_row _ N1 4 _ _ _ hr1; rw [ent4] at c4; have c5 := cell_of_row _ N1 5 _ _ _ hr1; rw [ent5] at c5; first | rw [Q0.out] | rw [Q1.out] | rw [Q2.out]) | ((with_reducible show wpList _ _ _ (⟨some 17, _, _, _, _, _⟩ :: _) _ _); refine wpList_load_rowg 17 rfl rfl 82 _ rfl N1 rfl _ (ent e) (0, 0) _ hr1 Try.underlying82 rfl (ty82 _ HOK.out).size ?_) | (go_at_call 82; refine (counts_calls e HOK.out HBL.out _).mono ?_; rintro r w3 ⟨rfl, hb⟩; have hW := below_next hW hb; rw [HC.out]))
  go_ret
  exact ⟨rfl, hW⟩
set_option maxRecDepth 100000 in
set_option maxHeartbeats 1000000 in
theorem eright_false (e : M.En) (hok : e.ok) (p0 : 0 ≤ e.first ∧ e.first ≤ 281474976710655) (p1 : 0 ≤ e.block ∧ e.block ≤ 255) (p2 : 0 ≤ e.mate ∧ e.mate ≤ 65535) (hc : e.counts = false) (w : World) :
    Calls Try.prog 62 #[.agg (ent e)] w fun r w' => r = .returned (.bool e.right) ∧ Below w.heap.size w w' := by
  have hr : e.right = false := by
    unfold M.En.right; rw [decide_eq_true ⟨p0, p1, p2⟩, hc]; rfl
  rw [hr]
  have HOK := hid hok
  have Q0 := hid (decide_eq_true p0)
  have Q1 := hid (decide_eq_true p1)
  have Q2 := hid (decide_eq_true p2)
  have HBL := hid p1
  have HC := hid hc
  have hW := Below.refl w.heap.size w
  clear hr hok p0 p1 p2 hc
  go_enter Try.func62, Try.ntmps62
  go_wp2_with (first | ((with_reducible show wpList _ _ _ (⟨some 1, _, _, _, _, _⟩ :: _) _ _); refine wpList_boxed 1 rfl rfl 82 _ rfl (ent e) rfl ?_; intro W1 N1 hN1 hM1 hr1 hb; have hW := below_next hW hb; have c0 := cell_of_row _ N1 0 _ _ _ hr1; rw [ent0] at c0; have c1 := cell_of_row _ N1 1 _ _ _ hr1; rw [ent1] at c1; have c2 := cell_of_row _ N1 2 _ _ _ hr1; rw [ent2] at c2; have c3 := cell_of_row _ N1 3 _ _ _ hr1; rw [ent3] at c3; have c4 := cell_of_row _ N1 4 _ _ _ hr1; rw [ent4] at c4; have c5 := cell_of_row _ N1 5 _ _ _ hr1; rw [ent5] at c5) | (go_at_call 81; refine (ewithin_calls _ _ _ _).mono ?_; rintro r w2 ⟨rfl, hb⟩; have hW := below_next hW hb; have hr1 := below_blk hb hr1; have c0 := cell_of_row _ N1 0 _ _ _ hr1; rw [ent0] at c0; have c1 := cell_of_row _ N1 1 _ _ _ hr1; rw [ent1] at c1; have c2 := cell_of_row _ N1 2 _ _ _ hr1; rw [ent2] at c2; have c3 := cell_of_row _ N1 3 _ _ _ hr1; rw [ent3] at c3; have c4 := cell_of_row _ N1 4 _ _ _ hr1; rw [ent4] at c4; have c5 := cell_of_row _ N1 5 _ _ _ hr1; rw [ent5] at c5; first | rw [Q0.out] | rw [Q1.out] | rw [Q2.out]) | ((with_reducible show wpList _ _ _ (⟨some 17, _, _, _, _, _⟩ :: _) _ _); refine wpList_load_rowg 17 rfl rfl 82 _ rfl N1 rfl _ (ent e) (0, 0) _ hr1 Try.underlying82 rfl (ty82 _ HOK.out).size ?_) | (go_at_call 82; refine (counts_calls e HOK.out HBL.out _).mono ?_; rintro r w3 ⟨rfl, hb⟩; have hW := below_next hW hb; rw [HC.out]))
  go_ret
  exact ⟨rfl, hW⟩
theorem eright_calls (e : M.En) (hok : e.ok) (w : World) :
    Calls Try.prog 62 #[.agg (ent e)] w fun r w' => r = .returned (.bool e.right) ∧ Below w.heap.size w w' := by
  by_cases p0 : 0 ≤ e.first ∧ e.first ≤ 281474976710655
  · by_cases p1 : 0 ≤ e.block ∧ e.block ≤ 255
    · by_cases p2 : 0 ≤ e.mate ∧ e.mate ≤ 65535
      · by_cases hc : e.counts = true
        · exact eright_true e hok p0 p1 p2 hc w
        · exact eright_false e hok p0 p1 p2 (by simpa using hc) w
      · exact eright_2 e hok p0 p1 p2 w
    · exact eright_1 e hok p0 p1 w
  · exact eright_0 e hok p0 w
end Go.Proofs.Ytncooadaeifekaa

/- Walk of an entry's Body. -/
namespace Go.Proofs.Ytncooadaeifekaa
open Go.RowKit
theorem eright_b (e : M.En) (b : Bool) (hok : e.ok) (h : e.right = b) (w : World) : Calls Try.prog 62 #[.agg (ent e)] w fun r w' => r = .returned (.bool b) ∧ Below w.heap.size w w' := by subst h; exact eright_calls e hok w
set_option maxRecDepth 100000 in
set_option maxHeartbeats 800000 in
theorem body_wrong (e : M.En) (hok : e.ok) (hr : e.right = false) (w : World) :
    Calls Try.prog 61 #[.agg (ent e)] w fun r w' => r = .returned (.tuple #[.agg (sct (List.replicate 44 0)), .int .i64 10]) ∧ Below w.heap.size w w' := by
  have HOK := hid hok
  have HR := hid hr
  clear hok hr
  have hW := Below.refl w.heap.size w
  go_enter Try.func61, Try.ntmps61
  go_wp2_with (first | ((with_reducible show wpList _ _ _ (⟨some 1, _, _, _, _, _⟩ :: _) _ _); refine wpList_boxed 1 rfl rfl 82 _ rfl (ent e) rfl ?_; intro W1 N1 hNN1 hMN1 hr1 hb; have sW1 := hb.size; have hW := below_next hW hb) | ((with_reducible show wpList _ _ _ (⟨some 2, _, _, _, _, _⟩ :: _) _ _); refine wpList_zeroed 2 rfl rfl 39 rfl _ zero39 ?_; intro W2 N2 hN2 hM2 hr2 hb; have sW2 := hb.size; have hW := below_next hW hb; have hr1 := below_blk hb hr1) | ((with_reducible show wpList _ _ _ (⟨some 4, _, _, _, _, _⟩ :: _) _ _); refine wpList_zeroed 4 rfl rfl 39 rfl _ zero39 ?_; intro W4 N4 hN4 hM4 hr4 hb; have sW4 := hb.size; have hW := below_next hW hb; have hr1 := below_blk hb hr1; have hr2 := below_blk hb hr2) | ((with_reducible show wpList _ _ _ (⟨some 8, _, _, _, _, _⟩ :: _) _ _); refine wpList_load_rowg 8 rfl rfl 82 _ rfl N1 rfl _ (ent e) (0, 0) _ hr1 Try.underlying82 rfl (ty82 _ HOK.out).size ?_) | (go_at_call 62; refine (eright_b e _ HOK.out HR.out _).mono ?_; rintro e w9 ⟨rfl, hb⟩; have sw9 := hb.size; have hW := below_next hW hb; have hr1 := below_blk hb hr1; have hr2 := below_blk hb hr2; have hr4 := below_blk hb hr4) | ((with_reducible show wpList _ _ _ (⟨some 11, _, _, _, _, _⟩ :: _) _ _); refine wpList_load_rowg 11 rfl rfl 39 _ rfl N4 rfl _ (sct (List.replicate 44 0)) (0, 0) _ hr4 Try.underlying39 rfl (ty39 _ (by simp)).size ?_) | ((with_reducible show wpList _ _ _ (⟨none, _, _, _, _, _⟩ :: _) _ _); refine wpList_store_agg rfl rfl 39 _ _ rfl N2 (sct (List.replicate 44 0)) rfl rfl 39 _ hr2 (ty39 _ (by simp)) rfl (sct_all _) ?_; intro Z2 hrZ htZ))
  refine ret_cell 2 3 39 rfl rfl N2 rfl 39 _ (0, 0) _ hrZ Try.underlying39 rfl (ty39 _ (by simp)).size _ rfl ⟨rfl, below_turned hW htZ (fun k hk => by subst hk; omega)⟩
theorem penNumI (N k : Nat) (x : Int) (hk : M.fits k x = true) (w : World) (v : Value) (l : List Nat) (bad : Bool) (hp : PenB w N v l bad) (hl : l.length ≤ 900000) :
    Calls Try.prog 55 #[.pointer (some ⟨N, 0, none⟩), .int .i64 k, .int .i64 x] w fun e w' => e = .returned (.tuple #[]) ∧ Pens N v w w' (l ++ M.leB k x.toNat) bad := by
  obtain ⟨_, _, h0, _⟩ := (M.fits_iff _ _).1 hk
  obtain ⟨n, rfl⟩ : ∃ n : Nat, x = n := ⟨x.toNat, by omega⟩
  exact penNum_fits N k n hk w v l bad hp hl
theorem penBytesN (n N : Nat) (a : Option Addr) (l2 : List Nat) (hn : l2.length = n) (c : Nat) (w : World) (v : Value) (l l3 : List Nat) (h3 : l ++ l2 = l3) (bad : Bool) (hp : PenB w N v l bad) (hh : HasB w a l2) (hl : l3.length ≤ 1000000) :
    Calls Try.prog 50 #[.pointer (some ⟨N, 0, none⟩), .slice a n c] w fun e w' => e = .returned (.tuple #[]) ∧ Pens N v w w' l3 bad := by
  subst hn; exact penBytes_calls N a l2 c w v l l3 h3 bad hp hh hl
theorem penOutN (n N : Nat) (w : World) (v : Value) (l : List Nat) (hn : l.length = n) (hp : PenB w N v l false) (hl : n ≤ 1000000) :
    Calls Try.prog 51 #[.pointer (some ⟨N, 0, none⟩)] w fun e w' => (∃ a cap, e = .returned (.tuple #[.slice a n cap, .int .i64 0]) ∧ n ≤ cap ∧ HasB w' a l) ∧ Below w.heap.size w w' := by
  subst hn
  refine (penOut_good N w v l hp hl).mono ?_
  rintro e w' ⟨⟨a, cap, he, _, hc, hh⟩, hb⟩
  exact ⟨⟨a, cap, he, hc, hh⟩, hb⟩
theorem pens_belowE {N : Nat} {w W w1 : World} {l : List Nat} {bad : Bool} (h : Pens N (.slice none 0 0) W w1 l bad) (hb : Below w.heap.size w W) (hN : w.heap.size ≤ N) : Below w.heap.size w w1 :=
  below_pens hb hN (by simp [Value.ownBlock]) h
set_option maxRecDepth 100000 in
set_option maxHeartbeats 800000 in
theorem body_right (e : M.En) (hok : e.ok) (hr : e.right = true) (w : World) :
    Calls Try.prog 61 #[.agg (ent e)] w fun r w' => r = .returned (.tuple #[.agg (sct e.body), .int .i64 0]) ∧ Below w.heap.size w w' := by
  obtain ⟨⟨h1, h2⟩, ⟨h3, h4⟩, ⟨h5, h6⟩, ⟨h7, h8⟩, h9, h10⟩ := e.right_bounds hr
  have fit0 : Hid (M.fits (6 : Nat) e.first = true) := (M.fits_iff _ _).2 ⟨by omega, by omega, by omega, by show _ < 281474976710656; omega⟩
  have fit1 : Hid (M.fits (1 : Nat) e.count = true) := (M.fits_iff _ _).2 ⟨by omega, by omega, by omega, by show _ < 256; omega⟩
  have fit2 : Hid (M.fits (1 : Nat) e.block = true) := (M.fits_iff _ _).2 ⟨by omega, by omega, by omega, by show _ < 256; omega⟩
  have fit3 : Hid (M.fits (2 : Nat) e.many = true) := (M.fits_iff _ _).2 ⟨by omega, by omega, by omega, by show _ < 65536; omega⟩
  have fit4 : Hid (M.fits (2 : Nat) e.mate = true) := (M.fits_iff _ _).2 ⟨by omega, by omega, by omega, by show _ < 65536; omega⟩
  have hbl := e.body_length hok
  have HOK := hid hok
  have HR := hid hr
  have HBL := hid hbl
  clear hok hr hbl h1 h2 h3 h4 h5 h6 h7 h8 h9 h10
  have hW := Below.refl w.heap.size w
  go_enter Try.func61, Try.ntmps61
  go_upto_region 5 with (first | ((with_reducible show wpList _ _ _ (⟨some 1, _, _, _, _, _⟩ :: _) _ _); refine wpList_boxed 1 rfl rfl 82 _ rfl (ent e) rfl ?_; intro W1 N1 hNN1 hMN1 hr1 hb; have sW1 := hb.size; have hW := below_next hW hb) | ((with_reducible show wpList _ _ _ (⟨some 2, _, _, _, _, _⟩ :: _) _ _); refine wpList_zeroed 2 rfl rfl 39 rfl _ zero39 ?_; intro W2 N2 hN2 hM2 hr2 hb; have sW2 := hb.size; have hW := below_next hW hb; have hr1 := below_blk hb hr1) | ((with_reducible show wpList _ _ _ (⟨some 4, _, _, _, _, _⟩ :: _) _ _); refine wpList_zeroed 4 rfl rfl 39 rfl _ zero39 ?_; intro W4 N4 hN4 hM4 hr4 hb; have sW4 := hb.size; have hW := below_next hW hb; have hr1 := below_blk hb hr1; have hr2 := below_blk hb hr2) | ((with_reducible show wpList _ _ _ (⟨some 8, _, _, _, _, _⟩ :: _) _ _); refine wpList_load_rowg 8 rfl rfl 82 _ rfl N1 rfl _ (ent e) (0, 0) _ hr1 Try.underlying82 rfl (ty82 _ HOK.out).size ?_) | (go_at_call 62; refine (eright_b e _ HOK.out HR.out _).mono ?_; rintro e w9 ⟨rfl, hb⟩; have sw9 := hb.size; have hW := below_next hW hb; have hr1 := below_blk hb hr1; have hr2 := below_blk hb hr2; have hr4 := below_blk hb hr4) | ((with_reducible show wpList _ _ _ (⟨some 5, _, _, _, _, _⟩ :: _) _ _); refine wpList_zeroed 5 rfl rfl 63 rfl _ zero63 ?_; intro W5 N5 hN5 hM5 hr5 hb; have sW5 := hb.size; have hW := below_next hW hb; have hr1 := below_blk hb hr1; have hr2 := below_blk hb hr2; have hr4 := below_blk hb hr4))
  have w5 : w.heap.size ≤ N5 := by omega
  have w2 : w.heap.size ≤ N2 := by omega
  have w4 : w.heap.size ≤ N4 := by omega
  have n1 : N1 ≠ N5 := by omega
  have n2 : N2 ≠ N5 := by omega
  have n4 : N4 ≠ N5 := by omega
  have n24 : N2 ≠ N4 := by omega
  have HW5 := hid hW
  have HR1 := hid hr1
  have HR2 := hid hr2
  have HR4 := hid hr4
  have P0 := Pens.refl (penB_zero hr5)
  clear hb hr1 hr2 hr4 hr5 hW
  obtain ⟨v0, hp0, ht0, hl0⟩ := P0
  have c0 := cell_of_row _ N1 1 _ _ _ (ht0.blk HR1.out (fun hS => by rcases hS with h | h; exact n1 h; simp [Value.ownBlock] at h))
  rw [ent1] at c0
  go_upto_region 6 with (first | (go_at_call 55; refine (penNumI N5 6 e.first fit0.out _ v0 (([])) false hp0 (by simp)).mono ?_; rintro r y1 ⟨rfl, hs0⟩; have P1 := Pens.trans ht0 hl0 hs0))
  clear hs0 hp0 ht0 hl0 c0
  obtain ⟨v1, hp1, ht1, hl1⟩ := P1
  have c1 := cell_of_row _ N1 2 _ _ _ (ht1.blk HR1.out (fun hS => by rcases hS with h | h; exact n1 h; simp [Value.ownBlock] at h))
  rw [ent2] at c1
  go_upto_region 7 with (first | (go_at_call 55; refine (penNumI N5 1 e.count fit1.out _ v1 ([] ++ M.leB 6 e.first.toNat) false hp1 (by simp [M.leB_length])).mono ?_; rintro r y2 ⟨rfl, hs1⟩; have P2 := Pens.trans ht1 hl1 hs1))
  clear hs1 hp1 ht1 hl1 c1
  obtain ⟨v2, hp2, ht2, hl2⟩ := P2
  have c2 := cell_of_row _ N1 3 _ _ _ (ht2.blk HR1.out (fun hS => by rcases hS with h | h; exact n1 h; simp [Value.ownBlock] at h))
  rw [ent3] at c2
  go_upto_region 8 with (first | (go_at_call 55; refine (penNumI N5 1 e.block fit2.out _ v2 ([] ++ M.leB 6 e.first.toNat ++ M.leB 1 e.count.toNat) false hp2 (by simp [M.leB_length])).mono ?_; rintro r y3 ⟨rfl, hs2⟩; have P3 := Pens.trans ht2 hl2 hs2))
  clear hs2 hp2 ht2 hl2 c2
  obtain ⟨v3, hp3, ht3, hl3⟩ := P3
  have c3 := cell_of_row _ N1 4 _ _ _ (ht3.blk HR1.out (fun hS => by rcases hS with h | h; exact n1 h; simp [Value.ownBlock] at h))
  rw [ent4] at c3
  go_upto_region 9 with (first | (go_at_call 55; refine (penNumI N5 2 e.many fit3.out _ v3 ([] ++ M.leB 6 e.first.toNat ++ M.leB 1 e.count.toNat ++ M.leB 1 e.block.toNat) false hp3 (by simp [M.leB_length])).mono ?_; rintro r y4 ⟨rfl, hs3⟩; have P4 := Pens.trans ht3 hl3 hs3))
  clear hs3 hp3 ht3 hl3 c3
  obtain ⟨v4, hp4, ht4, hl4⟩ := P4
  have c4 := cell_of_row _ N1 5 _ _ _ (ht4.blk HR1.out (fun hS => by rcases hS with h | h; exact n1 h; simp [Value.ownBlock] at h))
  rw [ent5] at c4
  go_upto_region 10 with (first | (go_at_call 55; refine (penNumI N5 2 e.mate fit4.out _ v4 ([] ++ M.leB 6 e.first.toNat ++ M.leB 1 e.count.toNat ++ M.leB 1 e.block.toNat ++ M.leB 2 e.many.toNat) false hp4 (by simp [M.leB_length])).mono ?_; rintro r y5 ⟨rfl, hs4⟩; have P5 := Pens.trans ht4 hl4 hs4))
  clear hs4 hp4 ht4 hl4 c4
  obtain ⟨v5, hp5, ht5, hl5⟩ := P5
  have hbd := hasB_ent HOK.out (ht5.blk HR1.out (fun hS => by rcases hS with h | h; exact n1 h; simp [Value.ownBlock] at h))
  have HBD : Hid (([] ++ M.leB 6 e.first.toNat ++ M.leB 1 e.count.toNat ++ M.leB 1 e.block.toNat ++ M.leB 2 e.many.toNat ++ M.leB 2 e.mate.toNat) ++ e.bytes = e.body) := rfl
  go_upto_region 11 with (first | (go_at_call 50; refine (penBytesN 32 N5 _ e.bytes HOK.out.1 32 _ v5 _ e.body HBD.out false hp5 hbd (by rw [HBL.out]; omega)).mono ?_; rintro r y6 ⟨rfl, hs5⟩; have P6 := Pens.trans ht5 hl5 hs5))
  have hW := pens_belowE P6 HW5.out w5
  clear hs5 hp5 ht5 hl5 hbd HBD
  obtain ⟨v6, hp6, ht6, hl6⟩ := P6
  have nS : ∀ k, k ≠ N5 → ¬ penSet N5 (.slice none 0 0) k := fun k hk hS => by rcases hS with h | h; exact hk h; simp [Value.ownBlock] at h
  have hr2 := ht6.blk HR2.out (nS _ n2)
  have hr4 := ht6.blk HR4.out (nS _ n4)
  have hcp : ((sct (List.replicate 44 0)).toList.take 0 ++ (u8s e.body ++ (sct (List.replicate 44 0)).toList.drop (0 + 44))).toArray = sct e.body := by
    simp [sct, u8s]
  have HCP := hid hcp
  clear hcp
  go_wp2_with (first | (go_at_call 51; refine (penOutN 44 N5 _ v6 e.body HBL.out hp6 (by omega)).mono ?_; rintro r y8 ⟨⟨a8, c8, rfl, hc8, hh8⟩, hb⟩; have hW := below_next hW hb; have hr2 := below_blk hb hr2; have hr4 := below_blk hb hr4) | ((with_reducible show wpList _ _ _ (⟨some 36, _, _, _, _, _⟩ :: _) _ _); refine wpList_copy_bytes rfl (some 36) rfl _ _ rfl N4 0 44 44 c8 a8 rfl rfl e.body HBL.out (by omega) hh8 39 _ (sct e.body) hr4 (by rw [sct_size]; simp) HCP.out ?_; intro wd hr4 ht; have hr2 := ht.blk hr2 n24; have hW := below_turned hW ht (fun k hk => by subst hk; exact w4)) | ((with_reducible show wpList _ _ _ (⟨some 37, _, _, _, _, _⟩ :: _) _ _); refine wpList_load_rowg 37 rfl rfl 39 _ rfl N4 rfl _ (sct e.body) (0, 0) _ hr4 Try.underlying39 rfl (ty39 _ HBL.out).size ?_) | ((with_reducible show wpList _ _ _ (⟨none, _, _, _, _, _⟩ :: _) _ _); refine wpList_store_agg rfl rfl 39 _ _ rfl N2 (sct e.body) rfl rfl 39 _ hr2 (ty39 _ HBL.out) (by rw [sct_size, sct_size, HBL.out]; rfl) (sct_all _) ?_; intro Z2 hrZ htZ))
  refine ret_cell 2 3 39 rfl rfl N2 rfl 39 _ (0, 0) _ hrZ Try.underlying39 rfl (ty39 _ HBL.out).size _ rfl ⟨rfl, below_turned hW htZ (fun k hk => by subst hk; exact w2)⟩
def M.En.bod (e : M.En) : List Nat × Int := if e.right = true then (e.body, 0) else (List.replicate 44 0, 10)
theorem body_calls (e : M.En) (hok : e.ok) (w : World) :
    Calls Try.prog 61 #[.agg (ent e)] w fun r w' => r = .returned (.tuple #[.agg (sct e.bod.1), .int .i64 e.bod.2]) ∧ Below w.heap.size w w' := by
  unfold M.En.bod
  by_cases hf : e.right = true
  · rw [if_pos hf]; exact body_right e hok hf w
  · rw [if_neg hf]; exact body_wrong e hok (by simpa using hf) w
end Go.Proofs.Ytncooadaeifekaa

/- Walk of an entry's Frame. -/
namespace Go.Proofs.Ytncooadaeifekaa
open Go.RowKit
theorem wpList_build_p {P : Program} {ops : Array Oper} {rest : List Oper} {o : Oper} {a : Act} {w : World} {Q : Exit → Act → World → Prop} (d : Tmp) (hd : o.dst = some d) (hgd : o.guard = none) (t : TypeId) (parts : Array (Nat × Operand)) (ho : o.op = .build t parts)
    (pv : Array (Nat × Value)) (hpv : (parts.map fun (i, x) => (i, a.eval x)) = pv) (cs : Array Value) (hb : ∀ w, (Instr.build t pv).run P w = .ok (.agg cs) w)
    (h : wpList P ops Q rest (a.put (some d) (.agg cs)) w) : wpList P ops Q (o :: rest) a w := by
  subst hpv; exact wpList_build_as d hd hgd t parts ho cs hb h
theorem list44 (s : List Nat) (h : s.length = 44) : ∃ b0 b1 b2 b3 b4 b5 b6 b7 b8 b9 b10 b11 b12 b13 b14 b15 b16 b17 b18 b19 b20 b21 b22 b23 b24 b25 b26 b27 b28 b29 b30 b31 b32 b33 b34 b35 b36 b37 b38 b39 b40 b41 b42 b43, s = [b0, b1, b2, b3, b4, b5, b6, b7, b8, b9, b10, b11, b12, b13, b14, b15, b16, b17, b18, b19, b20, b21, b22, b23, b24, b25, b26, b27, b28, b29, b30, b31, b32, b33, b34, b35, b36, b37, b38, b39, b40, b41, b42, b43] := by
  rcases s with _ | ⟨b0, _ | ⟨b1, _ | ⟨b2, _ | ⟨b3, _ | ⟨b4, _ | ⟨b5, _ | ⟨b6, _ | ⟨b7, _ | ⟨b8, _ | ⟨b9, _ | ⟨b10, _ | ⟨b11, _ | ⟨b12, _ | ⟨b13, _ | ⟨b14, _ | ⟨b15, _ | ⟨b16, _ | ⟨b17, _ | ⟨b18, _ | ⟨b19, _ | ⟨b20, _ | ⟨b21, _ | ⟨b22, _ | ⟨b23, _ | ⟨b24, _ | ⟨b25, _ | ⟨b26, _ | ⟨b27, _ | ⟨b28, _ | ⟨b29, _ | ⟨b30, _ | ⟨b31, _ | ⟨b32, _ | ⟨b33, _ | ⟨b34, _ | ⟨b35, _ | ⟨b36, _ | ⟨b37, _ | ⟨b38, _ | ⟨b39, _ | ⟨b40, _ | ⟨b41, _ | ⟨b42, _ | ⟨b43, _ | ⟨bx, s⟩⟩⟩⟩⟩⟩⟩⟩⟩⟩⟩⟩⟩⟩⟩⟩⟩⟩⟩⟩⟩⟩⟩⟩⟩⟩⟩⟩⟩⟩⟩⟩⟩⟩⟩⟩⟩⟩⟩⟩⟩⟩⟩⟩⟩
  all_goals first | exact ⟨_, _, _, _, _, _, _, _, _, _, _, _, _, _, _, _, _, _, _, _, _, _, _, _, _, _, _, _, _, _, _, _, _, _, _, _, _, _, _, _, _, _, _, _, rfl⟩ | (simp at h; done)
set_option maxRecDepth 100000 in
theorem build_frm (k z o e q : Int) (s : List Nat) (h : s.length = 44) (w : World) : (Instr.build 41 #[(0, .int .i64 k), (1, .int .i64 z), (2, .int .i64 o), (3, .int .i64 e), (4, .int .i64 q), (5, .agg (sct s))]).run Try.prog w = .ok (.agg (frm ⟨k, z, o, e, q, s⟩)) w := by
  obtain ⟨b0, b1, b2, b3, b4, b5, b6, b7, b8, b9, b10, b11, b12, b13, b14, b15, b16, b17, b18, b19, b20, b21, b22, b23, b24, b25, b26, b27, b28, b29, b30, b31, b32, b33, b34, b35, b36, b37, b38, b39, b40, b41, b42, b43, rfl⟩ := list44 s h
  kernel_rfl
theorem list32 (s : List Nat) (h : s.length = 32) : ∃ b0 b1 b2 b3 b4 b5 b6 b7 b8 b9 b10 b11 b12 b13 b14 b15 b16 b17 b18 b19 b20 b21 b22 b23 b24 b25 b26 b27 b28 b29 b30 b31, s = [b0, b1, b2, b3, b4, b5, b6, b7, b8, b9, b10, b11, b12, b13, b14, b15, b16, b17, b18, b19, b20, b21, b22, b23, b24, b25, b26, b27, b28, b29, b30, b31] := by
  rcases s with _ | ⟨b0, _ | ⟨b1, _ | ⟨b2, _ | ⟨b3, _ | ⟨b4, _ | ⟨b5, _ | ⟨b6, _ | ⟨b7, _ | ⟨b8, _ | ⟨b9, _ | ⟨b10, _ | ⟨b11, _ | ⟨b12, _ | ⟨b13, _ | ⟨b14, _ | ⟨b15, _ | ⟨b16, _ | ⟨b17, _ | ⟨b18, _ | ⟨b19, _ | ⟨b20, _ | ⟨b21, _ | ⟨b22, _ | ⟨b23, _ | ⟨b24, _ | ⟨b25, _ | ⟨b26, _ | ⟨b27, _ | ⟨b28, _ | ⟨b29, _ | ⟨b30, _ | ⟨b31, _ | ⟨bx, s⟩⟩⟩⟩⟩⟩⟩⟩⟩⟩⟩⟩⟩⟩⟩⟩⟩⟩⟩⟩⟩⟩⟩⟩⟩⟩⟩⟩⟩⟩⟩⟩⟩
  all_goals first | exact ⟨_, _, _, _, _, _, _, _, _, _, _, _, _, _, _, _, _, _, _, _, _, _, _, _, _, _, _, _, _, _, _, _, rfl⟩ | (simp at h; done)
set_option maxRecDepth 100000 in
theorem build_ent91 (k a b c e q : Int) (s : List Nat) (h : s.length = 32) (w : World) : (Instr.build 91 #[(0, .int .i64 k), (1, .int .i64 a), (2, .int .i64 b), (3, .int .i64 c), (4, .int .i64 e), (5, .int .i64 q), (6, .agg (sct s))]).run Try.prog w = .ok (.agg (ent ⟨k, a, b, c, e, q, s⟩)) w := by
  obtain ⟨b0, b1, b2, b3, b4, b5, b6, b7, b8, b9, b10, b11, b12, b13, b14, b15, b16, b17, b18, b19, b20, b21, b22, b23, b24, b25, b26, b27, b28, b29, b30, b31, rfl⟩ := list32 s h
  kernel_rfl
theorem build_ent82 (k a b c e q : Int) (w : World) : (Instr.build 82 #[(0, .int .i64 k), (1, .int .i64 a), (2, .int .i64 b), (3, .int .i64 c), (4, .int .i64 e), (5, .int .i64 q)]).run Try.prog w = .ok (.agg (ent ⟨k, a, b, c, e, q, List.replicate 32 0⟩)) w := by kernel_rfl
theorem fright_b (f : M.Fr) (b : Bool) (h : f.right = b) (w : World) : Calls Try.prog 38 #[.agg (frm f)] w fun e w' => e = .returned (.bool b) ∧ Below w.heap.size w w' := by subst h; exact right_calls f w
set_option maxRecDepth 100000 in
set_option maxHeartbeats 1000000 in
theorem eframe_a (e : M.En) (hok : e.ok) (zone off epoch seq : Int) (hr : e.right = false) (w : World) :
    Calls Try.prog 63 #[.agg (ent e), .int .i64 zone, .int .i64 off, .int .i64 epoch, .int .i64 seq] w fun r w' => r = .returned (.tuple #[.agg (frm (e.frame zone off epoch seq).1), .int .i64 (e.frame zone off epoch seq).2]) ∧ Below w.heap.size w w' := by
  obtain ⟨V, hV⟩ : ∃ V, e.frame zone off epoch seq = V := ⟨_, rfl⟩
  rw [hV]
  have HV : Hid (V = (M.Fr.zero, 10)) := by show _ = _; rw [← hV, M.En.frame]; rw [if_neg (fun h => by rw [hr] at h; exact absurd h.1 (by simp))]
  have HOK := hid hok
  have HBL := hid (e.body_length hok)
  have HFO : Hid ((⟨e.kind, zone, off, epoch, seq, e.body⟩ : M.Fr).ok) := M.fr_ok e hok zone off epoch seq
  have HR := hid hr
  clear hok hV hr
  have hW := Below.refl w.heap.size w
  go_enter Try.func63, Try.ntmps63
  go_wp2_with (first | ((with_reducible show wpList _ _ _ (⟨some 5, _, _, _, _, _⟩ :: _) _ _); refine wpList_boxed 5 rfl rfl 82 _ rfl (ent e) rfl ?_; intro W5 N5 hNN5 hMN5 hr5 hb; have sW5 := hb.size; have hW := below_next hW hb) | ((with_reducible show wpList _ _ _ (⟨some 10, _, _, _, _, _⟩ :: _) _ _); refine wpList_zeroed 10 rfl rfl 41 rfl _ zero41 ?_; intro W6 N6 hN6 hM6 hr6 hb; have sW6 := hb.size; have hW := below_next hW hb; have hr5 := below_blk hb hr5) | ((with_reducible show wpList _ _ _ (⟨some 16, _, _, _, _, _⟩ :: _) _ _); refine wpList_load_rowg 16 rfl rfl 82 _ rfl N5 rfl _ (ent e) (0, 0) _ hr5 Try.underlying82 rfl (ty82 _ HOK.out).size ?_) | (go_at_call 61; refine (body_wrong e HOK.out HR.out _).mono ?_; rintro e w7 ⟨rfl, hb⟩; have sw7 := hb.size; have hW := below_next hW hb; have hr5 := below_blk hb hr5; have hr6 := below_blk hb hr6) | ((with_reducible show wpList _ _ _ (⟨some 12, _, _, _, _, _⟩ :: _) _ _); refine wpList_local 12 rfl rfl rfl rfl 39 rfl _ rfl (sct (List.replicate 44 0)) rfl (of_decide_eq_true (by kernel_rfl)) (ty39 _ (by simp)) (sct_all _) ?_; intro W8 N8 hNN8 hMN8 hr8 hb; have sW8 := hb.size; have hW := below_next hW hb; have hr5 := below_blk hb hr5; have hr6 := below_blk hb hr6; have c0 := cell_of_row _ N5 0 _ _ _ hr5; rw [ent0] at c0; have c1 := cell_of_row _ N5 1 _ _ _ hr5; rw [ent1] at c1; have c2 := cell_of_row _ N5 2 _ _ _ hr5; rw [ent2] at c2) | ((with_reducible show wpList _ _ _ (⟨some 26, _, _, _, _, _⟩ :: _) _ _); refine wpList_load_rowg 26 rfl rfl 39 _ rfl N8 rfl _ (sct (List.replicate 44 0)) (0, 0) _ hr8 Try.underlying39 rfl (ty39 _ (by simp)).size ?_) | ((with_reducible show wpList _ _ _ (⟨some 27, _, _, _, _, _⟩ :: _) _ _); refine wpList_build_p 27 rfl rfl 41 _ rfl #[(0, .int .i64 e.kind), (1, .int .i64 zone), (2, .int .i64 off), (3, .int .i64 epoch), (4, .int .i64 seq), (5, .agg (sct (List.replicate 44 0)))] (by kernel_rfl) (frm ⟨e.kind, zone, off, epoch, seq, (List.replicate 44 0)⟩) (build_frm e.kind zone off epoch seq (List.replicate 44 0) (by simp)) ?_) | ((with_reducible show wpList _ _ _ (⟨some 14, _, _, _, _, _⟩ :: _) _ _); refine wpList_local 14 rfl rfl rfl rfl 41 rfl _ rfl (frm ⟨e.kind, zone, off, epoch, seq, (List.replicate 44 0)⟩) rfl (of_decide_eq_true (by kernel_rfl)) (ty41 _ ⟨by simp, by simp⟩) (frm_all _) ?_; intro W9 N9 hNN9 hMN9 hr9 hb; have sW9 := hb.size; have hW := below_next hW hb; have hr5 := below_blk hb hr5; have hr6 := below_blk hb hr6; have c0 := cell_of_row _ N5 0 _ _ _ hr5; rw [ent0] at c0; have c1 := cell_of_row _ N5 1 _ _ _ hr5; rw [ent1] at c1; have c2 := cell_of_row _ N5 2 _ _ _ hr5; rw [ent2] at c2) | ((with_reducible show wpList _ _ _ (⟨some 50, _, _, _, _, _⟩ :: _) _ _); refine wpList_build_as 50 rfl rfl 41 _ rfl (frm M.Fr.zero) build_zero41 ?_) | ((with_reducible show wpList _ _ _ (⟨none, _, _, _, _, _⟩ :: _) _ _); refine wpList_store_agg rfl rfl 41 _ _ rfl N6 (frm M.Fr.zero) rfl rfl 41 _ hr6 (ty41 _ M.zero_ok) (rfl) (frm_all _) ?_; intro Z2 hrZ htZ))
  refine ret_cell 10 11 41 rfl rfl N6 rfl 41 _ (0, 0) _ hrZ Try.underlying41 rfl (ty41 _ M.zero_ok).size _ rfl ⟨by rw [HV.out]; rfl, below_turned hW htZ (fun k hk => by subst hk; omega)⟩
set_option maxRecDepth 100000 in
set_option maxHeartbeats 1000000 in
theorem eframe_b (e : M.En) (hok : e.ok) (zone off epoch seq : Int) (hr : e.right = true) (hf : (e.fr zone off epoch seq).right = false) (w : World) :
    Calls Try.prog 63 #[.agg (ent e), .int .i64 zone, .int .i64 off, .int .i64 epoch, .int .i64 seq] w fun r w' => r = .returned (.tuple #[.agg (frm (e.frame zone off epoch seq).1), .int .i64 (e.frame zone off epoch seq).2]) ∧ Below w.heap.size w w' := by
  obtain ⟨V, hV⟩ : ∃ V, e.frame zone off epoch seq = V := ⟨_, rfl⟩
  rw [hV]
  have HV : Hid (V = (M.Fr.zero, 10)) := by show _ = _; rw [← hV, M.En.frame]; rw [if_neg (fun h => by rw [hf] at h; exact absurd h.2.1 (by simp))]
  have HOK := hid hok
  have HBL := hid (e.body_length hok)
  have HFO : Hid ((⟨e.kind, zone, off, epoch, seq, e.body⟩ : M.Fr).ok) := M.fr_ok e hok zone off epoch seq
  have HR := hid hr
  have HFR : Hid ((⟨e.kind, zone, off, epoch, seq, e.body⟩ : M.Fr).right = false) := hf
  clear hok hV hr hf
  have hW := Below.refl w.heap.size w
  go_enter Try.func63, Try.ntmps63
  go_wp2_with (first | ((with_reducible show wpList _ _ _ (⟨some 5, _, _, _, _, _⟩ :: _) _ _); refine wpList_boxed 5 rfl rfl 82 _ rfl (ent e) rfl ?_; intro W5 N5 hNN5 hMN5 hr5 hb; have sW5 := hb.size; have hW := below_next hW hb) | ((with_reducible show wpList _ _ _ (⟨some 10, _, _, _, _, _⟩ :: _) _ _); refine wpList_zeroed 10 rfl rfl 41 rfl _ zero41 ?_; intro W6 N6 hN6 hM6 hr6 hb; have sW6 := hb.size; have hW := below_next hW hb; have hr5 := below_blk hb hr5) | ((with_reducible show wpList _ _ _ (⟨some 16, _, _, _, _, _⟩ :: _) _ _); refine wpList_load_rowg 16 rfl rfl 82 _ rfl N5 rfl _ (ent e) (0, 0) _ hr5 Try.underlying82 rfl (ty82 _ HOK.out).size ?_) | (go_at_call 61; refine (body_right e HOK.out HR.out _).mono ?_; rintro e w7 ⟨rfl, hb⟩; have sw7 := hb.size; have hW := below_next hW hb; have hr5 := below_blk hb hr5; have hr6 := below_blk hb hr6) | ((with_reducible show wpList _ _ _ (⟨some 12, _, _, _, _, _⟩ :: _) _ _); refine wpList_local 12 rfl rfl rfl rfl 39 rfl _ rfl (sct e.body) rfl (of_decide_eq_true (by kernel_rfl)) (ty39 _ HBL.out) (sct_all _) ?_; intro W8 N8 hNN8 hMN8 hr8 hb; have sW8 := hb.size; have hW := below_next hW hb; have hr5 := below_blk hb hr5; have hr6 := below_blk hb hr6; have c0 := cell_of_row _ N5 0 _ _ _ hr5; rw [ent0] at c0; have c1 := cell_of_row _ N5 1 _ _ _ hr5; rw [ent1] at c1; have c2 := cell_of_row _ N5 2 _ _ _ hr5; rw [ent2] at c2) | ((with_reducible show wpList _ _ _ (⟨some 26, _, _, _, _, _⟩ :: _) _ _); refine wpList_load_rowg 26 rfl rfl 39 _ rfl N8 rfl _ (sct e.body) (0, 0) _ hr8 Try.underlying39 rfl (ty39 _ HBL.out).size ?_) | ((with_reducible show wpList _ _ _ (⟨some 27, _, _, _, _, _⟩ :: _) _ _); refine wpList_build_p 27 rfl rfl 41 _ rfl #[(0, .int .i64 e.kind), (1, .int .i64 zone), (2, .int .i64 off), (3, .int .i64 epoch), (4, .int .i64 seq), (5, .agg (sct e.body))] (by kernel_rfl) (frm ⟨e.kind, zone, off, epoch, seq, e.body⟩) (build_frm e.kind zone off epoch seq e.body HBL.out) ?_) | ((with_reducible show wpList _ _ _ (⟨some 14, _, _, _, _, _⟩ :: _) _ _); refine wpList_local 14 rfl rfl rfl rfl 41 rfl _ rfl (frm ⟨e.kind, zone, off, epoch, seq, e.body⟩) rfl (of_decide_eq_true (by kernel_rfl)) (ty41 _ HFO.out) (frm_all _) ?_; intro W9 N9 hNN9 hMN9 hr9 hb; have sW9 := hb.size; have hW := below_next hW hb; have hr5 := below_blk hb hr5; have hr6 := below_blk hb hr6; have c0 := cell_of_row _ N5 0 _ _ _ hr5; rw [ent0] at c0; have c1 := cell_of_row _ N5 1 _ _ _ hr5; rw [ent1] at c1; have c2 := cell_of_row _ N5 2 _ _ _ hr5; rw [ent2] at c2) | ((with_reducible show wpList _ _ _ (⟨some 31, _, _, _, _, _⟩ :: _) _ _); refine wpList_load_rowg 31 rfl rfl 41 _ rfl N9 rfl _ (frm ⟨e.kind, zone, off, epoch, seq, e.body⟩) (0, 0) _ hr9 Try.underlying41 rfl (ty41 _ HFO.out).size ?_) | (go_at_call 38; refine (fright_b ⟨e.kind, zone, off, epoch, seq, e.body⟩ _ HFR.out _).mono ?_; rintro r w8 ⟨rfl, hb⟩; have hW := below_next hW hb; have hr5 := below_blk hb hr5; have hr6 := below_blk hb hr6; have hr9 := below_blk hb hr9; have c0 := cell_of_row _ N5 0 _ _ _ hr5; rw [ent0] at c0; have c1 := cell_of_row _ N5 1 _ _ _ hr5; rw [ent1] at c1; have c2 := cell_of_row _ N5 2 _ _ _ hr5; rw [ent2] at c2) | ((with_reducible show wpList _ _ _ (⟨some 50, _, _, _, _, _⟩ :: _) _ _); refine wpList_build_as 50 rfl rfl 41 _ rfl (frm M.Fr.zero) build_zero41 ?_) | ((with_reducible show wpList _ _ _ (⟨none, _, _, _, _, _⟩ :: _) _ _); refine wpList_store_agg rfl rfl 41 _ _ rfl N6 (frm M.Fr.zero) rfl rfl 41 _ hr6 (ty41 _ M.zero_ok) (rfl) (frm_all _) ?_; intro Z2 hrZ htZ))
  refine ret_cell 10 11 41 rfl rfl N6 rfl 41 _ (0, 0) _ hrZ Try.underlying41 rfl (ty41 _ M.zero_ok).size _ rfl ⟨by rw [HV.out]; rfl, below_turned hW htZ (fun k hk => by subst hk; omega)⟩
set_option maxRecDepth 100000 in
set_option maxHeartbeats 1000000 in
theorem eframe_c (e : M.En) (hok : e.ok) (zone off epoch seq : Int) (hr : e.right = true) (hf : (e.fr zone off epoch seq).right = true) (h1 : seq < e.first) (w : World) :
    Calls Try.prog 63 #[.agg (ent e), .int .i64 zone, .int .i64 off, .int .i64 epoch, .int .i64 seq] w fun r w' => r = .returned (.tuple #[.agg (frm (e.frame zone off epoch seq).1), .int .i64 (e.frame zone off epoch seq).2]) ∧ Below w.heap.size w w' := by
  obtain ⟨V, hV⟩ : ∃ V, e.frame zone off epoch seq = V := ⟨_, rfl⟩
  rw [hV]
  have HV : Hid (V = (M.Fr.zero, 10)) := by show _ = _; rw [← hV, M.En.frame]; rw [if_neg (fun h => by omega)]
  have HOK := hid hok
  have HBL := hid (e.body_length hok)
  have HFO : Hid ((⟨e.kind, zone, off, epoch, seq, e.body⟩ : M.Fr).ok) := M.fr_ok e hok zone off epoch seq
  have HR := hid hr
  have HFR : Hid ((⟨e.kind, zone, off, epoch, seq, e.body⟩ : M.Fr).right = true) := hf
  have t1 : decide (seq < e.first) = true := by simpa using h1
  clear hok hV hr hf h1
  have hW := Below.refl w.heap.size w
  go_enter Try.func63, Try.ntmps63
  go_wp2_with (first | ((with_reducible show wpList _ _ _ (⟨some 5, _, _, _, _, _⟩ :: _) _ _); refine wpList_boxed 5 rfl rfl 82 _ rfl (ent e) rfl ?_; intro W5 N5 hNN5 hMN5 hr5 hb; have sW5 := hb.size; have hW := below_next hW hb) | ((with_reducible show wpList _ _ _ (⟨some 10, _, _, _, _, _⟩ :: _) _ _); refine wpList_zeroed 10 rfl rfl 41 rfl _ zero41 ?_; intro W6 N6 hN6 hM6 hr6 hb; have sW6 := hb.size; have hW := below_next hW hb; have hr5 := below_blk hb hr5) | ((with_reducible show wpList _ _ _ (⟨some 16, _, _, _, _, _⟩ :: _) _ _); refine wpList_load_rowg 16 rfl rfl 82 _ rfl N5 rfl _ (ent e) (0, 0) _ hr5 Try.underlying82 rfl (ty82 _ HOK.out).size ?_) | (go_at_call 61; refine (body_right e HOK.out HR.out _).mono ?_; rintro e w7 ⟨rfl, hb⟩; have sw7 := hb.size; have hW := below_next hW hb; have hr5 := below_blk hb hr5; have hr6 := below_blk hb hr6) | ((with_reducible show wpList _ _ _ (⟨some 12, _, _, _, _, _⟩ :: _) _ _); refine wpList_local 12 rfl rfl rfl rfl 39 rfl _ rfl (sct e.body) rfl (of_decide_eq_true (by kernel_rfl)) (ty39 _ HBL.out) (sct_all _) ?_; intro W8 N8 hNN8 hMN8 hr8 hb; have sW8 := hb.size; have hW := below_next hW hb; have hr5 := below_blk hb hr5; have hr6 := below_blk hb hr6; have c0 := cell_of_row _ N5 0 _ _ _ hr5; rw [ent0] at c0; have c1 := cell_of_row _ N5 1 _ _ _ hr5; rw [ent1] at c1; have c2 := cell_of_row _ N5 2 _ _ _ hr5; rw [ent2] at c2) | ((with_reducible show wpList _ _ _ (⟨some 26, _, _, _, _, _⟩ :: _) _ _); refine wpList_load_rowg 26 rfl rfl 39 _ rfl N8 rfl _ (sct e.body) (0, 0) _ hr8 Try.underlying39 rfl (ty39 _ HBL.out).size ?_) | ((with_reducible show wpList _ _ _ (⟨some 27, _, _, _, _, _⟩ :: _) _ _); refine wpList_build_p 27 rfl rfl 41 _ rfl #[(0, .int .i64 e.kind), (1, .int .i64 zone), (2, .int .i64 off), (3, .int .i64 epoch), (4, .int .i64 seq), (5, .agg (sct e.body))] (by kernel_rfl) (frm ⟨e.kind, zone, off, epoch, seq, e.body⟩) (build_frm e.kind zone off epoch seq e.body HBL.out) ?_) | ((with_reducible show wpList _ _ _ (⟨some 14, _, _, _, _, _⟩ :: _) _ _); refine wpList_local 14 rfl rfl rfl rfl 41 rfl _ rfl (frm ⟨e.kind, zone, off, epoch, seq, e.body⟩) rfl (of_decide_eq_true (by kernel_rfl)) (ty41 _ HFO.out) (frm_all _) ?_; intro W9 N9 hNN9 hMN9 hr9 hb; have sW9 := hb.size; have hW := below_next hW hb; have hr5 := below_blk hb hr5; have hr6 := below_blk hb hr6; have c0 := cell_of_row _ N5 0 _ _ _ hr5; rw [ent0] at c0; have c1 := cell_of_row _ N5 1 _ _ _ hr5; rw [ent1] at c1; have c2 := cell_of_row _ N5 2 _ _ _ hr5; rw [ent2] at c2) | ((with_reducible show wpList _ _ _ (⟨some 31, _, _, _, _, _⟩ :: _) _ _); refine wpList_load_rowg 31 rfl rfl 41 _ rfl N9 rfl _ (frm ⟨e.kind, zone, off, epoch, seq, e.body⟩) (0, 0) _ hr9 Try.underlying41 rfl (ty41 _ HFO.out).size ?_) | (go_at_call 38; refine (fright_b ⟨e.kind, zone, off, epoch, seq, e.body⟩ _ HFR.out _).mono ?_; rintro r w8 ⟨rfl, hb⟩; have hW := below_next hW hb; have hr5 := below_blk hb hr5; have hr6 := below_blk hb hr6; have hr9 := below_blk hb hr9; have c0 := cell_of_row _ N5 0 _ _ _ hr5; rw [ent0] at c0; have c1 := cell_of_row _ N5 1 _ _ _ hr5; rw [ent1] at c1; have c2 := cell_of_row _ N5 2 _ _ _ hr5; rw [ent2] at c2) | ((with_reducible show wpList _ _ _ (⟨some 50, _, _, _, _, _⟩ :: _) _ _); refine wpList_build_as 50 rfl rfl 41 _ rfl (frm M.Fr.zero) build_zero41 ?_) | ((with_reducible show wpList _ _ _ (⟨none, _, _, _, _, _⟩ :: _) _ _); refine wpList_store_agg rfl rfl 41 _ _ rfl N6 (frm M.Fr.zero) rfl rfl 41 _ hr6 (ty41 _ M.zero_ok) (rfl) (frm_all _) ?_; intro Z2 hrZ htZ))
  refine ret_cell 10 11 41 rfl rfl N6 rfl 41 _ (0, 0) _ hrZ Try.underlying41 rfl (ty41 _ M.zero_ok).size _ rfl ⟨by rw [HV.out]; rfl, below_turned hW htZ (fun k hk => by subst hk; omega)⟩
set_option maxRecDepth 100000 in
set_option maxHeartbeats 1000000 in
theorem eframe_d (e : M.En) (hok : e.ok) (zone off epoch seq : Int) (hr : e.right = true) (hf : (e.fr zone off epoch seq).right = true) (h1 : ¬ seq < e.first) (h2 : e.first ≤ seq - e.count) (w : World) :
    Calls Try.prog 63 #[.agg (ent e), .int .i64 zone, .int .i64 off, .int .i64 epoch, .int .i64 seq] w fun r w' => r = .returned (.tuple #[.agg (frm (e.frame zone off epoch seq).1), .int .i64 (e.frame zone off epoch seq).2]) ∧ Below w.heap.size w w' := by
  obtain ⟨V, hV⟩ : ∃ V, e.frame zone off epoch seq = V := ⟨_, rfl⟩
  rw [hV]
  have HV : Hid (V = (M.Fr.zero, 10)) := by show _ = _; rw [← hV, M.En.frame]; rw [if_neg (fun h => by omega)]
  have HOK := hid hok
  have HBL := hid (e.body_length hok)
  have HFO : Hid ((⟨e.kind, zone, off, epoch, seq, e.body⟩ : M.Fr).ok) := M.fr_ok e hok zone off epoch seq
  have HR := hid hr
  have HFR : Hid ((⟨e.kind, zone, off, epoch, seq, e.body⟩ : M.Fr).right = true) := hf
  have t1 : decide (seq < e.first) = false := by simpa using h1
  have t2 : decide (e.first ≤ seq - e.count) = true := by simpa using h2
  have hbb := e.right_bounds hr
  have hff := hf
  have hff := of_decide_eq_true hff
  obtain ⟨-, -, -, -, h9, h10⟩ := hff
  have h9 : 0 ≤ seq := h9
  have h10 : seq ≤ 281474976710655 := h10
  have hsub : wrap64 (seq - e.count) = seq - e.count := by unfold wrap64; omega
  clear hbb
  clear hok hV hr hf h1 h2
  have hW := Below.refl w.heap.size w
  go_enter Try.func63, Try.ntmps63
  go_wp2_with (first | ((with_reducible show wpList _ _ _ (⟨some 5, _, _, _, _, _⟩ :: _) _ _); refine wpList_boxed 5 rfl rfl 82 _ rfl (ent e) rfl ?_; intro W5 N5 hNN5 hMN5 hr5 hb; have sW5 := hb.size; have hW := below_next hW hb) | ((with_reducible show wpList _ _ _ (⟨some 10, _, _, _, _, _⟩ :: _) _ _); refine wpList_zeroed 10 rfl rfl 41 rfl _ zero41 ?_; intro W6 N6 hN6 hM6 hr6 hb; have sW6 := hb.size; have hW := below_next hW hb; have hr5 := below_blk hb hr5) | ((with_reducible show wpList _ _ _ (⟨some 16, _, _, _, _, _⟩ :: _) _ _); refine wpList_load_rowg 16 rfl rfl 82 _ rfl N5 rfl _ (ent e) (0, 0) _ hr5 Try.underlying82 rfl (ty82 _ HOK.out).size ?_) | (go_at_call 61; refine (body_right e HOK.out HR.out _).mono ?_; rintro e w7 ⟨rfl, hb⟩; have sw7 := hb.size; have hW := below_next hW hb; have hr5 := below_blk hb hr5; have hr6 := below_blk hb hr6) | ((with_reducible show wpList _ _ _ (⟨some 12, _, _, _, _, _⟩ :: _) _ _); refine wpList_local 12 rfl rfl rfl rfl 39 rfl _ rfl (sct e.body) rfl (of_decide_eq_true (by kernel_rfl)) (ty39 _ HBL.out) (sct_all _) ?_; intro W8 N8 hNN8 hMN8 hr8 hb; have sW8 := hb.size; have hW := below_next hW hb; have hr5 := below_blk hb hr5; have hr6 := below_blk hb hr6; have c0 := cell_of_row _ N5 0 _ _ _ hr5; rw [ent0] at c0; have c1 := cell_of_row _ N5 1 _ _ _ hr5; rw [ent1] at c1; have c2 := cell_of_row _ N5 2 _ _ _ hr5; rw [ent2] at c2) | ((with_reducible show wpList _ _ _ (⟨some 26, _, _, _, _, _⟩ :: _) _ _); refine wpList_load_rowg 26 rfl rfl 39 _ rfl N8 rfl _ (sct e.body) (0, 0) _ hr8 Try.underlying39 rfl (ty39 _ HBL.out).size ?_) | ((with_reducible show wpList _ _ _ (⟨some 27, _, _, _, _, _⟩ :: _) _ _); refine wpList_build_p 27 rfl rfl 41 _ rfl #[(0, .int .i64 e.kind), (1, .int .i64 zone), (2, .int .i64 off), (3, .int .i64 epoch), (4, .int .i64 seq), (5, .agg (sct e.body))] (by kernel_rfl) (frm ⟨e.kind, zone, off, epoch, seq, e.body⟩) (build_frm e.kind zone off epoch seq e.body HBL.out) ?_) | ((with_reducible show wpList _ _ _ (⟨some 14, _, _, _, _, _⟩ :: _) _ _); refine wpList_local 14 rfl rfl rfl rfl 41 rfl _ rfl (frm ⟨e.kind, zone, off, epoch, seq, e.body⟩) rfl (of_decide_eq_true (by kernel_rfl)) (ty41 _ HFO.out) (frm_all _) ?_; intro W9 N9 hNN9 hMN9 hr9 hb; have sW9 := hb.size; have hW := below_next hW hb; have hr5 := below_blk hb hr5; have hr6 := below_blk hb hr6; have c0 := cell_of_row _ N5 0 _ _ _ hr5; rw [ent0] at c0; have c1 := cell_of_row _ N5 1 _ _ _ hr5; rw [ent1] at c1; have c2 := cell_of_row _ N5 2 _ _ _ hr5; rw [ent2] at c2) | ((with_reducible show wpList _ _ _ (⟨some 31, _, _, _, _, _⟩ :: _) _ _); refine wpList_load_rowg 31 rfl rfl 41 _ rfl N9 rfl _ (frm ⟨e.kind, zone, off, epoch, seq, e.body⟩) (0, 0) _ hr9 Try.underlying41 rfl (ty41 _ HFO.out).size ?_) | (go_at_call 38; refine (fright_b ⟨e.kind, zone, off, epoch, seq, e.body⟩ _ HFR.out _).mono ?_; rintro r w8 ⟨rfl, hb⟩; have hW := below_next hW hb; have hr5 := below_blk hb hr5; have hr6 := below_blk hb hr6; have hr9 := below_blk hb hr9; have c0 := cell_of_row _ N5 0 _ _ _ hr5; rw [ent0] at c0; have c1 := cell_of_row _ N5 1 _ _ _ hr5; rw [ent1] at c1; have c2 := cell_of_row _ N5 2 _ _ _ hr5; rw [ent2] at c2) | ((with_reducible show wpList _ _ _ (⟨some 50, _, _, _, _, _⟩ :: _) _ _); refine wpList_build_as 50 rfl rfl 41 _ rfl (frm M.Fr.zero) build_zero41 ?_) | ((with_reducible show wpList _ _ _ (⟨none, _, _, _, _, _⟩ :: _) _ _); refine wpList_store_agg rfl rfl 41 _ _ rfl N6 (frm M.Fr.zero) rfl rfl 41 _ hr6 (ty41 _ M.zero_ok) (rfl) (frm_all _) ?_; intro Z2 hrZ htZ))
  refine ret_cell 10 11 41 rfl rfl N6 rfl 41 _ (0, 0) _ hrZ Try.underlying41 rfl (ty41 _ M.zero_ok).size _ rfl ⟨by rw [HV.out]; rfl, below_turned hW htZ (fun k hk => by subst hk; omega)⟩
set_option maxRecDepth 100000 in
set_option maxHeartbeats 1000000 in
theorem eframe_e (e : M.En) (hok : e.ok) (zone off epoch seq : Int) (hr : e.right = true) (hf : (e.fr zone off epoch seq).right = true) (h1 : ¬ seq < e.first) (h2 : ¬ e.first ≤ seq - e.count) (w : World) :
    Calls Try.prog 63 #[.agg (ent e), .int .i64 zone, .int .i64 off, .int .i64 epoch, .int .i64 seq] w fun r w' => r = .returned (.tuple #[.agg (frm (e.frame zone off epoch seq).1), .int .i64 (e.frame zone off epoch seq).2]) ∧ Below w.heap.size w w' := by
  obtain ⟨V, hV⟩ : ∃ V, e.frame zone off epoch seq = V := ⟨_, rfl⟩
  rw [hV]
  have HV : Hid (V = (⟨e.kind, zone, off, epoch, seq, e.body⟩, 0)) := by show _ = _; rw [← hV, M.En.frame]; rw [if_pos ⟨hr, hf, by omega, by omega⟩]; rfl
  have HOK := hid hok
  have HBL := hid (e.body_length hok)
  have HFO : Hid ((⟨e.kind, zone, off, epoch, seq, e.body⟩ : M.Fr).ok) := M.fr_ok e hok zone off epoch seq
  have HR := hid hr
  have HFR : Hid ((⟨e.kind, zone, off, epoch, seq, e.body⟩ : M.Fr).right = true) := hf
  have t1 : decide (seq < e.first) = false := by simpa using h1
  have t2 : decide (e.first ≤ seq - e.count) = false := by simp only [decide_eq_false_iff_not]; exact h2
  have hbb := e.right_bounds hr
  have hff := hf
  have hff := of_decide_eq_true hff
  obtain ⟨-, -, -, -, h9, h10⟩ := hff
  have h9 : 0 ≤ seq := h9
  have h10 : seq ≤ 281474976710655 := h10
  have hsub : wrap64 (seq - e.count) = seq - e.count := by unfold wrap64; omega
  clear hbb
  clear hok hV hr hf h1 h2
  have hW := Below.refl w.heap.size w
  go_enter Try.func63, Try.ntmps63
  go_wp2_with (first | ((with_reducible show wpList _ _ _ (⟨some 5, _, _, _, _, _⟩ :: _) _ _); refine wpList_boxed 5 rfl rfl 82 _ rfl (ent e) rfl ?_; intro W5 N5 hNN5 hMN5 hr5 hb; have sW5 := hb.size; have hW := below_next hW hb) | ((with_reducible show wpList _ _ _ (⟨some 10, _, _, _, _, _⟩ :: _) _ _); refine wpList_zeroed 10 rfl rfl 41 rfl _ zero41 ?_; intro W6 N6 hN6 hM6 hr6 hb; have sW6 := hb.size; have hW := below_next hW hb; have hr5 := below_blk hb hr5) | ((with_reducible show wpList _ _ _ (⟨some 16, _, _, _, _, _⟩ :: _) _ _); refine wpList_load_rowg 16 rfl rfl 82 _ rfl N5 rfl _ (ent e) (0, 0) _ hr5 Try.underlying82 rfl (ty82 _ HOK.out).size ?_) | (go_at_call 61; refine (body_right e HOK.out HR.out _).mono ?_; rintro e w7 ⟨rfl, hb⟩; have sw7 := hb.size; have hW := below_next hW hb; have hr5 := below_blk hb hr5; have hr6 := below_blk hb hr6) | ((with_reducible show wpList _ _ _ (⟨some 12, _, _, _, _, _⟩ :: _) _ _); refine wpList_local 12 rfl rfl rfl rfl 39 rfl _ rfl (sct e.body) rfl (of_decide_eq_true (by kernel_rfl)) (ty39 _ HBL.out) (sct_all _) ?_; intro W8 N8 hNN8 hMN8 hr8 hb; have sW8 := hb.size; have hW := below_next hW hb; have hr5 := below_blk hb hr5; have hr6 := below_blk hb hr6; have c0 := cell_of_row _ N5 0 _ _ _ hr5; rw [ent0] at c0; have c1 := cell_of_row _ N5 1 _ _ _ hr5; rw [ent1] at c1; have c2 := cell_of_row _ N5 2 _ _ _ hr5; rw [ent2] at c2) | ((with_reducible show wpList _ _ _ (⟨some 26, _, _, _, _, _⟩ :: _) _ _); refine wpList_load_rowg 26 rfl rfl 39 _ rfl N8 rfl _ (sct e.body) (0, 0) _ hr8 Try.underlying39 rfl (ty39 _ HBL.out).size ?_) | ((with_reducible show wpList _ _ _ (⟨some 27, _, _, _, _, _⟩ :: _) _ _); refine wpList_build_p 27 rfl rfl 41 _ rfl #[(0, .int .i64 e.kind), (1, .int .i64 zone), (2, .int .i64 off), (3, .int .i64 epoch), (4, .int .i64 seq), (5, .agg (sct e.body))] (by kernel_rfl) (frm ⟨e.kind, zone, off, epoch, seq, e.body⟩) (build_frm e.kind zone off epoch seq e.body HBL.out) ?_) | ((with_reducible show wpList _ _ _ (⟨some 14, _, _, _, _, _⟩ :: _) _ _); refine wpList_local 14 rfl rfl rfl rfl 41 rfl _ rfl (frm ⟨e.kind, zone, off, epoch, seq, e.body⟩) rfl (of_decide_eq_true (by kernel_rfl)) (ty41 _ HFO.out) (frm_all _) ?_; intro W9 N9 hNN9 hMN9 hr9 hb; have sW9 := hb.size; have hW := below_next hW hb; have hr5 := below_blk hb hr5; have hr6 := below_blk hb hr6; have c0 := cell_of_row _ N5 0 _ _ _ hr5; rw [ent0] at c0; have c1 := cell_of_row _ N5 1 _ _ _ hr5; rw [ent1] at c1; have c2 := cell_of_row _ N5 2 _ _ _ hr5; rw [ent2] at c2) | ((with_reducible show wpList _ _ _ (⟨some 31, _, _, _, _, _⟩ :: _) _ _); refine wpList_load_rowg 31 rfl rfl 41 _ rfl N9 rfl _ (frm ⟨e.kind, zone, off, epoch, seq, e.body⟩) (0, 0) _ hr9 Try.underlying41 rfl (ty41 _ HFO.out).size ?_) | (go_at_call 38; refine (fright_b ⟨e.kind, zone, off, epoch, seq, e.body⟩ _ HFR.out _).mono ?_; rintro r w8 ⟨rfl, hb⟩; have hW := below_next hW hb; have hr5 := below_blk hb hr5; have hr6 := below_blk hb hr6; have hr9 := below_blk hb hr9; have c0 := cell_of_row _ N5 0 _ _ _ hr5; rw [ent0] at c0; have c1 := cell_of_row _ N5 1 _ _ _ hr5; rw [ent1] at c1; have c2 := cell_of_row _ N5 2 _ _ _ hr5; rw [ent2] at c2) | ((with_reducible show wpList _ _ _ (⟨some 51, _, _, _, _, _⟩ :: _) _ _); refine wpList_load_rowg 51 rfl rfl 41 _ rfl N9 rfl _ (frm ⟨e.kind, zone, off, epoch, seq, e.body⟩) (0, 0) _ hr9 Try.underlying41 rfl (ty41 _ HFO.out).size ?_) | ((with_reducible show wpList _ _ _ (⟨none, _, _, _, _, _⟩ :: _) _ _); refine wpList_store_agg rfl rfl 41 _ _ rfl N6 (frm ⟨e.kind, zone, off, epoch, seq, e.body⟩) rfl rfl 41 _ hr6 (ty41 _ HFO.out) (by rw [frm_size _ M.zero_ok, frm_size _ HFO.out]) (frm_all _) ?_; intro Z2 hrZ htZ))
  refine ret_cell 10 11 41 rfl rfl N6 rfl 41 _ (0, 0) _ hrZ Try.underlying41 rfl (ty41 _ HFO.out).size _ rfl ⟨by rw [HV.out]; rfl, below_turned hW htZ (fun k hk => by subst hk; omega)⟩
theorem eframe_calls (e : M.En) (hok : e.ok) (zone off epoch seq : Int) (w : World) :
    Calls Try.prog 63 #[.agg (ent e), .int .i64 zone, .int .i64 off, .int .i64 epoch, .int .i64 seq] w fun r w' => r = .returned (.tuple #[.agg (frm (e.frame zone off epoch seq).1), .int .i64 (e.frame zone off epoch seq).2]) ∧ Below w.heap.size w w' := by
  by_cases hr : e.right = true
  · by_cases hf : (e.fr zone off epoch seq).right = true
    · by_cases h1 : seq < e.first
      · exact eframe_c e hok zone off epoch seq hr hf h1 w
      · by_cases h2 : e.first ≤ seq - e.count
        · exact eframe_d e hok zone off epoch seq hr hf h1 h2 w
        · exact eframe_e e hok zone off epoch seq hr hf h1 h2 w
    · exact eframe_b e hok zone off epoch seq hr (by simpa using hf) w
  · exact eframe_a e hok zone off epoch seq (by simpa using hr) w
end Go.Proofs.Ytncooadaeifekaa

/- Walk of frame.Decode: what is no sealed sector. -/
namespace Go.Proofs.Ytncooadaeifekaa
open Go.RowKit Go.BigFrame
theorem sealed_at (s : List Nat) : M.sealed s = true ↔ s.drop 60 = M.leB 4 (M.crc (s.take 60)) := by simp [M.sealed]
set_option maxRecDepth 100000 in
set_option maxHeartbeats 400000 in
theorem decode_unsealed (s : List Nat) (hs : s.length = 64) (hb : ∀ c ∈ s, c < 256) (he : M.sealed s = false) (w : World) :
    Calls Try.prog 40 #[.agg tbl, .agg (sct s)] w fun e w' => e = .returned (.tuple #[.agg (frm M.Fr.zero), .int .i64 11]) ∧ Below w.heap.size w w' := by
  have HE : Hid (¬ s.drop 60 = M.leB 4 (M.crc (s.take 60))) := fun h => by rw [(sealed_at s).2 h] at he; cases he
  have HS := hid hs
  have HB := hid hb
  clear hs hb he
  have hW := Below.refl w.heap.size w
  go_enter Try.func40, Try.ntmps40
  go_upto_region 1 with (first | ((with_reducible show wpList _ _ _ (⟨some 2, _, _, _, _, _⟩ :: _) _ _); refine wpList_boxed 2 rfl rfl 25 _ rfl tbl rfl ?_; intro W2 N2 hN2 hM2 hr2 hb2; have hW := below_next hW hb2) | ((with_reducible show wpList _ _ _ (⟨some 3, _, _, _, _, _⟩ :: _) _ _); refine wpList_boxed 3 rfl rfl 44 _ rfl (sct s) rfl ?_; intro W3 N3 hN3 hM3 hr3 hb3; have hW := below_next hW hb3; have hr2 := below_blk hb3 hr2) | ((with_reducible show wpList _ _ _ (⟨some 4, _, _, _, _, _⟩ :: _) _ _); refine wpList_zeroed 4 rfl rfl 41 rfl _ zero41 ?_; intro W4 N4 hN4 hM4 hr4 hb4; have hW := below_next hW hb4; have hr3 := below_blk hb4 hr3; have hr2 := below_blk hb4 hr2))
  have hs3 := hasB_sct HB.out hr3
  refine wp_region_frame (spec := [none, none, none, none, none, none, none, none]) (vals := [.agg tbl, .slice (some ⟨N3, 0, none⟩) 64 64, .tuple #[.slice none 0 0, .int .i64 11], .tuple #[.slice none 0 0, .int .i64 11], .slice none 0 0, .int .i64 11, .slice none 0 0, .int .i64 11]) (by kernel_rfl) (by kernel_rfl) (by kernel_rfl) (by kernel_rfl) ?hst (fun hF => ?hobl) ?hQ
  case hst => exact trivial
  case hobl =>
    refine ⟨?_, ?_, ?_, ?_, ?_, ?_, ?_, ?_, trivial⟩
    · refine fun ho => obl_det hF (by kernel_rfl) (by kernel_rfl) ho (by kernel_rfl) (fun wx hbx => ?_); rw [if_pos (by kernel_rfl)]; with_reducible exact grows_row 25 (.tmp 2) (by kernel_rfl) N2 (by kernel_rfl) 25 tbl (0, 0) _ (below_blk hbx hr2) Try.underlying25 (by kernel_rfl) (by kernel_rfl) (by kernel_rfl) (by kernel_rfl)
    · refine fun ho => obl_det hF (by kernel_rfl) (by kernel_rfl) ho (by kernel_rfl) (fun wx hbx => ?_); rw [if_pos (by kernel_rfl)]; with_reducible exact grows_det (.slice (some ⟨N3, 0, none⟩) 64 64) (by kernel_rfl) (by kernel_rfl) (by kernel_rfl)
    · refine fun ho => obl_det hF (by kernel_rfl) (by kernel_rfl) ho (by kernel_rfl) (fun wx hbx => ?_); rw [if_pos (by kernel_rfl)]; with_reducible exact grows_call 47 #[.agg tbl, .slice (some ⟨N3, 0, none⟩) 64 64] (.tuple #[.slice none 0 0, .int .i64 11]) (by kernel_rfl) (open_noN 64 _ s HS.out 64 60 wx (hs3.below hbx) (by omega) (by omega) (by omega) HE.out) (by kernel_rfl) (by kernel_rfl)
    · refine fun ho => obl_det hF (by kernel_rfl) (by kernel_rfl) ho (by kernel_rfl) (fun wx hbx => ?_); rw [if_pos (by kernel_rfl)]; with_reducible exact grows_det (.tuple #[.slice none 0 0, .int .i64 11]) (by kernel_rfl) (by kernel_rfl) (by kernel_rfl)
    · refine fun ho => obl_det hF (by kernel_rfl) (by kernel_rfl) ho (by kernel_rfl) (fun wx hbx => ?_); rw [if_pos (by kernel_rfl)]; with_reducible exact grows_det (.slice none 0 0) (by kernel_rfl) (by kernel_rfl) (by kernel_rfl)
    · refine fun ho => obl_det hF (by kernel_rfl) (by kernel_rfl) ho (by kernel_rfl) (fun wx hbx => ?_); rw [if_pos (by kernel_rfl)]; with_reducible exact grows_det (.int .i64 11) (by kernel_rfl) (by kernel_rfl) (by kernel_rfl)
    · refine fun ho => obl_det hF (by kernel_rfl) (by kernel_rfl) ho (by kernel_rfl) (fun wx hbx => ?_); rw [if_pos (by kernel_rfl)]; with_reducible exact grows_det (.slice none 0 0) (by kernel_rfl) (by kernel_rfl) (by kernel_rfl)
    · refine fun ho => obl_det hF (by kernel_rfl) (by kernel_rfl) ho (by kernel_rfl) (fun wx hbx => ?_); rw [if_pos (by kernel_rfl)]; with_reducible exact grows_det (.int .i64 11) (by kernel_rfl) (by kernel_rfl) (by kernel_rfl)
  case hQ =>
    intro wy hby
    simp only [each, putAll]
    have hr4 := below_blk hby hr4
    have sz2 := hb2.size
    have sz3 := hb3.size
    have w4N : w.heap.size ≤ N4 := by omega
    have hW := below_next hW hby
    clear hr2 hr3 hs3 hby hb2 hb3 hb4
    go_wp2_with (first | ((with_reducible show wpList _ _ _ (⟨some 19, _, _, _, _, _⟩ :: _) _ _); refine wpList_build_as 19 rfl rfl 41 _ rfl (frm M.Fr.zero) build_zero41 ?_) | ((with_reducible show wpList _ _ _ (⟨none, _, _, _, _, _⟩ :: _) _ _); refine wpList_store_agg rfl rfl 41 _ _ rfl N4 (frm M.Fr.zero) rfl rfl 41 _ hr4 (ty41 _ M.zero_ok) rfl (frm_all _) ?_; intro Z hrZ htZ))
    refine ret_cell 4 5 41 rfl rfl N4 rfl 41 _ (0, 0) _ hrZ Try.underlying41 rfl (ty41 _ M.zero_ok).size _ rfl ⟨rfl, below_turned hW htZ (fun k hk => by subst hk; exact w4N)⟩
end Go.Proofs.Ytncooadaeifekaa

/- Walk of frame.Decode: what is a sealed sector. -/
namespace Go.Proofs.Ytncooadaeifekaa
open Go.RowKit Go.BigFrame
theorem cuts (s : List Nat) (hs : s.length = 64) : ∃ (L1 L2 L3 L4 L5 L6 BD : List Nat) (K0 VR Z OF EP SQ : Nat),
    (M.leV ((s.take 60).take 1) = K0 ∧ (s.take 60).drop 1 = L1) ∧ (M.leV (L1.take 1) = VR ∧ L1.drop 1 = L2) ∧ (M.leV (L2.take 2) = Z ∧ L2.drop 2 = L3) ∧ (M.leV (L3.take 2) = OF ∧ L3.drop 2 = L4) ∧ (M.leV (L4.take 4) = EP ∧ L4.drop 4 = L5) ∧ (M.leV (L5.take 6) = SQ ∧ L5.drop 6 = L6) ∧ (L6.take 44 = BD ∧ L6.drop 44 = []) ∧
    ((s.take 60).length = 60 ∧ L1.length = 59 ∧ L2.length = 58 ∧ L3.length = 56 ∧ L4.length = 54 ∧ L5.length = 50 ∧ L6.length = 44 ∧ BD.length = 44) ∧
    M.unFr s = ⟨K0, Z, OF, EP, SQ, BD⟩ ∧ M.ver s = VR := by
  refine ⟨_, _, _, _, _, _, _, _, _, _, _, _, _, ⟨rfl, rfl⟩, ⟨rfl, rfl⟩, ⟨rfl, rfl⟩, ⟨rfl, rfl⟩, ⟨rfl, rfl⟩, ⟨rfl, rfl⟩, ⟨rfl, ?_⟩, ?_, ?_, ?_⟩
  · exact List.drop_eq_nil_of_le (by simp [hs])
  · simp [hs]
  · simp [M.unFr, List.drop_take, List.take_take]
  · simp [M.ver, List.drop_take, List.take_take]
theorem build_kind41 (K : Int) (w : World) : (Instr.build 41 #[(0, .int .i64 K)]).run Try.prog w = .ok (.agg (frm ⟨K, 0, 0, 0, 0, List.replicate 44 0⟩)) w := by kernel_rfl
set_option maxRecDepth 100000 in
set_option maxHeartbeats 2000000 in
theorem decode_sealed (s : List Nat) (hs : s.length = 64) (hb : ∀ c ∈ s, c < 256) (he : M.sealed s = true) (w : World) :
    Calls Try.prog 40 #[.agg tbl, .agg (sct s)] w fun e w' => e = .returned (.tuple #[.agg (frm (M.dec s).1), .int .i64 (M.dec s).2]) ∧ Below w.heap.size w w' := by
  have HE : Hid (s.drop 60 = M.leB 4 (M.crc (s.take 60))) := (sealed_at s).1 he
  have hokU := M.unFr_ok s (by omega) hb
  obtain ⟨L1, L2, L3, L4, L5, L6, BD, K0, VR, Z, OF, EP, SQ, ⟨hv0, hd0⟩, ⟨hv1, hd1⟩, ⟨hv2, hd2⟩, ⟨hv3, hd3⟩, ⟨hv4, hd4⟩, ⟨hv5, hd5⟩, ⟨hv6, hd6⟩, ⟨hl0, hl1, hl2, hl3, hl4, hl5, hl6, hl7⟩, hU, hVer⟩ := cuts s hs
  obtain ⟨D, hD⟩ : ∃ D, D = M.dec s := ⟨_, rfl⟩
  have hDD : D = if VR = 1 ∧ (M.Fr.right ⟨K0, Z, OF, EP, SQ, BD⟩) = true then (⟨K0, Z, OF, EP, SQ, BD⟩, 0) else (M.Fr.zero, 10) := by
    rw [hD, M.dec, he, hVer, hU]; simp
  rw [← hD]
  rw [hU] at hokU
  have HOKU := hid hokU
  have HDD := hid hDD
  have HV0 := hid hv0
  have HD0 := hid hd0
  have HL0 := hid hl0
  have HV1 := hid hv1
  have HD1 := hid hd1
  have HL1 := hid hl1
  have HV2 := hid hv2
  have HD2 := hid hd2
  have HL2 := hid hl2
  have HV3 := hid hv3
  have HD3 := hid hd3
  have HL3 := hid hl3
  have HV4 := hid hv4
  have HD4 := hid hd4
  have HL4 := hid hl4
  have HV5 := hid hv5
  have HD5 := hid hd5
  have HL5 := hid hl5
  have HV6 := hid hv6
  have HD6 := hid hd6
  have HL6 := hid hl6
  have HL7 := hid hl7
  have HS := hid hs
  have HB := hid hb
  have zl : (List.replicate 44 0 : List Nat).length = 44 := by simp
  clear hs hb he hokU hU hVer hD hDD hv0 hd0 hl0 hv1 hd1 hl1 hv2 hd2 hl2 hv3 hd3 hl3 hv4 hd4 hl4 hv5 hd5 hl5 hv6 hd6 hl6 hl7
  have hW := Below.refl w.heap.size w
  go_enter Try.func40, Try.ntmps40
  go_upto_region 1 with (first | ((with_reducible show wpList _ _ _ (⟨some 2, _, _, _, _, _⟩ :: _) _ _); refine wpList_boxed 2 rfl rfl 25 _ rfl tbl rfl ?_; intro W2 N2 hN2 hM2 hr2 hb2; have hW := below_next hW hb2) | ((with_reducible show wpList _ _ _ (⟨some 3, _, _, _, _, _⟩ :: _) _ _); refine wpList_boxed 3 rfl rfl 44 _ rfl (sct s) rfl ?_; intro W3 N3 hN3 hM3 hr3 hb3; have hW := below_next hW hb3; have hr2 := below_blk hb3 hr2) | ((with_reducible show wpList _ _ _ (⟨some 4, _, _, _, _, _⟩ :: _) _ _); refine wpList_zeroed 4 rfl rfl 41 rfl _ zero41 ?_; intro W4 N4 hN4 hM4 hr4 hb4; have hW := below_next hW hb4; have hr3 := below_blk hb4 hr3; have hr2 := below_blk hb4 hr2))
  have hs3 := hasB_sct HB.out hr3
  refine wp_region_frame (spec := [none, none, some (Img (okF 60) (atF (s.take 60))), some (Img (okF 60) (atF (s.take 60))), some (Img (slF 60) (atF (s.take 60))), none, some (Img (slF 60) (atF (s.take 60))), none]) (vals := [.agg tbl, .slice (some ⟨N3, 0, none⟩) 64 64, undef, undef, undef, .int .i64 0, undef, .int .i64 0]) (by kernel_rfl) (by kernel_rfl) (by kernel_rfl) (by kernel_rfl) ?hst (fun hF => ?hobl) ?hQ
  case hst => exact ⟨img_stable _ _ (atF_stable _), img_stable _ _ (atF_stable _), img_stable _ _ (atF_stable _), img_stable _ _ (atF_stable _), trivial⟩
  case hobl =>
    refine ⟨?_, ?_, ?_, ?_, ?_, ?_, ?_, ?_, trivial⟩
    · refine fun ho => obl_det hF (by kernel_rfl) (by kernel_rfl) ho (by kernel_rfl) (fun wx hbx => ?_); rw [if_pos (by kernel_rfl)]; with_reducible exact grows_row 25 (.tmp 2) (by kernel_rfl) N2 (by kernel_rfl) 25 tbl (0, 0) _ (below_blk hbx hr2) Try.underlying25 (by kernel_rfl) (by kernel_rfl) (by kernel_rfl) (by kernel_rfl)
    · refine fun ho => obl_det hF (by kernel_rfl) (by kernel_rfl) ho (by kernel_rfl) (fun wx hbx => ?_); rw [if_pos (by kernel_rfl)]; with_reducible exact grows_det (.slice (some ⟨N3, 0, none⟩) 64 64) (by kernel_rfl) (by kernel_rfl) (by kernel_rfl)
    · refine fun ho => obl_det hF (by kernel_rfl) (by kernel_rfl) ho (by kernel_rfl) (fun wx hbx => ?_); rw [if_pos (by kernel_rfl)]; with_reducible exact grows_callE 47 #[.agg tbl, .slice (some ⟨N3, 0, none⟩) 64 64] _ (by kernel_rfl) (open_yesN 64 _ s HS.out 64 60 wx (hs3.below hbx) (by omega) (by omega) (by omega) HE.out) (by kernel_rfl)
    · refine fun ho => obl_img hF (by kernel_rfl) (by kernel_rfl) ho 2 (by kernel_rfl) 14 (okF 60) (atF (s.take 60)) (by kernel_rfl) (by kernel_rfl) (fun wx p hbx hp => ?_); rw [if_pos (by kernel_rfl)]; with_reducible exact grows_new (okF 60 p) wx (by kernel_rfl) (Below.refl _ _) (Img (okF 60) (atF (s.take 60))) (by kernel_rfl) (img_mk p hp)
    · refine fun ho => obl_img hF (by kernel_rfl) (by kernel_rfl) ho 3 (by kernel_rfl) 11 (okF 60) (atF (s.take 60)) (by kernel_rfl) (by kernel_rfl) (fun wx p hbx hp => ?_); rw [if_pos (by kernel_rfl)]; with_reducible exact grows_new (slF 60 p) wx (by kernel_rfl) (Below.refl _ _) (Img (slF 60) (atF (s.take 60))) (by kernel_rfl) (img_mk p hp)
    · refine fun ho => obl_img hF (by kernel_rfl) (by kernel_rfl) ho 3 (by kernel_rfl) 11 (okF 60) (atF (s.take 60)) (by kernel_rfl) (by kernel_rfl) (fun wx p hbx hp => ?_); rw [if_pos (by kernel_rfl)]; with_reducible exact grows_det (.int .i64 0) (by kernel_rfl) (by kernel_rfl) (by kernel_rfl)
    · refine fun ho => obl_img hF (by kernel_rfl) (by kernel_rfl) ho 4 (by kernel_rfl) 15 (slF 60) (atF (s.take 60)) (by kernel_rfl) (by kernel_rfl) (fun wx p hbx hp => ?_); rw [if_pos (by kernel_rfl)]; with_reducible exact grows_new (slF 60 p) wx (by kernel_rfl) (Below.refl _ _) (Img (slF 60) (atF (s.take 60))) (by kernel_rfl) (img_mk p hp)
    · refine fun ho => obl_det hF (by kernel_rfl) (by kernel_rfl) ho (by kernel_rfl) (fun wx hbx => ?_); rw [if_pos (by kernel_rfl)]; with_reducible exact grows_det (.int .i64 0) (by kernel_rfl) (by kernel_rfl) (by kernel_rfl)
  case hQ =>
    intro wy hby
    simp only [each, putAll]
    rintro x1 ⟨⟨xa1, xc1⟩, rfl, -⟩ x2 ⟨⟨xa2, xc2⟩, rfl, -⟩ x3 ⟨⟨xa3, xc3⟩, rfl, -⟩ x4 ⟨⟨xa, xc⟩, rfl, xh⟩
    simp only [okF, slF, atF] at xh ⊢
    have hr4 := below_blk hby hr4
    have sz2 := hb2.size
    have sz3 := hb3.size
    have szy := hby.size
    have w4N : w.heap.size ≤ N4 := by omega
    have N4y : N4 < wy.heap.size := by omega
    have hW := below_next hW hby
    obtain ⟨T, hT⟩ : ∃ T, T = s.take 60 := ⟨_, rfl⟩
    rw [← hT] at xh HV0 HD0 HL0
    clear hr2 hr3 hs3 hby hb2 hb3 hb4 hT HE
    go_upto_region 5 with (first | (go_at_call 49; refine (rnewR 60 xa T HL0.out xc _ xh (by omega)).mono ?_; rintro e y1 ⟨⟨R, rfl, hrd, hR1, hR2⟩, hb1⟩; have szr := hb1.size; have hr4 := below_blk hb1 hr4; have wR : w.heap.size ≤ R := Nat.le_trans hW.size hR1; have hW := below_next hW hb1))
    have n4 : N4 ≠ R := by omega
    clear xh hb1
    go_upto_region 6 with (first | ((with_reducible show Calls _ 56 #[_, .int .i64 1] _ _); refine (rdNumR R _ _ 1 T L1 K0 HV0.out HD0.out _ hrd (by omega) (by omega) (by rw [HL0.out]; omega) (by rw [HL0.out]; omega)).mono ?_; rintro e x0 ⟨rfl, hrd, ht⟩; have hr4 := ht.blk hr4 n4; have hW := below_turned hW ht (fun k hk => by subst hk; exact wR)) | ((with_reducible show wpList _ _ _ (⟨some 25, _, _, _, _, _⟩ :: _) _ _); refine wpList_build_as 25 rfl rfl 41 _ rfl (frm ⟨K0, 0, 0, 0, 0, List.replicate 44 0⟩) (build_kind41 K0) ?_) | ((with_reducible show wpList _ _ _ (⟨some 9, _, _, _, _, _⟩ :: _) _ _); refine wpList_local 9 rfl rfl rfl rfl 41 rfl _ rfl (frm ⟨K0, 0, 0, 0, 0, List.replicate 44 0⟩) rfl (by simp) (ty41 _ ⟨zl, by simp⟩) (frm_all _) ?_; intro W9 N9 hN9 hM9 hr9 hb9; have hr4 := below_blk hb9 hr4; have hrd := hrd.grow hb9; have sz9 := ht.size; have hW := below_next hW hb9))
    have n9 : N9 ≠ R := by omega
    have n49 : N4 ≠ N9 := by omega
    have hC : y1.heap.size ≤ N9 := by omega
    have w9 : w.heap.size ≤ N9 := by omega
    clear ht hb9
    go_upto_region 7 with (first | ((with_reducible show Calls _ 56 #[_, .int .i64 1] _ _); refine (rdNumR R _ _ 1 L1 L2 VR HV1.out HD1.out _ hrd (by omega) (by omega) (by rw [HL1.out]; omega) (by rw [HL1.out]; omega)).mono ?_; rintro e x1 ⟨rfl, hrd, ht⟩; have hr4 := ht.blk hr4 n4; have hW := below_turned hW ht (fun k hk => by subst hk; exact wR); have hr9 := ht.blk hr9 n9))
    clear ht
    go_upto_region 8 with (first | ((with_reducible show Calls _ 56 #[_, .int .i64 2] _ _); refine (rdNumR R _ _ 2 L2 L3 Z HV2.out HD2.out _ hrd (by omega) (by omega) (by rw [HL2.out]; omega) (by rw [HL2.out]; omega)).mono ?_; rintro e x2 ⟨rfl, hrd, ht⟩; have hr4 := ht.blk hr4 n4; have hW := below_turned hW ht (fun k hk => by subst hk; exact wR); have hr9 := ht.blk hr9 n9) | ((with_reducible show Calls _ 56 #[_, .int .i64 2] _ _); refine (rdNumR R _ _ 2 L3 L4 OF HV3.out HD3.out _ hrd (by omega) (by omega) (by rw [HL3.out]; omega) (by rw [HL3.out]; omega)).mono ?_; rintro e x3 ⟨rfl, hrd, ht⟩; have hr4 := ht.blk hr4 n4; have hW := below_turned hW ht (fun k hk => by subst hk; exact wR); have hr9 := ht.blk hr9 n9) | ((with_reducible show Calls _ 56 #[_, .int .i64 4] _ _); refine (rdNumR R _ _ 4 L4 L5 EP HV4.out HD4.out _ hrd (by omega) (by omega) (by rw [HL4.out]; omega) (by rw [HL4.out]; omega)).mono ?_; rintro e x4 ⟨rfl, hrd, ht⟩; have hr4 := ht.blk hr4 n4; have hW := below_turned hW ht (fun k hk => by subst hk; exact wR); have hr9 := ht.blk hr9 n9) | ((with_reducible show Calls _ 56 #[_, .int .i64 6] _ _); refine (rdNumR R _ _ 6 L5 L6 SQ HV5.out HD5.out _ hrd (by omega) (by omega) (by rw [HL5.out]; omega) (by rw [HL5.out]; omega)).mono ?_; rintro e x5 ⟨rfl, hrd, ht⟩; have hr4 := ht.blk hr4 n4; have hW := below_turned hW ht (fun k hk => by subst hk; exact wR); have hr9 := ht.blk hr9 n9) | ((with_reducible show wpList _ _ _ (⟨none, .store _ (.tmp 36) _, _, _, _, _⟩ :: _) _ _); refine wpList_store_cell rfl rfl 3 _ _ rfl N9 1 .i64 _ rfl rfl size3 41 _ (frm ⟨K0, Z, 0, 0, 0, List.replicate 44 0⟩) hr9 (by rw [frm_sizeN _ _ _ _ _ _ zl]; omega) (frm_set1 ..) ?_; intro Y1 hr9 ht; have hr4 := ht.blk hr4 n49; have hrd := hrd.turned ht (fun h => n9 h.symm) (fun k hk => .inr (by subst hk; exact hC)); have hW := below_turned hW ht (fun k hk => by subst hk; exact w9)) | ((with_reducible show wpList _ _ _ (⟨none, .store _ (.tmp 37) _, _, _, _, _⟩ :: _) _ _); refine wpList_store_cell rfl rfl 3 _ _ rfl N9 2 .i64 _ rfl rfl size3 41 _ (frm ⟨K0, Z, OF, 0, 0, List.replicate 44 0⟩) hr9 (by rw [frm_sizeN _ _ _ _ _ _ zl]; omega) (frm_set2 ..) ?_; intro Y2 hr9 ht; have hr4 := ht.blk hr4 n49; have hrd := hrd.turned ht (fun h => n9 h.symm) (fun k hk => .inr (by subst hk; exact hC)); have hW := below_turned hW ht (fun k hk => by subst hk; exact w9)) | ((with_reducible show wpList _ _ _ (⟨none, .store _ (.tmp 38) _, _, _, _, _⟩ :: _) _ _); refine wpList_store_cell rfl rfl 3 _ _ rfl N9 3 .i64 _ rfl rfl size3 41 _ (frm ⟨K0, Z, OF, EP, 0, List.replicate 44 0⟩) hr9 (by rw [frm_sizeN _ _ _ _ _ _ zl]; omega) (frm_set3 ..) ?_; intro Y3 hr9 ht; have hr4 := ht.blk hr4 n49; have hrd := hrd.turned ht (fun h => n9 h.symm) (fun k hk => .inr (by subst hk; exact hC)); have hW := below_turned hW ht (fun k hk => by subst hk; exact w9)) | ((with_reducible show wpList _ _ _ (⟨none, .store _ (.tmp 39) _, _, _, _, _⟩ :: _) _ _); refine wpList_store_cell rfl rfl 3 _ _ rfl N9 4 .i64 _ rfl rfl size3 41 _ (frm ⟨K0, Z, OF, EP, SQ, List.replicate 44 0⟩) hr9 (by rw [frm_sizeN _ _ _ _ _ _ zl]; omega) (frm_set4 ..) ?_; intro Y4 hr9 ht; have hr4 := ht.blk hr4 n49; have hrd := hrd.turned ht (fun h => n9 h.symm) (fun k hk => .inr (by subst hk; exact hC)); have hW := below_turned hW ht (fun k hk => by subst hk; exact w9)))
    refine wp_region_tail 3 [0, 1, 2] (spec := [none, none, none, none, none]) (vals := [.pointer (some ⟨N9, 5, none⟩), .slice (some ⟨N9, 5, none⟩) 44 44, .pointer (some ⟨R, 0, none⟩), undef, undef]) (by kernel_rfl) (by kernel_rfl) (by kernel_rfl) (by kernel_rfl) (by kernel_rfl) (by kernel_rfl) (by kernel_rfl) ?hst (fun hF => ?hobl) ?hQ
    case hst => exact trivial
    case hobl =>
      refine ⟨?_, ?_, ?_, trivial⟩
      · refine fun ho => ?_; rw [if_pos (by decide)]; refine free_det ho (by kernel_rfl) (by kernel_rfl) (fun wx => ?_); kernel_rfl
      · refine fun ho => ?_; rw [if_pos (by decide)]; refine free_det ho (by kernel_rfl) (by kernel_rfl) (fun wx => ?_); kernel_rfl
      · refine fun ho => ?_; rw [if_pos (by decide)]; refine free_det ho (by kernel_rfl) (by kernel_rfl) (fun wx => ?_); kernel_rfl
    case hQ =>
      intro wz hbz
      have hr4 := below_blk hbz hr4
      have hr9 := below_blk hbz hr9
      have hrd := hrd.grow hbz
      have hW := below_next hW hbz
      clear hbz
      simp only [each, putAll, List.take_succ_cons, List.take_zero, List.drop_succ_cons, List.drop_zero]
      go_wp2_with (first | ((with_reducible show Calls _ 52 _ _ _); refine (rdBytesR R _ _ 44 L6 [] BD HV6.out HD6.out _ hrd (by rw [HL6.out]; omega) (by rw [HL6.out]; omega)).mono ?_; rintro e wc ⟨⟨ab, rfl, hbd⟩, hrd, ht⟩; have hr4 := ht.blk hr4 n4; have hr9 := ht.blk hr9 n9; have hW := below_turned hW ht (fun k hk => by subst hk; exact wR)) | ((with_reducible show wpList _ _ _ (⟨some 44, _, _, _, _, _⟩ :: _) _ _); refine wpList_copy_bytes rfl (some 44) rfl _ _ rfl N9 5 44 44 44 ab rfl rfl BD HL7.out (by omega) hbd 41 _ (frm ⟨K0, Z, OF, EP, SQ, BD⟩) hr9 (by rw [frm_sizeN _ _ _ _ _ _ zl]; omega) (frm_body_put _ _ _ _ _ _ _ zl HL7.out) ?_; intro wd hr9 ht; have hr4 := ht.blk hr4 n49; have hrd := hrd.turned ht (fun h => n9 h.symm) (fun k hk => .inr (by subst hk; exact hC)); have hW := below_turned hW ht (fun k hk => by subst hk; exact w9)))
      simp only [NormQ]
      by_cases hv : VR = 1
      · by_cases hr : (M.Fr.right ⟨K0, Z, OF, EP, SQ, BD⟩) = true
        · have tv : ((VR : Int) != 1) = false := by rw [bne_eq_false_iff_eq]; omega
          have HR := hid hr
          have HDV : Hid (D = (⟨K0, Z, OF, EP, SQ, BD⟩, 0)) := by show _ = _; rw [HDD.out, if_pos ⟨hv, hr⟩]
          clear hr
          go_wp2_with (first | (go_at_call 38; refine (right_calls ⟨K0, Z, OF, EP, SQ, BD⟩ _).mono ?_; rintro e w5 ⟨rfl, hb5⟩; rw [HR.out]; have hr4 := below_blk hb5 hr4; have hr9 := below_blk hb5 hr9; have hrd := hrd.grow hb5; have hW := below_next hW hb5) | ((with_reducible show wpList _ _ _ (⟨some 48, _, _, _, _, _⟩ :: _) _ _); refine wpList_load_rowg 48 rfl rfl _ _ rfl N9 rfl 41 (frm ⟨K0, Z, OF, EP, SQ, BD⟩) (0, 0) _ hr9 Try.underlying41 rfl (ty41 _ HOKU.out).size ?_) | (go_at_call 58; refine (doneR R _ _ [] _ hrd).mono ?_; rintro e w6 ⟨rfl, hb6⟩; simp only [ne_eq, not_true, if_false]; have hr4 := below_blk hb6 hr4; have hr9 := below_blk hb6 hr9; have hW := below_next hW hb6) | ((with_reducible show wpList _ _ _ (⟨some 58, _, _, _, _, _⟩ :: _) _ _); refine wpList_load_row rfl _ _ rfl N9 rfl 41 (frm ⟨K0, Z, OF, EP, SQ, BD⟩) (0, 0) _ hr9 Try.underlying41 rfl (ty41 _ HOKU.out).size ?_) | ((with_reducible show wpList _ _ _ (⟨none, _, _, _, _, _⟩ :: _) _ _); refine wpList_store_agg rfl rfl 41 _ _ rfl N4 (frm ⟨K0, Z, OF, EP, SQ, BD⟩) rfl rfl 41 _ hr4 (ty41 _ HOKU.out) (by rw [frm_size _ M.zero_ok, frm_size _ HOKU.out]) (frm_all _) ?_; intro Z2 hrZ htZ))
          refine ret_cell 4 5 41 rfl rfl N4 rfl 41 _ (0, 0) _ hrZ Try.underlying41 rfl (ty41 _ HOKU.out).size _ rfl ⟨by rw [HDV.out]; rfl, below_turned hW htZ (fun k hk => by subst hk; exact w4N)⟩
        · have tv : ((VR : Int) != 1) = false := by rw [bne_eq_false_iff_eq]; omega
          have HR : Hid ((M.Fr.right ⟨K0, Z, OF, EP, SQ, BD⟩) = false) := by show _ = _; simpa using hr
          have HDV : Hid (D = (M.Fr.zero, 10)) := by show _ = _; rw [HDD.out, if_neg (fun h => hr h.2)]
          clear hr
          go_wp2_with (first | ((with_reducible show wpList _ _ _ (⟨some 57, _, _, _, _, _⟩ :: _) _ _); refine wpList_build_as 57 rfl rfl 41 _ rfl (frm M.Fr.zero) build_zero41 ?_) | ((with_reducible show wpList _ _ _ (⟨none, _, _, _, _, _⟩ :: _) _ _); refine wpList_store_agg rfl rfl 41 _ _ rfl N4 (frm M.Fr.zero) rfl rfl 41 _ hr4 (ty41 _ M.zero_ok) rfl (frm_all _) ?_; intro Z2 hrZ htZ) | (go_at_call 38; refine (right_calls ⟨K0, Z, OF, EP, SQ, BD⟩ _).mono ?_; rintro e w5 ⟨rfl, hb5⟩; rw [HR.out]; have hr4 := below_blk hb5 hr4; have hW := below_next hW hb5) | ((with_reducible show wpList _ _ _ (⟨some 48, _, _, _, _, _⟩ :: _) _ _); refine wpList_load_rowg 48 rfl rfl _ _ rfl N9 rfl 41 (frm ⟨K0, Z, OF, EP, SQ, BD⟩) (0, 0) _ hr9 Try.underlying41 rfl (ty41 _ HOKU.out).size ?_))
          refine ret_cell 4 5 41 rfl rfl N4 rfl 41 _ (0, 0) _ hrZ Try.underlying41 rfl (ty41 _ M.zero_ok).size _ rfl ⟨by rw [HDV.out]; rfl, below_turned hW htZ (fun k hk => by subst hk; exact w4N)⟩
      · have tv : ((VR : Int) != 1) = true := by rw [bne_iff_ne]; omega
        have HDV : Hid (D = (M.Fr.zero, 10)) := by show _ = _; rw [HDD.out, if_neg (fun h => hv h.1)]
        clear hv
        go_wp2_with (first | ((with_reducible show wpList _ _ _ (⟨some 57, _, _, _, _, _⟩ :: _) _ _); refine wpList_build_as 57 rfl rfl 41 _ rfl (frm M.Fr.zero) build_zero41 ?_) | ((with_reducible show wpList _ _ _ (⟨none, _, _, _, _, _⟩ :: _) _ _); refine wpList_store_agg rfl rfl 41 _ _ rfl N4 (frm M.Fr.zero) rfl rfl 41 _ hr4 (ty41 _ M.zero_ok) rfl (frm_all _) ?_; intro Z2 hrZ htZ) | (go_at_call 38; refine (right_calls ⟨K0, Z, OF, EP, SQ, BD⟩ _).mono ?_; rintro e w5 ⟨rfl, hb5⟩; rw [HR.out]; have hr4 := below_blk hb5 hr4; have hW := below_next hW hb5) | ((with_reducible show wpList _ _ _ (⟨some 48, _, _, _, _, _⟩ :: _) _ _); refine wpList_load_rowg 48 rfl rfl _ _ rfl N9 rfl 41 (frm ⟨K0, Z, OF, EP, SQ, BD⟩) (0, 0) _ hr9 Try.underlying41 rfl (ty41 _ HOKU.out).size ?_))
        refine ret_cell 4 5 41 rfl rfl N4 rfl 41 _ (0, 0) _ hrZ Try.underlying41 rfl (ty41 _ M.zero_ok).size _ rfl ⟨by rw [HDV.out]; rfl, below_turned hW htZ (fun k hk => by subst hk; exact w4N)⟩
theorem decode_calls (s : List Nat) (hs : s.length = 64) (hb : ∀ c ∈ s, c < 256) (w : World) :
    Calls Try.prog 40 #[.agg tbl, .agg (sct s)] w fun e w' => e = .returned (.tuple #[.agg (frm (M.dec s).1), .int .i64 (M.dec s).2]) ∧ Below w.heap.size w w' := by
  by_cases he : M.sealed s = true
  · exact decode_sealed s hs hb he w
  · have he : M.sealed s = false := by simpa using he
    rw [M.dec_unsealed s he]
    exact decode_unsealed s hs hb he w
end Go.Proofs.Ytncooadaeifekaa

/- Walk of entry.Of. -/
namespace Go.Proofs.Ytncooadaeifekaa
open Go.RowKit Go.BigFrame
theorem cuts44 (s : List Nat) (hs : s.length = 44) : ∃ (L1 L2 L3 L4 L5 BD : List Nat) (V0 V1 V2 V3 V4 : Nat),
    (M.leV (s.take 6) = V0 ∧ s.drop 6 = L1) ∧ (M.leV (L1.take 1) = V1 ∧ L1.drop 1 = L2) ∧ (M.leV (L2.take 1) = V2 ∧ L2.drop 1 = L3) ∧ (M.leV (L3.take 2) = V3 ∧ L3.drop 2 = L4) ∧ (M.leV (L4.take 2) = V4 ∧ L4.drop 2 = L5) ∧ (L5.take 32 = BD ∧ L5.drop 32 = []) ∧
    (L1.length = 38 ∧ L2.length = 37 ∧ L3.length = 36 ∧ L4.length = 34 ∧ L5.length = 32 ∧ BD.length = 32) ∧
    ∀ K, M.unEn K s = ⟨K, V0, V1, V2, V3, V4, BD⟩ := by
  refine ⟨_, _, _, _, _, _, _, _, _, _, _, ⟨rfl, rfl⟩, ⟨rfl, rfl⟩, ⟨rfl, rfl⟩, ⟨rfl, rfl⟩, ⟨rfl, rfl⟩, ⟨rfl, ?_⟩, ?_, fun K => ?_⟩
  · exact List.drop_eq_nil_of_le (by simp [hs])
  · simp [hs]
  · simp [M.unEn]
set_option maxRecDepth 100000 in
set_option maxHeartbeats 2000000 in
theorem of_calls (K : Int) (s : List Nat) (hs : s.length = 44) (hb : ∀ c ∈ s, c < 256) (w : World) :
    Calls Try.prog 67 #[.int .i64 K, .agg (sct s)] w fun e w' => e = .returned (.tuple #[.agg (ent (M.ofB K s).1), .int .i64 (M.ofB K s).2]) ∧ Below w.heap.size w w' := by
  have hokU := M.unEn_ok K s hs hb
  have hbu := M.body_unEn K s hs hb
  obtain ⟨L1, L2, L3, L4, L5, BD, V0, V1, V2, V3, V4, ⟨hv0, hd0⟩, ⟨hv1, hd1⟩, ⟨hv2, hd2⟩, ⟨hv3, hd3⟩, ⟨hv4, hd4⟩, ⟨hv5, hd5⟩, ⟨hl1, hl2, hl3, hl4, hl5, hl6⟩, hU⟩ := cuts44 s hs
  replace hU := hU K
  obtain ⟨D, hD⟩ : ∃ D, D = M.ofB K s := ⟨_, rfl⟩
  rw [← hD]
  rw [M.ofB, hU] at hD
  rw [hU] at hokU hbu
  have HD := hid hD
  have HOKB := hid hokU
  have HBU := hid hbu
  have hl0 := hs
  have HV0 := hid hv0
  have HD0 := hid hd0
  have HL0 := hid hl0
  have HV1 := hid hv1
  have HD1 := hid hd1
  have HL1 := hid hl1
  have HV2 := hid hv2
  have HD2 := hid hd2
  have HL2 := hid hl2
  have HV3 := hid hv3
  have HD3 := hid hd3
  have HL3 := hid hl3
  have HV4 := hid hv4
  have HD4 := hid hd4
  have HL4 := hid hl4
  have HV5 := hid hv5
  have HD5 := hid hd5
  have HL5 := hid hl5
  have HL6 := hid hl6
  have HS := hid hs
  have HB := hid hb
  have zl : Hid ((⟨K, V0, V1, V2, V3, V4, List.replicate 32 0⟩ : M.En).ok) := ⟨by simp, by simp⟩
  clear hs hb hokU hbu hU hD hv0 hd0 hl0 hv1 hd1 hl1 hv2 hd2 hl2 hv3 hd3 hl3 hv4 hd4 hl4 hv5 hd5 hl5 hl6
  have hW := Below.refl w.heap.size w
  go_enter Try.func67, Try.ntmps67
  go_upto_region 1 with (first | ((with_reducible show wpList _ _ _ (⟨some 3, _, _, _, _, _⟩ :: _) _ _); refine wpList_boxed 3 rfl rfl 39 _ rfl (sct s) rfl ?_; intro W3 N3 hNN3 hMN3 hr3 hb; have sW3 := hb.size; have hW := below_next hW hb) | ((with_reducible show wpList _ _ _ (⟨some 4, _, _, _, _, _⟩ :: _) _ _); refine wpList_zeroed 4 rfl rfl 82 rfl _ zero82 ?_; intro W4 N4 hN4 hM4 hr4 hb; have sW4 := hb.size; have hW := below_next hW hb; have hr3 := below_blk hb hr3))
  have hs3 := hasB_sct HB.out hr3
  have w4N : w.heap.size ≤ N4 := by omega
  have n34 : N3 ≠ N4 := by omega
  clear hb
  go_upto_region 2 with (first | (go_at_call 49; refine (rnewR 44 _ s HL0.out 44 _ hs3 (by omega)).mono ?_; rintro e y1 ⟨⟨R, rfl, hrd, hR1, hR2⟩, hb1⟩; have szr := hb1.size; have hr3 := below_blk hb1 hr3; have hr4 := below_blk hb1 hr4; have wR : w.heap.size ≤ R := Nat.le_trans hW.size hR1; have hW := below_next hW hb1))
  have n4 : N4 ≠ R := by omega
  have n3 : N3 ≠ R := by omega
  clear hs3 hb1
  have szY := Nat.le_refl y1.heap.size
  go_upto_region 3 with (first | ((with_reducible show Calls _ 56 #[_, .int .i64 6] _ _); refine (rdNumR R _ _ 6 s L1 V0 HV0.out HD0.out _ hrd (by omega) (by omega) (by rw [HL0.out]; omega) (by rw [HL0.out]; omega)).mono ?_; rintro e x0 ⟨rfl, hrd, ht⟩; have hr3 := ht.blk hr3 n3; have hr4 := ht.blk hr4 n4; have szY := Nat.le_trans szY ht.size; have hW := below_turned hW ht (fun k hk => by subst hk; exact wR)) | ((with_reducible show Calls _ 56 #[_, .int .i64 1] _ _); refine (rdNumR R _ _ 1 L1 L2 V1 HV1.out HD1.out _ hrd (by omega) (by omega) (by rw [HL1.out]; omega) (by rw [HL1.out]; omega)).mono ?_; rintro e x1 ⟨rfl, hrd, ht⟩; have hr3 := ht.blk hr3 n3; have hr4 := ht.blk hr4 n4; have szY := Nat.le_trans szY ht.size; have hW := below_turned hW ht (fun k hk => by subst hk; exact wR)) | ((with_reducible show Calls _ 56 #[_, .int .i64 1] _ _); refine (rdNumR R _ _ 1 L2 L3 V2 HV2.out HD2.out _ hrd (by omega) (by omega) (by rw [HL2.out]; omega) (by rw [HL2.out]; omega)).mono ?_; rintro e x2 ⟨rfl, hrd, ht⟩; have hr3 := ht.blk hr3 n3; have hr4 := ht.blk hr4 n4; have szY := Nat.le_trans szY ht.size; have hW := below_turned hW ht (fun k hk => by subst hk; exact wR)) | ((with_reducible show Calls _ 56 #[_, .int .i64 2] _ _); refine (rdNumR R _ _ 2 L3 L4 V3 HV3.out HD3.out _ hrd (by omega) (by omega) (by rw [HL3.out]; omega) (by rw [HL3.out]; omega)).mono ?_; rintro e x3 ⟨rfl, hrd, ht⟩; have hr3 := ht.blk hr3 n3; have hr4 := ht.blk hr4 n4; have szY := Nat.le_trans szY ht.size; have hW := below_turned hW ht (fun k hk => by subst hk; exact wR)) | ((with_reducible show Calls _ 56 #[_, .int .i64 2] _ _); refine (rdNumR R _ _ 2 L4 L5 V4 HV4.out HD4.out _ hrd (by omega) (by omega) (by rw [HL4.out]; omega) (by rw [HL4.out]; omega)).mono ?_; rintro e x4 ⟨rfl, hrd, ht⟩; have hr3 := ht.blk hr3 n3; have hr4 := ht.blk hr4 n4; have szY := Nat.le_trans szY ht.size; have hW := below_turned hW ht (fun k hk => by subst hk; exact wR)) | ((with_reducible show wpList _ _ _ (⟨some 23, _, _, _, _, _⟩ :: _) _ _); refine wpList_build_p 23 rfl rfl 82 _ rfl #[(0, .int .i64 K), (1, .int .i64 V0), (2, .int .i64 V1), (3, .int .i64 V2), (4, .int .i64 V3), (5, .int .i64 V4)] (by kernel_rfl) (ent ⟨K, V0, V1, V2, V3, V4, List.replicate 32 0⟩) (build_ent82 _ _ _ _ _ _) ?_) | ((with_reducible show wpList _ _ _ (⟨some 7, _, _, _, _, _⟩ :: _) _ _); refine wpList_local 7 rfl rfl rfl rfl 82 rfl _ rfl (ent ⟨K, V0, V1, V2, V3, V4, List.replicate 32 0⟩) rfl (of_decide_eq_true (by kernel_rfl)) (ty82 _ zl.out) (ent_all _) ?_; intro W7 N7 hN7 hM7 hr7 hb7; have hr3 := below_blk hb7 hr3; have hr4 := below_blk hb7 hr4; have hrd := hrd.grow hb7; have sz7 := ht.size; have hW := below_next hW hb7))
  have n7 : N7 ≠ R := by omega
  have n47 : N4 ≠ N7 := by omega
  have n37 : N3 ≠ N7 := by omega
  have hC : y1.heap.size ≤ N7 := by omega
  have w7 : w.heap.size ≤ N7 := by omega
  clear ht hb7
  refine wp_region_tail 3 [0, 1, 2] (spec := [none, none, none, none, none]) (vals := [.pointer (some ⟨N7, 6, none⟩), .slice (some ⟨N7, 6, none⟩) 32 32, .pointer (some ⟨R, 0, none⟩), undef, undef]) (by kernel_rfl) (by kernel_rfl) (by kernel_rfl) (by kernel_rfl) (by kernel_rfl) (by kernel_rfl) (by kernel_rfl) ?hst (fun hF => ?hobl) ?hQ
  case hst => exact trivial
  case hobl =>
    refine ⟨?_, ?_, ?_, trivial⟩
    · refine fun ho => ?_; rw [if_pos (by decide)]; refine free_det ho (by kernel_rfl) (by kernel_rfl) (fun wx => ?_); kernel_rfl
    · refine fun ho => ?_; rw [if_pos (by decide)]; refine free_det ho (by kernel_rfl) (by kernel_rfl) (fun wx => ?_); kernel_rfl
    · refine fun ho => ?_; rw [if_pos (by decide)]; refine free_det ho (by kernel_rfl) (by kernel_rfl) (fun wx => ?_); kernel_rfl
  case hQ =>
    intro wz hbz
    have hr3 := below_blk hbz hr3
    have hr4 := below_blk hbz hr4
    have hr7 := below_blk hbz hr7
    have hrd := hrd.grow hbz
    have hW := below_next hW hbz
    clear hbz
    simp only [each, putAll, List.take_succ_cons, List.take_zero, List.drop_succ_cons, List.drop_zero]
    go_wp2_with (first | ((with_reducible show Calls _ 52 _ _ _); refine (rdBytesR R _ _ 32 L5 [] BD HV5.out HD5.out _ hrd (by rw [HL5.out]; omega) (by rw [HL5.out]; omega)).mono ?_; rintro e wc ⟨⟨ab, rfl, hbd⟩, hrd, ht⟩; have hr3 := ht.blk hr3 n3; have hr4 := ht.blk hr4 n4; have hr7 := ht.blk hr7 n7; have hW := below_turned hW ht (fun k hk => by subst hk; exact wR)) | ((with_reducible show wpList _ _ _ (⟨some 28, _, _, _, _, _⟩ :: _) _ _); refine wpList_copy_bytes rfl (some 28) rfl _ _ rfl N7 6 32 32 32 ab rfl rfl BD HL6.out (by omega) hbd 82 _ (ent ⟨K, V0, V1, V2, V3, V4, BD⟩) hr7 (by rw [ent_size _ zl.out]; omega) (ent_bytes_put _ _ _ _ _ _ _ _ (by simp) HL6.out) ?_; intro wd hr7 ht; have hr3 := ht.blk hr3 n37; have hr4 := ht.blk hr4 n47; have hW := below_turned hW ht (fun k hk => by subst hk; exact w7)))
    simp only [NormQ]
    by_cases hr : M.En.right ⟨K, V0, V1, V2, V3, V4, BD⟩ = true
    · have HR := hid hr
      have HDV : Hid (D = (⟨K, V0, V1, V2, V3, V4, BD⟩, 0)) := by show _ = _; rw [HD.out, if_pos hr]
      have HBD : Hid ((M.En.body ⟨K, V0, V1, V2, V3, V4, BD⟩).length = 44) := by show _ = _; rw [HBU.out]; exact HS.out
      have HQ : Hid (∀ w, (Op.equalIn 10000 39 (.agg (sct (M.En.body ⟨K, V0, V1, V2, V3, V4, BD⟩))) (.agg (sct s))).run Try.prog w = .ok true w) := fun w => by
        rw [HBU.out, eq_sct 39 44 Try.underlying39 s s HS.out HS.out HB.out HB.out w]; simp
      clear hr
      go_wp2_with (first | ((with_reducible show wpList _ _ _ (⟨some 30, _, _, _, _, _⟩ :: _) _ _); refine wpList_load_rowg 30 rfl rfl 82 _ rfl N7 rfl _ (ent ⟨K, V0, V1, V2, V3, V4, BD⟩) (0, 0) _ hr7 Try.underlying82 rfl (ty82 _ HOKB.out).size ?_) | (go_at_call 61; refine (body_right ⟨K, V0, V1, V2, V3, V4, BD⟩ HOKB.out HR.out _).mono ?_; rintro e w5 ⟨rfl, hb⟩; have sw5 := hb.size; have hW := below_next hW hb; have hr3 := below_blk hb hr3; have hr4 := below_blk hb hr4; have hr7 := below_blk hb hr7) | ((with_reducible show wpList _ _ _ (⟨some 8, _, _, _, _, _⟩ :: _) _ _); refine wpList_local 8 rfl rfl rfl rfl 39 rfl _ rfl (sct (M.En.body ⟨K, V0, V1, V2, V3, V4, BD⟩)) rfl (of_decide_eq_true (by kernel_rfl)) (ty39 _ HBD.out) (sct_all _) ?_; intro W8 N8 hNN8 hMN8 hr8 hb; have sW8 := hb.size; have hW := below_next hW hb; have hr3 := below_blk hb hr3; have hr4 := below_blk hb hr4; have hr7 := below_blk hb hr7) | ((with_reducible show wpList _ _ _ (⟨some 37, _, _, _, _, _⟩ :: _) _ _); refine wpList_load_rowg 37 rfl rfl 39 _ rfl N8 rfl _ (sct (M.En.body ⟨K, V0, V1, V2, V3, V4, BD⟩)) (0, 0) _ hr8 Try.underlying39 rfl (ty39 _ HBD.out).size ?_) | ((with_reducible show wpList _ _ _ (⟨some 38, _, _, _, _, _⟩ :: _) _ _); refine wpList_load_rowg 38 rfl rfl 39 _ rfl N3 rfl _ (sct s) (0, 0) _ hr3 Try.underlying39 rfl (ty39 _ HS.out).size ?_) | ((with_reducible show wpList _ _ _ (⟨some 39, _, _, _, _, _⟩ :: _) _ _); refine wpList_neq 39 rfl rfl 39 _ _ _ rfl (sct (M.En.body ⟨K, V0, V1, V2, V3, V4, BD⟩)) (sct s) rfl rfl grd39 true HQ.out ?_) | ((with_reducible show wpList _ _ _ (⟨some 42, _, _, _, _, _⟩ :: _) _ _); refine wpList_load_rowg 42 rfl rfl 82 _ rfl N7 rfl _ (ent ⟨K, V0, V1, V2, V3, V4, BD⟩) (0, 0) _ hr7 Try.underlying82 rfl (ty82 _ HOKB.out).size ?_) | ((with_reducible show wpList _ _ _ (⟨none, _, _, _, _, _⟩ :: _) _ _); refine wpList_store_agg rfl rfl 82 _ _ rfl N4 (ent ⟨K, V0, V1, V2, V3, V4, BD⟩) rfl rfl 82 _ hr4 (ty82 _ HOKB.out) (by rw [ent_size _ M.zeroE_ok, ent_size _ HOKB.out]) (ent_all _) ?_; intro Z2 hrZ htZ))
      refine ret_cell 4 5 82 rfl rfl N4 rfl 82 _ (0, 0) _ hrZ Try.underlying82 rfl (ty82 _ HOKB.out).size _ rfl ⟨by rw [HDV.out]; rfl, below_turned hW htZ (fun k hk => by subst hk; exact w4N)⟩
    · have HR : Hid (M.En.right ⟨K, V0, V1, V2, V3, V4, BD⟩ = false) := by show _ = _; simpa using hr
      have HDV : Hid (D = (M.En.zero, 10)) := by show _ = _; rw [HD.out, if_neg hr]
      have HBD : Hid ((List.replicate 44 0 : List Nat).length = 44) := by show _ = _; simp
      clear hr
      go_wp2_with (first | ((with_reducible show wpList _ _ _ (⟨some 30, _, _, _, _, _⟩ :: _) _ _); refine wpList_load_rowg 30 rfl rfl 82 _ rfl N7 rfl _ (ent ⟨K, V0, V1, V2, V3, V4, BD⟩) (0, 0) _ hr7 Try.underlying82 rfl (ty82 _ HOKB.out).size ?_) | (go_at_call 61; refine (body_wrong ⟨K, V0, V1, V2, V3, V4, BD⟩ HOKB.out HR.out _).mono ?_; rintro e w5 ⟨rfl, hb⟩; have sw5 := hb.size; have hW := below_next hW hb; have hr3 := below_blk hb hr3; have hr4 := below_blk hb hr4; have hr7 := below_blk hb hr7) | ((with_reducible show wpList _ _ _ (⟨some 8, _, _, _, _, _⟩ :: _) _ _); refine wpList_local 8 rfl rfl rfl rfl 39 rfl _ rfl (sct (List.replicate 44 0)) rfl (of_decide_eq_true (by kernel_rfl)) (ty39 _ HBD.out) (sct_all _) ?_; intro W8 N8 hNN8 hMN8 hr8 hb; have sW8 := hb.size; have hW := below_next hW hb; have hr3 := below_blk hb hr3; have hr4 := below_blk hb hr4; have hr7 := below_blk hb hr7) | ((with_reducible show wpList _ _ _ (⟨some 41, _, _, _, _, _⟩ :: _) _ _); refine wpList_build_as 41 rfl rfl 82 _ rfl (ent M.En.zero) build_zero82 ?_) | ((with_reducible show wpList _ _ _ (⟨none, _, _, _, _, _⟩ :: _) _ _); refine wpList_store_agg rfl rfl 82 _ _ rfl N4 (ent M.En.zero) rfl rfl 82 _ hr4 (ty82 _ M.zeroE_ok) (rfl) (ent_all _) ?_; intro Z2 hrZ htZ))
      refine ret_cell 4 5 82 rfl rfl N4 rfl 82 _ (0, 0) _ hrZ Try.underlying82 rfl (ty82 _ M.zeroE_ok).size _ rfl ⟨by rw [HDV.out]; rfl, below_turned hW htZ (fun k hk => by subst hk; exact w4N)⟩
end Go.Proofs.Ytncooadaeifekaa
