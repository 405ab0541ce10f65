/- Walks of the pen's Num, Bytes and Out, of layer 2's anchor. -/
import Derived.Test.YtncooadaeifekaaC4
import Derived.Test.YtncooadaeifekaaK3
namespace Go.Proofs.Ytncooadaeifekaa
open Go.RowKit
/-- a pen in block N: what it wrote, and whether something went wrong -/
def PenB (w : World) (N : Nat) (v : Value) (l : List Nat) (bad : Bool) : Prop := w.heap[N]? = some (.cells #[v, .bool bad] 63 (0, 0)) ∧ OwnB w 0 v l ∧ v.ownBlock ≠ some N
def penSet (N : Nat) (v : Value) : Nat → Prop := fun k => k = N ∨ v.ownBlock = some k
/-- a step of a pen: what it holds behind it -/
def Pens (N : Nat) (v : Value) (w w' : World) (l : List Nat) (bad : Bool) : Prop :=
  ∃ v', PenB w' N v' l bad ∧ Turned (penSet N v) w w' ∧ ∀ j, v'.ownBlock = some j → v.ownBlock = some j ∨ w.heap.size ≤ j
theorem PenB.cell0 {w : World} {N : Nat} {v : Value} {l : List Nat} {bad : Bool} (h : PenB w N v l bad) : w.cell? ⟨N, 0, none⟩ = some v := by rw [cell_of_row _ _ _ _ _ _ h.1]; rfl
theorem PenB.cell1 {w : World} {N : Nat} {v : Value} {l : List Nat} {bad : Bool} (h : PenB w N v l bad) : w.cell? ⟨N, 1, none⟩ = some (.bool bad) := by rw [cell_of_row _ _ _ _ _ _ h.1]; rfl
theorem PenB.free {w : World} {N : Nat} {v : Value} {l : List Nat} {bad : Bool} (h : PenB w N v l bad) (i : Nat) : w.frozen? ⟨N, i, none⟩ = false := frozen_of_row w N i _ 63 h.1
theorem PenB.has {w : World} {N : Nat} {v : Value} {l : List Nat} {bad : Bool} (h : PenB w N v l bad) : ∃ a cap, v = .slice a l.length cap ∧ l.length ≤ cap ∧ HasB w a l := h.2.1.slice
theorem PenB.put {w : World} {N : Nat} {u v : Value} {l : List Nat} {bad : Bool} (h : w.heap[N]? = some (.cells #[u, .bool bad] 63 (0, 0))) (ho : OwnB w 0 v l) (hne : v.ownBlock ≠ some N) : PenB (w.setCell ⟨N, 0, none⟩ v) N v l bad := by
  refine ⟨?_, ?_, hne⟩
  · rw [heap_setCell_same w N 0 _ 63 _ h]; rfl
  · exact ((Turned.refl (fun k => k = N) w).setCell (p := ⟨N, 0, none⟩) (.inl rfl) v).own ho fun k hk e => hne (by rw [hk, e])
theorem PenB.spoil {w : World} {N : Nat} {v : Value} {l : List Nat} {bad : Bool} (h : PenB w N v l bad) : PenB (w.setCell ⟨N, 1, none⟩ (.bool true)) N v l true := by
  refine ⟨?_, ?_, h.2.2⟩
  · rw [heap_setCell_same w N 1 _ 63 _ h.1]; rfl
  · exact ((Turned.refl (fun k => k = N) w).setCell (p := ⟨N, 1, none⟩) (.inl rfl) _).own h.2.1 fun k hk e => h.2.2 (by rw [hk, e])
theorem PenB.turned {w w' : World} {S : Nat → Prop} {N : Nat} {v : Value} {l : List Nat} {bad : Bool} (h : PenB w N v l bad) (ht : Turned S w w') (hS : ∀ k, penSet N v k → ¬ S k) : PenB w' N v l bad :=
  ⟨ht.blk h.1 (hS N (.inl rfl)), ht.own h.2.1 fun k hk => hS k (.inr hk), h.2.2⟩
theorem PenB.grow {w w' : World} {N : Nat} {v : Value} {l : List Nat} {bad : Bool} (h : PenB w N v l bad) (hb : Below w.heap.size w w') : PenB w' N v l bad :=
  h.turned (S := fun _ => False) (Turned.ofBelow hb) fun _ _ h => h
theorem PenB.lt {w : World} {N : Nat} {v : Value} {l : List Nat} {bad : Bool} (h : PenB w N v l bad) : ∀ k, penSet N v k → k < w.heap.size := by
  rintro k (rfl | hk)
  · exact lt_of_block h.1
  · exact (h.2.1.ownLt k hk).2
theorem Pens.refl {w : World} {N : Nat} {v : Value} {l : List Nat} {bad : Bool} (h : PenB w N v l bad) : Pens N v w w l bad := ⟨v, h, Turned.refl _ _, fun _ h => .inl h⟩
theorem Pens.trans {w w1 w2 : World} {N : Nat} {v v1 : Value} {l : List Nat} {bad : Bool} (h1 : Turned (penSet N v) w w1) (h2 : ∀ j, v1.ownBlock = some j → v.ownBlock = some j ∨ w.heap.size ≤ j) (h : Pens N v1 w1 w2 l bad) : Pens N v w w2 l bad := by
  obtain ⟨v', hp, ht, hl⟩ := h
  refine ⟨v', hp, h1.trans ht ?_, fun j hj => ?_⟩
  · rintro i (rfl | hi)
    · exact .inl (.inl rfl)
    · rcases h2 i hi with h | h
      · exact .inl (.inr h)
      · exact .inr h
  · rcases hl j hj with h | h
    · exact h2 j h
    · right; have := h1.size; omega
/-- behind 'p.out = append(p.out, ..)' -/
theorem Pens.appended {w w1 w2 : World} {N : Nat} {v v' : Value} {l l' : List Nat} {bad : Bool} (h : PenB w N v l bad) (hb : Below w.heap.size w w1) (ht : Turned (fun k => v.ownBlock = some k) w1 w2)
    (ho : OwnB w2 0 v' l') (hl : ∀ j, v'.ownBlock = some j → v.ownBlock = some j ∨ w1.heap.size ≤ j) : Pens N v w (w2.setCell ⟨N, 0, none⟩ v') l' bad := by
  have hN := lt_of_block h.1
  have hl' : ∀ j, v'.ownBlock = some j → v.ownBlock = some j ∨ w.heap.size ≤ j := fun j hj => by
    rcases hl j hj with h | h
    · exact .inl h
    · right; have := hb.size; omega
  have hT : Turned (penSet N v) w w2 := (Turned.ofBelow hb).trans (ht.mono fun k _ hk => show penSet N v k from .inr hk) fun i hi => .inl hi
  refine ⟨v', PenB.put (u := v) (ht.blk (below_blk hb h.1) fun e => h.2.2 e) ho ?_, hT.setCell (p := ⟨N, 0, none⟩) (.inl (.inl rfl)) v', hl'⟩
  intro e
  rcases hl' N e with h1 | h1
  · exact h.2.2 h1
  · omega
theorem within_yes (x : Int) (h1 : 1 ≤ x) (h2 : x ≤ 7) (w : World) : Calls Try.prog 80 #[.int .i64 x] w fun e w' => e = .returned (.bool true) ∧ Below w.heap.size w w' := by
  have h := within_calls x w
  rw [decide_eq_true (And.intro h1 h2)] at h
  exact h
theorem within_no (x : Int) (h1 : ¬ (1 ≤ x ∧ x ≤ 7)) (w : World) : Calls Try.prog 80 #[.int .i64 x] w fun e w' => e = .returned (.bool false) ∧ Below w.heap.size w w' := by
  have h := within_calls x w
  rw [decide_eq_false h1] at h
  exact h
set_option maxRecDepth 100000 in
set_option maxHeartbeats 400000 in
theorem penNum_fits (N k X : Nat) (hk : M.fits k X = true) (w : World) (v : Value) (l : List Nat) (bad : Bool) (hp : PenB w N v l bad) (hl : l.length ≤ 900000) :
    Calls Try.prog 55 #[.pointer (some ⟨N, 0, none⟩), .int .i64 k, .int .i64 X] w fun e w' => e = .returned (.tuple #[]) ∧ Pens N v w w' (l ++ M.leB k X) bad := by
  obtain ⟨hk1, hk7, _, hX⟩ := (M.fits_iff _ _).1 hk
  have HXL := hid (M.fits_lt hk)
  have hwid : ∀ n, M.WidthOf (X : Int) n → decide (k < n) = false := fun n hn => by have := (M.width_lt hn k hk1 hk7).2 hk; simp; omega
  have HWID := hid hwid
  have hk7' : k ≤ 7 := by omega
  have hk1' : (1 : Int) ≤ (k : Int) ∧ (k : Int) ≤ 7 := ⟨hk1, hk7⟩
  have HK1 := hid hk1'
  have HX := hid hX
  clear hwid hX hk hk1 hk7 hk1'
  have HP := hid hp
  go_enter Try.func55, Try.ntmps55
  go_wp2_with (first | (go_at_call 80; refine (within_yes _ HK1.out.1 HK1.out.2 _).mono ?_; rintro e w1 ⟨rfl, hb1⟩) | (go_at_call 44; refine (width_calls _ (by have := HXL.out; omega) (by have := HXL.out; omega) _).mono ?_; rintro e w2 ⟨⟨n, rfl, hn⟩, hb2⟩; have tn := HWID.out n hn; clear hn))
  have hp2 := (hp.grow hb1).grow hb2
  clear tn
  go_loopw [2, 19] (fun x i wr => ∃ m Y : Nat, m ≤ k ∧ x = .int .i64 Y ∧ i = .int .i64 m ∧ Hid (Y = X / 256 ^ m) ∧ Pens N v w2 wr (l ++ M.leB m X) bad) (fun _ i _ => k - (intOf i).toNat)
  case atStart => exact ⟨0, X, Nat.zero_le _, rfl, rfl, (by show X = X / 256 ^ 0; simp), by simpa [M.leB] using Pens.refl hp2⟩
  case round =>
    obtain ⟨m, Y, hm, rfl, rfl, HY, hpr⟩ := hrel
    by_cases hlt : m < k
    · obtain ⟨v1, hp1, ht1, hl1⟩ := hpr
      obtain ⟨a1, c1, rfl, hc1, hh1⟩ := hp1.has
      have hL1 : (l ++ M.leB m X).length ≤ 900007 := by rw [List.length_append, M.leB_length]; omega
      have hL2 : Hid (((l ++ M.leB m X) ++ [Y % 256]) = l ++ M.leB (m + 1) X) := by show _ = _; rw [M.leB_succ', HY.out, List.append_assoc]
      have hY2 : Hid (Y / 256 = X / 256 ^ (m + 1)) := by show _ = _; rw [← M.div_step, HY.out]
      have hYl : Hid (Y < 72057594037927936) := by show _ < _; rw [HY.out]; exact Nat.lt_of_le_of_lt (Nat.div_le_self _ _) (by have := HXL.out; omega)
      obtain ⟨L, hL⟩ : ∃ L, L = l ++ M.leB m X := ⟨_, rfl⟩
      rw [← hL] at hp1 hh1 hL1 hL2 hc1 hl1
      clear hL
      have hcell := hp1.cell0
      have hfree := hp1.free
      have HP1 := hid hp1
      obtain ⟨cc, hcc⟩ : ∃ cc : Nat, (Y : Int) % 256 = cc := ⟨Y % 256, by omega⟩
      have hccl : cc < 256 := by omega
      obtain ⟨L3, hL3⟩ : ∃ L3, L3 = L ++ [cc] := ⟨_, rfl⟩
      have hL3l : L3.length ≤ 900008 := by rw [hL3]; simp; omega
      have HL3 := hid hL3
      clear hL3
      have hcn : Hid (cc = Y % 256) := by show _ = _; omega
      go_wp2_with (first | ((with_reducible show wpList _ _ _ (⟨some 29, _, _, _, _, _⟩ :: _) _ _); refine wpList_append_loc 29 rfl rfl _ _ rfl 0 _ L [cc] L3 HL3.out.symm (by rfl) ((HP1.out.grow ((Below.refl _ _).alloc (Nat.le_refl _) _)).2.1) _ 1 (by rfl) (hasB_one _ cc hccl) (by omega) (Nat.zero_le _) ?_; intro av cv w5 ho5 hcv5 hh5 ht5 hl5; have hfree5 := frozen_of_row _ N 0 _ 63 (ht5.blk (below_blk ((Below.refl _ _).alloc (Nat.le_refl _) _) HP1.out.1) (fun e => HP1.out.2.2 e)); have hcell5 := (cell_of_row _ N 0 _ 63 _ (ht5.blk (below_blk ((Below.refl _ _).alloc (Nat.le_refl _) _) HP1.out.1) (fun e => HP1.out.2.2 e)))))
      go_roundw
      case rel => exact ⟨m + 1, Y / 256, by omega, by go_num, by go_num, hY2, Pens.trans ht1 hl1 (by have h := Pens.appended HP1.out ((Below.refl _ _).alloc (Nat.le_refl _) _) ht5 ho5 hl5; rw [show L3 = l ++ M.leB (m + 1) X by rw [HL3.out, hcn.out]; exact hL2.out] at h ⊢; exact h)⟩
      case measure => simp [intOf]; omega
    · have e : m = k := by omega
      subst e
      go_wp2
      go_end0
      exact ⟨rfl, Pens.trans (Turned.ofBelow (below_next hb1 hb2)) (fun j hj => .inl hj) hpr⟩
theorem Pens.spoilt {w w1 : World} {N : Nat} {v : Value} {l : List Nat} {bad : Bool} (h : PenB w N v l bad) (hb : Below w.heap.size w w1) : Pens N v w (w1.setCell ⟨N, 1, none⟩ (.bool true)) l true :=
  ⟨v, (h.grow hb).spoil, (Turned.ofBelow hb).setCell (p := ⟨N, 1, none⟩) (.inl (.inl rfl)) _, fun _ h => .inl h⟩
set_option maxRecDepth 100000 in
set_option maxHeartbeats 400000 in
theorem penNum_not (N : Nat) (k x : Int) (hk : M.fits k x = false) (hx1 : -9223372036854775808 ≤ x) (hx2 : x < 9223372036854775808) (w : World) (v : Value) (l : List Nat) (bad : Bool) (hp : PenB w N v l bad) :
    Calls Try.prog 55 #[.pointer (some ⟨N, 0, none⟩), .int .i64 k, .int .i64 x] w fun e w' => e = .returned (.tuple #[]) ∧ Pens N v w w' l true := by
  have HP := hid hp
  have HX1 := hid hx1
  have HX2 := hid hx2
  clear hx1 hx2
  by_cases hw : 1 ≤ k ∧ k ≤ 7
  · have hwid : ∀ n : Nat, M.WidthOf x n → decide (k < (n : Int)) = true := fun n hn => by
      have := (M.width_lt hn k hw.1 hw.2)
      rw [hk] at this
      simp at this ⊢; omega
    have HWID := hid hwid
    have HK := hid hw
    clear hwid hw hk hp
    go_enter Try.func55, Try.ntmps55
    go_wp2_with (first | (go_at_call 80; refine (within_yes _ HK.out.1 HK.out.2 _).mono ?_; rintro e w1 ⟨rfl, hb1⟩) | (go_at_call 44; refine (width_calls _ HX1.out HX2.out _).mono ?_; rintro e w2 ⟨⟨n, rfl, hn⟩, hb2⟩; have tn := HWID.out n hn; clear hn; have hb := below_next hb1 hb2; have hf := frozen_of_row _ N 1 _ 63 (below_blk hb HP.out.1); have hc := cell_of_row _ N 1 _ 63 _ (below_blk hb HP.out.1)))
    refine bodyPost_ret (results_none rfl _ _ _) rfl ?_
    exact ⟨rfl, Pens.spoilt HP.out hb⟩
  · have HK := hid hw
    clear hw hk hp
    go_enter Try.func55, Try.ntmps55
    go_wp2_with (first | (go_at_call 80; refine (within_no _ HK.out _).mono ?_; rintro e w1 ⟨rfl, hb⟩; have hf := frozen_of_row _ N 1 _ 63 (below_blk hb HP.out.1); have hc := cell_of_row _ N 1 _ 63 _ (below_blk hb HP.out.1)))
    refine bodyPost_ret (results_none rfl _ _ _) rfl ?_
    exact ⟨rfl, Pens.spoilt HP.out hb⟩
set_option maxRecDepth 100000 in
theorem penBytes_calls (N : Nat) (a : Option Addr) (l2 : List Nat) (c : Nat) (w : World) (v : Value) (l l3 : List Nat) (h3 : l ++ l2 = l3) (bad : Bool) (hp : PenB w N v l bad) (hh : HasB w a l2) (hl : l3.length ≤ 1000000) :
    Calls Try.prog 50 #[.pointer (some ⟨N, 0, none⟩), .slice a l2.length c] w fun e w' => e = .returned (.tuple #[]) ∧ Pens N v w w' l3 bad := by
  have HP := hid hp
  have hcell := hp.cell0
  have hfree := hp.free
  clear hp
  have H3 := hid h3
  clear h3
  go_enter Try.func50, Try.ntmps50
  go_wp2_with (first | ((with_reducible show wpList _ _ _ (⟨some 10, _, _, _, _, _⟩ :: _) _ _); refine wpList_append_loc 10 rfl rfl _ _ rfl 0 _ l l2 l3 H3.out (by rfl) HP.out.2.1 a c (by rfl) hh hl (Nat.zero_le _) ?_; intro av cv w5 ho5 hcv5 hh5 ht5 hl5; have hfree5 := frozen_of_row _ N 0 _ 63 (ht5.blk HP.out.1 (fun e => HP.out.2.2 e)); have hcell5 := cell_of_row _ N 0 _ 63 _ (ht5.blk HP.out.1 (fun e => HP.out.2.2 e))))
  go_end0
  exact ⟨rfl, Pens.appended HP.out (Below.refl _ _) ht5 ho5 hl5⟩
set_option maxRecDepth 100000 in
theorem penOut_bad (N : Nat) (w : World) (v : Value) (l : List Nat) (hp : PenB w N v l true) :
    Calls Try.prog 51 #[.pointer (some ⟨N, 0, none⟩)] w fun e w' => e = .returned (.tuple #[.slice none 0 0, .int .i64 13]) ∧ Below w.heap.size w w' := by
  have hcell := hp.cell1
  go_enter Try.func51, Try.ntmps51
  go_wp2
  go_ret2
  exact ⟨rfl, Below.refl _ _⟩
set_option maxRecDepth 100000 in
theorem penOut_good (N : Nat) (w : World) (v : Value) (l : List Nat) (hp : PenB w N v l false) (hl : l.length ≤ 1000000) :
    Calls Try.prog 51 #[.pointer (some ⟨N, 0, none⟩)] w fun e w' => (∃ a cap, e = .returned (.tuple #[.slice a l.length cap, .int .i64 0]) ∧ OwnB w' w.heap.size (.slice a l.length cap) l ∧ l.length ≤ cap ∧ HasB w' a l) ∧ Below w.heap.size w w' := by
  have HP := hid hp
  have hcell := hp.cell1
  obtain ⟨a1, c1, rfl, hc1, hh1⟩ := hp.has
  go_enter Try.func51, Try.ntmps51
  go_wp2_with (first | ((with_reducible show wpList _ _ _ (⟨some 8, _, _, _, _, _⟩ :: _) _ _); refine wpList_empty 8 rfl rfl rfl ?_; intro W v8 ho8 hb8; have hcell0 := (HP.out.grow hb8).cell0) | ((with_reducible show wpList _ _ _ (⟨some 13, _, _, _, _, _⟩ :: _) _ _); refine wpList_append_at 13 rfl rfl _ _ rfl w.heap.size _ [] l l rfl (by rfl) ho8 a1 c1 (by rfl) (hh1.below hb8) hl hb8.size ?_; intro av cv w5 ho5 hcv5 hh5 hb5))
  go_ret2
  exact ⟨⟨av, cv, rfl, ho5, hcv5, hh5⟩, hb8.trans hb5⟩
end Go.Proofs.Ytncooadaeifekaa
