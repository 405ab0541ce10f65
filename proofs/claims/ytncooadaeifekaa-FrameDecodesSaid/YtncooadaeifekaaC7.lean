/- Walks of the reader: New, take, Bytes, Rest, Done. -/
import Derived.Test.YtncooadaeifekaaC6
import Derived.Test.YtncooadaeifekaaG4
namespace Go.Proofs.Ytncooadaeifekaa
open Go.RowKit
/-- a reader in block R: what is left, and whether something went wrong -/
def RdB (w : World) (R : Nat) (a : Option Addr) (l : List Nat) (cap : Nat) (bad : Bool) : Prop :=
  w.heap[R]? = some (.cells #[.slice a l.length cap, .bool bad] 111 (0, 0)) ∧ HasB w a l ∧ l.length ≤ cap ∧ ∀ p, a = some p → p.block ≠ R
theorem turn1 (w : World) (R i : Nat) (u : Value) : Turned (fun k => k = R) w (w.setCell ⟨R, i, none⟩ u) := (Turned.refl (fun k => k = R) w).setCell (p := ⟨R, i, none⟩) (.inl rfl) _
theorem turn2 (w : World) (R i j : Nat) (u v : Value) : Turned (fun k => k = R) w ((w.setCell ⟨R, i, none⟩ u).setCell ⟨R, j, none⟩ v) := (turn1 w R i u).setCell (p := ⟨R, j, none⟩) (.inl rfl) _
section
variable {w : World} {R : Nat} {a : Option Addr} {l : List Nat} {cap : Nat} {bad : Bool}
theorem RdB.cell0 (h : RdB w R a l cap bad) : w.cell? ⟨R, 0, none⟩ = some (.slice a l.length cap) := by rw [cell_of_row _ _ _ _ _ _ h.1]; rfl
theorem RdB.cell1 (h : RdB w R a l cap bad) : w.cell? ⟨R, 1, none⟩ = some (.bool bad) := by rw [cell_of_row _ _ _ _ _ _ h.1]; rfl
theorem RdB.free (h : RdB w R a l cap bad) (i : Nat) : w.frozen? ⟨R, i, none⟩ = false := frozen_of_row w R i _ 111 h.1
theorem RdB.has (h : RdB w R a l cap bad) : HasB w a l := h.2.1
theorem RdB.turned {w' : World} {S : Nat → Prop} (h : RdB w R a l cap bad) (ht : Turned S w w') (hR : ¬ S R) (ha : ∀ p, a = some p → ¬ S p.block) : RdB w' R a l cap bad :=
  ⟨ht.blk h.1 hR, ht.has h.2.1 ha, h.2.2⟩
theorem RdB.grow {w' : World} (h : RdB w R a l cap bad) (hb : Below w.heap.size w w') : RdB w' R a l cap bad :=
  h.turned (S := fun _ => False) (Turned.ofBelow hb) (fun h => h) fun _ _ h => h
theorem cutAt_block {n : Nat} {p : Addr} (h : cutAt a cap n = some p) : ∃ q, a = some q ∧ q.block = p.block := by
  unfold cutAt at h
  split at h
  · exact ⟨p, h, rfl⟩
  · cases a with
    | none => simp at h
    | some q =>
      simp only [Option.map_some, Option.some.injEq] at h
      subst h
      exact ⟨q, rfl, by unfold Addr.add; split <;> rfl⟩
theorem RdB.cut (h : RdB w R a l cap bad) (n : Nat) (_ : n ≤ l.length) : RdB (w.setCell ⟨R, 0, none⟩ (.slice (cutAt a cap n) (l.drop n).length (cap - n))) R (cutAt a cap n) (l.drop n) (cap - n) bad := by
  refine ⟨?_, ?_, by have := h.2.2.1; simp; omega, fun p hp => ?_⟩
  · rw [heap_setCell_same w R 0 _ 111 _ h.1]; rfl
  · refine ((Turned.refl (fun k => k = R) w).setCell (p := ⟨R, 0, none⟩) (.inl rfl) _).has (h.2.1.drop n cap h.2.2.1) fun p hp => ?_
    obtain ⟨q, hq, e⟩ := cutAt_block hp
    rw [← e]
    exact h.2.2.2 q hq
  · obtain ⟨q, hq, e⟩ := cutAt_block hp
    rw [← e]
    exact h.2.2.2 q hq
theorem RdB.spoil (h : w.heap[R]? = some (.cells #[.slice a l.length cap, .bool bad] 111 (0, 0))) : RdB ((w.setCell ⟨R, 0, none⟩ (.slice none 0 0)).setCell ⟨R, 1, none⟩ (.bool true)) R none [] 0 true := by
  refine ⟨?_, ⟨by simp, .inl rfl⟩, Nat.le_refl _, fun p hp => by simp at hp⟩
  rw [heap_setCell_same _ R 1 _ 111 _ (heap_setCell_same w R 0 _ 111 _ h)]; rfl
end
set_option maxRecDepth 100000 in
set_option maxHeartbeats 400000 in
theorem take_good (R : Nat) (n : Nat) (w : World) (a : Option Addr) (l : List Nat) (cap : Nat) (hr : RdB w R a l cap false) (hn : n ≤ l.length) (_ : l.length ≤ 1000000) :
    Calls Try.prog 78 #[.pointer (some ⟨R, 0, none⟩), .int .i64 n] w fun e w' => e = .returned (.slice a n n) ∧ RdB w' R (cutAt a cap n) (l.drop n) (cap - n) false ∧ Turned (fun k => k = R) w w' := by
  have HR := hid hr
  have hc0 := hr.cell0
  have hc1 := hr.cell1
  have hfree := hr.free
  have hcap := hr.2.2.1
  have t1 : decide ((n : Int) < 0) = false := by simp
  have t2 : decide (l.length < n) = false := by simp; omega
  clear hr
  go_enter Try.func78, Try.ntmps78
  go_wp2
  · subst cap
    go_ret
    have h := HR.out.cut n hn
    simp only [cutAt, if_true, List.length_drop, Nat.sub_self] at h ⊢
    exact ⟨rfl, h, turn1 _ _ _ _⟩
  · have hne : ¬ cap = n := by assumption
    go_ret
    have h := HR.out.cut n hn
    simp only [cutAt, if_neg hne, List.length_drop] at h ⊢
    exact ⟨rfl, h, turn1 _ _ _ _⟩
set_option maxRecDepth 100000 in
set_option maxHeartbeats 400000 in
theorem take_bad (R : Nat) (n : Int) (w : World) (a : Option Addr) (l : List Nat) (cap : Nat) (bad : Bool) (hr : RdB w R a l cap bad) (hn : bad = true ∨ n < 0 ∨ (l.length : Int) < n) :
    Calls Try.prog 78 #[.pointer (some ⟨R, 0, none⟩), .int .i64 n] w fun e w' => e = .returned (.slice none 0 0) ∧ RdB w' R none [] 0 true ∧ Turned (fun k => k = R) w w' := by
  have HR := hid hr
  have hc0 := hr.cell0
  have hc1 := hr.cell1
  have hfree := hr.free
  clear hr
  by_cases hb : bad = true
  · subst hb
    clear hn
    go_enter Try.func78, Try.ntmps78
    go_wp2
    go_ret
    exact ⟨rfl, RdB.spoil HR.out.1, turn2 _ _ _ _ _ _⟩
  · obtain rfl : bad = false := by cases bad; rfl; exact absurd rfl hb
    by_cases h0 : n < 0
    · have t1 : decide (n < 0) = true := by simpa using h0
      clear hn hb h0
      go_enter Try.func78, Try.ntmps78
      go_wp2
      go_ret
      exact ⟨rfl, RdB.spoil HR.out.1, turn2 _ _ _ _ _ _⟩
    · have t1 : decide (n < 0) = false := by simpa using h0
      have t2 : decide ((l.length : Int) < n) = true := by simp; rcases hn with h | h | h; simp at h; omega; exact h
      clear hn hb h0
      go_enter Try.func78, Try.ntmps78
      go_wp2
      go_ret
      exact ⟨rfl, RdB.spoil HR.out.1, turn2 _ _ _ _ _ _⟩
set_option maxRecDepth 100000 in
theorem rdBytes_good (R : Nat) (n : Nat) (w : World) (a : Option Addr) (l : List Nat) (cap : Nat) (hr : RdB w R a l cap false) (hn : n ≤ l.length) (hl : l.length ≤ 1000000) :
    Calls Try.prog 52 #[.pointer (some ⟨R, 0, none⟩), .int .i64 n] w fun e w' => e = .returned (.slice a n n) ∧ RdB w' R (cutAt a cap n) (l.drop n) (cap - n) false ∧ Turned (fun k => k = R) w w' := by
  have HR := hid hr
  have HN := hid hn
  have HL := hid hl
  clear hr hn hl
  go_enter Try.func52, Try.ntmps52
  go_wp2_with (go_at_call 78; refine (take_good R n _ a l cap HR.out HN.out HL.out).mono ?_; rintro e w1 ⟨rfl, h⟩)
  go_ret
  exact ⟨rfl, h⟩
set_option maxRecDepth 100000 in
theorem rdBytes_bad (R : Nat) (n : Int) (w : World) (a : Option Addr) (l : List Nat) (cap : Nat) (bad : Bool) (hr : RdB w R a l cap bad) (hn : bad = true ∨ n < 0 ∨ (l.length : Int) < n) :
    Calls Try.prog 52 #[.pointer (some ⟨R, 0, none⟩), .int .i64 n] w fun e w' => e = .returned (.slice none 0 0) ∧ RdB w' R none [] 0 true ∧ Turned (fun k => k = R) w w' := by
  have HR := hid hr
  have HN := hid hn
  clear hr hn
  go_enter Try.func52, Try.ntmps52
  go_wp2_with (go_at_call 78; refine (take_bad R n _ a l cap bad HR.out HN.out).mono ?_; rintro e w1 ⟨rfl, h⟩)
  go_ret
  exact ⟨rfl, h⟩
set_option maxRecDepth 100000 in
theorem rest_calls (R : Nat) (w : World) (a : Option Addr) (l : List Nat) (cap : Nat) (bad : Bool) (hr : RdB w R a l cap bad) :
    Calls Try.prog 53 #[.pointer (some ⟨R, 0, none⟩)] w fun e w' => e = .returned (.int .i64 l.length) ∧ Below w.heap.size w w' := by
  have hc0 := hr.cell0
  clear hr
  go_enter Try.func53, Try.ntmps53
  go_wp2
  go_ret
  exact ⟨rfl, Below.refl _ _⟩
set_option maxRecDepth 100000 in
theorem done_calls (R : Nat) (w : World) (a : Option Addr) (l : List Nat) (cap : Nat) (bad : Bool) (hr : RdB w R a l cap bad) :
    Calls Try.prog 58 #[.pointer (some ⟨R, 0, none⟩)] w fun e w' => e = .returned (.int .i64 (if bad = true ∨ l ≠ [] then 14 else 0)) ∧ Below w.heap.size w w' := by
  have hc0 := hr.cell0
  have hc1 := hr.cell1
  clear hr
  cases bad with
  | true =>
    rw [if_pos (.inl rfl)]
    go_enter Try.func58, Try.ntmps58
    go_wp2
    go_ret
    exact ⟨rfl, Below.refl _ _⟩
  | false =>
    cases l with
    | nil =>
      rw [if_neg (by simp)]
      go_enter Try.func58, Try.ntmps58
      go_wp2
      go_ret
      exact ⟨rfl, Below.refl _ _⟩
    | cons c l =>
      rw [if_pos (by simp)]
      obtain ⟨n, hn⟩ : ∃ n, n = (c :: l).length := ⟨_, rfl⟩
      have t1 : decide (0 < n) = true := by rw [hn]; simp
      rw [← hn] at hc0
      clear hn
      go_enter Try.func58, Try.ntmps58
      go_wp2
      go_ret
      exact ⟨rfl, Below.refl _ _⟩
set_option maxRecDepth 100000 in
theorem rnew_calls (a : Option Addr) (l : List Nat) (c : Nat) (w : World) (hl : HasB w a l) (hn : l.length ≤ 1000000) :
    Calls Try.prog 49 #[.slice a l.length c] w fun e w' => (∃ R a' cap, e = .returned (.pointer (some ⟨R, 0, none⟩)) ∧ RdB w' R a' l cap false ∧ w.heap.size ≤ R ∧ R < w'.heap.size ∧ ∀ p, a' = some p → w.heap.size ≤ p.block ∧ p.block < w'.heap.size) ∧ Below w.heap.size w w' := by
  go_enter Try.func49, Try.ntmps49
  go_wp2_with (first | ((with_reducible show wpList _ _ _ (⟨some 3, _, _, _, _, _⟩ :: _) _ _); refine wpList_empty 3 rfl rfl rfl ?_; intro W v8 ho8 hb8) | ((with_reducible show wpList _ _ _ (⟨some 5, _, _, _, _, _⟩ :: _) _ _); refine wpList_append_at 5 rfl rfl _ _ rfl w.heap.size _ [] l l rfl (by rfl) ho8 a c (by rfl) (hl.below hb8) hn hb8.size ?_; intro av cv w5 ho5 hcv5 hh5 hb5))
  go_ret
  have hb := hb8.trans hb5
  have hblk : ∀ p, av = some p → w.heap.size ≤ p.block ∧ p.block < w5.heap.size := fun p hp => ho5.ownLt p.block (by subst hp; rfl)
  refine ⟨⟨w5.heap.size, av, cv, rfl, ⟨heap_alloc_new w5 _, hh5.below ((Below.refl _ _).alloc (Nat.le_refl _) _), hcv5, fun p hp => by have := (hblk p hp).2; omega⟩, hb.size, by simp, fun p hp => ?_⟩, hb.alloc hb.size _⟩
  have := hblk p hp
  simp; omega
end Go.Proofs.Ytncooadaeifekaa
